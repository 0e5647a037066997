/-
  PARTS OF THIS CLAIM'S PROOF, laid together by a program of mine.
-/
import Derived.Test.YtciiopkbmjppfaaGreatDoorAbsM6
set_option linter.unusedVariables false
set_option linter.unusedSimpArgs false
set_option linter.unusedSectionVars false
set_option maxRecDepth 100000
namespace Go.Proofs.YtciiopkbmjppfaaGreatDoor
open Go.Proofs.Tryz
open Go.Abs Go.Abs.M
open Classical
section
variable {Hs H : aG} {F : Part → Nat → Prop} {ev wv nv : Value} {y : Lay} {c : Cfg} {p : PlanD} {m : Nat}
def Q8 (Hs:aG)(p:PlanD)(ev wv nv:Value)(c:Cfg)(H':aG)(r:Value):Prop:= ∃F y,r=pt y.nb/\NodeAt Hs H' F y p ev wv nv c 0 (NS.fH c)
theorem aCP (a b:Nat)(h:a*b<100000):IntKind.i64.wrap ((a:Int)*b)=((a*b:Nat):Int):=by
 have e:(a:Int)*b=((a*b:Nat):Int):=by push_cast;rfl
 rw[e];exact bJ U U
theorem aQy {pl:Nat}{pv:Value}(hok:c.ok)(hc:c=cP p c.me)(hop: ∃n,OkP p n)(hPV:PV Hs p ev wv nv)(hpl:Hs[pl]? =some (plB p ev wv nv))(e2:p.lanes=(c.lanes:Int))(e3:p.room=(c.room:Int))(hm:400<m)
    (h:BN Hs H F p.bag ev wv nv y c c.aJ c.aJ 0 0 pv)(hfe:FE F c c.aJ c.aJ 0 0): ∀(x4 x8 Ab x48 x49 qB zY:Value),
    ∃H2 r,N6 (lvl prog pkN m) (aL m) (pt pl) x4 (pt y.nb) x8 Ab x48 x49 qB zY H=some (r,H2)/\Q8 Hs p ev wv nv c H2 r:=by
  intros;have h6:c.aJ<=6:=by have:=hok.by';unfold Cfg.aJ;omega
  have hp1:1<=c.aJ:=by unfold Cfg.aJ;omega
  have hlanes:=hok.lanes;have hroom:=hok.room
  -- the ports' slice
  obtain⟨pb,pcap,prest,hpv,hpc,hpb⟩: ∃b cap rest,pv= .slice (some ⟨b,0,none⟩) c.aJ cap/\c.aJ<=cap/\H[b]? =some (.cells (((List.range c.aJ).map (dK y c)).flatten++rest) 145 .row):=by
    obtain⟨_,⟨_,h0⟩|⟨c',cap,rest,h1,h2,_,h3⟩⟩:=h.ports
    · rw[aTq] at h0
      omega
    · rw[aTq] at h1 h2
      exact⟨c',cap,rest,h1,h2,h3⟩
  have hpbF:=h.pvF pb (by rw[hpv];exact⟨_,_,_,rfl⟩)
  have n13:ld1 (.Q y.nb 13) H=some (pv,H):=bA h.nb rfl;have lpv:cY pv=some (.I c.aJ):=by rw[hpv];rfl
  -- the arbiter
  obtain⟨ab,ga,aa,H1,a1,a2,a3,x1,a4,a5,a6⟩:=aPb (H:=H) (m:=m) (n:=c.aJ) hp1 U U
  have hA1:Has (Blks (fB ab ga aa (List.replicate c.aJ 0) (List.replicate c.aJ 0))) (InB (fB ab ga aa (List.replicate c.aJ 0) (List.replicate c.aJ 0))) H1:=
    Has.Gy a2 (λq hq=>⟨q,hq,rfl⟩) λb ⟨q,hq,hb⟩=>by rw[<-hb];exact b9 (a2 q hq)
  have hge1: ∀b,InB (fB ab ga aa (List.replicate c.aJ 0) (List.replicate c.aJ 0)) b->H.length<=b:=λb ⟨q,hq,hb⟩=>by
    rw[<-hb];simp only[fB,aTf,aTm,or_false] at hq;rcases hq with rfl|rfl|rfl
    · exact a4
    · exact a5
    · exact a6
  have sep1:=h.sep.Gz .arb (Co _ _ _ _ _ _) (hfe .arb id) hA1 x1 hge1;obtain⟨F1,hF1⟩:=aD (updI F .arb (InB (fB ab ga aa (List.replicate c.aJ 0) (List.replicate c.aJ 0))));obtain⟨A1,hA1'⟩: ∃A1,A1=updI (jH y c c.aJ c.aJ 0 0) .arb (Blks (fB ab ga aa (List.replicate c.aJ 0) (List.replicate c.aJ 0))):=⟨_,rfl⟩;rw[<-hF1,<-hA1'] at sep1;have dx1: ∀j,DX (A1 j):=λj=>by
    rw[hA1'];unfold updI;split
    · exact Blks.dx _
    · exact Co _ _ _ _ _ _ j
  have hun1: ∀b,b<H.length-> ¬Un F b-> ¬Un F1 b:=λb hb hF hu=>by
    rw[hF1] at hu
    exact(sK hu).elim hF λhg=>by have:=hge1 b hg;omega
  have bn1:H1[y.nb]? =some (pY p.bag ev wv nv y c pv):=by rw[x1.2 _ (b9 h.nb) id,h.nb]
  -- stored
  obtain⟨H2,hH2⟩:=aD (H1.set y.nb (.cells [pt ab,.I c.nodes,ev,.I c.lanes,.I c.room,.I c.queue,.I c.rounds,.I c.every,.I p.bag,wv,.int .u16 c.start,nv,.I c.me,pv,pt y.hb,.pointer none,.I 0] 120 .fix));have st1:stN 1 (.Q y.nb 0) (pt ab) H1=some (undef,H2):=by rw[hH2];exact nA bn1 aC (by simp) rfl rfl
  have bn2:H2[y.nb]? =some (.cells [pt ab,.I c.nodes,ev,.I c.lanes,.I c.room,.I c.queue,.I c.rounds,.I c.every,.I p.bag,wv,.int .u16 c.start,nv,.I c.me,pv,pt y.hb,.pointer none,.I 0] 120 .fix):=by rw[hH2];exact dN bn1
  have fr2:Fr (λb=>b=y.nb) H1 H2:=⟨by rw[hH2];simp,λb hb hn=>by rw[hH2,aSX (λhh=>hn hh.symm)]⟩
  have nbl:=b9 h.nb;have nbF1:=hun1 _ nbl h.nbF;have mv2:Mv (λb=>b=y.nb) (λb=>b=y.nb) H1 H2:=⟨fr2.1,λ_ h=> .inl h,λb hb hn=>fr2.2 b hb hn⟩
  have sep2:=sep1.wF dx1 mv2 λb hb hh=>nbF1 (by rw[<-hh];exact hb)
  -- the rings
  have hroom2:=aCB hok;have hpos:1<=c.aJ*c.lanes*c.room:=Nat.mul_pos (Nat.mul_pos U U) U
  obtain⟨r,H3,G3,r1,r2,x3,r3⟩:=Has.aBU (A:=λ_=>True) (H:=H2) qL (n:=m) (B:=λr D'=> ∃a,r=pt a/\RingsN D' a [] (c.aJ*c.lanes*c.room) c.aJ c.lanes) (λD _ _=>by
    obtain⟨a,D',g1,g2,_,_⟩:=aOr (D:=D) (m:=m) U c.aJ c.lanes (c.aJ*c.lanes*c.room) ⟨hp1,by omega,hlanes.1,hlanes.2,hpos,by omega⟩
    exact⟨_,D',g1,a,rfl,g2⟩)
  obtain⟨rg,hrg,_⟩:=r2.at_;have r2':Has (λD=>RingsN D rg [] (c.aJ*c.lanes*c.room) c.aJ c.lanes) G3 H3:=Has.vI r2 λD ⟨a,ha,hD⟩=>by
    rw[hrg] at ha;injection ha with ha;injection ha with ha;injection ha with ha;rw[ha];exact hD
  have fr1: ∀b,¬F1 .rings b:=λb hb=>by
    rw[hF1,cL _ _ (λhh=>by cases hh)] at hb
    exact hfe .rings id b hb
  have sep3:=sep2.Gz .rings dx1 fr1 r2' x3 r3;obtain⟨F3,hF3⟩:=aD (updI F1 .rings G3);obtain⟨A3,hA3⟩:=aD (updI A1 .rings (λD=>RingsN D rg [] (c.aJ*c.lanes*c.room) c.aJ c.lanes))
  rw[<-hF3,<-hA3] at sep3;have dx3: ∀j,DX (A3 j):=λj=>by
    rw[hA3];unfold updI;split
    · exact λD D' h he=>h.ext he
    · exact dx1 j
  have hl12:=fr2.1;have hl01:=x1.1;have hun3: ∀b,b<H.length-> ¬Un F b-> ¬Un F3 b:=λb hb hF hu=>by
    rw[hF3] at hu
    exact(sK hu).elim (hun1 b hb hF) λhg=>by have:=r3 b hg;omega
  have bn3:H3[y.nb]? =some (.cells [pt ab,.I c.nodes,ev,.I c.lanes,.I c.room,.I c.queue,.I c.rounds,.I c.every,.I p.bag,wv,.int .u16 c.start,nv,.I c.me,pv,pt y.hb,.pointer none,.I 0] 120 .fix):=by rw[x3.2 _ (b9 bn2) id,bn2]
  -- stored
  obtain⟨y',hy'⟩: ∃y':Lay,y'={y with pb:=pb,pcap:=pcap,prest:=prest,ab:=ab,ga:=ga,aa:=aa,rg:=rg}:=⟨_,rfl⟩;have hnc:Blk.cells [pt ab,.int .i64 c.nodes,ev,.int .i64 c.lanes,.int .i64 c.room,.int .i64 c.queue,.int .i64 c.rounds,.int .i64 c.every,.int .i64 p.bag,wv,.int .u16 c.start,nv,.int .i64 c.me,pv,pt y.hb,pt rg,.int .i64 0] 120 .fix=vG p.bag ev wv nv y' c 0:=by
    rw[hy',hpv];rfl
  obtain⟨H4,hH4⟩:=aD (H3.set y.nb (vG p.bag ev wv nv y' c 0));have st2:stN 1 (.Q y.nb 15) (pt rg) H3=some (undef,H4):=by rw[hH4,<-hnc];exact nA bn3 aC (by simp) rfl rfl
  have fr4:Fr (λb=>b=y.nb) H3 H4:=⟨by rw[hH4];simp,λb hb hn=>by rw[hH4,aSX (λhh=>hn hh.symm)]⟩
  have mv4:Mv (λb=>b=y.nb) (λb=>b=y.nb) H3 H4:=⟨fr4.1,λ_ h=> .inl h,λb hb hn=>fr4.2 b hb hn⟩
  have nbF3:=hun3 _ nbl h.nbF;have sep4:=sep3.wF dx3 mv4 λb hb hh=>nbF3 (by rw[<-hh];exact hb)
  have keep: ∀b,b<H.length->b≠y.nb->H4[b]? =H[b]? :=λb hb hn=>by
    have hl23:=x3.1;rw[fr4.2 b U hn,x3.2 b U id,fr2.2 b U hn,x1.2 b hb id]
  have bn4:H4[y.nb]? =some (vG p.bag ev wv nv y' c 0):=by rw[hH4];exact dN bn3
  -- the node's own blocks
  have enb:y'.nb=y.nb:=by rw[hy']
  have hpbn:pb≠y.nb:=λhh=>by
    have:=h.nb;rw[<-hh,hpb] at this;injection this with this;injection this with _ _ h3;cases h3
  have hlbn: ∀i,1<=i->i<c.aJ->y.lb i≠y.nb:=λi a b hh=>by
    have:=(h.lanes i a b).1;rw[hh,h.nb] at this;injection this with this;injection this with _ _ h3;cases h3
  have hnl:Blks (jE p.bag ev wv nv y' c 0) H4/\ ∀b,InB (jE p.bag ev wv nv y' c 0) b->b<H.length/\ ¬Un F b/\Hs.length<=b:=by
    have q0: ∀q∈jE p.bag ev wv nv y' c 0,H4[q.1]? =some q.2/\q.1<H.length/\ ¬Un F q.1/\Hs.length<=q.1:=λq hq=>by
      simp only[jE,aTf,aTz,aTA] at hq;rcases hq with rfl|rfl|⟨j,hj,rfl⟩
      · simp only
        rw[enb]
        exact⟨bn4,nbl,h.nbF,h.nb0⟩
      · have e:y'.pb=pb:=by rw[hy']
        have e2:xH y' c= .cells (((List.range c.aJ).map (dK y c)).flatten++prest) 145 .row:=by rw[hy'];rfl
        simp only;rw[e,e2]
        exact⟨by rw[keep _ (b9 hpb) hpbn,hpb],b9 hpb,hpbF.2,hpbF.1⟩
      · have hjp:j+1<c.aJ:=by unfold Cfg.aJ;omega
        obtain⟨q1,q2,q3,q4⟩:=h.lanes (j+1) U hjp
        have e:y'.lb (j+1)=y.lb (j+1):=by rw[hy']
        have e2:mD y' c (j+1)=mD y c (j+1):=by rw[hy'];rfl
        simp only;rw[e,e2]
        exact⟨by rw[keep _ (b9 q1) (hlbn _ U hjp),q1],b9 q1,q3,q2⟩
    exact⟨λq hq=>(q0 q hq).1,λb ⟨q,hq,hb⟩=>by rw[<-hb];exact(q0 q hq).2⟩
  have hl4:H.length<=H4.length:=by
    have:=x3.1;have:=fr4.1;omega
  have fn3: ∀b,¬F3 .node b:=λb hb=>by
    rw[hF3,cL _ _ (λhh=>by cases hh),hF1,cL _ _ (λhh=>by cases hh)] at hb
    exact hfe .node id b hb
  have sep5:=Sep.aQx sep4 .node fn3 (B:=Blks (jE p.bag ev wv nv y' c 0)) (G:=InB (jE p.bag ev wv nv y' c 0)) (Has.Gy hnl.1 (λq hq=>⟨q,hq,rfl⟩) λb hb=>by have:=(hnl.2 b hb).1;omega) λb hb=>hun3 b (hnl.2 b hb).1 (hnl.2 b hb).2.1
  -- all of it
  have hx4:Ext Hs H4:=by
    have hsl:=h.ext.1;have hnb0:=h.nb0
    exact⟨by omega,λb hb _=>by rw[keep b U U,h.ext.2 b hb id]⟩
  have hnode:NodeAt Hs H4 (updI F3 .node (InB (jE p.bag ev wv nv y' c 0))) y' p ev wv nv c 0 (NS.fH c):=by
    refine⟨hok,hc,hop,⟨?_,?_,?_,?_⟩,hx4,λb hb=> ?_,hPV,NInv.aNv hok,sep5.wE λj D hD=> ?_⟩
    · rw[hy'];exact hpc
    · rw[hy'];exact λi h1 h2=>(h.lanes i h1 h2).2.2.2
    · rw[hy'];exact a3
    · rw[hy'];exact h.ww
    · have hsl:=h.ext.1
      rcases sK hb with hb|hb
      · rw[hF3] at hb
        rcases sK hb with hb|hb
        · rw[hF1] at hb
          rcases sK hb with hb|hb
          · exact h.new b hb
          · have:=hge1 b hb;omega
        · have:=r3 b hb;omega
      · exact(hnl.2 b hb).2.2
    · cases j with
      |node=>
        rw[eV] at hD;exact hD
      |rings=>
        rw[cL _ _ (λhh=>by cases hh),hA3,eV] at hD
        rw[hy'];exact hD
      |arb=>
        rw[cL _ _ (λhh=>by cases hh),hA3,cL _ _ (λhh=>by cases hh),hA1',eV] at hD
        rw[hy'];exact hD
      |host=>
        rw[cL _ _ (λhh=>by cases hh),hA3,cL _ _ (λhh=>by cases hh),hA1',cL _ _ (λhh=>by cases hh)] at hD
        rw[hy'];exact hD
      |whl i=>
        rw[cL _ _ (λhh=>by cases hh),hA3,cL _ _ (λhh=>by cases hh),hA1',cL _ _ (λhh=>by cases hh)] at hD
        rw[hy'];exact hD
      |snd i k=>
        rw[cL _ _ (λhh=>by cases hh),hA3,cL _ _ (λhh=>by cases hh),hA1',cL _ _ (λhh=>by cases hh)] at hD
        rw[hy'];simp only[jH,iQ] at hD⊢;by_cases hd:1<=i/\i<c.aJ/\k<c.lanes
        · rw[if_pos (.inl hd)] at hD
          rw[if_pos hd];exact hD
        · rw[if_neg (by unfold DnB;omega)] at hD
          rw[if_neg hd];exact hD
      |rcv i k=>
        rw[cL _ _ (λhh=>by cases hh),hA3,cL _ _ (λhh=>by cases hh),hA1',cL _ _ (λhh=>by cases hh)] at hD
        rw[hy'];simp only[jH,iQ] at hD⊢;by_cases hd:1<=i/\i<c.aJ/\k<c.lanes
        · rw[if_pos (.inl hd)] at hD
          rw[if_pos hd];exact hD
        · rw[if_neg (by unfold DnB;omega)] at hD
          rw[if_neg hd];exact hD
  -- the walk
  have hp: ∀G:aG,Ext Hs G->G[pl]? =some (plB p ev wv nv):=λG hG=>by rw[hG.2 _ (b9 hpl) id,hpl]
  have hx2:Ext Hs H2:=by
    have hsl:=h.ext.1;have hnb0:=h.nb0
    exact⟨by omega,λb hb _=>by rw[fr2.2 b U U,x1.2 b U id,h.ext.2 b hb id]⟩
  have l2:ld1 (.Q pl 2) H2=some (.I c.lanes,H2):=by rw[cO (hp H2 hx2) 2 (.I p.lanes) rfl,e2]
  have l3:ld1 (.Q pl 3) H2=some (.I c.room,H2):=by rw[cO (hp H2 hx2) 3 (.I p.room) rfl,e3]
  have n13':ld1 (.Q y.nb 13) H2=some (pv,H2):=bA bn2 rfl;have hpl18:c.aJ*c.lanes<=18:=Nat.mul_le_mul h6 hlanes.2;have m1:=aCP c.aJ c.lanes U
  have m2:=aCP (c.aJ*c.lanes) c.room U
  rw[hrg] at r1;refine⟨H4,pt y.nb,?_,updI F3 .node (InB (jE p.bag ev wv nv y' c 0)),y',by rw[enb],hnode⟩
  unfold N6;simp only[gsR,n13,lpv,a1,st1,n13',l2,Va,m1,l3,m2,r1,st2]
end
theorem aQz (a b d e f g h i:Int)(ev wv nv:Value)(me:Int)(q:Nat):bld prog 120 [(1,.agg ⟨[.I a,ev,.I b,.I d,.I e,.I f,.I g,.I h,wv,.int .u16 i,nv]⟩),(2,.I me),(4,pt q)]=
  some (.agg ⟨[.pointer none]++[.I a,ev,.I b,.I d,.I e,.I f,.I g,.I h,wv,.int .u16 i,nv]++[.I me,.N,pt q,.pointer none,.I 0]⟩):=by kernel_rfl
section
variable {Hs H : aG} {F : Part → Nat → Prop} {ev wv nv : Value} {y : Lay} {c : Cfg} {p : PlanD} {m : Nat}
theorem aQB {pl:Nat}{bv:Value}(hok:c.ok)(hc:c=cP p c.me)(hop: ∃n,OkP p n)(hPV:PV Hs p ev wv nv)(hpl:Hs[pl]? =some (plB p ev wv nv))(e2:p.lanes=(c.lanes:Int))(e3:p.room=(c.room:Int))(e9:p.start=(c.start:Int))(hwo:wOk p.weights=true)
  {Hb:aG}(hbv:Iw Hb bv (bes p.edges c.me))(hbl:(bes p.edges c.me).length=c.by'.length)(hbg: ∀i,i<c.by'.length->(bes p.edges c.me)[i]? =some ((c.by'.getD i 0:Nat):Int))(hm:500<m)(hm2:m<=72057594037927936){nb:Nat}:
  ∀(q i l:Nat)(H:aG)(F:Part->Nat->Prop)(y:Lay)(pv:Value),c.by'.length-i=q->i<=c.by'.length->q<l->y.nb=nb->BN Hs H F p.bag ev wv nv y c (i+1) (i+1) 0 0 pv->FE F c (i+1) (i+1) 0 0->Krow Hb H-> ∀(x4 x8 qB zY:Value),
  ∃H2 r,aL l (aO prog (lvl prog pkN m) (aL m) N4) (N8 (lvl prog pkN m) (aL m)) (aF 2 (some (pt pl)::aF 1 (x4::some (pt nb)::aF 2 (x8::aF 38 (bv::some (.I c.by'.length)::some (.I (i:Nat))::aF 9 (qB::zY::aF 63 [])))))) H=some (r,H2)/\Q8 Hs p ev wv nv c H2 r:=by
 intro q;induction q with
 |zero=>
  intro i l H F y pv hq hi hl hnb h hfe hkr;intros;obtain⟨l,rfl⟩: ∃l',l=l'+1:=⟨l-1,by omega⟩
  have hie:i+1=c.aJ:=by unfold Cfg.aJ;omega
  have c1:decide ((i:Int)<(c.by'.length:Int))=false:=by rw[decide_eq_false_iff_not];omega
  rw[aL,aAq];simp only[gsR,c1];rw[aMf];rw[hie] at h hfe;rw[<-hnb];exact aQy hok hc hop hPV hpl e2 e3 U h hfe ..
 |succ q ih=>
  intro i l H F y pv hq hi hl hnb h hfe hkr;intros;obtain⟨l,rfl⟩: ∃l',l=l'+1:=⟨l-1,by omega⟩
  have h5:=hok.by';have hil:i<c.by'.length:=U
  have c1:decide ((i:Int)<(c.by'.length:Int))=true:=by rw[decide_eq_true_eq];omega
  have hpH: ∀G:aG,Ext Hs G->G[pl]? =some (plB p ev wv nv):=λG hG=>by rw[hG.2 _ (b9 hpl) id,hpl]
  obtain⟨b,o,a1,_,a3⟩:=(hkr.iw hbv).rs.dS eM (hbg i hil) .i64;have a3:ld1 (.Q b o) H=some (.I (c.by'.getD i 0:Nat),H):=(a3 H rfl).2.1 0 _ rfl;have l8:ld1 (.Q pl 8) H=some (wv,H):=cO (hpH H h.ext) 8 wv rfl;have hcw:c.weights=p.weights:=by have:=congrArg Cfg.weights hc;rw[this];rfl
  have hwl:=hok.wlen;rw[hcw] at hwl;have hlanes:=hok.lanes;obtain⟨H1,wh,ww,wl,wc,lc,wr,lr,w1,x1,w2,w3,w4,w5,w6⟩:=aCL (m:=m) (hPV.w.ext h.ext) hwo U hm2
  rw[<-hcw] at w2;have g1:=h.whl (λj hj b hb=>hfe (.whl j) (by show¬j<i+1;omega) b hb) w2 x1 w3 w4 w5 w6
  have fe1:=hfe.Ht (i:= .whl (i+1)) (G:=InB (iP wh ww wl wc lc wr lr c.weights ⟨c.weights,0⟩)) (n':=i+1) (nw':=i+1+1) (cs':=0) (cr':=0) (show i+1<i+1+1 by omega) (λj hj=>by
   cases j<;>simp only[pZ] at hj⊢ <;>(try exact hj);omega)
  obtain⟨y1,hy1⟩: ∃y1:Lay,y1={y with wh:=up1 y.wh (i+1) wh,ww:=up1 y.ww (i+1) ww,wl:=up1 y.wl (i+1) wl,wc:=up1 y.wc (i+1) wc,lc:=up1 y.lc (i+1) lc,wr:=up1 y.wr (i+1) wr,lr:=up1 y.lr (i+1) lr}:=⟨_,rfl⟩;obtain⟨F1,hF1⟩:=aD (updI F (.whl (i+1)) (InB (iP wh ww wl wc lc wr lr c.weights ⟨c.weights,0⟩)));rw[<-hF1] at g1 fe1;have g1:BN Hs H1 F1 p.bag ev wv nv y1 c (i+1) (i+1+1) 0 0 pv:=by rw[hy1];exact g1
  have hwh:y1.wh (i+1)=wh:=by rw[hy1];exact lS _ _ _
  have eb:bld prog 145 [(0,.int .i64 (c.by'.getD i 0:Nat)),(2,pt wh)]=some (.agg #[.int .i64 (c.by'.getD i 0:Nat),.slice none 0 0,pt wh]):=rfl;obtain⟨H2,hH2⟩:=aD (H1++[Blk.cells [.int .i64 (c.by'.getD i 0:Nat),.slice none 0 0,pt wh] 145 .fix]);have x2:Ext H1 H2:=by rw[hH2];exact Fr.app _ _ _
  have st:stN 3 (.pointer (some ⟨H1.length,0,none⟩)) (.agg #[.int .i64 (c.by'.getD i 0:Nat),.slice none 0 0,pt wh]) (H1++[Blk.cells [Value.int .i64 0,.slice none 0 0,.pointer none] 145 .fix])=some (undef,H2):=by
   rw[sD (n:=3) (vs:=[.I (c.by'.getD i 0:Nat),.N,pt wh]) (cD H1 _) aC rfl rfl (aS1 3) rfl,gQ,hH2]
   rfl
  have g2:=g1.aCM x2;have hx2:XN Hs H2 F1 y1 (i+1) 0 H1.length (c.by'.getD i 0) (.N):=by
   have hs1:=g1.ext.1;refine⟨by rw[hwh,hH2];exact cD _ _,λhu=>by have:=g1.sep.nU _ hu;omega,hs1,Rw.fE,λb ⟨_,_,_,hh⟩=>(by cases hh)⟩
  have l2:ld1 (.Q pl 2) H2=some (.I c.lanes,H2):=by rw[cO (hpH H2 g2.ext) 2 (.I p.lanes) rfl,e2]
  rw[aL,aAq];simp only[gsR,c1,a1,a3,l8,w1,eb,st,l2];refine aQv (nb:=nb) (Hb:=Hb) (p:=p) (pl:=pl) (i:=i) (w:=c.by'.getD i 0) (xb:=H1.length) hok hpl U e3 e9 U ?_ c.lanes 0 m H2 F1 y1 (.N) U U U (by rw[hy1];exact hnb) g2 fe1 hx2 (hkr.ext (x1.tr x2)) ..
  intro H3 F3 y3 lv hnb3 g3 fe3 hx3 hkr3;intros;obtain⟨y',pv',H4,H5,H6,q1,q2,q3,q4,q5,q6,q7⟩:=g3.aQw fe3 hx3 U U hlanes.1 (by unfold gJ;rw[if_neg U];rfl)
  have n13:ld1 (.Q nb 13) H3=some (pv,H3):=by rw[<-hnb3];exact bA g3.nb rfl
  have lx:ldN 3 (.Q H1.length 0) H3=some (.agg #[.I (c.by'.getD i 0:Nat),lv,pt (y3.wh (i+1))],H3):=m9 hx3.blk (aS1 3);have e1:=mB i U
  rw[hnb3] at q4;unfold N7;simp only[gsR,n13,lx,q2,q3,q4,aT,e1];exact ih (i+1) l H6 F3 y' pv' U U U (by rw[q1,hnb3]) q5 q6 (λb cs hb=>q7 b cs (hkr3 b cs hb)) ..
theorem aQA (hp:PV H p ev wv nv)(hck:jA p=0)(hst:0<=p.start/\p.start<65536)(hm:17592186045500<m)(hm2:m<=72057594037927936)(me:Nat)(hme:(me:Int)<p.nodes):
    ∃H' F y,lvl prog pkN m (.func 47) [plV p ev wv nv,.I me] H=some (pt y.nb,H')/\NodeAt H H' F y p ev wv nv (cP p me) 0 (NS.fH (cP p me)):=by
  have hcheck:eC p=true:=by
    unfold jA at hck
    split at hck
    · assumption
    · omega
  obtain⟨hok,k1,k2,k3,k4,k5,k6,k7,hbg,hwo⟩:=aQs hcheck hme hst;obtain⟨c,hc⟩:=aD (cP p me);rw[<-hc] at hok k1 k2 k3 k4 k5 k6 k7 hbg⊢;have hcme:c.me=me:=by rw[hc];rfl
  have hc':c=cP p c.me:=by rw[hcme];exact hc
  have hlanes:=hok.lanes;have hqueue:=hok.queue;have hbl:(bes p.edges me).length=c.by'.length:=by rw[hc];show _=((bes p.edges me).map Int.toNat).length;simp
  have hop:=qN hcheck;have hel:p.edges.length<=15:=by
    obtain⟨n,hn⟩:=hop;exact hn.e15
  -- the plan in a block
  obtain⟨H1,hH1⟩:=aD (H++[plB p ev wv nv]);have x1:Ext H H1:=by rw[hH1];exact Fr.app _ _ _
  have b1:H1[H.length]? =some (plB p ev wv nv):=by rw[hH1];exact cV _ _
  have p1:=hp.ext x1;have l11:=fL b1;obtain⟨H2,g1,x2⟩:=aAa p1 (m:=m-1) U U
  rw[hck] at g1;have eQ:=x1.tr x2;have b2:H2[H.length]? =some (plB p ev wv nv):=by rw[x2.2 _ (b9 b1) id,b1]
  have l0:ld1 (.Q H.length 0) H2=some (.I c.nodes,H2):=by rw[cO b2 0 (.I p.nodes) rfl,k1]
  have l2:ld1 (.Q H.length 2) H2=some (.I c.lanes,H2):=by rw[cO b2 2 (.I p.lanes) rfl,k2]
  have l4:ld1 (.Q H.length 4) H2=some (.I c.queue,H2):=by rw[cO b2 4 (.I p.queue) rfl,k4]
  have l11':=fL b2;have hmn:=hok.me;rw[hcme] at hmn;have c1:decide ((me:Int)<0)=false:=by rw[decide_eq_false_iff_not];omega
  have c2:decide ((c.nodes:Int)<=(me:Int))=false:=by rw[decide_eq_false_iff_not];omega
  -- the host
  obtain⟨r,H3,G3,r1,r2,x3,r3⟩:=Has.aBU (A:=λ_=>True) (H:=H2) qL (n:=m-1) (B:=λr D'=> ∃a,r=pt a/\HostAt D' a [] [] c.lanes c.queue) (λD _ _=>by
    obtain⟨a,D',q1,q2,_,_⟩:=aNn (D:=D) (m:=m-1) U c.lanes c.queue hlanes hqueue
    exact⟨_,D',q1,a,rfl,q2⟩)
  obtain⟨hb,hrb,_⟩:=r2.at_;have r2':Has (λD=>HostAt D hb [] [] c.lanes c.queue) G3 H3:=Has.vI r2 λD ⟨a,ha,hD⟩=>by
    rw[hrb] at ha;injection ha with ha;injection ha with ha;injection ha with ha;rw[ha];exact hD
  rw[hrb] at r1;have b3:H3[H.length]? =some (plB p ev wv nv):=by rw[x3.2 _ (b9 b2) id,b2]
  have l11c:=fL b3
  -- the node's block
  have eplc:plC p ev wv nv=[.I c.nodes,ev,.I c.lanes,.I c.room,.I c.queue,.I c.rounds,.I c.every,.I p.bag,wv,.int .u16 c.start,nv]:=by
    unfold plC;rw[k1,k2,k3,k4,k5,k6,k7]
  have ebn:bld prog 120 [(1,plV p ev wv nv),(2,.I me),(4,pt hb)]=some (.agg ⟨[.pointer none]++plC p ev wv nv++[.I me,.N,pt hb,.pointer none,.I 0]⟩):=by
    exact aQz ..
  obtain⟨y0,hy0⟩: ∃y0:Lay,y0=⟨H3.length,0,0,[],λ_=>0,λ_=>0,λ_=>[],λ_=>0,λ_=>0,λ_=>0,λ_=>0,λ_=>0,λ_=>[],λ_=>[],λ_ _=>0,λ_ _=>0,0,0,0,hb,0⟩:=⟨_,rfl⟩
  have y0n:y0.nb=H3.length:=by rw[hy0]
  have y0h:y0.hb=hb:=by rw[hy0]
  obtain⟨H4,hH4⟩:=aD (H3++[pY p.bag ev wv nv y0 c (.slice none 0 0)]);have e4:H3++[Blk.cells (Value.cells (.agg ⟨[.pointer none]++plC p ev wv nv++[.int .i64 me,.slice none 0 0,pt hb,.pointer none,.int .i64 0]⟩)).toList 120 .fix]=H4:=by
    rw[hH4,eplc];unfold pY;rw[hcme,y0h];rfl
  have x4:Ext H3 H4:=by rw[hH4];exact Fr.app _ _ _
  have bn4:H4[y0.nb]? =some (pY p.bag ev wv nv y0 c (.N)):=by rw[y0n,hH4];exact cD _ _
  obtain⟨F0,hF0⟩: ∃F0:Part->Nat->Prop,F0=updI (λ_ _=>False) .host G3:=⟨_,rfl⟩
  have sep0:Sep (jH y0 c 0 0 0 0) F0 H4:=by
    have s0:Sep (λ_:Part=>Blks []) (λ_ _=>False) H2:=⟨λi=>⟨λq hq=>(by cases hq),λb hb=>hb.elim⟩,λi j b hb=>hb.elim⟩
    have s1:=s0.Gz .host (λ_=>Blks.dx _) (λb hb=>hb) r2' x3 r3
    rw[<-hF0] at s1;have s2:=s1.ext (λj=>by
      unfold updI;split
      · exact λD D' h he=>h.ext he
      · exact Blks.dx _) x4
    refine s2.wE λj D hD=> ?_
    cases j with
    |host=>
      rw[eV] at hD;show HostAt D y0.hb [] [] c.lanes c.queue
      rw[y0h];exact hD
    |whl i=>
      rw[cL _ _ (λhh=>by cases hh)] at hD
      simp only[jH];rw[if_neg U]
      exact hD
    |snd i k=>
      rw[cL _ _ (λhh=>by cases hh)] at hD
      simp only[jH];rw[if_neg (by unfold DnB;omega)]
      exact hD
    |rcv i k=>
      rw[cL _ _ (λhh=>by cases hh)] at hD
      simp only[jH];rw[if_neg (by unfold DnB;omega)]
      exact hD
    |_=>
      rw[cL _ _ (λhh=>by cases hh)] at hD
      exact hD
  have unF0: ∀b,Un F0 b->G3 b:=λb hb=>by
    rw[hF0] at hb;rcases sK hb with⟨_,hb⟩|hb
    · exact hb.elim
    · exact hb
  have hg3l: ∀b,G3 b->b<H3.length:=λb hb=>r2'.lt b hb
  have bnN:BN H2 H4 F0 p.bag ev wv nv y0 c 0 0 0 0 (.N):=
    ⟨x3.tr x4,sep0,λb hb=>r3 b (unF0 b hb),bn4,λhu=>by have:=hg3l _ (unF0 _ hu);omega,by rw[y0n];exact x3.1,Rw.fE,λb ⟨_,_,_,hh⟩=>(by cases hh),λi a b=>by omega,λi j a b=>by omega,λi hi=>by omega⟩
  have fe0:FE F0 c 0 0 0 0:=λj hj b hb=>by
    rw[hF0] at hb;cases j with
    |host=>exact hj trivial
    |_=>
      rw[cL _ _ (λhh=>by cases hh)] at hb
      exact hb
  -- the first wheel
  have hpH: ∀G:aG,Ext H2 G->G[H.length]? =some (plB p ev wv nv):=λG hG=>by rw[hG.2 _ (b9 b2) id,b2]
  have n13:ld1 (.Q H3.length 13) H4=some (.N,H4):=by rw[<-y0n];exact bA bn4 rfl
  have l8:ld1 (.Q H.length 8) H4=some (wv,H4):=cO (hpH H4 bnN.ext) 8 wv rfl;have hcw:c.weights=p.weights:=by rw[hc];rfl
  have hwl:=hok.wlen;rw[hcw] at hwl;obtain⟨H5,wh,ww,wl,wc,lc,wr,lr,w1,x5,w2,w3,w4,w5,w6⟩:=aCL (m:=m-1) (hp.w.ext (eQ.tr bnN.ext)) hwo U U
  rw[<-hcw] at w2;have g5:=bnN.whl (λj hj b hb=>fe0 (.whl j) (by show¬j<0;omega) b hb) w2 x5 w3 w4 w5 w6
  have fe5:=fe0.Ht (i:= .whl 0) (G:=InB (iP wh ww wl wc lc wr lr c.weights ⟨c.weights,0⟩)) (n':=0) (nw':=1) (cs':=0) (cr':=0) (show 0<1 by omega) (λj hj=>by
    cases j<;>simp only[pZ] at hj⊢ <;>(try exact hj);omega)
  obtain⟨y1,hy1⟩: ∃y1:Lay,y1={y0 with wh:=up1 y0.wh 0 wh,ww:=up1 y0.ww 0 ww,wl:=up1 y0.wl 0 wl,wc:=up1 y0.wc 0 wc,lc:=up1 y0.lc 0 lc,wr:=up1 y0.wr 0 wr,lr:=up1 y0.lr 0 lr}:=⟨_,rfl⟩;obtain⟨F1,hF1⟩:=aD (updI F0 (.whl 0) (InB (iP wh ww wl wc lc wr lr c.weights ⟨c.weights,0⟩)));rw[<-hF1] at g5 fe5;have g5:BN H2 H5 F1 p.bag ev wv nv y1 c 0 1 0 0 (.N):=by rw[hy1];exact g5
  have y1n:y1.nb=H3.length:=by rw[hy1];exact y0n
  have n13':ld1 (.Q H3.length 13) H5=some (.N,H5):=by rw[<-y1n];exact bA g5.nb rfl
  have hpc0:dK y1 c 0=[.I me,.N,pt wh]:=by
    unfold dK gJ j9;rw[if_pos rfl,if_pos rfl,hcme,hy1];simp only;rw[lS]
  have eb:bld prog 145 [(0,.int .i64 me),(2,pt wh)]=some (.agg #[.int .i64 me,.slice none 0 0,pt wh]):=rfl;obtain⟨H6,hH6⟩:=aD (H5++[Blk.cells [.int .i64 me,.slice none 0 0,pt wh] 145 .row]);have es:bV 145 3 1 [.int .i64 0,.slice none 0 0,.pointer none] [(0,.agg #[.int .i64 me,.slice none 0 0,pt wh])] H5=some (.slice (some ⟨H5.length,0,none⟩) 1 1,H6):=by rw[hH6];rfl
  have hw1:Rr (dK y1 c) 145 H6 (.slice (some ⟨H5.length,0,none⟩) 1 1) [0]:=by
    have:=wB (el:=dK y1 c) (e:=145) 0 H5;rw[hpc0] at this;rw[hH6];exact this
  have hrw0:Rw (dK y1 c) 145 3 H6 (.N) []:=Rw.fE;obtain⟨pv,H7,k1',k2',k3',k4',k5'⟩:=hrw0.wC (Ck y1 c) (aCN y1 c) aC (by':=40) hw1.rs aC
  have hnh: ∀b,¬aS (.N) b:=λb ⟨_,_,_,hh⟩=>by cases hh
  have h6l:H6.length=H5.length+1:=by rw[hH6];simp
  have nbl:=b9 g5.nb;have bn7:H7[y1.nb]? =some (pY p.bag ev wv nv y1 c (.N)):=by rw[k4' _ U (hnh _),hH6,aSZ nbl,g5.nb]
  have sh:=zQ k2';obtain⟨H8,hH8⟩:=aD (H7.set y1.nb (pY p.bag ev wv nv y1 c pv));have st:stN 1 (.Q H3.length 13) pv H7=some (undef,H8):=by rw[<-y1n,hH8];exact nA bn7 aC (by simp) sh.1 sh.2
  have hfr:Fr (λb=>b=y1.nb) H5 H8:=⟨by rw[hH8];simp;omega,λb hb hn=>by
    rw[hH8,aSX (λhh=>hn hh.symm),k4' b U (hnh _),hH6,aSZ hb]⟩
  obtain⟨x8,s8⟩:=g5.Q6 (pv':=pv) (n':=0) hfr λb hb=>by rw[hb];exact⟨g5.nbF,g5.nb0⟩
  have hpvn: ¬aS pv y1.nb:=λhh=>by
    rcases k5' _ hh with hh|hh
    · exact hnh _ hh
    · omega
  have hsl:=g5.ext.1;have g8:BN H2 H8 F1 p.bag ev wv nv y1 c 1 1 0 0 pv:=by
    refine⟨x8,s8.wE λj D hD=> ?_,g5.new,by rw[hH8];exact dN bn7,g5.nbF,g5.nb0,?_,λb hb=> ?_,λi a b=>by omega,λi j a b=>by omega,g5.ww⟩
    · cases j with
      |snd i k=>
        simp only[jH] at hD⊢;rw[if_neg (by unfold DnB;omega)] at hD⊢
        exact hD
      |rcv i k=>
        simp only[jH] at hD⊢;rw[if_neg (by unfold DnB;omega)] at hD⊢
        exact hD
      |_=>exact hD
    · refine(show Rw (dK y1 c) 145 3 H7 pv (List.range 1) from k2').cZ λb hb=> ?_
      rw[hH8];exact aSX λhh=>hpvn (by rw[hh];exact hb)
    · rcases k5' b hb with hb|hb
      · exact absurd hb (hnh b)
      · exact⟨by omega,λhu=>by have:=g5.sep.nU b hu;omega⟩
  have fe8:FE F1 c 1 1 0 0:=λj hj=>fe5 j λhd=>hj (by
    cases j<;>simp only[pZ] at hd⊢ <;>(try exact hd)<;>(unfold DnB at hd ⊢; omega))
  -- who is beside
  have b8:=hpH H8 g8.ext;have l11d:=fL b8;obtain⟨H9,bv,q1,x9,q3,q4⟩:=Bd (hp.ext (eQ.tr g8.ext)) (m:=m-1) U U (me:Int)
  have g9:=g8.aCM x9;have lbv:=q3.nR;rw[hbl] at lbv;have main: ∃H' r,lvl prog pkN m (.func 47) [plV p ev wv nv,.I me] H=some (r,H')/\Q8 H2 p ev wv nv c H' r:=by
    refine dP (aQ rfl) U ?_
    rw[aMh];have e1:H++[Blk.cells (Value.cells (plV p ev wv nv)).toList 40 .fix]=H1:=by rw[hH1];rfl
    have c3:((0:Int)!=0)=false:=rfl;have pchk:=λG=>(hp.chk G)
    have nchk: ∀G:aG,chk (some (Value.N,G)) (.N)=true:=λ_=>by simp[chk,veq]
    simp only[gsR,e1,l11,g1,c3,c1,l0,c2,l11',l2,l4,r1,l11c,pchk,ebn,e4,n13,l8,w1,n13',nchk,eb,es,k1',st,l11d,q1,lbv];have y1n':y1.nb=H3.length:=y1n;exact aQB (pl:=H.length) (Hs:=H2) (Hb:=H9) hok hc' hop (hp.ext eQ) b2 k2 k3 k7 hwo (by rw[hcme];exact q3) (by rw[hcme];exact hbl) (λi hi=>by rw[hcme];exact hbg i (by rw[hbl];exact hi)) U U c.by'.length 0 (m-1) H9 F1 y1 pv U U (by have:=hok.by';omega) y1n' g9 fe8 (λb cs hb=>hb) ..
  obtain⟨H',r,z1,F,y,rfl,z2⟩:=main;refine⟨H',F,y,z1,{z2 with ext:=eQ.tr z2.ext,old:=λb hb=>aTc eQ.1 (z2.old b hb),plan:=hp}⟩
end
end Go.Proofs.YtciiopkbmjppfaaGreatDoor
namespace Go.Proofs.YtciiopkbmjppfaaGreatDoor
open Go.Proofs.Tryz
open Go.Abs Go.Abs.M
section
variable {H : aG} {m : Nat}
theorem Ra (c:List Nat):eZ (ofT c)=true/\1<=(ofT c).length:=by
 unfold ofT;split
 ·exact⟨by decide+kernel,by simp⟩
 ·rename_i h
  have hl:(ofL c (min c.length 5)).length=min c.length 5:=by simp[ofL]
  refine⟨?_,by rw[hl];omega⟩
  unfold eZ;rw[hl,aS4,aTB];refine⟨λi hi=> ?_,aTG U⟩
  have hi':=aTA.mp hi;have e:(ofL c (min c.length 5)).getD i 0=((c.getD i 0%(i+1):Nat):Int):=by
   unfold ofL;rw[aS0,aS9,aTE hi'];rfl
  have hm:c.getD i 0%(i+1)<i+1:=Nat.mod_lt _ U
  rw[e,aS4]
  exact⟨aTG U,aTG U⟩
def qW (c:List Nat)(room more start:Nat):PlanD:=oT (mkP 0 room more start []) (ofT c)
theorem aQC (c:List Nat)(room more start:Nat):jA (qW c room more start)=0:=by
 obtain⟨hr,ht1⟩:=Ra c
 exact(aAh (Md 0 room more start []) (Nk hr ht1)).1
theorem Q9 {D H D' H':aG}(hs:Sub D H)(hf:Fs D H D' H')(he:Ext D D'):Ext H H':=by
 refine⟨by have:=hf.sub.1;have:=hs.1;have:=he.1;omega,λb hb _=> ?_⟩
 have hbD:b<D.length:=by rw[hs.1];exact hb
 by_cases hd:D[b]? =some .dead
 ·exact hf.keep b hd
 ·have hx:D[b]? =some D[b]:=aSY hbD
  have hn:D[b]≠ .dead:=λh=>hd (by rw[hx,h])
  rw[hs.2 b _ hx hn,hf.sub.2 b _ ((he.2 b hbD id).trans hx) hn]
theorem Hu {α:Type}{el:α->List Value}{e:TypeId}{D H:aG}{v:Value}{xs:List α}(h:Rs el e D v xs)(hk: ∀(b:Nat)(x:Blk),D[b]? =some x->x≠ .dead->H[b]? =some x):Rs el e H v xs:=by
 rcases h with h|⟨b,o,cap,h1,h2,h3⟩
 ·exact .inl h
 ·refine .inr ⟨b,o,cap,h1,h2,λhne=> ?_⟩
  obtain⟨e',k,pre,post,q1,q2,q3⟩:=h3 hne
  exact⟨e',k,pre,post,q1,q2,hk b _ q3 (λh=>by cases h)⟩
theorem aCR {D H:aG}{p:PlanD}{ev wv nv:Value}(h:PV D p ev wv nv)(hk: ∀(b:Nat)(x:Blk),D[b]? =some x->x≠ .dead->H[b]? =some x):PV H p ev wv nv:=by
 obtain⟨h1,h2,⟨us,h3,h4,h5⟩,h6,h7,h8⟩:=h
 exact⟨Hu h1 hk,Hu h2 hk,⟨us,Hu h3 hk,h4,λi u xs hu hx=>Hu (h5 i u xs hu hx) hk⟩,h6,h7,h8⟩
theorem aCQ {cv:Value}{c:List Nat}(hc:Us H cv c)(hu8: ∀x∈c,x<256)(hl:c.length<=72057594037927936)(room more start:Nat)(h2:room<256)(h3:more<256)(h4:start<65536)(hm:700<m)(hm2:m<=72057594037927936):
  ∃H' ev wv nv,lvl prog aW m (.func 21) [cv,.int .u8 room,.int .u8 more,.int .u16 start] H=some (plV (qW c room more start) ev wv nv,H')/\Ext H H'/\PV H' (qW c room more start) ev wv nv:=by
 obtain⟨Ha,hHa⟩:=aD (H++[plZ]);obtain⟨Da,hDa⟩:=aD (H++[Blk.dead]);have xa:Ext H Ha:=by rw[hHa];exact Fr.app _ _ _
 have xd:Ext H Da:=by rw[hDa];exact Fr.app _ _ _
 have ba:Ha[H.length]? =some plZ:=by rw[hHa];exact cV _ _
 have bd:Da[H.length]? =some .dead:=by rw[hDa];exact cV _ _
 have sa:Sub Da Ha:=by
  rw[hHa,hDa];refine⟨by simp,λb x hb hx=> ?_⟩
  by_cases hlt:b<H.length
  ·rw[aSZ hlt] at hb⊢
   exact hb
  ·have h9:=b9 hb
   simp at h9;have:b=H.length:=U
   subst this;rw[cV] at hb;cases hb;exact absurd rfl hx
 obtain⟨D2,u,d2,hmd⟩:=aJI (H:=Da) (m:=m-1) 0 room more start U h2 h3 h4 (aJY Da) (by simp) (by simp) U
 obtain⟨H2,g2,f2⟩:=Au _ qL _ _ _ Da Ha sa _ _ d2;obtain⟨ev,wv,nv,rfl,y2,hp⟩:=hmd.pv;have x2:=Q9 sa f2 y2;have hok:=Md 0 room more start [];have hwl:(mkP 0 room more start []).weights.length<=1000:=by simp[mkP];omega
 obtain⟨p,hpp⟩:=aD (mkP 0 room more start []);have hq0:qW c room more start=oT p (ofT c):=by rw[hpp];rfl
 rw[hq0];rw[<-hpp] at hp g2 hok hwl;have z0:((0:Nat):Int)=0:=rfl;simp only[z0] at g2;obtain⟨D1,tv,d1,y1,qt,_⟩:=aLa (hc.ext (xd.tr y2)) hu8 hl (m:=m-1) U
 obtain⟨H1,g1,f1⟩:=Au _ qL _ _ _ D2 H2 f2.sub _ _ d1;have x1:=Q9 f2.sub f1 y1;obtain⟨hr,ht1⟩:=Ra c;obtain⟨D3,_,d3,ev3,wv3,nv3,rfl,y3,hp3⟩:=aLp (hp.ext y1) hwl qt.rs hr ht1 (m:=m-1) U U
 obtain⟨H3,g3,f3⟩:=Au _ qL _ _ _ D1 H1 f1.sub _ _ d3;have x3:=Q9 f1.sub f3 y3;have bD:D3[H.length]? =some .dead:=cR bd ((y2.tr y1).tr y3);obtain⟨q,hq⟩:=aD (oT p (ofT c));rw[<-hq] at hp3 g3⊢;have hp3H:PV H3 q ev3 wv3 nv3:=aCR hp3 f3.sub.2;have cp:=Fg hp3H H3;obtain⟨H4,hH4⟩:=aD (H3++[plB q ev3 wv3 nv3]);rw[<-hH4] at cp;have x4:Ext H3 H4:=by rw[hH4];exact Fr.app _ _ _
 have b4:H4[H3.length]? =some (plB q ev3 wv3 nv3):=by rw[hH4];exact cV _ _
 have l4:=fL b4;have xx:=((x2.tr x1).tr x3).tr x4;have bz:H4[H.length]? =some plZ:=cR ba xx;have e1:(plV q ev3 wv3 nv3).cells.toList=plC q ev3 wv3 nv3:=rfl;have st:stN 11 (.Q H.length 0) (plV q ev3 wv3 nv3) H4=some (undef,H4.set H.length (plB q ev3 wv3 nv3)):=by
  rw[iI 11 _ _ _ rfl,bz,e1];unfold plZ;rw[kV _ _ _ _ _ _ aC (by simp[plC]) hp3H.Bi]
  simp[cT,plC,plB]
 have hlt:H.length<H4.length:=b9 bz;have x5:Ext H (H4.set H.length (plB q ev3 wv3 nv3)):=jY (xa.tr xx) (aS1 _);have l5:ldN 11 (.Q H.length 0) (H4.set H.length (plB q ev3 wv3 nv3))=some (plV q ev3 wv3 nv3,H4.set H.length (plB q ev3 wv3 nv3)):=fL (by rw[aS2 U])
 refine⟨H4.set H.length (plB q ev3 wv3 nv3),ev3,wv3,nv3,aV (aQ rfl) U ?_,x5,?_⟩
 ·rw[aJ5]
  simp only[gsR,uV,<-hHa,g2,g1,g3,cp,l4,st,l5]
  done
 ·refine aCR hp3 λb x hb hx=> ?_
  have hne:b≠H.length:=λh=>by rw[h,bD] at hb;cases hb;exact hx rfl
  rw[aSX (Ne.symm hne),x4.2 b (b9 (f3.sub.2 b x hb hx)) id];exact f3.sub.2 b x hb hx
end
end Go.Proofs.YtciiopkbmjppfaaGreatDoor
namespace Go.Proofs.YtciiopkbmjppfaaGreatDoor
open Go.Proofs.Tryz
open Go.Abs Go.Abs.M
open Classical
theorem tO (t:TypeId)(a:Addr)(h:hP prog t (.pointer none)=true):bin prog .eql t (.pointer (some a)) (.pointer none)=some (.bool false)/\bin prog .eql t (.pointer none) (.pointer none)=some (.bool true):=by
 have h2:hP prog t (.pointer (some a))=true:=by
  rw[<-h];unfold hP;cases prog.underlying t with
  |none=>rfl
  |some d=>cases d<;>rfl
 constructor<;>simp[bin,cK,jI,h,h2,eqV]
section
variable {H00 H0 H H' : aG} {F : Part → Nat → Prop} {y : Lay} {p : PlanD} {ev wv nv : Value} {c : Cfg} {t : Nat} {s : NS} {N N' : Nat → Prop}
theorem NodeAt.aQD (h:NodeAt H0 H F y p ev wv nv c t s)(he:Ext H00 H0)(hp:PV H00 p ev wv nv):NodeAt H00 H F y p ev wv nv c t s:=
 {h with ext:=he.tr h.ext,old:=λb hb=>aTc he.1 (h.old b hb),plan:=hp}
theorem NodeAt.aCS (h:NodeAt H0 H F y p ev wv nv c t s)(he:Ext H0 H')(hm:Mv N N' H H')(hd: ∀b,Un F b-> ¬N b):NodeAt H0 H' F y p ev wv nv c t s/\ ∀b,Un F b-> ¬N' b:=
 ⟨{h with ext:=he,sep:=h.sep.wF (tK _ _ _ _ _ _ _) hm hd},λb hb hn=>(hm.own b hn).elim (hd b hb) λhl=>by have:=h.sep.nU b hb;omega⟩
end
def ptC (a:Option Addr):List Value:=[.pointer a]
theorem Hv (a:Option Addr):(ptC a).length=1:=rfl
theorem aQF (a:Option Addr):cA (ptC a)=true:=rfl
theorem aQE (t:TypeId)(a:Option Addr)(H:aG):bV t 1 1 [.pointer none] [(0,.pointer a)] H=some (.slice (some ⟨H.length,0,none⟩) 1 1,H++[.cells (ptC a) t .row]):=rfl
theorem nE {α:Type}{el:α->List Value}{e:TypeId}{sz:Nat}{H H':aG}{v:Value}{xs:List α}(h:Rw el e sz H v xs)(he:Ext H H'):Rw el e sz H' v xs:=h.cZ λb hb=>he.2 b (h.dZ hb) id
theorem aQG {α β:Type}{el:α->List Value}{el':β->List Value}{e e':TypeId}{sz sz':Nat}{H H':aG}{u v:Value}{xs:List α}{ys:List β}(h:Rw el e sz H v xs)(hu:Rw el' e' sz' H u ys)(hne:e≠e')(hf:Fr (aS u) H H'):Rw el e sz H' v xs:=h.cZ λb hb=>hf.2 b (h.dZ hb) λhh=>by
 obtain⟨c1,h1⟩:=h.blk hb;obtain⟨c2,h2⟩:=hu.blk hh;rw[h1] at h2;cases h2;exact hne rfl
end Go.Proofs.YtciiopkbmjppfaaGreatDoor
namespace Go.Proofs.YtciiopkbmjppfaaGreatDoor
open Go.Proofs.Tryz
open Go.Abs Go.Abs.M
def kx:Pkt:=⟨0,1,0,7⟩
end Go.Proofs.YtciiopkbmjppfaaGreatDoor
noncomputable section
namespace Go.Proofs.YtciiopkbmjppfaaGreatDoor
open Go.Proofs.Tryz
open Go.Abs Go.Abs.M
variable (O:aH)(L:LV)(k:KV)(N P Q R S T U V W X Y Z a b c d e f g i j l m n o p q r s t u v w x y z A B C D E F G H I J zz zy zx zw zv zu zt zs zr zq zp zo zn zm zl zk zj zi zh zg zf ze zd zc zb za yz:Value)(rr:List Value)(h:aG)
theorem aQH:aR prog O L 13 [N]=aY 11 N λaa=>bC O 38 [aa] λab=>aM (aK [ab]):=by kernel_rfl
theorem aQI:aR prog O L 14 [N,P]=bB prog .lss 3 P (.I 0) λaa=>bG aa false (aU P) λab=>bG aa false (aU N) λac=>nQ aa false 11 ac λad=>bG aa false (aP (cY ad)) λae=>bG aa false (aP (bin prog .geq 3 ab ae)) λaf=>bP aa (.bool true) af λag=>aN ag (aM (aK [(.pointer none)])) (aY 13 N λah=>aY 11 N λai=>bI 2 ai P λaj=>bM (ldN 2 aj) λak=>bM (jK (.str [true,true]) (.pointer none) false ah ak) λal=>aM (aK [al])):=by kernel_rfl
def Rc:CC:=cc prog 246290617204782 22 [1,1,1,1,0,1,0,0]
def Rf:KV:=(bY 2 (cJ prog O L (cc prog 246290617204782 22 [1,1,1,1,1]) (cS prog Tryz.f22)))
theorem aQK:Rf O L (.exit 2) (aF 1 (b::c::d::aF 1 (f::aF 16 (y::z::aF 21 (zo::zn::zm::aF 13 [])))))=aM (aK [f,(.int .u16 0)]):=by kernel_rfl
theorem aCU:aO prog O L Rc k (aF 1 (b::c::d::aF 1 (f::aF 16 (y::z::aF 21 (zo::zn::zm::aF 13 [])))))=bB prog .lss 3 zm zn λaa=>aN aa (bI 2 zo zm λab=>bM (ldN 2 ab) λac=>bM (aX 83 [(.I 0),(.I 0)] .fix) λad=>bM (stN 2 ad ac) λae=>bQF 13 f λaf=>bL af λag=>bM (ldN 2 ad) λah=>bFL 7 b λai=>bC O 48 [ai] λaj=>gH λh42=>ifK (chk ((ldN 2 ad) h42) ah&&(chk ((ld1 af) h42) ag&&(true))) (bM (kS (.str [true,true]) ag ah aj) λak=>bB prog .add 3 zm (.I 1) λal=>k .normal (aF 1 (b::c::d::aF 1 (f::aF 16 (y::z::aF 21 (zo::zn::al::aF 13 []))))))) (k (.exit 2) (aF 1 (b::c::d::aF 1 (f::aF 16 (y::z::aF 21 (zo::zn::zm::aF 13 [])))))):=by kernel_rfl
def Rb:CC:=cc prog 246290617204782 22 [1,1,1,0,1,0,0]
def Re:KV:=(bY 0 (cJ prog O L (cc prog 246290617204782 22 [1,1,1,1]) (cS prog Tryz.f22)))
theorem aQJ:Re O L (.exit 0) (aF 1 (b::c::d::aF 1 (f::aF 16 (y::z::aF 21 (zo::zn::zm::aF 13 [])))))=aY 11 f λaa=>bN aa λab=>L (aO prog O L Rc) (Rf O L) (aF 1 (b::c::d::aF 1 (f::aF 16 (y::z::aF 21 (aa::ab::some (.I 0)::aF 13 []))))):=by kernel_rfl
theorem aCT:aO prog O L Rb k (aF 1 (b::c::d::aF 1 (f::aF 16 (y::z::aF 21 (zo::zn::zm::aF 13 [])))))=bB prog .lss 3 z y λaa=>aN aa (bQF 12 f λab=>bL ab λac=>bQF 0 f λad=>bM (ldN 11 ad) λae=>bC O 47 [ae,z] λaf=>gH λh20=>ifK (chk ((ld1 ab) h20) ac&&(true)) (bM (bV 72 1 1 [(.pointer none)] [(0,af)]) λag=>bM (app 72 1 8 ac ag) λah=>bQF 12 f λai=>bT ai ah λaj=>bB prog .add 3 z (.I 1) λak=>k .normal (aF 1 (b::c::d::aF 1 (f::aF 16 (y::ak::aF 21 (zo::zn::zm::aF 13 []))))))) (k (.exit 0) (aF 1 (b::c::d::aF 1 (f::aF 16 (y::z::aF 21 (zo::zn::zm::aF 13 [])))))):=by kernel_rfl
theorem aQL:aR prog O L 22 [N]=bM (aX 40 (Value.cells N).toList .fix) λaa=>bM (ldN 11 aa) λab=>bC O 44 [ab] λac=>bB prog .neq 59 ac (.int .u16 0) λad=>aN ad (aM (aK [(.pointer none),ac])) (bM (ldN 11 aa) λae=>gH λh4=>bC O 45 [ae] λaf=>bM (ldN 11 aa) λag=>ifK (chk ((ldN 11 aa) h4) ag&&(true)) (bC O 46 [ag] λah=>bM lU λai=>bO (bld prog 87 [(0,af),(1,ah),(3,ai)]) λaj=>bM (aX 87 (Value.cells aj).toList .fix) λak=>bFL 0 aa λal=>L (aO prog O L Rb) (Re O L) (aF 1 (aa::some (.pointer none)::some (.int .u16 0)::aF 1 (ak::aF 16 (al::some (.I 0)::aF 21 (some aE::some aE::some aE::aF 13 []))))))):=by kernel_rfl
theorem aCV:aR prog O L 23 [N,P]=bM (aX 31 (Value.cells P).toList .fix) λaa=>bFL 0 aa λab=>bC O 31 [N,ab] λac=>bB prog .neq 72 ac (.pointer none) λad=>aN ad (bM (ldN 4 aa) λae=>bC O 49 [ac,ae] λaf=>aM (aK [af])) (aM (aK [(.int .u16 1)])):=by kernel_rfl
theorem aQU:aR prog O L 37 [N]=bM (aX 40 [(.I 0),(.N),(.I 0),(.I 0),(.I 0),(.I 0),(.I 0),(.I 0),(.N),(.int .u16 0),(.N)] .fix) λaa=>bQF 0 N λab=>bM (ldN 11 ab) λac=>bC O 45 [ac] λad=>bM (stN 11 aa ad) λae=>bR (ldN 11 aa) λw6=>aM (aK [w6]):=by kernel_rfl
def Ri:CC:=cc prog 394757 24 [1,1,0,0,1,1,0,0,1,1,0,0]
def Rl:KV:=(bY 2 (bY 1 (cJ prog O L (cc prog 394757 24 [1,1,0,0,1,1,1]) (jL 394757 k))))
def Rj (O:aH)(L:LV) (k:KV) (a c l m t u:Value):MV:=bB prog .add 3 m (.I 1) λaa=>k .normal (a::aF 1 (c::aF 6 (l::aa::aF 6 (t::u::aF 6 []))))
theorem aQN:Rl O L k (.exit 2) (a::aF 1 (c::aF 6 (l::m::aF 6 (t::u::aF 6 []))))=Rj O L k a c l m t u:=by kernel_rfl
theorem aCX:aO prog O L Ri k (a::aF 1 (c::aF 6 (l::m::aF 6 (t::u::aF 6 []))))=bB prog .lss 3 u t λaa=>aN aa (bC O 35 [a,c,(.I 0)] λab=>bB prog .add 3 u (.I 1) λac=>k .normal (a::aF 1 (c::aF 6 (l::m::aF 6 (t::ac::aF 6 []))))) (k (.exit 2) (a::aF 1 (c::aF 6 (l::m::aF 6 (t::u::aF 6 []))))):=by kernel_rfl
def Rh:CC:=cc prog 394757 24 [1,1,0,0]
def Rk (O:aH)(L:LV):KV:=(bY 0 (cS prog Tryz.f24))
theorem aQM:Rk O L (.exit 0) (a::aF 1 (c::aF 6 (l::m::aF 6 (t::u::aF 6 []))))=aM (aK []):=by kernel_rfl
theorem aCW:aO prog O L Rh k (a::aF 1 (c::aF 6 (l::m::aF 6 (t::u::aF 6 []))))=bB prog .lss 3 m l λaa=>aN aa (bC O 14 [a,m] λab=>bC O 15 [ab] λac=>bN ac λad=>L (aO prog O L Ri) (Rl O L k) (a::aF 1 (m::aF 6 (l::m::aF 6 (ad::some (.I 0)::aF 6 []))))) (k (.exit 0) (a::aF 1 (c::aF 6 (l::m::aF 6 (t::u::aF 6 []))))):=by kernel_rfl
theorem aQO:aR prog O L 24 [N]=bC O 27 [N] λaa=>aY 11 N λab=>bN ab λac=>L (aO prog O L Rh) (Rk O L) (N::aF 1 (some aE::aF 6 (ac::some (.I 0)::aF 6 (some aE::some aE::aF 6 [])))):=by kernel_rfl
theorem aCY:aR prog O L 25 [N,P]=bC O 31 [N,P] λaa=>bB prog .neq 72 aa (.pointer none) λab=>aN ab (bC O 32 [aa] λac=>bC O 50 [ac] λad=>aM (aK [ad])) (aM (aK [(.N)])):=by kernel_rfl
theorem aC2:aR prog O L 35 [N,P,Q]=bC O 14 [N,P] λaa=>bB prog .eql 51 aa (.pointer none) λab=>aN ab (aM (aK [(.int .u16 1)])) (bC O 28 [aa,Q] λac=>bX 0 ac λad=>bX 1 ac λae=>bO (un prog .not ae) λaf=>aN af (aM (aK [(.int .u16 1)])) (aY 12 N λag=>aY 11 N λah=>bI 2 ah P λai=>bFL 1 ai λaj=>bIL 1 ag aj λak=>aY 11 N λal=>bI 2 al P λam=>bFL 0 am λan=>bC O 66 [ak,an,ad] λao=>aM (aK [ao]))):=by kernel_rfl
theorem aQT:aR prog O L 31 [N,P]=aY 12 N λaa=>bC O 65 [aa,P] λab=>aM (aK [ab]):=by kernel_rfl
def Ro:CC:=cc prog 15513425543237 27 [1,1,0,1,0,0,1,1,0,0,1,1,0,0]
def Rx:KV:=(bY 4 (bY 3 (cJ prog O L (cc prog 15513425543237 27 [1,1,0,1,0,0,1,1,1]) (jL 15513425543237 k))))
def Rt (O:aH)(L:LV) (k:KV) (a c g v w x zz zy zx zs zr zq:Value):MV:=bB prog .add 3 zx (.I 1) λaa=>k .normal (a::aF 1 (c::aF 3 (g::aF 12 (v::w::x::aF 12 (zz::zy::aa::aF 4 (zs::zr::zq::aF 24 []))))))
theorem aQR:Rx O L k (.exit 4) (a::aF 1 (c::aF 3 (g::aF 12 (v::w::x::aF 12 (zz::zy::zx::aF 4 (zs::zr::zq::aF 24 []))))))=Rt O L k a c g v w x zz zy zx zs zr zq:=by kernel_rfl
theorem aC1:aO prog O L Ro k (a::aF 1 (c::aF 3 (g::aF 12 (v::w::x::aF 12 (zz::zy::zx::aF 4 (zs::zr::zq::aF 24 []))))))=bB prog .lss 3 zq zr λaa=>aN aa (bI 2 zs zq λab=>bM (ldN 2 ab) λac=>bM (aX 104 [(.I 0),(.N)] .fix) λad=>bM (stN 2 ad ac) λae=>aY 13 a λaf=>bFL 0 ad λag=>bO (bld prog 83 [(0,g),(1,ag)]) λah=>bM (jK (.str [true,true]) (.pointer none) false af ah) λai=>bFL 1 ad λaj=>bC O 52 [ai,aj] λak=>bB prog .add 3 zq (.I 1) λal=>k .normal (a::aF 1 (c::aF 3 (g::aF 12 (v::w::x::aF 12 (zz::zy::zx::aF 4 (zs::zr::al::aF 24 []))))))) (k (.exit 4) (a::aF 1 (c::aF 3 (g::aF 12 (v::w::x::aF 12 (zz::zy::zx::aF 4 (zs::zr::zq::aF 24 []))))))):=by kernel_rfl
def Rn:CC:=cc prog 15513425543237 27 [1,1,0,1,0,0]
def Rv:KV:=(bY 2 (cJ prog O L (cc prog 15513425543237 27 [1,1,1]) (cS prog Tryz.f27)))
theorem aQQ:Rv O L (.exit 2) (a::aF 1 (c::aF 3 (g::aF 12 (v::w::x::aF 12 (zz::zy::zx::aF 4 (zs::zr::zq::aF 24 []))))))=aY 14 a λaa=>bB prog .add 3 aa (.I 1) λab=>bQF 14 a λac=>bT ac ab λad=>aM (aK []):=by kernel_rfl
theorem aC0:aO prog O L Rn k (a::aF 1 (c::aF 3 (g::aF 12 (v::w::x::aF 12 (zz::zy::zx::aF 4 (zs::zr::zq::aF 24 []))))))=bB prog .lss 3 zx zy λaa=>aN aa (bIL 1 zz zx λab=>bN ab λac=>L (aO prog O L Ro) (Rx O L k) (a::aF 1 (c::aF 3 (zx::aF 12 (v::w::x::aF 12 (zz::zy::zx::aF 4 (ab::ac::some (.I 0)::aF 24 []))))))) (k (.exit 2) (a::aF 1 (c::aF 3 (g::aF 12 (v::w::x::aF 12 (zz::zy::zx::aF 4 (zs::zr::zq::aF 24 []))))))):=by kernel_rfl
def Rm:CC:=cc prog 15513425543237 27 [1,0,1,0,0]
def Ru:KV:=(bY 0 (cJ prog O L (cc prog 15513425543237 27 [1,1]) (cS prog Tryz.f27)))
theorem aQP:Ru O L (.exit 0) (a::aF 1 (c::aF 3 (g::aF 12 (v::w::x::aF 12 (zz::zy::zx::aF 4 (zs::zr::zq::aF 24 []))))))=bN c λaa=>L (aO prog O L Rn) (Rv O L) (a::aF 1 (c::aF 3 (g::aF 12 (v::w::x::aF 12 (c::aa::some (.I 0)::aF 4 (zs::zr::zq::aF 24 [])))))):=by kernel_rfl
theorem aCZ:aO prog O L Rm k (a::aF 1 (c::aF 3 (g::aF 12 (v::w::x::aF 12 (zz::zy::zx::aF 4 (zs::zr::zq::aF 24 []))))))=bB prog .lss 3 x w λaa=>aN aa (bIL 1 v x λab=>bM (kQ O (.func (.func 51) #[ab] #[]) []) λac=>bI 1 c x λad=>bT ad ac λae=>bB prog .add 3 x (.I 1) λaf=>k .normal (a::aF 1 (c::aF 3 (g::aF 12 (v::w::af::aF 12 (zz::zy::zx::aF 4 (zs::zr::zq::aF 24 []))))))) (k (.exit 0) (a::aF 1 (c::aF 3 (g::aF 12 (v::w::x::aF 12 (zz::zy::zx::aF 4 (zs::zr::zq::aF 24 []))))))):=by kernel_rfl
theorem aQS:aR prog O L 27 [N]=aY 12 N λaa=>bN aa λab=>bM (gZ 102 1 24 [(.N)] ab ab) λac=>aY 12 N λad=>bN ad λae=>L (aO prog O L Rm) (Ru O L) (N::aF 1 (ac::aF 3 (some aE::aF 12 (ad::ae::some (.I 0)::aF 12 (some aE::some aE::some aE::aF 4 (some aE::some aE::some aE::aF 24 [])))))):=by kernel_rfl
theorem aC3:aR prog O L 38 [N]=bB prog .eql 48 N (.N) λaa=>aN aa (aM (aK [(.N)])) (bM (bV 83 2 0 [(.I 0),(.I 0)] []) λab=>bM (app 83 2 16 ab N) λac=>aM (aK [ac])):=by kernel_rfl
def Ry:CC:=cc prog 1835014 45 [1,1,0,1,0,0]
def Rz:KV:=(bY 0 (cJ prog O L (cc prog 1835014 45 [1,1,1]) (cS prog Tryz.f45)))
theorem aQV:Rz O L (.exit 0) (aF 1 (b::c::aF 15 (u::v::w::aF 12 [])))=bM (ldN 11 b) λaa=>bM (stN 11 c aa) λab=>bR (ldN 11 c) λw31=>aM (aK [w31]):=by kernel_rfl
theorem aC4:aO prog O L Ry k (aF 1 (b::c::aF 15 (u::v::w::aF 12 [])))=bB prog .lss 3 w v λaa=>aN aa (bIL 1 u w λab=>bF 10 b λac=>bL ac λad=>bC O 78 [ab] λae=>gH λh25=>ifK (chk ((ld1 ac) h25) ad&&(true)) (bI 1 ad w λaf=>bT af ae λag=>bB prog .add 3 w (.I 1) λah=>k .normal (aF 1 (b::c::aF 15 (u::v::ah::aF 12 []))))) (k (.exit 0) (aF 1 (b::c::aF 15 (u::v::w::aF 12 [])))):=by kernel_rfl
theorem aQW:aR prog O L 45 [N]=bM (aX 40 (Value.cells N).toList .fix) λaa=>bM (aX 40 [(.I 0),(.N),(.I 0),(.I 0),(.I 0),(.I 0),(.I 0),(.I 0),(.N),(.int .u16 0),(.N)] .fix) λab=>bFL 1 aa λac=>gH λh3=>bC O 77 [ac] λad=>bF 8 aa λae=>bL ae λaf=>gH λh6=>ifK (chk ((ld1 ae) h3) af&&(true)) (bC O 78 [af] λag=>bF 10 aa λah=>bL ah λai=>ifK (chk ((ld1 ah) h6) ai&&(chk ((ld1 ah) h3) ai&&(true))) (bC O 79 [ai] λaj=>bF 1 aa λak=>bT ak ad λal=>bF 8 aa λam=>bT am ag λan=>bF 10 aa λao=>bT ao aj λap=>bFL 10 aa λaq=>bN aq λar=>L (aO prog O L Ry) (Rz O L) (aF 1 (aa::ab::aF 15 (aq::ar::some (.I 0)::aF 12 []))))):=by kernel_rfl
theorem aQX:aR prog O L 65 [N,P]=bB prog .lss 3 P (.I 0) λaa=>bG aa false (aU P) λab=>bG aa false (aU N) λac=>bG aa false (aP (cY ac)) λad=>bG aa false (aP (bin prog .geq 3 ab ad)) λae=>bP aa (.bool true) ae λaf=>aN af (aM (aK [(.pointer none)])) (bIL 1 N P λag=>aM (aK [ag])):=by kernel_rfl
theorem aC5:aR prog O L 77 [N]=bB prog .eql 36 N (.N) λaa=>aN aa (aM (aK [(.N)])) (bM (bV 128 2 0 [(.I 0),(.I 0)] []) λab=>bM (app 128 2 16 ab N) λac=>aM (aK [ac])):=by kernel_rfl
theorem aC6:aR prog O L 79 [N]=bB prog .eql 38 N (.N) λaa=>aN aa (aM (aK [(.N)])) (bM (bV 37 1 0 [(.N)] []) λab=>bM (app 37 1 24 ab N) λac=>aM (aK [ac])):=by kernel_rfl
end Go.Proofs.YtciiopkbmjppfaaGreatDoor
end
namespace Go.Abs
open M
theorem aDa {n:Nat}(h:n<65536):dD (dT n)=n:=((aAR h).mp rfl).symm
theorem aQ0 {f:Frm}(h:dA f=true)(hk:f.kind≠1):f.src=0/\f.dst=0/\f.body=0:=by
 unfold dA at h;rw[if_neg hk] at h;simp only[aS4,decide_eq_true_eq] at h
 exact⟨h.2.1.1.2,h.2.1.2,h.2.2⟩
theorem xM {n:Nat}(h:n<256):(by8 n).toNat=n:=by rw[sH];omega
theorem aQY {f:Frm}(h:f.ok)(hk:f.kind≠1)(hs:dA f=true):fG (kJ f)=f:=by
 obtain⟨s1,s2,s3⟩:=aQ0 hs hk;have hb:iV f=[by8 f.kind,by8 f.lane,by8 (f.seq/256),by8 f.seq]:=by unfold iV;rw[if_neg hk];rfl
 have he:kJ f=[by8 f.kind,by8 f.lane,by8 (f.seq/256),by8 f.seq]++dT (crc (iV f)):=by unfold kJ;rw[hb]
 have h1:=xM h.kind;have h2:=xM h.lane;have h3:dD [by8 (f.seq/256),by8 f.seq]=f.seq:=aDa h.seq;rw[he];cases f;simp only at*;simp only[fG,List.cons_append,List.getD_cons_zero,List.getD_cons_succ,h1,h2,h3,s1,s2,s3]
theorem aQZ {f:Frm}(h:f.ok)(hk:f.kind=1):kK (kJ f)=f:=by
 have hb:iV f=[by8 f.kind,by8 f.lane,by8 (f.seq/256),by8 f.seq,by8 f.src,by8 f.dst,by8 (f.body/65536/256),by8 (f.body/65536),by8 (f.body/256),by8 f.body]:=by unfold iV;rw[if_pos hk];rfl
 have he:kJ f=[by8 f.kind,by8 f.lane,by8 (f.seq/256),by8 f.seq,by8 f.src,by8 f.dst,by8 (f.body/65536/256),by8 (f.body/65536),by8 (f.body/256),by8 f.body]++dT (crc (iV f)):=by unfold kJ;rw[hb]
 have h1:=xM h.kind;have h2:=xM h.lane;have h4:=xM h.src;have h5:=xM h.dst;have h3:dD [by8 (f.seq/256),by8 f.seq]=f.seq:=aDa h.seq;have h6:dD [by8 (f.body/65536/256),by8 (f.body/65536),by8 (f.body/256),by8 f.body]=f.body:=by
  have:=h.body;rw[aAQ,sH,sH,sH,sH];omega
 rw[he];cases f;simp only at*;simp only[kK,fG,List.cons_append,List.getD_cons_zero,List.getD_cons_succ,h1,h2,h3,h4,h5,h6]
theorem aC9 {f:Frm}(h:f.ok):((kJ f).getD 0 0).toNat=f.kind:=by
 unfold kJ iV wO;simp only[List.cons_append,List.getD_cons_zero];exact xM h.kind
theorem aC7 {f:Frm}(h:f.ok)(hs:dA f=true):jZ (kJ f)=some f:=by
 rw[aMS];unfold Pf;have hl:=Pg f;by_cases hk:f.kind=1
 ·rw[if_pos hk] at hl
  rw[if_neg U]
  simp only[if_pos (show((kJ f).getD 0 0).toNat=1/\12<=(kJ f).length from⟨by rw[aC9 h];exact hk,by omega⟩)]
  rw[aQZ h hk,if_pos (by unfold lY;rw[if_pos hs])]
 ·rw[if_neg hk] at hl
  rw[if_neg U]
  simp only[if_neg (show¬(((kJ f).getD 0 0).toNat=1/\12<=(kJ f).length) from λhh=>hk (by rw[<-aC9 h];exact hh.1))]
  rw[aQY h hk hs,if_pos (by unfold lY;rw[if_pos hs])]
theorem aC8 {f:Frm}(hs:dA f=true):k9 f=kJ f:=by unfold k9 lY;rw[if_pos hs];rfl
end Go.Abs
namespace Go.Proofs.YtciiopkbmjppfaaGreatDoor
open Go.Proofs.Tryz
open Go.Abs Go.Abs.M
open Classical
theorem aDb (t:TypeId)(a:Addr)(h:hP prog t (.pointer none)=true):bin prog .neq t (.pointer (some a)) (.pointer none)=some (.bool true):=by
 have h2:hP prog t (.pointer (some a))=true:=by
  rw[<-h];unfold hP;cases prog.underlying t with
  |none=>rfl
  |some d=>cases d<;>rfl
 simp[bin,cK,jI,h,h2,eqV]
section
variable {m : Nat} {H0 H : aG} {F : Part → Nat → Prop} {y : Lay} {p : PlanD} {ev wv nv : Value} {c : Cfg}
end
section
variable {H : aG} {m : Nat} {p : PlanD} {ev wv nv v : Value}
theorem Ia {t e:TypeId}(h:prog.underlying t=some (.slice e)):bin prog .eql t (.N) (.N)=some (.bool true)/\ ∀b o n c,bin prog .eql t (.slice (some ⟨b,o,none⟩) n c) (.N)=some (.bool false):=by
 constructor
 ·simp[bin,cK,jI,hP,eqV,h]
 ·intro b o n c
  simp[bin,cK,jI,hP,eqV,h]
theorem Hx {α:Type}{el:α->List Value}{e:TypeId}{sz by':Nat}(hsz: ∀x,(el x).length=sz)(hall: ∀x,cA (el x)=true)(h0:0<sz){xs:List α}(h:Rs el e H v xs)(hr:eF xs.length by'=true):
  (v= .N/\xs=[])∨((∃b o n c,v= .slice (some ⟨b,o,none⟩) n c)/\ ∃u H',app e sz by' (.slice (some ⟨H.length,0,none⟩) 0 0) v (H++[.cells [] e .row])=some (u,H')/\Ext H H'/\Rw el e sz H' u xs/\New H u):=by
 have hx:Ext H (H++[.cells [] e .row]):=Fr.app _ _ _;have hc:=h;rcases h with h|⟨b,o,cap,h,_⟩
 ·exact .inl h
 ·have z:Rw el e sz (H++[.cells [] e .row]) (.slice (some ⟨H.length,0,none⟩) 0 0) []:=⟨by simp,.inr ⟨H.length,0,[],rfl,aS1 _,by simp,by simp⟩⟩
  obtain⟨u,H',g1,g2,g3,g4⟩:=z.wD hsz hall h0 (by':=by') (H0:=H) (hc.ext hx) (λb ⟨_,_,_,h⟩=>by cases h;exact aS1 _) hx (by simpa using hr)
  exact .inr ⟨⟨b,o,_,_,h⟩,u,H',g1,g4,g2,g3⟩
theorem aDc {xs:List Int}(h:Is H v xs)(hl:xs.length<=1000)(hm:0<m): ∃u H',lvl prog pkN m (.func 78) [v] H=some (u,H')/\Ext H H'/\Iw H' u xs/\New H u:=by
 have q:=Ia (t:=37) (e:=3) (by kernel_rfl)
 rcases Hx (by':=8) eM mN aC h (eJ (n:=1000) aC hl) with⟨rfl,rfl⟩|⟨⟨b,o,n,c,rfl⟩,u,H',g1,g2⟩
 ·refine⟨_,H,aV (aQ rfl) hm ?_,Fr.dY _ _,Rw.fE,New.iJ _⟩
  rw[L0];simp only[gsR,q.1]
 ·have b0:bV 3 1 0 [.I 0] [] H=some (.slice (some ⟨H.length,0,none⟩) 0 0,H++[.cells [] 3 .row]):=rfl
  refine⟨u,H',aV (aQ rfl) hm ?_,g2⟩;rw[L0];simp only[gsR,q.2,b0,g1]
theorem aQ1 {xs:List Ed}(h:Es H v xs)(hl:xs.length<=1000)(hm:0<m): ∃u H',lvl prog pkN m (.func 77) [v] H=some (u,H')/\Ext H H'/\Ew H' u xs/\New H u:=by
 have q:=Ia (t:=36) (e:=128) (by kernel_rfl)
 rcases Hx (by':=16) mY wI aC h (eJ (n:=1000) aC hl) with⟨rfl,rfl⟩|⟨⟨b,o,n,c,rfl⟩,u,H',g1,g2⟩
 ·refine⟨_,H,aV (aQ rfl) hm ?_,Fr.dY _ _,Rw.fE,New.iJ _⟩
  rw[aC5];simp only[gsR,q.1]
 ·have b0:bV 128 2 0 [.I 0,.I 0] [] H=some (.slice (some ⟨H.length,0,none⟩) 0 0,H++[.cells [] 128 .row]):=rfl
  refine⟨u,H',aV (aQ rfl) hm ?_,g2⟩;rw[aC5];simp only[gsR,q.2,b0,g1]
theorem aQ2 {xs:List Ed}(h:Hs H v xs)(hl:xs.length<=1000)(hm:0<m): ∃u H',lvl prog pkN m (.func 38) [v] H=some (u,H')/\Ext H H'/\Hw H' u xs/\New H u:=by
 have q:=Ia (t:=48) (e:=83) (by kernel_rfl)
 rcases Hx (by':=16) mY wI aC h (eJ (n:=1000) aC hl) with⟨rfl,rfl⟩|⟨⟨b,o,n,c,rfl⟩,u,H',g1,g2⟩
 ·refine⟨_,H,aV (aQ rfl) hm ?_,Fr.dY _ _,Rw.fE,New.iJ _⟩
  rw[aC3];simp only[gsR,q.1]
 ·have b0:bV 83 2 0 [.I 0,.I 0] [] H=some (.slice (some ⟨H.length,0,none⟩) 0 0,H++[.cells [] 83 .row]):=rfl
  refine⟨u,H',aV (aQ rfl) hm ?_,g2⟩;rw[aC3];simp only[gsR,q.2,b0,g1]
theorem aQ3 {us:List SV}(h:Rs sC 37 H v us)(hl:us.length<=1000)(hm:0<m): ∃u H',lvl prog pkN m (.func 79) [v] H=some (u,H')/\Ext H H'/\Rw sC 37 1 H' u us/\New H u:=by
 have q:=Ia (t:=38) (e:=37) (by kernel_rfl)
 rcases Hx (by':=24) Bg Ff aC h (eJ (n:=1000) aC hl) with⟨rfl,rfl⟩|⟨⟨b,o,n,c,rfl⟩,u,H',g1,g2⟩
 ·refine⟨_,H,aV (aQ rfl) hm ?_,Fr.dY _ _,Rw.fE,New.iJ _⟩
  rw[aC6];simp only[gsR,q.1]
 ·have b0:bV 37 1 0 [.N] [] H=some (.slice (some ⟨H.length,0,none⟩) 0 0,H++[.cells [] 37 .row]):=rfl
  refine⟨u,H',aV (aQ rfl) hm ?_,g2⟩;rw[aC6];simp only[gsR,q.2,b0,g1]
theorem R0 {e:TypeId}{us:List SV}(h:Rw sC e 1 H v us){i:Nat}(hi:i<us.length)(x:SV): ∃c cs,aS v c/\H[c]? =some (.cells cs e .row)/\cQ 1 v (.I (i:Nat))=some (.Q c i)/\ld1 (.Q c i) H=some (us[i].1,H)/\
  stN 1 (.Q c i) x.1 H=some (undef,H.set c (.cells (cs.set i x.1) e .row))/\Rw sC e 1 (H.set c (.cells (cs.set i x.1) e .row)) v (us.set i x):=by
 have hf: ∀us:List SV,(us.map sC).flatten=us.map (·.1):=by
  intro us;induction us with
  |nil=>rfl
  |cons a us ih=>rw[aTr,aTw,ih];rfl
 rcases h with⟨h1,⟨rfl,h2⟩|⟨c,cap,rest,rfl,h2,h3,h4⟩⟩
 ·omega
 ·rw[hf] at h4
  refine⟨c,_,⟨_,_,_,rfl⟩,h4,?_,bA h4 ?_,nA h4 aC (by simp;omega) (by rw[x.2.2]) x.2.1,?_⟩
  ·rw[oL _ _ _ _ _ _ _ U U]
   simp
  ·rw[aSZ (by simpa using hi),aS9,aSY hi]
   rfl
  ·refine⟨by rw[hf];simp,.inr ⟨c,cap,rest,by rw[List.length_set],by rw[List.length_set];exact h2,by rw[List.length_set];exact h3,?_⟩⟩
   rw[aS2 (aSW.mp h4).1,hf,List.map_set,List.set_append_left _ _ (by simpa using hi)]
theorem aQ5 {xss:List (List Int)}(h:Rows H v xss): ∃us:List SV,Rs sC 37 H v us/\us.length=xss.length/\ ∀(i:Nat)(u:SV)(xs:List Int),us[i]? =some u->xss[i]? =some xs->Is H u.1 xs:=by
 obtain⟨us,h1,h2,h3⟩:=h;have hs: ∀u∈us,cA [u]=true/\u.cells= #[u]:=λu hu=>by
  obtain⟨i,hi⟩:=List.getElem?_of_mem hu;have hl:=(aSW.mp hi).1;rcases h3 i u _ hi (aSY U) with⟨rfl,_⟩|⟨b,o,cap,rfl,_⟩<;>exact⟨rfl,rfl⟩
 obtain⟨ws,hw⟩: ∃ws:List SV,ws.map (·.1)=us:=by
  clear h1 h2 h3;induction us with
  |nil=>exact⟨[],rfl⟩
  |cons a us ih=>
   obtain⟨ws,hw⟩:=ih λu hu=>hs u (aTd _ hu)
   exact⟨⟨a,hs a (aS5 ..)⟩::ws,congrArg (a:: ·) hw⟩
 have hl:ws.length=us.length:=by rw[<-hw,aTa]
 refine⟨ws,?_,by omega,λi u xs hu hx=>h3 i u.1 xs (by rw[<-hw,aS9,hu];rfl) hx⟩
 unfold Rs at h1⊢;rw[Bh,hw,hl];rcases h1 with⟨a,b⟩|⟨b,o,cap,a1,a2,a3⟩
 ·exact .inl ⟨a,aTe.mp (by rw[hl,b];rfl)⟩
 ·exact .inr ⟨b,o,cap,a1,a2,λhne=>a3 λhz=>hne (aTe.mp (by rw[hl,hz];rfl))⟩
theorem Hy {xss:List (List Int)}{us:List SV}(h:Rs sC 37 H v us)(hl:us.length=xss.length)(h3: ∀(i:Nat)(u:SV)(xs:List Int),us[i]? =some u->xss[i]? =some xs->Is H u.1 xs):Rows H v xss:=by
 refine⟨us.map (·.1),?_,by rw[aTa,hl],λi u xs hu hx=> ?_⟩
 ·unfold Rs at h⊢
  rw[<-Bh,aTa];rcases h with⟨a,b⟩|⟨b,o,cap,a1,a2,a3⟩
  ·exact .inl ⟨a,by rw[b];rfl⟩
  ·exact .inr ⟨b,o,cap,a1,a2,λhne=>a3 λhz=>hne (by rw[hz];rfl)⟩
 ·rw[aS9] at hu
  cases hw:us[i]? with
  |none=>rw[hw] at hu;cases hu
  |some w=>
   rw[hw] at hu;cases hu;exact h3 i w xs hw hx
structure Clo (H H':aG)(p:PlanD)(ev wv nv:Value):Prop where
 pv:PV H' p ev wv nv
 ext:Ext H H'
 e:Ew H' ev p.edges/\New H ev
 w:Iw H' wv p.weights/\New H wv
 n: ∃us:List SV,Rw sC 37 1 H' nv us/\New H nv/\us.length=p.next.length/\ ∀(i:Nat)(u:SV)(xs:List Int),us[i]? =some u->p.next[i]? =some xs->Iw H' u.1 xs/\New H u.1
theorem aQ4 {Hb:aG}{pb zb:Nat}(hb0:Hb.length<=pb)(hb1:Hb.length<=zb)(hne:pb≠zb)(hE:p.edges.length<=17592186043000)(hW:p.weights.length<=17592186043000)(hN:p.next.length<=1000)(hN2: ∀xs∈p.next,xs.length<=1000)(hm:100<m):
  ∀(q i l:Nat)(H1:aG)(us:List SV),p.next.length-i=q->i<=p.next.length->q<l->Ext Hb H1->H1[pb]? =some (plB p ev wv nv)->H1[zb]? =some plZ->Ew H1 ev p.edges->New Hb ev->Iw H1 wv p.weights->New Hb wv->Rw sC 37 1 H1 nv us->New Hb nv->us.length=p.next.length->
   (∀(j:Nat)(u:SV)(xs:List Int),us[j]? =some u->p.next[j]? =some xs->Is H1 u.1 xs/\(∀b,aS nv b-> ¬aS u.1 b)/\(j<i->Iw H1 u.1 xs/\New Hb u.1))-> ∃H2 u2,aL l (aO prog (lvl prog pkN m) (aL m) Ry) (Rz (lvl prog pkN m) (aL m)) (aF 1 (some (.Q pb 0)::some (.Q zb 0)::aF 15 (nv::some (.I (p.next.length:Nat))::some (.I (i:Nat))::aF 12 []))) H1=some (u2,H2)/\u2=plV p ev wv nv/\Clo Hb H2 p ev wv nv:=by
 intro q;induction q with
 |zero=>
  intro i l H1 us hq hi hl he hb hz e1 e2 w1 w2 r1 r2 hul hall;intros;obtain⟨l,rfl⟩:=aB l U
  obtain rfl:i=p.next.length:=U
  have e:decide ((p.next.length:Int)<(p.next.length:Nat))=false:=by simp
  have l11:=fL hb;obtain⟨H2,hH2⟩:=aD (H1.set zb (plB p ev wv nv));have st:stN 11 (.Q zb 0) (plV p ev wv nv) H1=some (undef,H2):=by
   have e1':(plV p ev wv nv).cells.toList=plC p ev wv nv:=rfl;have hpv:PV H1 p ev wv nv:=⟨e1.rs,w1.rs,Hy r1.rs hul λj u xs hu hx=>(hall j u xs hu hx).1,hE,by omega,by omega⟩
   rw[iI 11 _ _ _ rfl,hz,e1',hH2];unfold plZ;rw[kV _ _ _ _ _ _ aC (by simp[plC]) hpv.Bi]
   simp[cT,plC,plB]
  have hzl:=b9 hz;have b2:H2[zb]? =some (plB p ev wv nv):=by rw[hH2,aS2 hzl]
  have l11z:=fL b2;have hk: ∀b,b≠zb->H2[b]? =H1[b]? :=λb hbz=>by rw[hH2,aSX (λhh=>hbz hh.symm)]
  have hnh: ∀{α:Type}{el:α->List Value}{e:TypeId}{sz:Nat}{w:Value}{xs:List α},Rw el e sz H1 w xs->Rw el e sz H2 w xs:=λh=>h.cZ λb hbb=>hk b λhh=>by
   obtain⟨cs,hc⟩:=h.blk hbb;rw[hh,hz] at hc;cases hc
  have he2:Ext Hb H2:=by rw[hH2];exact jY he hb1
  refine⟨H2,_,?_,rfl,⟨⟨(hnh e1).rs,(hnh w1).rs,Hy (hnh r1).rs hul λj u xs hu hx=>(hnh ((hall j u xs hu hx).2.2 (aSW.mp hx).1).1).rs,hE,by omega,by omega⟩,he2,⟨hnh e1,e2⟩,⟨hnh w1,w2⟩,us,hnh r1,r2,hul,λj u xs hu hx=> ?_⟩⟩
  ·rw[bS,aC4]
   simp only[gsR,e];rw[aQV];simp only[gsR,l11,st,l11z]
  ·have:=(hall j u xs hu hx).2.2 (aSW.mp hx).1
   exact⟨hnh this.1,this.2⟩
 |succ q ih=>
  intro i l H1 us hq hi hl he hb hz e1 e2 w1 w2 r1 r2 hul hall;intros;obtain⟨l,rfl⟩:=aB l U
  have e:decide ((i:Int)<(p.next.length:Nat))=true:=aTG U
  have e3:=aA (i:=i) U
  have hi1:i<us.length:=U
  have hxi:p.next[i]? =some p.next[i]:=aSY U
  have hui:us[i]? =some us[i]:=aSY hi1;obtain⟨hIs,hap,_⟩:=hall i _ _ hui hxi;obtain⟨u,H2,g1,x2,g2,g3⟩:=aDc hIs (hN2 _ (aS6 hxi)) (m:=m) U
  obtain⟨su,rfl⟩: ∃su:SV,su.1=u:=by
   obtain⟨s1,s2⟩:=Rw.rT g2
   exact⟨⟨u,s2,Array.toList_inj.mp s1⟩,rfl⟩
  have r1':=nE r1 x2;obtain⟨c,cs,p1,p2,p3,p4,_,_⟩:=R0 r1 hi1 su;obtain⟨c',cs',q1,q2,q3,_,q5,q6⟩:=R0 r1' hi1 su
  obtain rfl:c'=c:=by
   obtain⟨o,n,k,hh⟩:=p1;obtain⟨o',n',k',hh'⟩:=q1;rw[hh] at hh';cases hh';rfl
  have hcb:Hb.length<=c':=r2 _ q1;obtain⟨H3,hH3⟩:=aD (H2.set c' (.cells (cs'.set i su.1) 37 .row));rw[<-hH3] at q5 q6;have l10: ∀G,Ext H1 G->ld1 (.pointer (some ⟨pb,10,none⟩)) G=some (nv,G):=λG hG=>cO (cR hb hG) 10 nv rfl
  have l10a:=l10 H1 (Fr.dY _ _);have l10b:=l10 H2 x2;have ck:chk (some (nv,H2)) nv=true:=by rcases r1 with⟨_,⟨rfl,_⟩|⟨_,_,_,rfl,_⟩⟩<;>exact Gl _ _ _ _
  have hk: ∀b,b≠c'->H3[b]? =H2[b]? :=λb hbz=>by rw[hH3,aSX (λhh=>hbz hh.symm)]
  have he3:Ext Hb H3:=by rw[hH3];exact jY (he.tr x2) hcb
  have hkR: ∀{α:Type}{el:α->List Value}{e:TypeId}{sz:Nat}{w:Value}{xs:List α},Rw el e sz H1 w xs->e≠37->Rw el e sz H3 w xs:=λh hne=>(nE h x2).cZ λb hbb=>hk b λhh=>by
   obtain⟨cs,hc⟩:=(nE h x2).blk hbb;rw[hh,q2] at hc;cases hc;exact hne rfl
  have hkF: ∀{b:Nat}{cs1:List Value},H1[b]? =some (.cells cs1 40 .fix)->H3[b]? =some (.cells cs1 40 .fix):=λh=>by
   have h2:=cR h x2;rw[hk _ (λhh=>by rw[hh,q2] at h2;cases h2),h2]
  rw[bS,aC4];simp only[gsR,e,p3,p4,l10a,g1,l10b,ck,q3,q5,aT,e3];have hnu: ∀b,aS su.1 b-> ¬aS nv b:=λb h1 h2=>by
   have:=g3 b h1;have:=r1.dZ h2;omega
  refine ih (i+1) l H3 (us.set i su) U U U he3 (hkF hb) (hkF hz) (hkR e1 aC) e2 (hkR w1 aC) w2 q6 r2 (by rw[List.length_set];exact hul) (λj u xs hu hx=> ?_) ..
  have hjl:j<us.length:=by have:=(aSW.mp hu).1;rwa [List.length_set] at this
  by_cases hji:j=i
  ·subst hji
   rw[aS2 hjl] at hu;cases hu;rw[hxi] at hx;cases hx;have hiw:Iw H3 su.1 p.next[j]:=g2.cZ λb hbb=>hk b λhh=>hnu b hbb (by rw[hh];exact q1)
   exact⟨hiw.rs,λb h1 h2=>hnu b h2 h1,λ_=>⟨hiw,λb hbb=>aTc he.1 (g3 b hbb)⟩⟩
  ·rw[aSX (λhh=>hji hh.symm)] at hu
   obtain⟨a1,a2,a3⟩:=hall j u xs hu hx;have hs:Is H3 u.1 xs:=(a1.ext x2).D8 λb hbb _=>hk b λhh=>a2 b (by rw[hh];exact q1) hbb
   refine⟨hs,a2,λhj=> ?_⟩
   obtain⟨a4,a5⟩:=a3 U
   exact⟨(nE a4 x2).cZ λb hbb=>hk b λhh=>a2 b (by rw[hh];exact q1) hbb,a5⟩
theorem aDd (hp:PV H p ev wv nv)(hE:p.edges.length<=1000)(hW:p.weights.length<=1000)(hN:p.next.length<=1000)(hN2: ∀xs∈p.next,xs.length<=1000)(hN0: ∀xs∈p.next,xs≠[])(hm:2000<m):
    ∃H' ev' wv' nv',lvl prog pkN m (.func 45) [plV p ev wv nv] H=some (plV p ev' wv' nv',H')/\Clo H H' p ev' wv' nv':=by
  obtain⟨H0,hH0⟩:=aD (H++[plB p ev wv nv]);have x0:Ext H H0:=by rw[hH0];exact Fr.app _ _ _
  have b0:H0[H.length]? =some (plB p ev wv nv):=by rw[hH0];exact cV _ _
  have e0:H++[Blk.cells (plV p ev wv nv).cells.toList 40 .fix]=H0:=by rw[hH0];rfl
  obtain⟨H1,hH1⟩:=aD (H0++[plZ]);have x1:Ext H0 H1:=by rw[hH1];exact Fr.app _ _ _
  have z1:H1[H0.length]? =some plZ:=by rw[hH1];exact cV _ _
  have b1:=cR b0 x1;have hx1:=x0.tr x1;have hl0:H0.length=H.length+1:=by rw[hH0];simp
  obtain⟨e',H2,g2,x2,e2,ne2⟩:=aQ1 (hp.ext hx1).e hE (m:=m-1) U
  have l1:=cO b1 1 ev rfl;have b2:=cR b1 x2;have l8a:=cO b1 8 wv rfl;have l8:=cO b2 8 wv rfl;obtain⟨w',H3,g3,x3,w3,nw3⟩:=aDc ((hp.ext hx1).ext x2).w hW (m:=m-1) U
  have b3:=cR b2 x3;have l10a:=cO b1 10 nv rfl;have l10b:=cO b2 10 nv rfl;have l10:=cO b3 10 nv rfl;obtain⟨us,us1,us2,us3⟩:=aQ5 hp.n;obtain⟨n',H4,g4,x4,n4,nn4⟩:=aQ3 (us1.ext ((hx1.tr x2).tr x3)) U (m:=m-1) U
  have b4:=cR b3 x4;have hx4:Ext H H4:=((hx1.tr x2).tr x3).tr x4;have ckw: ∀G,chk (some (wv,G)) wv=true:=λG=>by rcases hp.w with⟨rfl,_⟩|⟨_,_,_,rfl,_⟩<;>exact Gl _ _ _ _
  have ckn: ∀G,chk (some (nv,G)) nv=true:=λG=>by
    obtain⟨us,h1,_⟩:=hp.n;rcases h1 with⟨rfl,_⟩|⟨_,_,_,rfl,_⟩<;>exact Gl _ _ _ _
  have hpb:H.length≠H0.length:=U
  -- the plan is the clone's now
  have hs: ∀{G:aG}{a b c:Value},G[H.length]? =some (plB p a b c)-> ∀{α:Type}{el:α->List Value}{e:TypeId}{sz:Nat}{w:Value}{xs:List α}(G2:aG),Rw el e sz G w xs->(∀b,b≠H.length->G2[b]? =G[b]?)->Rw el e sz G2 w xs:=λhb _ _ _ _ _ _ _ h hk=>h.cZ λb hbb=>hk b λhh=>by
    obtain⟨cs,hc⟩:=h.blk hbb;rw[hh,hb] at hc;cases hc
  obtain⟨H5,hH5⟩:=aD (H4.set H.length (plB p e' wv nv));have k5: ∀b,b≠H.length->H5[b]? =H4[b]? :=λb hb=>by rw[hH5,aSX (λhh=>hb hh.symm)]
  have b5:H5[H.length]? =some (plB p e' wv nv):=by rw[hH5];exact dN b4
  have e4:=nE (nE e2 x3) x4;have w4:=nE w3 x4;obtain⟨s1,s2⟩:=Rw.rT e2;obtain⟨s3,s4⟩:=Rw.rT w3;obtain⟨s5,s6⟩:=Rw.rT n4;have st5:stN 1 (.Q H.length 1) e' H4=some (undef,H5):=by rw[hH5];exact nA b4 aC (by simp[plC]) s1 s2
  obtain⟨H6,hH6⟩:=aD (H5.set H.length (plB p e' w' nv));have k6: ∀b,b≠H.length->H6[b]? =H4[b]? :=λb hb=>by rw[hH6,aSX (λhh=>hb hh.symm),k5 b hb]
  have b6:H6[H.length]? =some (plB p e' w' nv):=by rw[hH6];exact dN b5
  have st6:stN 1 (.Q H.length 8) w' H5=some (undef,H6):=by rw[hH6];exact nA b5 aC (by simp[plC]) s3 s4
  obtain⟨H7,hH7⟩:=aD (H6.set H.length (plB p e' w' n'));have k7: ∀b,b≠H.length->H7[b]? =H4[b]? :=λb hb=>by rw[hH7,aSX (λhh=>hb hh.symm),k6 b hb]
  have b7:H7[H.length]? =some (plB p e' w' n'):=by rw[hH7];exact dN b6
  have st7:stN 1 (.Q H.length 10) n' H6=some (undef,H7):=by rw[hH7];exact nA b6 aC (by simp[plC]) s5 s6
  have l10c:=cO b7 10 n' rfl;have n7:=hs b4 H7 n4 k7;have hln:=n7.nR;rw[us2] at hln;have x7:Ext H H7:=⟨by rw[hH7,hH6,hH5];simp only[List.length_set];exact hx4.1,λb hb _=>by rw[k7 b U,hx4.2 b hb id]⟩
  have hxl:=hx1.1;have hx2l:=x2.1;have hx3l:=x3.1;have main: ∃H' u,lvl prog pkN m (.func 45) [plV p ev wv nv] H=some (u,H')/\u=plV p e' w' n'/\Clo H H' p e' w' n':=by
    refine dP (aQ rfl) U ?_
    rw[aQW];simp only[gsR,e0,uV,<-hH1,l1,g2,l8a,l8,ckw,g3,l10a,l10b,l10,ckn,g4,st5,st6,st7,l10c,hln];exact aQ4 (Hb:=H) (pb:=H.length) (zb:=H0.length) (m:=m-1) (aS1 _) U hpb U U hN hN2 U p.next.length 0 (m-1) H7 us U U U x7 b7 (by rw[k7 _ (Ne.symm hpb),cR (cR (cR z1 x2) x3) x4]) (hs b4 H7 e4 k7) (λb hb=>aTc hxl (ne2 b hb)) (hs b4 H7 w4 k7) (λb hb=>aTc hxl (aTc hx2l (nw3 b hb))) n7 (λb hb=>aTc hxl (aTc hx2l (aTc hx3l (nn4 b hb)))) us2 (λj u xs hu hx=>by
        have hi:=us3 j u xs hu hx;have hlt: ∀b,aS u.1 b->b<H.length:=λb hb=>by
          rcases hi with⟨_,h2⟩|⟨b',o,cap,h1,_,h3⟩
          · exact absurd h2 (hN0 _ (aS6 hx))
          · obtain⟨o',n,c,hh⟩:=hb
            rw[h1] at hh;cases hh;obtain⟨_,_,_,_,_,_,h4⟩:=h3 (hN0 _ (aS6 hx));exact b9 h4
        exact⟨hi.D8 λb hb _=>x7.2 b (hlt b hb) id,λb h1 h2=>by have:=hlt b h2;have:=nn4 b h1;omega,λh=>by omega⟩) ..
  obtain⟨H',u,h1,rfl,h2⟩:=main
  exact⟨H',_,_,_,h1,h2⟩
end
end Go.Proofs.YtciiopkbmjppfaaGreatDoor
namespace Go.Abs
open M
theorem aDg {req:Nat->Nat->Bool}{n:Nat}(hr: ∀i o,i<n->req i o=false)(first:Bool)(s:Mat):rnd req n first s=s:=by
 have hg: ∀o,iS req s.m s.g n o=none:=λo=>by
  unfold iS;split
  ·rfl
  ·rw[Ej]
   intro i hi;rw[hr i o hi,Bool.and_false]
 have ha: ∀(t:Mat)(i:Nat),acc (iS req s.m s.g n) n first t i=t:=λt i=>by
  unfold acc;split
  ·have:fF (λk=>iS req s.m s.g n k==some i) (t.a.getD i 0) n=none:=by
    rw[Ej];intro k _;rw[hg k];rfl
   rw[this]
  ·rfl
 unfold rnd;have: ∀(l:List Nat)(t:Mat),l.foldl (acc (iS req s.m s.g n) n first) t=t:=λl=>by
  induction l with
  |nil=>exact λ_=>rfl
  |cons i l ih=>
   intro t;rw[List.foldl_cons,ha,ih]
 exact this _ _
theorem aQ8 {req:Nat->Nat->Bool}{n:Nat}(hr: ∀i o,i<n->req i o=false)(r:Nat)(g a:List Nat):jV req n r g a=⟨List.replicate n (-1),g,a⟩:=by
 unfold jV;rw[aDg hr];have: ∀k (s:Mat),tC req n k s=s:=λk=>by
  induction k with
  |zero=>exact λ_=>rfl
  |succ k ih=>
   intro s;unfold tC;rw[aDg hr,ih]
 exact this _ _
theorem aQ7 {c:Cfg}{s:NS}(h:s.hL=[]):eX c s=s:=by
 have h1: ∀k,gS c s k=s:=λk=>by
  unfold gS;rw[h]
  split<;>rfl
 unfold eX;have: ∀l:List Nat,l.foldl (gS c) s=s:=λl=>by
  induction l with
  |nil=>rfl
  |cons k l ih=>rw[List.foldl_cons,h1,ih]
 exact this _
theorem aQ6 {c:Cfg}{s:NS}(h:s.rL=[])(i o:Nat):gF c s i o=false:=by
 have hm: ∀k,dL c s i o k=false:=λk=>by
  unfold dL fT jB;rw[h];simp
 unfold gF;rw[show dL c s i o=λ_=>false from funext hm]
 simp
theorem aDf (c:Cfg)(n:Nat)(s:NS×eN): ∀l:List Nat,(∀i∈l,i<n)->lZ c (List.replicate n (-1)) l s=s
 |[],_=>rfl
 |i::l,h=>by
  unfold lZ;have e:(List.replicate n (-1:Int)).getD i 0= -1:=by
   rw[aS0,aTD,if_pos (h i (aS5 ..))];rfl
  rw[e,if_neg U]
  exact aDf c n s l λj hj=>h j (aTd _ hj)
theorem aQ9 {c:Cfg}{s:NS}(h1:s.hL=[])(h2:s.rL=[]):fI c s=({s with ticks:=s.ticks+1},if(s.ticks+1)%c.every=0 then j7 c s else []):=by
 unfold fI;simp only;rw[aQ7 h1,aQ8 (λi o _=>aQ6 h2 i o)]
 simp only;rw[aDf c c.aJ _ _ λi hi=>aTA.mp hi]
 rfl
theorem Cq {α:Type}{f:Nat->List α}{L:Nat}: ∀{a:Nat},(∀i,i<a->(f i).length=L)->((List.range a).flatMap f).length=a*L
 |0,_=>by simp
 |a+1,h=>by
  rw[aTv,List.flatMap_append,aS8,Cq (a:=a) (λi hi=>h i U)]
  simp[h a U,Nat.add_mul]
theorem aDe (c:Cfg)(s:NS):(j7 c s).length=2*c.by'.length*c.lanes:=by
 unfold j7;rw[Cq (L:=c.lanes*2) λi _=>Cq (L:=2) λk _=>rfl]
 rw[Nat.mul_comm c.lanes 2,<-Nat.mul_assoc,Nat.mul_comm c.by'.length 2]
theorem aRa (f:Frm):(k9 f).length<=12:=by
 unfold k9 lY;split
 ·rw[aTp,Pg]
  split<;>omega
 ·simp
def OutOk (c:Cfg)(os:eN):Prop:= ∀o∈os,o.1∈c.by'/\o.2.length<=12
theorem OutOk.R3 (c:Cfg):OutOk c []:=λ_ h=>by cases h
theorem OutOk.app {c:Cfg}{a b:eN}(h1:OutOk c a)(h2:OutOk c b):OutOk c (a++b):=λo ho=>(List.mem_append.mp ho).elim (h1 o) (h2 o)
theorem aDk {c:Cfg}{o:Nat}(h1:1<=o)(h2:o<c.aJ)(f:Frm):(pT c o f).1∈c.by'/\(pT c o f).2.length<=12:=by
 unfold Cfg.aJ at h2;unfold pT;refine⟨?_,aRa f⟩;simp only;rw[aS0,aSY U,aTp]
 exact List.getElem_mem _
theorem aRc {c:Cfg}(s:NS)(i:Nat){o:Nat}(h2:o<c.aJ):OutOk c (iL c s i o).2:=by
 unfold iL;split
 ·exact OutOk.R3 c
 ·simp only
  split
  ·exact OutOk.R3 c
  ·rename_i hne
   intro x hx;rw[List.mem_singleton] at hx;subst hx;exact aDk U h2 _
theorem aDj {c:Cfg}{m:List Int}(hm: ∀x∈m,x= -1∨0<=x/\x<(c.aJ:Int))(hp:0<c.aJ): ∀(l:List Nat)(s:NS×eN),OutOk c s.2->OutOk c (lZ c m l s).2
 |[],_,h=>h
 |i::l,s,h=>by
  unfold lZ;refine aDj hm hp l _ ?_;split
  ·rename_i h0
   have:(m.getD i 0).toNat<c.aJ:=by
    rw[aS0];cases hg:m[i]? with
    |none=>simpa using hp
    |some x=>
     rcases hm x (aS6 hg) with h1|h1
     ·subst h1
      simpa using hp
     ·simp only[aTp]
      omega
   exact h.app (aRc _ _ this)
  ·exact h
theorem aDh (c:Cfg)(s:NS):OutOk c (j7 c s):=by
 intro o ho;unfold j7 at ho;obtain⟨i,hi,ho⟩:=List.mem_flatMap.mp ho;obtain⟨k,hk,ho⟩:=List.mem_flatMap.mp ho;have hi:=aTA.mp hi;simp only[aTf,aTm,or_false] at ho;rcases ho with rfl|rfl<;>exact aDk U (by unfold Cfg.aJ;omega) _
theorem aRe {c:Cfg}{t:Nat}{s:NS}(hc:c.ok)(h:NInv c t s):OutOk c (fI c s).2:=by
 have h1:=h.aBf hc;have hp:0<c.aJ:=by unfold Cfg.aJ;omega
 have h2:=MatI.aBb (req:=gF c (Go.Abs.eX c s)) (rounds:=c.rounds) hp h1.gl h1.al h1.g h1.a;unfold fI;simp only;have h3:=aDj h2.m hp (List.range c.aJ) ({Go.Abs.eX c s with g:=(jV (gF c (Go.Abs.eX c s)) c.aJ c.rounds (Go.Abs.eX c s).g (Go.Abs.eX c s).a).g,a:=(jV (gF c (Go.Abs.eX c s)) c.aJ c.rounds (Go.Abs.eX c s).g (Go.Abs.eX c s).a).a},[]) (OutOk.R3 c);split
 ·exact h3.app (aDh _ _)
 ·exact h3
theorem aRb (c:Cfg)(s:NS)(i o:Nat):(iL c s i o).2.length<=1:=by
 unfold iL;split
 ·exact Nat.zero_le _
 ·simp only
  split
  ·exact Nat.zero_le _
  ·exact aS1 _
theorem aDi (c:Cfg)(m:List Int): ∀(l:List Nat)(s:NS×eN),(lZ c m l s).2.length<=l.length+s.2.length
 |[],s=>by simp[lZ]
 |i::l,s=>by
  unfold lZ;refine aTc (aDi c m l _) ?_;split
  ·have:=aRb c s.1 i (m.getD i 0).toNat
   simp only[aS8,aTi];omega
  ·simp only[aTi]
   omega
theorem aRd {c:Cfg}(hc:c.ok)(s:NS):(fI c s).2.length<=36:=by
 have h5:=hc.by';have h3:=hc.lanes.2;have h1:=aDi c (jV (gF c (Go.Abs.eX c s)) c.aJ c.rounds (Go.Abs.eX c s).g (Go.Abs.eX c s).a).m (List.range c.aJ) ({Go.Abs.eX c s with g:=(jV (gF c (Go.Abs.eX c s)) c.aJ c.rounds (Go.Abs.eX c s).g (Go.Abs.eX c s).a).g,a:=(jV (gF c (Go.Abs.eX c s)) c.aJ c.rounds (Go.Abs.eX c s).g (Go.Abs.eX c s).a).a},[]);rw[aTq] at h1;have h2:2*c.by'.length*c.lanes<=2*5*3:=Nat.mul_le_mul U h3
 unfold fI;simp only;unfold Cfg.aJ at h1;simp only[List.length_nil] at h1;split
 ·rw[aS8,aDe]
  unfold Cfg.aJ;omega
 ·unfold Cfg.aJ
  omega
structure FS where
 n:Nat->NS
 l:Nat->List (List UInt8)
 k:Nat
structure FC where
 c:Nat->Cfg
 N:Nat
 hs:List (Int×Int)
 bag:Nat
def aDl (room:Nat)(bss:List (List UInt8))(bs:List UInt8):List (List UInt8):=if bss.length=room then bss else bss++[bs]
def xN (C:FC)(v w:Nat):Nat:=C.hs.idxOf ((v:Int),(w:Int))
def nF (C:FC)(v:Nat)(l:Nat->List (List UInt8))(o:Nat×List UInt8):Nat->List (List UInt8):=up1 l (xN C v o.1) (aDl C.bag (l (xN C v o.1)) o.2)
def mT (C:FC)(s:FS)(v:Nat):eN:=(fI (C.c v) (s.n v)).2
def mE (C:FC)(s:FS)(i v:Nat):NS:=if v<i then(fI (C.c v) (s.n v)).1 else s.n v
def xO (C:FC)(s:FS)(i:Nat):Nat->List (List UInt8):=(List.range i).foldl (λl v=>(mT C s v).foldl (nF C v) l) s.l
def iE (C:FC)(s:FS):FS:=⟨mE C s C.N,xO C s C.N,s.k+1⟩
def sL (C:FC)(h k:Nat)(s:FS):Nat×FS:=
 match (s.l h)[k]? with
 |none=>(1,s)
 |some b=>
  let v:=(C.hs.getD h (0,0)).2.toNat
  let r:=gT (C.c v) (C.hs.getD h (0,0)).1 b (s.n v)
  (r.1,{s with n:=up1 s.n v r.2,l:=up1 s.l h ((s.l h).eraseIdx k)})
def oX (C:FC)(h:Nat):Nat->FS->FS
 |0,s=>s
 |q+1,s=>oX C h q (sL C h 0 s).2
def zS (C:FC):List Nat->FS->FS
 |[],s=>s
 |h::l,s=>zS C l (oX C h (s.l h).length s)
def dI (C:FC)(s:FS):FS:=zS C (List.range C.hs.length) (iE C s)
def FS.p7 (C:FC):FS:=⟨λv=>NS.fH (C.c v),λ_=>[],0⟩
end Go.Abs
noncomputable section
namespace Go.Proofs.YtciiopkbmjppfaaGreatDoor
open Go.Proofs.Tryz
open Go.Abs Go.Abs.M
variable (O:aH)(L:LV)(k:KV)(N P Q R S T U V W X Y Z a b c d e f g i j l m n o p q r s t u v w x y z A B C D E F G H I J zz zy zx zw zv zu zt zs zr zq zp zo zn zm zl zk zj zi zh zg zf ze zd zc zb za yz:Value)(rr:List Value)(h:aG)
def R4:CC:=cc prog 3596 15 [1,1,0,1,0,0]
def R5:KV:=(bY 0 (cJ prog O L (cc prog 3596 15 [1,1,1]) (cS prog Tryz.f15)))
theorem aRf:R5 O L (.exit 0) (aF 2 (c::d::aF 5 (l::m::n::aF 10 [])))=aM (aK [d]):=by kernel_rfl
theorem aDm:aO prog O L R4 k (aF 2 (c::d::aF 5 (l::m::n::aF 10 [])))=bB prog .lss 3 n m λaa=>aN aa (bIL 1 l n λab=>bC O 39 [ab] λac=>bM (bV 22 1 1 [(.N)] [(0,ac)]) λad=>bM (app 22 1 24 d ad) λae=>bB prog .add 3 n (.I 1) λaf=>k .normal (aF 2 (c::ae::aF 5 (l::m::af::aF 10 [])))) (k (.exit 0) (aF 2 (c::d::aF 5 (l::m::n::aF 10 [])))):=by kernel_rfl
theorem aRg:aR prog O L 15 [N]=aY 0 N λaa=>bN aa λab=>L (aO prog O L R4) (R5 O L) (aF 2 (some (.N)::some (.N)::aF 5 (aa::ab::some (.I 0)::aF 10 []))):=by kernel_rfl
theorem aDn:aR prog O L 28 [N,P]=bC O 53 [N,P] λaa=>bX 0 aa λab=>bX 1 aa λac=>aN ac (aY 0 N λad=>bB prog .add 3 P (.I 1) λae=>bC O 54 [ad,P,ae] λaf=>bQF 0 N λag=>bT ag af λah=>aM (aK [ab,ac])) (aM (aK [ab,ac])):=by kernel_rfl
theorem aRh:aR prog O L 30 [N,P]=bC O 53 [N,P] λaa=>bX 0 aa λab=>bX 1 aa λac=>bG ac true (aU N) λad=>bG ac true (aU ab) λae=>gO ac true O 52 [ad,ae] λaf=>bP ac af (.bool false) λag=>aM (aK [ag]):=by kernel_rfl
theorem aDo:aR prog O L 39 [N]=bB prog .eql 22 N (.N) λaa=>aN aa (aM (aK [(.N)])) (bM (bV 5 1 0 [(.int .u8 0)] []) λab=>bM (app 5 1 1 ab N) λac=>aM (aK [ac])):=by kernel_rfl
theorem aRi:aR prog O L 48 [N]=bB prog .lss 3 N (.I 1) λaa=>bG aa false (aU N) λab=>bG aa false (aP (bin prog .gtr 3 ab (.I 64))) λac=>bP aa (.bool true) ac λad=>aN ad (aM (aK [(.pointer none)])) (bO (bld prog 89 [(1,N)]) λae=>bM (aX 89 (Value.cells ae).toList .fix) λaf=>aM (aK [af])):=by kernel_rfl
theorem aDp:aR prog O L 52 [N,P]=aY 0 N λaa=>bN aa λab=>aY 1 N λac=>bB prog .eql 3 ab ac λad=>aN ad (aM (aK [(.bool false)])) (bQF 0 N λae=>bL ae λaf=>bC O 39 [P] λag=>gH λh11=>ifK (chk ((ld1 ae) h11) af&&(true)) (bM (bV 22 1 1 [(.N)] [(0,ag)]) λah=>bM (app 22 1 24 af ah) λai=>bQF 0 N λaj=>bT aj ai λak=>aM (aK [(.bool true)]))):=by kernel_rfl
theorem R6:aR prog O L 53 [N,P]=bB prog .lss 3 P (.I 0) λaa=>bG aa false (aU P) λab=>bG aa false (aU N) λac=>nQ aa false 0 ac λad=>bG aa false (aP (cY ad)) λae=>bG aa false (aP (bin prog .geq 3 ab ae)) λaf=>bP aa (.bool true) af λag=>aN ag (aM (aK [(.N),(.bool false)])) (aY 0 N λah=>bIL 1 ah P λai=>aM (aK [ai,(.bool true)])):=by kernel_rfl
theorem aRj:aR prog O L 54 [N,P,Q]=bN N λaa=>bM (slc prog 1 N (some P) (some Q) (some aa)) λab=>bB prog .eql 3 P Q λac=>aN ac (aM (aK [N])) (bN N λad=>bM (slc prog 1 N none (some P) none) λae=>bM (slc prog 1 N (some Q) none none) λaf=>bM (app 22 1 24 ae af) λag=>bN ag λah=>bM (slc prog 1 ag (some ah) (some ad) none) λai=>bM (clr 1 [(.N)] ai) λaj=>aM (aK [ag])):=by kernel_rfl
end Go.Proofs.YtciiopkbmjppfaaGreatDoor
end
namespace Go.Proofs.YtciiopkbmjppfaaGreatDoor.Lk
open Go.Proofs.Tryz
open Go.Abs Go.Abs.M
theorem eBn (a:Addr)(n c:Nat):bin prog .eql 22 (.slice (some a) n c) (.N)=some (.bool false):=by
 have h:prog.underlying 22=some (.slice 5):=by kernel_rfl
 simp[bin,cK,jI,hP,h,eqV]
theorem aRl:bin prog .eql 22 (.N) (.N)=some (.bool true):=by
 have h:prog.underlying 22=some (.slice 5):=by kernel_rfl
 simp[bin,cK,jI,hP,h,eqV]
theorem bL (n:Int):bld prog 89 [(1,.I n)]=some (.agg #[.N,.I n]):=rfl
theorem Ib:prog.cellsOf 22=1:=by kernel_rfl
theorem neRU:22≠5:=by decide
abbrev sM:=Row 22 5
section
variable {pr : eI} {H : aG} {m : Nat}
theorem aRq {n:Nat}(h:n<=1000000):eF n 1=true:=by simp[eF];omega
theorem aDs {n:Nat}(h:n<=1000000):eF n 24=true:=by simp[eF];omega
theorem aDq (hn:pr (.func 39)=none){u:Value}{bs:List UInt8}(h:Br H u bs)(hl:bs.length<=1000000)(hm:0<m):
  ∃u' H',lvl prog pr m (.func 39) [u] H=some (u',H')/\Ext H H'/\Bo 5 H' u' bs/\ ∀b,mM u' b->H.length<=b:=by
 rcases h.aHf with rfl|⟨b,o,n,c,rfl⟩
 ·have hb:bs=[]:=by
   rcases h with⟨h,_⟩|⟨_,_,_,_,_,_,h,_⟩
   ·exact h
   ·cases h
  refine⟨.N,H,aV hn hm ?_,Fr.dY _ _,.inl ⟨hb,.inl rfl⟩,λb hl=> ?_⟩
  ·rw[aDo]
   simp -implicitDefEqProofs only[gsB,aRl,r_opt,ob_some,iteV_true,oneOf_one]
  ·obtain⟨o,n,c,hv⟩:=hl
   cases hv
 ·have g0:bV 5 1 0 [.int .u8 0] [] H=some (.slice (some ⟨H.length,0,none⟩) 0 0,H++[.cells [] 5 .row]):=rfl
  have hold: ∀b,b<H.length->(H++[Blk.cells [] 5 .row])[b]? =H[b]? :=λb hb=>aSZ hb
  have hbr:Br (H++[Blk.cells [] 5 .row]) (.slice (some ⟨b,o,none⟩) n c) bs:=by
   rcases h with h|⟨b',o',c',cs,e,k,h1,h2,h3,h4⟩
   ·exact .inl h
   ·exact .inr ⟨b',o',c',cs,e,k,h1,h2,by rw[hold _ (aSW.mp h3).1,h3],h4⟩
  obtain⟨v',H',g1,g2,g3,g4,g5⟩:=Kw (by':=1) (v:= .slice (some ⟨H.length,0,none⟩) 0 0) (n:=0) (cs:=[]) (e:=5) (sz:=1) (H:=H++[Blk.cells [] 5 .row])
   ⟨rfl,.inr ⟨H.length,0,[],rfl,aS1 _,rfl,by simp⟩⟩ hbr.aHj hbr.aHi (by rw[aTh];exact aRq hl) (aHk bs) aC
  simp only[aS8,aTi,List.length_nil] at g3 g4 g5;refine⟨v',H',aV hn hm ?_,⟨by omega,λb hb _=> ?_⟩,Bo.aHm (by simpa using g2),λb hl=> ?_⟩
  ·rw[aDo]
   simp -implicitDefEqProofs only[gsB,eBn,r_opt,ob_some,iteV_false,oneOf_one,g0,g1]
  ·rw[g4 b U (λ⟨o,n,c,hh⟩=>by cases hh;omega),hold b hb]
  ·obtain⟨o,n,c,hv⟩:=hl
   rcases g5 b ⟨o,_,c,hv⟩ with⟨o,n,c,hh⟩|hh
   ·cases hh
    exact aS1 _
   ·omega
structure IsLink (H:aG)(a:Nat)(bss:List (List UInt8))(room:Nat)(F:Nat->Prop):Prop where
 ex: ∃v G,H[a]? =some (.cells [v,.I room] 89 .fix)/\sM H v bss G/\ ¬G a/\ ∀b,G b->F b
 at_:F a
 lt: ∀b,F b->b<H.length
 few:bss.length<=room/\room<=64
 small: ∀bs∈bss,bs.length<=100000
theorem IsLink.zT {H':aG}{a:Nat}{bss:List (List UInt8)}{room:Nat}{F:Nat->Prop}(h:IsLink H a bss room F)(hk: ∀b,F b->H'[b]? =H[b]?)(hl:H.length<=H'.length):IsLink H' a bss room F:=by
 obtain⟨v,G,h1,h2,h3,h4⟩:=h.ex
 exact⟨⟨v,G,by rw[hk a h.at_,h1],h2.D7 (λb hb=>hk b (h4 b hb)) hl,h3,h4⟩,h.at_,λb hb=>aTb (h.lt b hb) hl,h.few,h.small⟩
theorem IsLink.aRk {a:Nat}{bss:List (List UInt8)}{room:Nat}{F F':Nat->Prop}(h:IsLink H a bss room F)(hF: ∀b,F b->F' b)(hl: ∀b,F' b->b<H.length):IsLink H a bss room F':=by
 obtain⟨v,G,h1,h2,h3,h4⟩:=h.ex
 exact⟨⟨v,G,h1,h2,h3,λb hb=>hF b (h4 b hb)⟩,hF a h.at_,hl,h.few,h.small⟩
theorem aRp (hn:pr (.func 48)=none)(hm:0<m)(n:Nat)(h:1<=n/\n<=64): ∃H',lvl prog pr m (.func 48) [.I n] H=some (.Q H.length 0,H')/\Ext H H'/\IsLink H' H.length [] n (Nw H H'):=by
 have e1:decide ((n:Int)<1)=false:=aTH U
 have e2:decide (64<(n:Int))=false:=aTH U
 refine⟨H++[.cells [.N,.I n] 89 .fix],aV hn hm ?_,Fr.app _ _ _,⟨⟨.N,λ_=>False,by simp,Row.Ws.mpr (λb hb=>hb.elim),id,λb hb=>hb.elim⟩,⟨aS1 _,by simp⟩,λb hb=>hb.2,⟨by simp,h.2⟩,by simp⟩⟩
 rw[aRi];simp -implicitDefEqProofs only[gsB,b_lss,b_gtr,e1,e2,r_opt,r_ret,ob_some,r_gdff,r_gdff2,pick_f,iteV_false,bL,x_newB,oneOf_one];rfl
theorem zU (hv:Value)(room:Nat){a:Nat}(h:H[a]? =some (.cells [hv,.I room] 89 .fix)):ld1 (.Q a 0) H=some (hv,H):=by rw[fJ,h];rfl
theorem aRo (hv:Value)(room:Nat){a:Nat}(h:H[a]? =some (.cells [hv,.I room] 89 .fix)):ld1 (.Q a 1) H=some (.I room,H):=by rw[fJ,h];rfl
section
variable {a room : Nat} {bss : List (List UInt8)} {F : Nat → Prop}
theorem aRm (hn:pr (.func 53)=none)(h:IsLink H a bss room F)(hm:0<m)(i:Int)(hi:i<0∨(bss.length:Int)<=i):
  lvl prog pr m (.func 53) [.Q a 0,.I i] H=some (.tuple #[.N,.bool false],H):=by
 obtain⟨v,G,h1,h2,h3,h4⟩:=h.ex;have l0:=zU v room h1;have hl:=h2.yY;refine aV hn hm ?_;rw[R6];by_cases h0:i<0
 ·have e1:decide (i<0)=true:=aTG h0
  simp -implicitDefEqProofs only[gsB,b_lss,e1,r_opt,r_ret,ob_some,r_gdtf,r_gdtf2,r_gdu,r_gdu2,pick_t,iteV_true,oneOf_two]
 ·have e1:decide (i<0)=false:=aTH h0
  have e2:decide ((bss.length:Int)<=i)=true:=aTG U
  simp -implicitDefEqProofs only[gsB,b_lss,b_geq,e1,e2,r_nil,r_fAddr,aTh,l0,hl,r_opt,r_ret,ob_some,r_gdff,r_gdff2,pick_f,iteV_true,oneOf_two]
theorem aRn (hn:pr (.func 53)=none)(h:IsLink H a bss room F)(hm:0<m)(i:Nat){bs:List UInt8}(hi:bss[i]? =some bs):
  ∃u,lvl prog pr m (.func 53) [.Q a 0,.I i] H=some (.tuple #[u,.bool true],H)/\Bo 5 H u bs/\ ∀b,mM u b->F b:=by
 obtain⟨v,G,h1,h2,h3,h4⟩:=h.ex;have l0:=zU v room h1;have hl:=h2.yY;have hlt:=(aSW.mp hi).1;obtain⟨u,p,g1,g2,g3,g4,g5⟩:=h2.Ky hi .i64;have g6:=λb hb=>h4 b (g5 b hb)
 have e1:decide ((i:Int)<0)=false:=aTH U
 have e2:decide ((bss.length:Int)<=i)=false:=aTH U
 refine⟨u,aV hn hm ?_,g4,g6⟩;rw[R6];simp -implicitDefEqProofs only[gsB,b_lss,b_geq,e1,e2,r_nil,r_fAddr,aTh,l0,hl,r_opt,r_ret,ob_some,r_gdff,r_gdff2,pick_f,iteV_false,oneOf_two,g1,g3 H rfl]
def vL (room:Nat)(bss:List (List UInt8))(bs:List UInt8):List (List UInt8):=if bss.length=room then bss else bss++[bs]
theorem aDr (hn:pr (.func 52)=none)(hc:pr (.func 39)=none)(h:IsLink H a bss room F)(hm:100<=m){u:Value}{bs:List UInt8}(hb:Br H u bs)(hl:bs.length<=100000):
  ∃H',lvl prog pr m (.func 52) [.Q a 0,u] H=some (.bool (decide (bss.length<room)),H')/\Fr F H H'/\IsLink H' a (vL room bss bs) room (Up F H H'):=by
 obtain⟨v,G,h1,h2,h3,h4⟩:=h.ex;have l0:=zU v room h1;have l1:=aRo v room h1;have hlen:=h2.yY;by_cases hf:bss.length=room
 ·have e1:((bss.length:Int)==(room:Int))=true:=by simp[hf]
  refine⟨H,aV hn U ?_,Fr.dY _ _,?_⟩
  ·rw[aDp]
   have e2:decide (bss.length<room)=false:=aTH U
   simp -implicitDefEqProofs only[gsB,r_nil,r_fAddr,aTh,l0,l1,hlen,b_eql,e1,e2,r_opt,ob_some,ifB_true,iteV_true,oneOf_one]
  ·unfold vL
   rw[if_pos hf];exact h.aRk (λb hb=> .inl hb) λb hb=>hb.elim (h.lt b) λhx=>hx.2
 ·have hlt:bss.length<room:=by
   have:=h.few.1;omega
  have e1:((bss.length:Int)==(room:Int))=false:=by simp;omega
  have e2:decide (bss.length<room)=true:=aTG hlt;obtain⟨u',H1,c1,c2,c3,c4⟩:=aDq hc hb U (m:=m-1) U
  have ha:=h.lt a h.at_;have h1':H1[a]? =some (.cells [v,.I room] 89 .fix):=by rw[c2.2 a ha id,h1]
  have h2':sM H1 v bss G:=h2.D7 (λb hb=>c2.2 b (h2.uL b hb) id) c2.1
  have l0':=zU v room h1';have hck:chk (ld1 (.Q a 0) H1) v=true:=by
   rw[l0'];obtain⟨us,hi⟩:=h2';obtain⟨_,⟨rfl,_⟩|⟨c,cap,rest,rfl,_⟩⟩:=hi.row<;>simp[chk,veq]
  obtain⟨w,H2,v',H3,g1,g2,g3,g4,g5⟩:=h2'.Wu neRU c3 (λb hl hF=>by have:=c4 b hl;have:=h2.uL b hF;omega) (by':=24) (aDs (by have:=h.few;omega)) (.N)
  have hH3:H3[a]? =some (.cells [v,.I room] 89 .fix):=by rw[g5.2 a (by have:=c2.1;omega) h3,h1']
  have hlt3:=(aSW.mp hH3).1;have hst:stN 1 (.Q a 0) v' H3=some (undef,H3.set a (.cells [v',.I room] 89 .fix)):=by
   obtain⟨us,hi⟩:=g4;obtain⟨_,⟨rfl,_⟩|⟨c,cap,rest,rfl,_⟩⟩:=hi.row<;>rw[iI 1 a 0 _ rfl,hH3]<;>rfl
  refine⟨H3.set a (.cells [v',.I room] 89 .fix),aV hn U ?_,⟨by have:=c2.1;have:=g5.1;simp;omega,λb hb hF=> ?_⟩,?_⟩
  ·rw[aDp]
   simp -implicitDefEqProofs only[gsB,r_nil,r_fAddr,aTh,l0,l1,hlen,b_eql,e1,e2,r_opt,ob_some,ifB_true,iteV_false,oneOf_one,c1,hck,Bool.and_true,g1,g3,hst]
  ·rw[kX (λhx=>hF (by rw[hx];exact h.at_)),g5.2 b (by have:=c2.1;omega) (λhx=>hF (h4 b hx)),c2.2 b hb id]
  ·unfold vL
   rw[if_neg hf];have hna: ¬Up (λb=>G b∨mM u' b) H1 H3 a:=by
    rintro ((hx|hx)|hx)
    ·exact h3 hx
    ·have:=c4 a hx
     omega
    ·have:=c2.1
     omega
   refine⟨⟨v',Up (λb=>G b∨mM u' b) H1 H3,by rw[aS2 hlt3],g4.D7 (λb hb=>kX λhx=>hna (by rw[<-hx];exact hb)) (by simp),hna,λb hb=> ?_⟩,.inl h.at_,λb hb=> ?_,⟨by simp;omega,h.few.2⟩,?_⟩
   ·rcases hb with(hx|hx)|hx
    ·exact .inl (h4 b hx)
    ·exact .inr ⟨c4 b hx,by have:=g4.uL b (.inl (.inr hx));simpa using this⟩
    ·exact .inr ⟨by have:=c2.1;omega,by simpa using hx.2⟩
   ·rcases hb with hb|hb
    ·have:=h.lt b hb
     have:=c2.1;have:=g5.1;simp;omega
    ·exact hb.2
   ·intro x hx
    rcases List.mem_append.mp hx with hx|hx
    ·exact h.small x hx
    ·rw[List.mem_singleton] at hx
     subst hx;exact hl
end
end
section
variable {pr : eI} {H : aG} {m : Nat}
theorem aRs (hn:pr (.func 54)=none)(hm:0<m){v:Value}{n:Nat}{cs:List Value}(h:RowC 22 1 H v n cs){i:Nat}(hi:i<n)(hall:cA cs=true):
  ∃v' H',lvl prog pr m (.func 54) [v,.I i,.I (i+1:Nat)] H=some (v',H')/\RowC 22 1 H' v' (n-1) (cs.eraseIdx i)/\(∀b,aS v' b->aS v b)/\H'.length=H.length/\ ∀b,¬aS v b->H'[b]? =H[b]? :=by
 obtain⟨hcs,⟨rfl,h0⟩|⟨c,cap,rest,rfl,hcap,hrest,hb⟩⟩:=h
 ·omega
 rw[Nat.mul_one] at hcs hrest;have hlt:=(aSW.mp hb).1;obtain⟨k,hk⟩: ∃k,n=i+1+k:=⟨n-(i+1),by omega⟩
 obtain⟨y,hy⟩: ∃y,(cs.drop i).drop k=[y]:=by
  have:((cs.drop i).drop k).length=1:=by simp;omega
  exact List.length_eq_one_iff.mp this
 have hsplit:cs++rest=cs.take i++(cs.drop i).take k++(y::rest):=by
  have h1:=List.take_append_drop i cs;have h2:=List.take_append_drop k (cs.drop i);rw[hy] at h2;rw[aS3,show y::rest=[y]++rest from rfl,<-aS3 (List.take k _),h2,<-aS3,h1]
 have hb':=hb;rw[hsplit] at hb';have hv1:=oN (P:=prog) (H:=H) (o:=0) (sz:=1) hb (λ_=>Ib) (len:=n) (cap:=cap) (iA 0 .i64 i) (iA n .i64 (i+1)) (iA cap .i64 n) U U hcap
 have hv4:=oN (P:=prog) (H:=H) (o:=0) (sz:=1) hb (λ_=>Ib) (len:=n) (cap:=cap) (lo:=none) (mx:=none) rfl (iA n .i64 i) rfl U U (aS1 _)
 have hv5:=oN (P:=prog) (H:=H) (o:=0) (sz:=1) hb (λ_=>Ib) (len:=n) (cap:=cap) (hi:=none) (mx:=none) (iA 0 .i64 (i+1)) rfl rfl U hcap (aS1 _)
 simp only[Nat.zero_mul,Nat.mul_one,aTh,Nat.add_zero,Nat.sub_zero] at hv1 hv4 hv5;have hnk:n-(i+1)=k:=U
 rw[hnk] at hv5;have hsrc:dW 1 (.slice (some ⟨c,i+1,none⟩) k (cap-(i+1))) k H=some (cs.drop (i+1)):=by
  unfold dW;by_cases h0:k=0
  ·have:cs.drop (i+1)=[]:=by apply List.drop_eq_nil_of_le;omega
   simp[h0,this]
  ·simp only
   rw[if_neg h0,hb];simp only;rw[if_pos ⟨aS1 _,by simp;omega⟩,Nat.mul_one,List.drop_append_of_le_length U,List.take_append_of_le_length (by simp;omega),List.take_of_length_le (by simp;omega)]
 have hall':cA (cs.drop (i+1))=true:=by
  unfold cA at hall⊢;rw[aTB] at hall⊢;exact λx hx=>hall x (List.mem_of_mem_drop hx)
 have happ:=aHp (by':=24) (w:= .slice (some ⟨c,i+1,none⟩) k (cap-(i+1))) (sz:=1) (n:=i) (k:=k) (cap:=cap) hb' (by simp;omega) (by simp;omega) rfl hsrc U hall'
 obtain⟨H1,hH1⟩:=aD (H.set c (.cells (cs.take i++cs.drop (i+1)++(y::rest)) 22 .row));rw[<-hH1] at happ;have hb1:H1[c]? =some (.cells (cs.take i++cs.drop (i+1)++(y::rest)) 22 .row):=by rw[hH1,aS2 hlt]
 have hv8:=oN (P:=prog) (H:=H1) (o:=0) (sz:=1) hb1 (λ_=>Ib) (len:=i+k) (cap:=cap) (mx:=none) (iA 0 .i64 (i+k)) (iA (i+k) .i64 n) rfl U hcap (aS1 _)
 simp only[Nat.mul_one,aTh] at hv8;have hn1:n-(i+k)=1:=U
 rw[hn1] at hv8;have hplen:(cs.take i++cs.drop (i+1)).length=i+k:=by simp;omega
 have hclr:clr 1 [.N] (.slice (some ⟨c,i+k,none⟩) 1 (cap-(i+k))) H1=some (.tuple #[],H1.set c (.cells (cs.take i++cs.drop (i+1)++(.N::rest)) 22 .row)):=by
  have:=rR [.N] [y] (cs.take i++cs.drop (i+1)) rest rfl;rw[hplen] at this;unfold clr;simp only;rw[if_neg aC,hb1]
  simp only;rw[if_pos ⟨by decide,by rw[aS8,hplen];simp,rfl,rfl⟩]
  simp only[List.replicate,aTw,List.flatten_nil,List.append_nil];rw[show y::rest=[y]++rest from rfl,<-aS3,this]
  simp
 have e1:((i:Int)==((i+1:Nat):Int))=false:=by simp;omega
 refine⟨.slice (some ⟨c,0,none⟩) (i+k) cap,H1.set c (.cells (cs.take i++cs.drop (i+1)++(.N::rest)) 22 .row),aV hn hm ?_,⟨?_,.inr ⟨c,cap,.N::rest,by congr 1;omega,by omega,by simp;omega,?_⟩⟩,?_,by rw[hH1];simp,?_⟩
 ·rw[aRj]
  simp -implicitDefEqProofs only[gsB,sY,hv1,hv4,hv5,hv8,happ,hclr,b_eql,e1,r_opt,ob_some,ifB_true,iteV_false,oneOf_one]
 ·rw[List.eraseIdx_eq_take_drop_succ,hplen];omega
 ·rw[aS2 (by rw[hH1];simpa using hlt),List.eraseIdx_eq_take_drop_succ]
 ·rintro b ⟨o,n',c',hh⟩
  cases hh
  exact⟨0,n,cap,rfl⟩
 ·intro b hh
  have hne:b≠c:=λhx=>hh ⟨0,n,cap,by rw[hx]⟩
  rw[kX hne,hH1,kX hne]
section
variable {a room : Nat} {bss : List (List UInt8)} {F : Nat → Prop}
theorem aRt (hn:pr (.func 28)=none)(ha:pr (.func 53)=none)(h:IsLink H a bss room F)(hm:100<=m)(i:Int)(hi:i<0∨(bss.length:Int)<=i):
  lvl prog pr m (.func 28) [.Q a 0,.I i] H=some (.tuple #[.N,.bool false],H):=by
 have g:=aRm ha h (m:=m-1) U i hi
 refine aV hn U ?_
 rw[aDn];simp -implicitDefEqProofs only[gsB,g,r_opt,ob_some,ext_0,ext_1,iteV_false,oneOf_two]
theorem aRu (hn:pr (.func 30)=none)(ha:pr (.func 53)=none)(hs:pr (.func 52)=none)(hc:pr (.func 39)=none)(h:IsLink H a bss room F)(hm:200<=m)(i:Nat){bs:List UInt8}(hi:bss[i]? =some bs):
  ∃H',lvl prog pr m (.func 30) [.Q a 0,.I i] H=some (.bool (decide (bss.length<room)),H')/\Fr F H H'/\IsLink H' a (vL room bss bs) room (Up F H H'):=by
 obtain⟨u,g1,g2,g3⟩:=aRn ha h (m:=m-1) U i hi
 obtain⟨H',c1,c2,c3⟩:=aDr hs hc h (m:=m-1) U g2.Wm (h.small _ (aS6 hi))
 refine⟨H',aV hn U ?_,c2,c3⟩
 rw[aRh];simp -implicitDefEqProofs only[gsB,g1,c1,r_opt,r_ret,ob_some,ext_0,ext_1,r_gdt,r_gdt2,pick_t,oneOf_one]
theorem aDu (hn:pr (.func 28)=none)(ha:pr (.func 53)=none)(hd:pr (.func 54)=none)(h:IsLink H a bss room F)(hm:100<=m)(i:Nat){bs:List UInt8}(hi:bss[i]? =some bs):
  ∃u H',lvl prog pr m (.func 28) [.Q a 0,.I i] H=some (.tuple #[u,.bool true],H')/\Fr F H H'/\IsLink H' a (bss.eraseIdx i) room F/\Bo 5 H' u bs/\H'.length=H.length/\ ∀c,mM u c->F c:=by
 obtain⟨v,G,h1,h2,h3,h4⟩:=h.ex;obtain⟨us,hr⟩:=h2;have hlt:i<us.length:=by
  have:=(aSW.mp hi).1;have:=hr.len;omega
 have hu:us[i]? =some us[i]:=aSY hlt;obtain⟨p,k1,k2,k3⟩:=hr.row.Wn i .i64 hlt;have k3':=k3 H rfl 0 aC
 simp only[Nat.mul_one,Nat.add_zero] at k1 k3';rw[hu,sZ] at k3';have l0:=zU v room h1;have hlen:=hr.row.Kv;have e1:decide ((i:Int)<0)=false:=aTH U
 have e2:decide ((us.length:Int)<=i)=false:=aTH U
 have g:lvl prog pr (m-1) (.func 53) [.Q a 0,.I i] H=some (.tuple #[us[i],.bool true],H):=by
  refine aV ha U ?_
  rw[R6];simp -implicitDefEqProofs only[gsB,b_lss,b_geq,e1,e2,r_nil,r_fAddr,aTh,l0,hlen,r_opt,r_ret,ob_some,r_gdff,r_gdff2,pick_f,iteV_false,oneOf_two,k1,k3']
 have hall:cA us=true:=by
  unfold cA;rw[aTB];intro x hx;obtain⟨j,hj⟩:=List.getElem?_of_mem hx;have hjl:=(aSW.mp hj).1;have:=hr.len;have:=(hr.bo j x bss[j] hj (aSY U)).Kx
  simpa[cA] using this
 obtain⟨v',H',d1,d2,d3,d4,d5⟩:=aRs hd (m:=m-1) U hr.row hlt hall
 have hna: ¬aS v a:=λhh=>h3 (hr.hv a hh)
 have hwrap:IntKind.i64.wrap ((i:Int)+1)=((i+1:Nat):Int):=by
  have:=h.few;have:=hr.len;rw[bJ U U]
  omega
 have hH':H'[a]? =some (.cells [v,.I room] 89 .fix):=by rw[d5 a hna,h1]
 have hst:stN 1 (.Q a 0) v' H'=some (undef,H'.set a (.cells [v',.I room] 89 .fix)):=by
  obtain⟨_,⟨rfl,_⟩|⟨c,cap,rest,rfl,_⟩⟩:=d2<;>rw[iI 1 a 0 _ rfl,hH']<;>rfl
 have hr':RowI 22 5 H' v' (us.eraseIdx i) (bss.eraseIdx i) G:=by
  refine hr.aHo neRU (by rw[List.length_eraseIdx_of_lt hlt];exact d2) ?_ d4 d3 d5 (List.eraseIdx_sublist _ _) λj u bs hu hb=> ?_
  ·have:=hr.len
   rw[List.length_eraseIdx_of_lt hlt,List.length_eraseIdx_of_lt U]
   omega
  ·rw[List.getElem?_eraseIdx] at hu hb
   by_cases hj:j<i
   ·rw[if_pos hj] at hu hb
    exact⟨j,hu,hb⟩
   ·rw[if_neg hj] at hu hb
    exact⟨j+1,hu,hb⟩
 have keep: ∀b,b≠a->(H'.set a (.cells [v',.I room] 89 .fix))[b]? =H'[b]? :=λb hb=>kX hb
 have hGa: ∀b,G b->b≠a:=λb hb hx=>h3 (by rw[<-hx];exact hb)
 refine⟨us[i],H'.set a (.cells [v',.I room] 89 .fix),aV hn U ?_,⟨by simp;omega,λb hb hF=> ?_⟩,⟨⟨v',G,?_,⟨_,hr'.Wv (λb hb=>keep b (hGa b hb)) (by simp)⟩,h3,h4⟩,h.at_,?_,⟨?_,h.few.2⟩,λx hx=>h.small x (List.mem_of_mem_eraseIdx hx)⟩,?_,by simp[d4],λc hc=>h4 c (hr.hu _ (List.getElem_mem hlt) c hc)⟩
 ·rw[aDn]
  simp -implicitDefEqProofs only[gsB,g,r_opt,ob_some,ext_0,ext_1,iteV_true,oneOf_two,r_nil,r_fAddr,aTh,l0,aT,hwrap,d1,hst]
 ·rw[keep b (λhx=>hF (by rw[hx];exact h.at_)),d5 b (λhh=>hF (h4 b (hr.hv b hh)))]
 ·exact aS2 (aSW.mp hH').1
 ·intro b hb
  simp[d4];exact h.lt b hb
 ·have:=h.few.1
  have:=(aSW.mp hi).1;rw[List.length_eraseIdx_of_lt this];omega
 ·have hm:=List.getElem_mem hlt
  refine(hr.bo i _ bs hu hi).yX λb hl=> ?_
  rw[keep b (hGa b (hr.hu _ hm b hl)),d5 b λhh=>hr.Kz neRU hh hm hl]
end
section
variable (H0 : aG) (w : Value) (bss : List (List UInt8)) (G : Nat → Prop)
theorem aRr (hc:pr (.func 39)=none)(h2:sM H0 w bss G)(hl:bss.length<=100000)(hsm: ∀bs∈bss,bs.length<=100000): ∀(r i k:Nat)(H:aG)(o:Value),bss.length-i=r->i<=bss.length->r<k->0<m->Ext H0 H->sM H o (bss.take i) (Nw H0 H)-> ∀(x2:Value),
  ∃v H',aL k (aO prog (lvl prog pr m) (aL m) R4) (R5 (lvl prog pr m) (aL m)) (aF 2 (x2::o::aF 5 (w::some (.I (bss.length:Nat))::some (.I (i:Nat))::aF 10 []))) H=some (v,H')/\Ext H0 H'/\sM H' v bss (Nw H0 H'):=by
 intro r;induction r with
 |zero=>
  intro i k H o hr hi hk hm hE hO;intros;obtain⟨k,rfl⟩:=aB k U
  obtain rfl:i=bss.length:=U
  have e:decide ((bss.length:Int)<bss.length)=false:=by simp
  refine⟨o,H,?_,hE,by rw[List.take_length] at hO;exact hO⟩
  rw[bS,aDm];simp -implicitDefEqProofs only[gsB,b_lss,e,r_opt,ob_some,iteV_false,again_exit];rw[aRf];simp -implicitDefEqProofs only[gsB,oneOf_one]
 |succ r ih=>
  intro i k H o hr hi hk hm hE hO;intros;obtain⟨k,rfl⟩:=aB k U
  have e:decide ((i:Int)<bss.length)=true:=by simp;omega
  have hb:bss[i]? =some bss[i]:=aSY U
  obtain⟨u,p,g1,g2,g3,g4,g5⟩:=h2.Ky hb .i64;have hld:=g3 H (hE.2 p (h2.uL p g2) id);have hub:Br H u bss[i]:=g4.Wm.aHg λb hl=>hE.2 b (h2.uL b (g5 b hl)) id
  obtain⟨u',H1,c1,c2,c3,c4⟩:=aDq hc hub (by have:=hsm _ (List.getElem_mem (show i<bss.length by omega));omega) hm
  have hO1:sM H1 o (bss.take i) (Nw H0 H):=hO.D7 (λb hb=>c2.2 b hb.2 id) c2.1
  have htl:(bss.take i).length=i:=by simp;omega
  obtain⟨w',H2,v',H3,p1,p2,p3,p4,p5⟩:=hO1.Wu neRU c3 (λb hl hF=>by have:=c4 b hl;have:=hF.2;omega) (by':=24) (aDs (by rw[htl];omega)) (.N)
  have e3:=aA (i:=i) U
  have hE3:Ext H0 H3:=⟨by have:=hE.1;have:=c2.1;have:=p5.1;omega,λb hb _=>by
   rw[p5.2 b (by have:=hE.1;have:=c2.1;omega) (λhx=>by have:=hx.1;omega),c2.2 b (by have:=hE.1;omega) id,hE.2 b hb id]⟩
  have htk:bss.take i++[bss[i]]=bss.take (i+1):=by rw[List.take_add_one,hb];rfl
  rw[htk] at p4;have hO3:sM H3 v' (bss.take (i+1)) (Nw H0 H3):=p4.aHn (λb hb=>by
   have h1:=hE.1;have h2:=c2.1;have h3:=p5.1;rcases hb with(hb|hb)|hb
   ·exact⟨hb.1,by have:=hb.2;omega⟩
   ·obtain⟨cs,hcs⟩:=c3.Kt b hb
    have:=(aSW.mp hcs).1
    exact⟨by have:=c4 b hb;omega,by omega⟩
   ·exact⟨by have:=hb.1;omega,hb.2⟩) (λb hb=>hb.2)
  rw[bS,aDm];simp -implicitDefEqProofs only[gsB,b_lss,e,r_opt,ob_some,iteV_true,g1,hld,c1,p1,p3,aT,e3,again_normal];exact ih (i+1) k H3 v' U U U hm hE3 hO3 ..
end
theorem aDt {a room:Nat}{bss:List (List UInt8)}{F:Nat->Prop}(hn:pr (.func 15)=none)(hc:pr (.func 39)=none)(h:IsLink H a bss room F)(hm:100<=m):
  ∃v H',lvl prog pr m (.func 15) [.Q a 0] H=some (v,H')/\Ext H H'/\sM H' v bss (Nw H H'):=by
 obtain⟨v,G,h1,h2,h3,h4⟩:=h.ex;have l0:=zU v room h1;have hlen:=h2.yY;have hf:=h.few;obtain⟨v',H',g1,g2,g3⟩:=aRr (pr:=pr) (m:=m-1) H v bss G hc h2 U h.small bss.length 0 (m-1) H (.N) U U U U (Fr.dY _ _) (Row.Ws.mpr λb hb=>hb.2)
  (.N)
 refine⟨v',H',aV hn U ?_,g2,g3⟩
 rw[aRg];simp -implicitDefEqProofs only[gsB,r_nil,r_fAddr,aTh,l0,hlen,r_opt,ob_some];exact g1
end
end Go.Proofs.YtciiopkbmjppfaaGreatDoor.Lk
namespace Go.Proofs.YtciiopkbmjppfaaGreatDoor
open Go.Proofs.Tryz
open Go.Abs Go.Abs.M
open Classical
def nG (p:PlanD)(ev wv nv hv ns:Value)(mb k:Nat):List Value:=plC p ev wv nv++[hv,ns,.map (some mb),.I (k:Nat)]
structure FL where
 fb:Nat
 hv:Value
 ns:Value
 mb:Nat
 y:Nat->Lay
 lb:Nat->Nat
inductive FP where
 |nd (v:Nat)|lk (h:Nat)|fb|cs
def bH (p:PlanD):FC:=⟨cP p,p.nodes.toNat,aZ p,p.bag.toNat⟩
def lkF (p:PlanD)(a:FL)(j:Nat)(e:Ed):Option Value:=if(aZ p).idxOf e<j then some (pt (a.lb ((aZ p).idxOf e))) else none
structure OwnF (H0 H:aG)(O:FP->Nat->Prop):Prop where
 dis: ∀i j b,O i b->O j b->i=j
 lt: ∀i b,O i b->b<H.length
 old: ∀i b,O i b->H0.length<=b
 ext:Ext H0 H
structure FCst (H:aG)(O:FP->Nat->Prop)(a:FL)(p:PlanD)(ev wv nv:Value)(k n j:Nat):Prop where
 fab:H[a.fb]? =some (.cells (nG p ev wv nv a.hv a.ns a.mb k) 87 .fix)
 fabO:O .fb a.fb
 hops:Hw H a.hv (aZ p)
 hopsO: ∀b,aS a.hv b->O .cs b
 nds:Rw ptC 72 1 H a.ns ((List.range n).map λv=>some ⟨(a.y v).nb,0,none⟩)
 ndsO: ∀b,aS a.ns b->O .cs b
 mp:IsMap edV H a.mb (lkF p a j)
 mpO:O .cs a.mb
structure FabG (H0 H:aG)(O:FP->Nat->Prop)(a:FL)(F:Nat->Part->Nat->Prop)(p:PlanD)(ev wv nv:Value)(t:Nat)(s:FS)(n j:Nat):Prop where
 ok:eC p=true
 pv:PV H0 p ev wv nv
 own:OwnF H0 H O
 cst:FCst H O a p ev wv nv s.k n j
 node: ∀v,v<n->NodeAt H0 H (F v) (a.y v) p ev wv nv (cP p v) t (s.n v)
 nodeO: ∀v,v<n-> ∀b,Un (F v) b->O (.nd v) b
 link: ∀h,h<j->Lk.IsLink H (a.lb h) (s.l h) p.bag.toNat (O (.lk h))
abbrev cX (H0 H:aG)(O:FP->Nat->Prop)(a:FL)(F:Nat->Part->Nat->Prop)(p:PlanD)(ev wv nv:Value)(t:Nat)(s:FS):Prop:=FabG H0 H O a F p ev wv nv t s p.nodes.toNat (aZ p).length
section
variable {H0 H H' : aG} {O : FP → Nat → Prop} {a : FL} {F : Nat → Part → Nat → Prop} {p : PlanD} {ev wv nv : Value} {t : Nat} {s : FS} {m : Nat}
theorem OwnF.Cr (h:OwnF H0 H O)(i:FP){X X':Nat->Prop}(hX: ∀b,X b->O i b)(hm:Mv X X' H H')(hl: ∀b,X' b->b<H'.length):
  OwnF H0 H' (updI O i X')/\ ∀j,j≠i-> ∀b,O j b-> ¬X b/\H'[b]? =H[b]? :=by
 have key: ∀j,j≠i-> ∀b,O j b-> ¬X b:=λj hj b hb hx=>hj (h.dis j i b hb (hX b hx))
 have k2: ∀j,j≠i-> ∀b,O j b-> ¬X' b:=λj hj b hb hx=>(hm.own b hx).elim (key j hj b hb) λhl=>by have:=h.lt j b hb;omega
 refine⟨⟨λj k b hj hk=> ?_,λj b hj=> ?_,λj b hj=> ?_,⟨aTc h.ext.1 hm.le,λb hb _=> ?_⟩⟩,λj hj b hb=>⟨key j hj b hb,hm.keep b (h.lt j b hb) (key j hj b hb)⟩⟩
 ·by_cases hji:j=i
  ·by_cases hki:k=i
   ·rw[hji,hki]
   ·rw[hji,eV] at hj
    rw[cL _ _ hki] at hk;exact absurd hj (k2 k hki b hk)
  ·rw[cL _ _ hji] at hj
   by_cases hki:k=i
   ·rw[hki,eV] at hk
    exact absurd hk (k2 j hji b hj)
   ·rw[cL _ _ hki] at hk
    exact h.dis j k b hj hk
 ·by_cases hji:j=i
  ·rw[hji,eV] at hj
   exact hl b hj
  ·rw[cL _ _ hji] at hj
   exact aTb (h.lt j b hj) hm.le
 ·by_cases hji:j=i
  ·rw[hji,eV] at hj
   exact(hm.own b hj).elim (λhx=>h.old i b (hX b hx)) λhl=>aTc h.ext.1 hl
  ·rw[cL _ _ hji] at hj
   exact h.old j b hj
 ·rw[hm.keep b (aTb hb h.ext.1) (λhx=>by have:=h.old i b (hX b hx);omega),h.ext.2 b hb id]
theorem FCst.R7 {O':FP->Nat->Prop}{k n j:Nat}(h:FCst H O a p ev wv nv k n j)(h1: ∀b,O .fb b->H'[b]? =H[b]? /\O' .fb b)(h2: ∀b,O .cs b->H'[b]? =H[b]? /\O' .cs b):FCst H' O' a p ev wv nv k n j where
 fab:=by rw[(h1 _ h.fabO).1,h.fab]
 fabO:=(h1 _ h.fabO).2
 hops:=h.hops.cZ λb hb=>(h2 b (h.hopsO b hb)).1
 hopsO:=λb hb=>(h2 b (h.hopsO b hb)).2
 nds:=h.nds.cZ λb hb=>(h2 b (h.ndsO b hb)).1
 ndsO:=λb hb=>(h2 b (h.ndsO b hb)).2
 mp:=h.mp.wX (h2 _ h.mpO).1
 mpO:=(h2 _ h.mpO).2
theorem NodeAt.R8 {F:Part->Nat->Prop}{y:Lay}{c:Cfg}{t t':Nat}{s:NS}(h:NodeAt H0 H F y p ev wv nv c t s)(ht:t<=t'):NodeAt H0 H F y p ev wv nv c t' s:={h with inv:=h.inv.pU ht}
theorem FabG.nd (h:cX H0 H O a F p ev wv nv t s){v:Nat}(hv:v<p.nodes.toNat){F':Part->Nat->Prop}{t':Nat}{s':NS}(ht:t<=t')(hn:NodeAt H0 H' F' (a.y v) p ev wv nv (cP p v) t' s')(hm:Mv (Un (F v)) (Un F') H H'):
  cX H0 H' (updI O (.nd v) (Un F')) a (up1 F v F') p ev wv nv t' {s with n:=up1 s.n v s'}:=by
 obtain⟨h1,h2⟩:=h.own.Cr (.nd v) (h.nodeO v hv) hm hn.sep.nU;have hk: ∀j,j≠ .nd v-> ∀b,O j b->H'[b]? =H[b]? /\updI O (.nd v) (Un F') j b:=λj hj b hb=>⟨(h2 j hj b hb).2,by rw[cL _ _ hj];exact hb⟩
 refine⟨h.ok,h.pv,h1,h.cst.R7 (hk _ (by simp)) (hk _ (by simp)),λw hw=> ?_,λw hw b hb=> ?_,λk hk'=> ?_⟩
 ·by_cases hwv:w=v
  ·subst hwv
   simp only[up1,if_pos];exact hn
  ·have hne:FP.nd w≠ .nd v:=λhh=>hwv (by injection hh)
   simp only[up1,if_neg hwv]
   exact(NodeAt.aCS (h.node w hw) h1.ext hm λb hb=>(h2 _ hne b (h.nodeO w hw b hb)).1).1.R8 ht
 ·by_cases hwv:w=v
  ·subst hwv
   rw[eV];simpa only[up1,if_pos] using hb
  ·simp only[up1,if_neg hwv] at hb
   rw[cL _ _ λhh=>hwv (by injection hh)]
   exact h.nodeO w hw b hb
 ·rw[cL _ _ (by simp)]
  exact(h.link k hk').zT (λb hb=>(h2 (.lk k) (by simp) b hb).2) hm.le
theorem FabG.lk (h:cX H0 H O a F p ev wv nv t s){k:Nat}(hk:k<(aZ p).length){G':Nat->Prop}{l':List (List UInt8)}(hl:Lk.IsLink H' (a.lb k) l' p.bag.toNat G')(hm:Mv (O (.lk k)) G' H H'):
  cX H0 H' (updI O (.lk k) G') a F p ev wv nv t {s with l:=up1 s.l k l'}:=by
 obtain⟨h1,h2⟩:=h.own.Cr (.lk k) (λ_ hb=>hb) hm hl.lt
 have hkk: ∀j,j≠ .lk k-> ∀b,O j b->H'[b]? =H[b]? /\updI O (.lk k) G' j b:=λj hj b hb=>⟨(h2 j hj b hb).2,by rw[cL _ _ hj];exact hb⟩
 refine⟨h.ok,h.pv,h1,h.cst.R7 (hkk _ (by simp)) (hkk _ (by simp)),λw hw=> ?_,λw hw b hb=> ?_,λj hj=> ?_⟩
 ·exact(NodeAt.aCS (h.node w hw) h1.ext hm λb hb=>(h2 (.nd w) (by simp) b (h.nodeO w hw b hb)).1).1
 ·rw[cL _ _ (by simp)]
  exact h.nodeO w hw b hb
 ·by_cases hjk:j=k
  ·subst hjk
   simp only[up1,if_pos];rw[eV];exact hl
  ·have hne:FP.lk j≠ .lk k:=λhh=>hjk (by injection hh)
   simp only[up1,if_neg hjk];rw[cL _ _ hne]
   exact(h.link j hj).zT (λb hb=>(h2 _ hne b hb).2) hm.le
theorem FabG.aDv {n j:Nat}(h:FabG H0 H O a F p ev wv nv t s n j)(hl:H.length<=H'.length)(hk: ∀i b,O i b->H'[b]? =H[b]?)(he:Ext H0 H'):FabG H0 H' O a F p ev wv nv t s n j:=by
 refine⟨h.ok,h.pv,⟨h.own.dis,λi b hb=>aTb (h.own.lt i b hb) hl,h.own.old,he⟩,h.cst.R7 (λb hb=>⟨hk _ b hb,hb⟩) (λb hb=>⟨hk _ b hb,hb⟩),λw hw=> ?_,h.nodeO,λj hj=>(h.link j hj).zT (λb hb=>hk _ b hb) hl⟩
 have hn:=h.node w hw;exact {hn with ext:=he,sep:=⟨λi=>(hn.sep.own i).Ea (tK _ _ _ _ _ _ _ i) hl λb hb=>hk _ b (h.nodeO w hw b ⟨i,hb⟩),hn.sep.sep⟩}
theorem FabG.dC {n j:Nat}(h:FabG H0 H O a F p ev wv nv t s n j)(he:Ext H H'):FabG H0 H' O a F p ev wv nv t s n j:=
 h.aDv he.1 (λi b hb=>he.2 b (h.own.lt i b hb) id) (h.own.ext.tr he)
theorem FabG.aRv (h:cX H0 H O a F p ev wv nv t s):stN 1 (.Q a.fb 14) (.I (s.k+1:Nat)) H=some (undef,H.set a.fb (.cells (nG p ev wv nv a.hv a.ns a.mb (s.k+1)) 87 .fix))/\
  cX H0 (H.set a.fb (.cells (nG p ev wv nv a.hv a.ns a.mb (s.k+1)) 87 .fix)) O a F p ev wv nv t {s with k:=s.k+1}:=by
 have hb:=h.cst.fab;obtain⟨H',hH'⟩: ∃H',H'=H.set a.fb (.cells (nG p ev wv nv a.hv a.ns a.mb (s.k+1)) 87 .fix):=⟨_,rfl⟩;have hst:stN 1 (.Q a.fb 14) (.I (s.k+1:Nat)) H=some (undef,H'):=by rw[hH'];exact iD hb aC (by simp[nG,plC])
 have hk: ∀b,b≠a.fb->H'[b]? =H[b]? :=λb hb=>by rw[hH',aSX (λhh=>hb hh.symm)]
 have hne: ∀j,j≠ .fb-> ∀b,O j b->b≠a.fb:=λj hj b hb hh=>hj (h.own.dis j .fb b hb (by rw[hh];exact h.cst.fabO))
 have hl:H'.length=H.length:=by rw[hH',List.length_set]
 rw[<-hH'];refine⟨hst,⟨h.ok,h.pv,⟨h.own.dis,λi b hb=>by rw[hl];exact h.own.lt i b hb,h.own.old,?_⟩,?_,λw hw=> ?_,h.nodeO,λj hj=>(h.link j hj).zT (λb hb=>hk b (hne _ (by simp) b hb)) U⟩⟩
 ·rw[hH']
  exact jY h.own.ext (h.own.old _ _ h.cst.fabO)
 ·have c:=h.cst
  exact⟨by rw[hH'];exact dN hb,c.fabO,c.hops.cZ λb hb=>hk b (hne _ (by simp) b (c.hopsO b hb)),c.hopsO,c.nds.cZ λb hb=>hk b (hne _ (by simp) b (c.ndsO b hb)),c.ndsO,c.mp.wX (hk _ (hne _ (by simp) _ c.mpO)),c.mpO⟩
 ·have hn:=h.node w hw
  exact {hn with ext:=by rw[hH'];exact jY h.own.ext (h.own.old _ _ h.cst.fabO),sep:=⟨λi=>(hn.sep.own i).Ea (tK _ _ _ _ _ _ _ i) U λb hb=>hk b (hne _ (by simp) b (h.nodeO w hw b ⟨i,hb⟩)),hn.sep.sep⟩}
end
section
variable {H0 H H' : aG} {O : FP → Nat → Prop} {a : FL} {F : Nat → Part → Nat → Prop} {p : PlanD} {ev wv nv : Value} {t : Nat} {s : FS} {m : Nat}
theorem FabG.ld (h:cX H0 H O a F p ev wv nv t s)(j:Nat)(v:Value)(hv:(nG p ev wv nv a.hv a.ns a.mb s.k)[j]? =some v):ld1 (.Q a.fb j) H=some (v,H):=bA h.cst.fab hv
theorem FabG.oY (h:cX H0 H O a F p ev wv nv t s): ∃N,OkP p N/\p.nodes.toNat=N:=by
 obtain⟨N,hN⟩:=qN h.ok
 exact⟨N,hN,by have:=hN.hn;omega⟩
def oZ (p:PlanD)(a:FL)(v:Int):Value:=if 0<=v/\v<p.nodes then pt (a.y v.toNat).nb else .pointer none
def mF (p:PlanD)(a:FL)(h:Int):Value:=if 0<=h/\h<(aZ p).length then pt (a.lb h.toNat) else .pointer none
theorem Cs (h:cX H0 H O a F p ev wv nv t s)(hm:10<m)(v:Int):lvl prog pkN m (.func 31) [pt a.fb,.I v] H=some (oZ p a v,H):=by
 obtain⟨N,hN,hNe⟩:=h.oY;have hn:=hN.hn;have l12:=h.ld 12 a.ns rfl;have hlen:=h.cst.nds.nR;rw[aTa,aTq,hNe] at hlen;have hat:lvl prog pkN (m-1) (.func 65) [a.ns,.I v] H=some (oZ p a v,H):=by
  refine aV (aQ rfl) U ?_
  rw[aQX];unfold oZ;by_cases c1:v<0
  ·have d1:decide (v<0)=true:=aTG c1
   rw[if_neg U]
   simp only[gsR,d1]
  ·have d1:decide (v<0)=false:=aTH c1
   by_cases c2:(N:Int)<=v
   ·have d2:decide ((N:Int)<=v)=true:=aTG c2
    rw[if_neg U]
    simp only[gsR,d1,hlen,d2]
   ·have d2:decide ((N:Int)<=v)=false:=aTH c2
    rw[if_pos U]
    obtain⟨k,rfl⟩: ∃k:Nat,v=k:=⟨v.toNat,by omega⟩
    obtain⟨b,o,g1,_,g3⟩:=h.cst.nds.rs.dS Hv (i:=k) (x:=some ⟨(a.y k).nb,0,none⟩) (by rw[aS9,aTE U];rfl) .i64
    have l1:=(g3 H rfl).2.1 0 _ rfl;rw[Nat.add_zero] at l1;simp only[gsR,d1,hlen,d2,g1,l1,aTo]
 refine aV (aQ rfl) U ?_
 rw[aQT];simp only[gsR,l12,hat]
theorem R9:KeyC (.str [true,true]) edV:=⟨λx y=>by
 obtain⟨x1,x2⟩:=x;obtain⟨y1,y2⟩:=y;simp[edV,edC,fX,eqT,Bool.beq_eq_decide_eq,Bool.decide_and]⟩
theorem tP (h:cX H0 H O a F p ev wv nv t s)(hm:10<m)(k:Int):lvl prog pkN m (.func 14) [pt a.fb,.I k] H=some (mF p a k,H):=by
 have l11:=h.ld 11 a.hv rfl;have l13:=h.ld 13 (.map (some a.mb)) rfl;have hlen:=h.cst.hops.nR;refine aV (aQ rfl) U ?_
 rw[aQI];unfold mF;by_cases c1:k<0
 ·have d1:decide (k<0)=true:=aTG c1
  rw[if_neg U]
  simp only[gsR,d1]
 ·have d1:decide (k<0)=false:=aTH c1
  by_cases c2:((aZ p).length:Int)<=k
  ·have d2:decide (((aZ p).length:Int)<=k)=true:=aTG c2
   rw[if_neg U]
   simp only[gsR,d1,l11,hlen,d2]
  ·have d2:decide (((aZ p).length:Int)<=k)=false:=aTH c2
   rw[if_pos U]
   obtain⟨j,rfl⟩: ∃j:Nat,k=j:=⟨k.toNat,by omega⟩
   have hj:(aZ p)[j]? =some ((aZ p)[j]' U):=aSY _
   obtain⟨b,o,g1,_,g3⟩:=h.cst.hops.rs.dS mY hj .i64;have l2:ldN 2 (.Q b o) H=some (edV ((aZ p)[j]' U),H):=(g3 H rfl).1
   have g:=h.cst.mp.wW R9 ((aZ p)[j]' U) (.pointer none)
   have hix:(aZ p).idxOf ((aZ p)[j]' U)=j:=by
    obtain⟨N,hN,_⟩:=h.oY;have hnd:=(uX hN).1;exact List.Nodup.idxOf_getElem hnd j U
   have hf:lkF p a (aZ p).length ((aZ p)[j]' U)=some (pt (a.lb j)):=by
    unfold lkF;rw[hix,if_pos U]
   rw[hf,aTp] at g;simp only[gsR,d1,l11,hlen,d2,l13,g1,l2,g,aTo]
theorem aDw (h:cX H0 H O a F p ev wv nv t s)(hm:10<m): ∃u H',lvl prog pkN m (.func 13) [pt a.fb] H=some (u,H')/\Ext H H'/\Hw H' u (aZ p)/\New H u:=by
 have l11:=h.ld 11 a.hv rfl;have h36:=qM p;obtain⟨u,H',g1,g2⟩:=aQ2 h.cst.hops.rs U (m:=m-1) U
 refine⟨u,H',aV (aQ rfl) U ?_,g2⟩
 rw[aQH];simp only[gsR,l11,g1]
def tQ (p:PlanD)(x:Pkt)(s:FS):Nat×FS:=
 if 0<=x.src/\x.src<p.nodes then let r:=pR (cP p x.src.toNat) x (s.n x.src.toNat);(r.1,{s with n:=up1 s.n x.src.toNat r.2}) else(1,s)
def Frd (O O':FP->Nat->Prop)(H H':aG):Prop:= ∀b,b<H.length->(∀i,¬O i b)->H'[b]? =H[b]? /\ ∀i,¬O' i b
theorem xP {X X':Nat->Prop}{i:FP}(hX: ∀b,X b->O i b)(hm:Mv X X' H H'){b:Nat}(hb:b<H.length)(h: ∀j,¬O j b):H'[b]? =H[b]? /\ ∀j,¬updI O i X' j b:=by
 refine⟨hm.keep b hb λhx=>h i (hX b hx),λj hj=> ?_⟩
 by_cases hji:j=i
 ·rw[hji,eV] at hj
  exact(hm.own b hj).elim (λhx=>h i (hX b hx)) λhl=>by omega
 ·rw[cL _ _ hji] at hj
  exact h j hj
theorem Sa (h:cX H0 H O a F p ev wv nv t s)(hm:100<m)(x:Pkt)(hb:0<=x.body/\x.body<4294967296): ∃H' O' F',lvl prog pkN m (.func 23) [pt a.fb,x.cF] H=some (.int .u16 (tQ p x s).1,H')/\cX H0 H' O' a F' p ev wv nv t (tQ p x s).2/\Frd O O' H H':=by
 obtain⟨N,hN,hNe⟩:=h.oY;have hn:=hN.hn;obtain⟨H1,hH1⟩:=aD (H++[cM x]);have x1:Ext H H1:=by rw[hH1];exact Fr.app _ _ _
 have h1:=h.dC x1;have b1:H1[H.length]? =some (cM x):=by rw[hH1];exact cV _ _
 have e1:H++[Blk.cells (Value.cells x.cF).toList 31 .fix]=H1:=by rw[hH1];rfl
 have l0:ld1 (.Q H.length 0) H1=some (.I x.src,H1):=bA b1 rfl;have l4:ldN 4 (.Q H.length 0) H1=some (x.cF,H1):=m9 b1 (aS1 4);have g:=Cs h1 (m:=m-1) U x.src
 unfold tQ;by_cases c:0<=x.src/\x.src<p.nodes
 ·rw[if_pos c]
  have hv:oZ p a x.src=pt (a.y x.src.toNat).nb:=if_pos c;rw[hv] at g;obtain⟨H2,F2,g2,h2,m2⟩:=aPr (h1.node x.src.toNat U) (m:=m-1) U x hb
  have n1:=λa=>aDb 72 a (by kernel_rfl)
  refine⟨H2,_,_,aV (aQ rfl) U ?_,h1.nd U (aS1 _) h2 m2,λb hb ho=> ?_⟩
  ·rw[aCV]
   simp only[gsR,e1,l0,g,n1,l4,g2]
  ·have:=xP (h1.nodeO x.src.toNat U) m2 (aTb hb x1.1) ho
   exact⟨by rw[this.1,x1.2 b hb id],this.2⟩
 ·rw[if_neg c]
  have hv:oZ p a x.src= .pointer none:=if_neg c;rw[hv] at g;have n1:bin prog .neq 72 (.pointer none) (.pointer none)=some (.bool false):=by kernel_rfl
  refine⟨H1,_,_,aV (aQ rfl) U ?_,h1,λb hb ho=>⟨x1.2 b hb id,ho⟩⟩
  rw[aCV];simp only[gsR,e1,l0,g,n1];rfl
def Ic (p:PlanD)(v:Int)(s:FS):List Pkt:=if 0<=v/\v<p.nodes then(s.n v.toNat).hG else []
theorem aRw (h:cX H0 H O a F p ev wv nv t s)(ht:t<1000000)(hm:100<m)(v:Int): ∃H' u,lvl prog pkN m (.func 25) [pt a.fb,.I v] H=some (u,H')/\Ext H H'/\Rw Pkt.lX 31 4 H' u (Ic p v s)/\New H u:=by
 have g:=Cs h (m:=m-1) U v
 unfold Ic;by_cases c:0<=v/\v<p.nodes
 ·rw[if_pos c]
  have hv:oZ p a v=pt (a.y v.toNat).nb:=if_pos c;rw[hv] at g;have hn:=h.node v.toNat U
  have g2:=aCm hn (m:=m-1) U
  obtain⟨w0,w1,w2,cv,hh⟩:=hn.aCv;have:=hn.inv.hG;obtain⟨H2,u,g3,g4⟩:=aOw hh (m:=m-1) U (eJ (n:=1000000) aC U)
  have n1:=λa=>aDb 72 a (by kernel_rfl)
  refine dP (aQ rfl) U ⟨H2,u,?_,g4⟩
  rw[aCY];simp only[gsR,g,n1,g2,g3]
 ·rw[if_neg c]
  have hv:oZ p a v= .pointer none:=if_neg c;rw[hv] at g;have n1:bin prog .neq 72 (.pointer none) (.pointer none)=some (.bool false):=by kernel_rfl
  refine dP (aQ rfl) U ⟨H,.N,?_,Fr.dY _ _,Rw.fE,New.iJ _⟩
  rw[aCY];simp only[gsR,g,n1]
end
section
variable {H0 H H' : aG} {O : FP → Nat → Prop} {a : FL} {F : Nat → Part → Nat → Prop} {p : PlanD} {ev wv nv : Value} {t : Nat} {s : FS} {m : Nat}
theorem Bo.rs' {u:Value}{bs:List UInt8}(h:Bo 5 H u bs):Bs H u bs:=by
 rcases h with⟨rfl,rfl|⟨b,o,c,rfl⟩⟩|⟨b,c,rest,rfl,h2,h3⟩
 ·exact .inl ⟨rfl,rfl⟩
 ·exact .inr ⟨b,o,c,rfl,Nat.zero_le _,λhne=>absurd rfl hne⟩
 ·exact .inr ⟨b,0,c,rfl,h2.2,λ_=>⟨_,_,[],rest,rfl,λ_=>rfl,by rw[h3,sJ];rfl⟩⟩
theorem Sd {X:Nat->Prop}(h:Fr X H H'):Mv X X H H':=⟨h.1,λ_ hb=> .inl hb,λb hb hx=>h.2 b hb hx⟩
theorem Cu {X:Nat->Prop}(h:Fr X H H'):Mv X (Up X H H') H H':=⟨h.1,λ_ hb=>hb.imp id (·.1),λb hb hx=>h.2 b hb hx⟩
theorem aDz (hok:eC p=true){k:Nat}{e:Ed}(he:(aZ p)[k]? =some e): ∃v w:Nat,e=((v:Int),(w:Int))/\v<p.nodes.toNat/\w<p.nodes.toNat:=by
 obtain⟨N,hN⟩:=qN hok;have hn:=hN.hn;have hm:=aS6 he;rw[(uX hN).2,Bk hN.ve hN.h6] at hm;have:=y8 hN.ve hm
 exact⟨e.1.toNat,e.2.toNat,Prod.ext (by simp only;omega) (by simp only;omega),by omega,by omega⟩
def Frz (O O':FP->Nat->Prop)(H H':aG):Prop:=H.length<=H'.length/\Frd O O' H H'
theorem Frz.tr {O' O'':FP->Nat->Prop}{H'':aG}(h:Frz O O' H H')(h':Frz O' O'' H' H''):Frz O O'' H H'':=
 ⟨aTc h.1 h'.1,λb hb ho=>by
  obtain⟨h1,h2⟩:=h.2 b hb ho;obtain⟨h3,h4⟩:=h'.2 b (aTb hb h.1) h2
  exact⟨h3.trans h1,h4⟩⟩
theorem Frz.aRx (O:FP->Nat->Prop)(H:aG):Frz O O H H:=⟨aS1 _,λ_ _ ho=>⟨rfl,ho⟩⟩
theorem Frz.ext (O:FP->Nat->Prop)(h:Ext H H'):Frz O O H H':=⟨h.1,λb hb ho=>⟨h.2 b hb id,ho⟩⟩
theorem Frz.Sb {X X':Nat->Prop}{i:FP}(hX: ∀b,X b->O i b)(hm:Mv X X' H H'):Frz O (updI O i X') H H':=⟨hm.le,λ_ hb ho=>xP hX hm hb ho⟩
theorem aRA (h:cX H0 H O a F p ev wv nv t s)(ht:t<1000000)(hm:1000<m)(k i:Nat)(hk:k<(aZ p).length):
  ∃H' O' F',lvl prog pkN m (.func 35) [pt a.fb,.I (k:Nat),.I (i:Nat)] H=some (.int .u16 (sL (bH p) k i s).1,H')/\cX H0 H' O' a F' p ev wv nv (t+1) (sL (bH p) k i s).2/\Frz O O' H H':=by
 have g1:=tP h (m:=m-1) U (k:Int)
 have hv:mF p a (k:Int)=pt (a.lb k):=by
  unfold mF;rw[if_pos U,aTo]
 rw[hv] at g1;have n1:=λb=>(tO 51 b (by kernel_rfl)).1
 have hl:=h.link k hk;unfold sL;by_cases hi:i<(s.l k).length
 ·obtain⟨bs,hbs⟩: ∃bs,(s.l k)[i]? =some bs:=⟨_,aSY hi⟩
  obtain⟨u,H1,g2,f2,l2,b2,len2,lies2⟩:=Lk.aDu (pr:=pkN) (aQ rfl) (aQ rfl) (aQ rfl) hl (m:=m-1) U i hbs
  have h1:=h.lk hk l2 (Sd f2);have he:(aZ p)[k]? =some ((aZ p)[k]'hk):=aSY _;obtain⟨v,w,hvw,hv1,hw1⟩:=aDz h.ok he;rw[hvw] at he;have hC:(bH p).hs.getD k (0,0)=((v:Int),(w:Int)):=by
   show(aZ p).getD k (0,0)=_
   rw[aS0,he];rfl
  rw[hbs];simp only[hC,aTo];have l12:=h1.ld 12 a.ns rfl;have l11:=h1.ld 11 a.hv rfl;obtain⟨b,o,q1,_,q3⟩:=h1.cst.hops.rs.dS mY he .i64;have q4:=(q3 H1 rfl).2.1 1 _ rfl;have q5:=(q3 H1 rfl).2.1 0 _ rfl;obtain⟨b',o',r1,_,r3⟩:=h1.cst.nds.rs.dS Hv (i:=w) (x:=some ⟨(a.y w).nb,0,none⟩) (by rw[aS9,aTE hw1];rfl) .i64
  have r4:=(r3 H1 rfl).2.1 0 _ rfl;rw[Nat.add_zero] at r4;simp only at q4 q5;obtain⟨H2,F2,g3,h2,m2⟩:=aPz (h1.node w hw1) U (m:=m-1) U (v:Int) (Bo.rs' b2)
  have e0:ext 0 (.tuple #[u,.bool true])=some u:=rfl;have e1:ext 1 (.tuple #[u,.bool true])=some (.bool true):=rfl;refine⟨H2,_,_,aV (aQ rfl) U ?_,h1.nd hw1 (Nat.le_succ t) h2 m2,(Frz.Sb (i:= .lk k) (λ_ hb=>hb) (Sd f2)).tr (Frz.Sb (i:= .nd w) (h1.nodeO w hw1) m2)⟩
  rw[aC2];simp only[gsR,g1,n1,g2,e0,e1,l12,l11,q1,q4,q5,r1,r4,g3];rfl
 ·have hno:(s.l k)[i]? =none:=aS7 U
  have g2:=Lk.aRt (pr:=pkN) (aQ rfl) (aQ rfl) hl (m:=m-1) U (i:Int) (.inr U)
  have e0:ext 0 (.tuple #[Value.N,.bool false])=some (.N):=rfl;have e1:ext 1 (.tuple #[Value.N,.bool false])=some (.bool false):=rfl;rw[hno];have hh:cX H0 H O a F p ev wv nv (t+1) s:={h with node:=λv hv=>(h.node v hv).R8 (Nat.le_succ t)}
  refine⟨H,O,F,aV (aQ rfl) U ?_,hh,Frz.aRx O H⟩
  rw[aC2];simp only[gsR,g1,n1,g2,e0,e1];rfl
theorem aRB {Oz:FP->Nat->Prop}{Hz:aG}(k i0:Nat)(hk:k<(aZ p).length)(hm:2000<m){K:Ex->K (Value×aG)}{Q:aG->Value->Prop}{n:Nat}{T:Nat}{n9:Value}(hT:T<900000)
  {s':FS}(hK: ∀(H':aG)(O':FP->Nat->Prop)(F':Nat->Part->Nat->Prop),cX H0 H' O' a F' p ev wv nv (T+n) s'->Frz Oz O' Hz H'-> ∀(eE gM:Value),∃H2 u2,Rj (lvl prog pkN m) (aL m) K (pt a.fb) (.I (k:Nat)) n9 (.I (k:Nat)) eE gM H'=some (u2,H2)/\Q H2 u2)(hn:n<=64):
  ∀(q i l:Nat)(H:aG)(O:FP->Nat->Prop)(F:Nat->Part->Nat->Prop)(s:FS),n-i=q->i<=n->q<l->cX H0 H O a F p ev wv nv (T+i) s->Frz Oz O Hz H->oX (bH p) k (n-i) s=s'-> ∃H2 u2,aL l (aO prog (lvl prog pkN m) (aL m) Ri) (Rl (lvl prog pkN m) (aL m) K) (some (pt a.fb)::aF 1 (some (.I (k:Nat))::aF 6 (n9::some (.I (k:Nat))::aF 6 (some (.I (n:Nat))::some (.I (i:Nat))::aF 6 [])))) H=some (u2,H2)/\Q H2 u2:=by
 intro q;induction q with
 |zero=>
  intro i l H O F s hq hi hl h hz hd;intros;obtain⟨l,rfl⟩:=aB l U
  obtain rfl:i=n:=U
  have e:decide ((i:Int)<(i:Nat))=false:=by simp
  rw[Nat.sub_self] at hd;have hd:s=s':=hd;subst hd;rw[bS,aCX];simp only[gsR,e];rw[aQN];exact hK H O F h hz ..
 |succ q ih=>
  intro i l H O F s hq hi hl h hz hd;intros;obtain⟨l,rfl⟩:=aB l U
  have e:decide ((i:Int)<(n:Nat))=true:=aTG U
  have e3:=aA (i:=i) U
  obtain⟨H1,O1,F1,g1,h1,z1⟩:=aRA h U (m:=m) U k 0 hk
  simp only[show((0:Nat):Int)=0 from rfl] at g1
  have hq1:n-i=(n-(i+1))+1:=U
  rw[hq1] at hd;rw[bS,aCX];simp only[gsR,e,g1,aT,e3];exact ih (i+1) l H1 O1 F1 _ U U U h1 (hz.tr z1) hd ..
theorem FabG.Ie {t':Nat}(h:cX H0 H O a F p ev wv nv t s)(ht:t<=t'):cX H0 H O a F p ev wv nv t' s:={h with node:=λv hv=>(h.node v hv).R8 ht}
theorem aRG (i q:Nat):List.range' i (q+1)=i::List.range' (i+1) q:=rfl
theorem aRC {Oz:FP->Nat->Prop}{Hz:aG}{n:Nat}(hn:(aZ p).length=n)(hm:3000<m){T:Nat}(hT:T<800000){s':FS}:
  ∀(q i l:Nat)(H:aG)(O:FP->Nat->Prop)(F:Nat->Part->Nat->Prop)(s:FS),n-i=q->i<=n->q<l->cX H0 H O a F p ev wv nv (T+64*i) s->Frz Oz O Hz H->zS (bH p) (List.range' i q) s=s'-> ∀(x2 eE gM:Value),
  ∃H2 u2,aL l (aO prog (lvl prog pkN m) (aL m) Rh) (Rk (lvl prog pkN m) (aL m)) (some (pt a.fb)::aF 1 (x2::aF 6 (some (.I (n:Nat))::some (.I (i:Nat))::aF 6 (eE::gM::aF 6 [])))) H=some (u2,H2)/\u2=aK []/\ ∃O' F',cX H0 H2 O' a F' p ev wv nv (T+64*n) s'/\Frz Oz O' Hz H2:=by
 have h36:=qM p;intro q;induction q with
 |zero=>
  intro i l H O F s hq hi hl h hz hd;intros;obtain⟨l,rfl⟩:=aB l U
  obtain rfl:i=n:=U
  have e:decide ((i:Int)<(i:Nat))=false:=by simp
  have hd:s=s':=hd;subst hd;refine⟨H,_,?_,rfl,O,F,h,hz⟩;rw[bS,aCW];simp only[gsR,e];rw[aQM]
  first|done|rfl
 |succ q ih=>
  intro i l H O F s hq hi hl h hz hd;intros;obtain⟨l,rfl⟩:=aB l U
  have e:decide ((i:Int)<(n:Nat))=true:=aTG U
  have e3:=aA (i:=i) U
  have hk:i<(aZ p).length:=U
  have g1:=tP h (m:=m) U (i:Int)
  have hv:mF p a (i:Int)=pt (a.lb i):=by
   unfold mF;rw[if_pos U,aTo]
  rw[hv] at g1;have hl':=h.link i hk;have hfew:=hl'.few;obtain⟨v,H1,g2,x1,r1⟩:=Lk.aDt (pr:=pkN) (aQ rfl) (aQ rfl) hl' (m:=m) U
  have hlen:=r1.yY;have h1:=h.dC x1;rw[aRG] at hd;have hd:zS (bH p) (List.range' (i+1) q) (oX (bH p) i (s.l i).length s)=s':=hd;rw[bS,aCW];simp only[gsR,e,g1,g2,hlen];refine aRB (m:=m) (n:=(s.l i).length) (s':=oX (bH p) i (s.l i).length s) (T:=T+64*i) (Q:=λH2 u2=>u2=aK []/\ ∃O' F',cX H0 H2 O' a F' p ev wv nv (T+64*n) s'/\Frz Oz O' Hz H2) i 0 hk U U ?_ U (s.l i).length 0 m H1 O F s U U U h1 (hz.tr (Frz.ext O x1)) rfl ..
  intro H2 O2 F2 h2 z2;intros;unfold Rj;simp only[gsR,aT,e3];exact ih (i+1) l H2 O2 F2 _ U U U (h2.Ie U) z2 hd ..
def If (O:FP->Nat->Prop)(ob b:Nat):Prop:=ob<b/\ ∀j,¬O j b
structure TickI (Oz:FP->Nat->Prop)(Hz:aG)(H0 H:aG)(O:FP->Nat->Prop)(a:FL)(F:Nat->Part->Nat->Prop)(p:PlanD)(ev wv nv:Value)(t:Nat)(fs:FS)(ob:Nat)(us:List SV)(s0:FS)(i:Nat):Prop where
 fab:cX H0 H O a F p ev wv nv t fs
 row:Rw sC 102 1 H (.slice (some ⟨ob,0,none⟩) p.nodes.toNat p.nodes.toNat) us
 obf: ∀j,¬O j ob
 ob0:H0.length<=ob
 obz:Hz.length<=ob
 fz:Frz Oz O Hz H
 outs: ∀j,j<i-> ∃(u:SV)(w:List (Nat×Value)),us[j]? =some u/\OutR H (If O ob) u.1 w (mT (bH p) s0 j)
variable {Oz : FP → Nat → Prop} {Hz : aG} {fs s0 : FS} {ob : Nat} {us : List SV} {T i : Nat}
theorem aDy {ob n c b:Nat}(h:aS (.slice (some ⟨ob,0,none⟩) n c) b):b=ob:=by
 obtain⟨_,_,_,hh⟩:=h;cases hh;rfl
theorem TickI.obl (h:TickI Oz Hz H0 H O a F p ev wv nv t fs ob us s0 i)(hN:0<p.nodes.toNat):ob<H.length:=h.row.dZ ⟨0,_,_,rfl⟩
theorem TickI.mv {F':Nat->Part->Nat->Prop}{t':Nat}{fs':FS}(h:TickI Oz Hz H0 H O a F p ev wv nv t fs ob us s0 i)(k:FP){X X':Nat->Prop}(hX: ∀b,X b->O k b)(hm:Mv X X' H H')(hf:cX H0 H' (updI O k X') a F' p ev wv nv t' fs'):TickI Oz Hz H0 H' (updI O k X') a F' p ev wv nv t' fs' ob us s0 i:=by
 obtain⟨N,hN,hNe⟩:=h.fab.oY;have hob:=h.obl (by have:=hN.h2;omega)
 have hfo:=xP hX hm hob h.obf;refine⟨hf,h.row.cZ λb hb=> ?_,hfo.2,h.ob0,h.obz,h.fz.tr (Frz.Sb hX hm),λj hj=> ?_⟩
 ·rw[aDy hb]
  exact hfo.1
 ·obtain⟨u,w,h1,h2⟩:=h.outs j hj
  exact⟨u,w,h1,h2.xL λb hb ⟨h3,h4⟩=>⟨(xP hX hm hb h4).1,h3,(xP hX hm hb h4).2⟩⟩
theorem TickI.aRy (h:TickI Oz Hz H0 H O a F p ev wv nv t fs ob us s0 i)(he:Ext H H'):TickI Oz Hz H0 H' O a F p ev wv nv t fs ob us s0 i:=
 ⟨h.fab.dC he,nE h.row he,h.obf,h.ob0,h.obz,h.fz.tr (Frz.ext O he),λj hj=>by
  obtain⟨u,w,h1,h2⟩:=h.outs j hj
  exact⟨u,w,h1,h2.xL λb hb h3=>⟨he.2 b hb id,h3⟩⟩⟩
theorem aRz {v w:Nat}(hok:eC p=true)(h:w∈(cP p v).by'):((v:Int),(w:Int))∈aZ p:=by
 obtain⟨N,hN⟩:=qN hok;rw[(uX hN).2,Bk hN.ve hN.h6];obtain⟨z,hz,rfl⟩:=aTz.mp (show w∈(bes p.edges v).map Int.toNat from h)
 have:=y8 hN.ve hz;have e:((z.toNat:Nat):Int)=z:=U
 simp only[e];exact hz
theorem aRD {v:Nat}{lv:Value}{w:List (Nat×Value)}{outs:eN}(hv:v<p.nodes.toNat)(hoo:OutOk (cP p v) outs)(hwl:w.length=outs.length)(hw5:w.length<1000000)(hm:1000<m){K:Ex->K (Value×aG)}{Q:aG->Value->Prop}
  (hK: ∀(H':aG)(O':FP->Nat->Prop),TickI Oz Hz H0 H' O' a F p ev wv nv T {fs with l:=outs.foldl (nF (bH p) v) fs.l} ob us s0 p.nodes.toNat-> ∀(x2 x6 dR gN gX o6 o7 Ac:Value),∃H2 u2,Rt (lvl prog pkN m) (aL m) K (pt a.fb) x2 x6 dR gN gX (.slice (some ⟨ob,0,none⟩) p.nodes.toNat p.nodes.toNat) (.I (p.nodes.toNat:Nat)) (.I (v:Nat)) o6 o7 Ac H'=some (u2,H2)/\Q H2 u2):
  ∀(q i l:Nat)(H:aG)(O:FP->Nat->Prop),w.length-i=q->i<=w.length->q<l->TickI Oz Hz H0 H O a F p ev wv nv T {fs with l:=(outs.take i).foldl (nF (bH p) v) fs.l} ob us s0 p.nodes.toNat->OutR H (If O ob) lv w outs-> ∀(x2 dR gN gX:Value),
  ∃H2 u2,aL l (aO prog (lvl prog pkN m) (aL m) Ro) (Rx (lvl prog pkN m) (aL m) K) (some (pt a.fb)::aF 1 (x2::aF 3 (some (.I (v:Nat))::aF 12 (dR::gN::gX::aF 12 (some (.slice (some ⟨ob,0,none⟩) p.nodes.toNat p.nodes.toNat)::some (.I (p.nodes.toNat:Nat))::some (.I (v:Nat))::aF 4 (lv::some (.I (w.length:Nat))::some (.I (i:Nat))::aF 24 [])))))) H=some (u2,H2)/\Q H2 u2:=by
 intro q;induction q with
 |zero=>
  intro i l H O hq hi hl h hR;intros;obtain⟨l,rfl⟩:=aB l U
  obtain rfl:i=w.length:=U
  have e:decide ((w.length:Int)<(w.length:Nat))=false:=by simp
  rw[hwl,List.take_length] at h;rw[bS,aC1];simp only[gsR,e];rw[aQR];exact hK H O h ..
 |succ q ih=>
  intro i l H O hq hi hl h hR;intros;obtain⟨l,rfl⟩:=aB l U
  have e:decide ((i:Int)<(w.length:Nat))=true:=aTG U
  have e3:=aA (i:=i) U
  obtain⟨u,hu⟩: ∃u,w[i]? =some u:=⟨_,aSY U⟩
  obtain⟨o,ho⟩: ∃o,outs[i]? =some o:=⟨_,aSY U⟩
  obtain⟨u1,u2,u3⟩:=hR.at_ i u o hu ho;obtain⟨hto,h12⟩:=hoo o (aS6 ho);have hmem:=aRz h.fab.ok hto;obtain⟨k,hk⟩:=aD ((aZ p).idxOf ((v:Int),(o.1:Int)));have hkl:k<(aZ p).length:=by rw[hk];exact List.idxOf_lt_length_of_mem hmem
  have hf:lkF p a (aZ p).length ((v:Int),(o.1:Int))=some (pt (a.lb k)):=by
   unfold lkF;rw[<-hk,if_pos hkl]
  obtain⟨b,ofs,q1,_,q3⟩:=hR.rw_.rs.dS aCD hu .i64;have q4:ldN 2 (.pointer (some ⟨b,ofs,none⟩)) H=some (.agg ⟨nD u⟩,H):=(q3 H rfl).1;obtain⟨H1,hH1⟩:=aD (H++[Blk.cells (nD u) 104 .fix]);have x1:Ext H H1:=by rw[hH1];exact Fr.app _ _ _
  have st:stN 2 (.pointer (some ⟨H.length,0,none⟩)) (.agg ⟨nD u⟩) (H++[Blk.cells [Value.int .i64 0,.slice none 0 0] 104 .fix])=some (undef,H1):=by
   rw[sD (n:=2) (vs:=nD u) (cD H _) aC rfl rfl (aS1 2) (aCC u),gQ,hH1]
   rfl
  have b1:H1[H.length]? =some (.cells (nD u) 104 .fix):=by rw[hH1];exact cV _ _
  have h1:=h.aRy x1;have R1:OutR H1 (If O ob) lv w outs:=hR.xL λb hb h3=>⟨x1.2 b hb id,h3⟩
  have l13:=h1.fab.ld 13 (.map (some a.mb)) rfl;have l0:ld1 (.Q H.length 0) H1=some (.I (o.1:Nat),H1):=by rw[<-u1];exact bA b1 rfl
  have l1:ld1 (.Q H.length 1) H1=some (u.2,H1):=by rw[bA b1 rfl,(aPY u2).1]
  have bh:bld prog 83 [(0,.I (v:Nat)),(1,.I (o.1:Nat))]=some (edV ((v:Int),(o.1:Int))):=rfl;have g:=h1.fab.cst.mp.wW R9 ((v:Int),(o.1:Int)) (.pointer none);rw[hf,aTp] at g;obtain⟨H2,g2,f2,k2⟩:=Lk.aDr (pr:=pkN) (aQ rfl) (aQ rfl) (h1.fab.link k hkl) (m:=m) U (By.br (u2.ext x1)) U
  have hlk:=h1.fab.lk hkl k2 (Cu f2);have hx: ∀b,O (.lk k) b->O (.lk k) b:=λ_ hb=>hb
  have h2:=h1.mv (.lk k) hx (Cu f2) hlk;have R2:OutR H2 (If (updI O (.lk k) (Up (O (.lk k)) H1 H2)) ob) lv w outs:=R1.xL λb hb ⟨h3,h4⟩=>⟨(xP hx (Cu f2) hb h4).1,h3,(xP hx (Cu f2) hb h4).2⟩
  have hfold:(outs.take (i+1)).foldl (nF (bH p) v) fs.l=nF (bH p) v ((outs.take i).foldl (nF (bH p) v) fs.l) o:=by
   rw[List.take_add_one,ho,List.foldl_append];rfl
  have hsame:up1 ((outs.take i).foldl (nF (bH p) v) fs.l) k (Lk.vL p.bag.toNat ((outs.take i).foldl (nF (bH p) v) fs.l k) o.2)=(outs.take (i+1)).foldl (nF (bH p) v) fs.l:=by
   rw[hfold,hk];rfl
  simp only[hsame] at h2;rw[bS,aC1];simp only[gsR,e,q1,q4,st,l13,l0,bh,g,l1,g2,aT,e3];exact ih (i+1) l H2 _ U U U h2 R2 ..
theorem aRF (hk:s0.k<1000000)(hm:1000<m)(hTb: ∀j,j<p.nodes.toNat->OutOk (cP p j) (mT (bH p) s0 j)/\(mT (bH p) s0 j).length<=36):
  ∀(q i l:Nat)(H:aG)(O:FP->Nat->Prop),p.nodes.toNat-i=q->i<=p.nodes.toNat->q<l->TickI Oz Hz H0 H O a F p ev wv nv T ⟨mE (bH p) s0 p.nodes.toNat,xO (bH p) s0 i,s0.k⟩ ob us s0 p.nodes.toNat-> ∀(x2 x6 dR gN gX o6 o7 Ac:Value),
  ∃H2 u2,aL l (aO prog (lvl prog pkN m) (aL m) Rn) (Rv (lvl prog pkN m) (aL m)) (some (pt a.fb)::aF 1 (x2::aF 3 (x6::aF 12 (dR::gN::gX::aF 12 (some (.slice (some ⟨ob,0,none⟩) p.nodes.toNat p.nodes.toNat)::some (.I (p.nodes.toNat:Nat))::some (.I (i:Nat))::aF 4 (o6::o7::Ac::aF 24 [])))))) H=some (u2,H2)/\u2=aK []/\ ∃O',cX H0 H2 O' a F p ev wv nv T (iE (bH p) s0)/\Frz Oz O' Hz H2:=by
 intro q;induction q with
 |zero=>
  intro i l H O hq hi hl h;intros;obtain⟨l,rfl⟩:=aB l U
  obtain rfl:i=p.nodes.toNat:=U
  have e:decide ((p.nodes.toNat:Int)<(p.nodes.toNat:Nat))=false:=by simp
  obtain⟨st,h1⟩:=h.fab.aRv;have l14:=h.fab.ld 14 (.I (s0.k:Nat)) rfl;have e3:IntKind.i64.wrap ((s0.k:Int)+1)=((s0.k+1:Nat):Int):=by rw[bJ U U];omega
  refine⟨_,_,?_,rfl,O,h1,h.fz.tr ⟨by rw[List.length_set];exact aS1 _,λb hb ho=>⟨aSX λhh=>ho .fb (by rw[<-hh];exact h.fab.cst.fabO),ho⟩⟩⟩
  rw[bS,aC0];simp only[gsR,e];rw[aQQ];simp only at st;simp only[gsR,l14,aT,e3,st]
 |succ q ih=>
  intro i l H O hq hi hl h;intros;obtain⟨l,rfl⟩:=aB l U
  have hiN:i<p.nodes.toNat:=U
  obtain⟨N,hN,hNe⟩:=h.fab.oY;have h6:=hN.h6;have e:decide ((i:Int)<(p.nodes.toNat:Nat))=true:=aTG U
  have e3:=aA (i:=i) U
  obtain⟨u,w,h1,h2⟩:=h.outs i hiN;obtain⟨b,o,q1,_,q3⟩:=h.row.rs.dS Bg h1 .i64;have q4:=(q3 H rfl).2.1 0 _ rfl;rw[Nat.add_zero] at q4;have hlen:=h2.rw_.rs.fR;have hwl:=h2.len;obtain⟨ho1,ho2⟩:=hTb i hiN;rw[bS,aC0];simp only[gsR,e,q1,q4,hlen];refine aRD (m:=m) (T:=T) (s0:=s0) (ob:=ob) (us:=us) (F:=F) (fs:=⟨mE (bH p) s0 p.nodes.toNat,xO (bH p) s0 i,s0.k⟩) (v:=i) (outs:=mT (bH p) s0 i) (Q:=λH2 u2=>u2=aK []/\ ∃O',cX H0 H2 O' a F p ev wv nv T (iE (bH p) s0)/\Frz Oz O' Hz H2) hiN ho1 hwl U U ?_ w.length 0 m H O U U U h h2 ..
  intro H2 O2 hh;intros;have hs:(mT (bH p) s0 i).foldl (nF (bH p) i) (xO (bH p) s0 i)=xO (bH p) s0 (i+1):=by
   unfold xO;rw[aTv,List.foldl_append];rfl
  simp only[hs] at hh;unfold Rt;simp only[gsR,aT,e3];exact ih (i+1) l H2 O2 U U U hh ..
theorem aRE (hT:T<1000000)(hk:s0.k<1000000)(hm:3000<m)(hTb: ∀j,j<p.nodes.toNat->OutOk (cP p j) (mT (bH p) s0 j)/\(mT (bH p) s0 j).length<=36):
  ∀(q i l:Nat)(H:aG)(O:FP->Nat->Prop)(F:Nat->Part->Nat->Prop)(us:List SV),p.nodes.toNat-i=q->i<=p.nodes.toNat->q<l->us.length=p.nodes.toNat->TickI Oz Hz H0 H O a F p ev wv nv (T+7*i) ⟨mE (bH p) s0 i,s0.l,s0.k⟩ ob us s0 i-> ∀(x6 tU tV iG o6 o7 Ac:Value),
  ∃H2 u2,aL l (aO prog (lvl prog pkN m) (aL m) Rm) (Ru (lvl prog pkN m) (aL m)) (some (pt a.fb)::aF 1 (some (.slice (some ⟨ob,0,none⟩) p.nodes.toNat p.nodes.toNat)::aF 3 (x6::aF 12 (a.ns::some (.I (p.nodes.toNat:Nat))::some (.I (i:Nat))::aF 12 (tU::tV::iG::aF 4 (o6::o7::Ac::aF 24 [])))))) H=some (u2,H2)/\u2=aK []/\ ∃O' F',cX H0 H2 O' a F' p ev wv nv (T+42) (iE (bH p) s0)/\Frz Oz O' Hz H2:=by
 intro q;induction q with
 |zero=>
  intro i l H O F us hq hi hl hul h;intros;obtain⟨l,rfl⟩:=aB l U
  obtain rfl:i=p.nodes.toNat:=U
  have e:decide ((p.nodes.toNat:Int)<(p.nodes.toNat:Nat))=false:=by simp
  obtain⟨N,hN,hNe⟩:=h.fab.oY;have h6:=hN.h6;have hlen:cY (.slice (some ⟨ob,0,none⟩) p.nodes.toNat p.nodes.toNat)=some (.I (p.nodes.toNat:Nat)):=rfl;rw[bS,aCZ];simp only[gsR,e];rw[aQP];simp only[gsR,hlen];obtain⟨H2,u2,g1,g2,O',g3,z3⟩:=(aRF (m:=m) hk U hTb p.nodes.toNat 0 m H O U U U h ..)
  exact⟨H2,u2,g1,g2,O',F,g3.Ie U,z3⟩
 |succ q ih=>
  intro i l H O F us hq hi hl hul h;intros;obtain⟨l,rfl⟩:=aB l U
  have hiN:i<p.nodes.toNat:=U
  obtain⟨N,hN,hNe⟩:=h.fab.oY;have h6:=hN.h6;have e:decide ((i:Int)<(p.nodes.toNat:Nat))=true:=aTG U
  have e3:=aA (i:=i) U
  have hn:=h.fab.node i hiN;have hni:mE (bH p) s0 i i=s0.n i:=by unfold mE;rw[if_neg U]
  simp only[hni] at hn;obtain⟨b',o',r1,_,r3⟩:=h.fab.cst.nds.rs.dS Hv (i:=i) (x:=some ⟨(a.y i).nb,0,none⟩) (by rw[aS9,aTE hiN];rfl) .i64
  have r4:=(r3 H rfl).2.1 0 _ rfl;rw[Nat.add_zero] at r4;obtain⟨H1,F1,v,w,g1,n1,m1,o1⟩:=aQq hn U (m:=m) U
  have hcv:kQ (lvl prog pkN m) (.func (.func 51) #[.Q ((a.y i).nb) 0] #[]) [] H=some (v,H1):=g1;have f1:=h.fab.nd hiN (t':=T+7*i+7) U n1 m1
  have hX:=h.fab.nodeO i hiN;have t1:=h.mv (.nd i) hX m1 f1;obtain⟨w1,w2⟩:=zQ o1.rw_;obtain⟨sv,rfl⟩: ∃z:SV,z.1=v:=⟨⟨v,w2,Array.toList_inj.mp w1⟩,rfl⟩;obtain⟨c,cs,p1,p2,p3,_,p5,p6⟩:=R0 t1.row (i:=i) U sv
  obtain rfl:c=ob:=aDy p1
  obtain⟨H2,hH2⟩:=aD (H1.set c (.cells (cs.set i sv.1) 102 .row));rw[<-hH2] at p5 p6;have hkp: ∀b,b≠c->H2[b]? =H1[b]? :=λb hb=>by rw[hH2,aSX (λhh=>hb hh.symm)]
  have hl2:H2.length=H1.length:=by rw[hH2,List.length_set]
  have hob:=h.obl U
  have f2:=t1.fab.aDv (H':=H2) U (λj b hb=>hkp b λhh=>t1.obf j (by rw[<-hh];exact hb)) (by rw[hH2];exact jY t1.fab.own.ext h.ob0)
  have hnew:(⟨up1 (mE (bH p) s0 i) i (fI (cP p i) (s0.n i)).1,s0.l,s0.k⟩:FS)=⟨mE (bH p) s0 (i+1),s0.l,s0.k⟩:=by
   congr 1
   funext j
   unfold mE up1;by_cases hj:j=i
   ·subst hj
    rw[if_pos rfl,if_pos U]
    rfl
   ·rw[if_neg hj]
    show(if j<i then(fI ((bH p).c j) (s0.n j)).1 else s0.n j)=_
    by_cases hji:j<i
    ·rw[if_pos hji,if_pos U]
    ·rw[if_neg hji,if_neg U]
  simp only[hnew] at f2;rw[bS,aCZ];simp only[gsR,e,r1,r4,hcv,p3,p5,aT,e3];refine ih (i+1) l H2 _ _ (us.set i sv) U U U (by rw[List.length_set];exact hul) ⟨f2,p6,t1.obf,h.ob0,h.obz,⟨by have:=t1.fz.1;omega,λb hb ho=>⟨(hkp b (by have:=h.obz;omega)).trans (t1.fz.2 b hb ho).1,(t1.fz.2 b hb ho).2⟩⟩,λj hj=> ?_⟩ ..
  by_cases hji:j=i
  ·subst hji
   refine⟨sv,w,by rw[aS2 U],o1.xL λb hb ⟨h3,h4⟩=>⟨hkp b U,by omega,λk hk'=> ?_⟩⟩
   by_cases hkj:k= .nd j
   ·rw[hkj,eV] at hk'
    exact h4 hk'
   ·rw[cL _ _ hkj] at hk'
    have:=h.fab.own.lt k b hk';omega
  ·obtain⟨u,w',g2,g3⟩:=t1.outs j U
   exact⟨u,w',by rw[aSX (λhh=>hji hh.symm)];exact g2,g3.xL λb hb h3=>⟨hkp b (by have:=h3.1;omega),h3⟩⟩
theorem aDx (h:cX H0 H O a F p ev wv nv t s)(ht:t<900000)(hk:s.k<1000000)(hm:4000<m): ∃H' O' F',lvl prog pkN m (.func 27) [pt a.fb] H=some (aK [],H')/\cX H0 H' O' a F' p ev wv nv (t+42) (iE (bH p) s)/\Frz O O' H H':=by
 obtain⟨N,hN,hNe⟩:=h.oY;have h6:=hN.h6;have l12:=h.ld 12 a.ns rfl;have hlen:=h.cst.nds.nR;rw[aTa,aTq] at hlen;have mk:=uI (H:=H) 102 1 24 [.N] .i64 .i64 (p.nodes.toNat:Int) U U U rfl
 rw[aTo] at mk;obtain⟨H1,hH1⟩:=aD (H++[Blk.cells (List.replicate p.nodes.toNat [Value.slice none 0 0]).flatten 102 .row]);rw[<-hH1] at mk;have x1:Ext H H1:=by rw[hH1];exact Fr.app _ _ _
 have h1:=h.dC x1;have l12':=h1.ld 12 a.ns rfl;obtain⟨zv,hzv⟩: ∃zv:SV,zv=⟨.N,rfl,rfl⟩:=⟨_,rfl⟩;have hfl:((List.replicate p.nodes.toNat zv).map sC).flatten=(List.replicate p.nodes.toNat [Value.N]).flatten:=by rw[List.map_replicate,hzv];rfl
 have b1:H1[H.length]? =some (.cells (List.replicate p.nodes.toNat [Value.N]).flatten 102 .row):=by rw[hH1];exact cV _ _
 have hrow:Rw sC 102 1 H1 (.slice (some ⟨H.length,0,none⟩) p.nodes.toNat p.nodes.toNat) (List.replicate p.nodes.toNat zv):=by
  refine⟨by rw[hfl];simp,.inr ⟨H.length,p.nodes.toNat,[],by rw[aTC],by rw[aTC];exact aS1 _,by simp,by rw[b1,hfl,List.append_nil]⟩⟩
 have hI:TickI O H H0 H1 O a F p ev wv nv (t+7*0) ⟨mE (bH p) s 0,s.l,s.k⟩ H.length (List.replicate p.nodes.toNat zv) s 0:=by
  have e:(⟨mE (bH p) s 0,s.l,s.k⟩:FS)=s:=by
   have:mE (bH p) s 0=s.n:=by
    funext v
    unfold mE;rw[if_neg U]
   rw[this]
  rw[e]
  exact⟨h1,hrow,λj hj=>by have:=h.own.lt j _ hj;omega,h.own.ext.1,aS1 _,Frz.ext O x1,λj hj=>by omega⟩
 have hTb: ∀j,j<p.nodes.toNat->OutOk (cP p j) (mT (bH p) s j)/\(mT (bH p) s j).length<=36:=λj hj=>by
  have hn:=h.node j hj
  exact⟨aRe hn.ok hn.inv,aRd hn.ok _⟩
 have main: ∃H' u,lvl prog pkN m (.func 27) [pt a.fb] H=some (u,H')/\u=aK []/\ ∃O' F',cX H0 H' O' a F' p ev wv nv (t+42) (iE (bH p) s)/\Frz O O' H H':=by
  refine dP (aQ rfl) U ?_
  rw[aQS];simp only[gsR,l12,hlen,mk,l12'];exact aRE (m:=m-1) U hk U hTb p.nodes.toNat 0 (m-1) H1 O F (List.replicate p.nodes.toNat zv) U U U (by rw[aTC]) hI ..
 obtain⟨H',u,g1,rfl,O',F',g2⟩:=main
 exact⟨H',O',F',g1,g2⟩
theorem Sc (h:cX H0 H O a F p ev wv nv t s)(ht:t<900000)(hk:s.k<1000000)(hm:4000<m): ∃H' O' F',lvl prog pkN m (.func 27) [pt a.fb] H=some (aK [],H')/\cX H0 H' O' a F' p ev wv nv (t+42) (iE (bH p) s):=by
 obtain⟨H',O',F',g1,g2,_⟩:=aDx h ht hk hm
 exact⟨H',O',F',g1,g2⟩
theorem Ct (h:cX H0 H O a F p ev wv nv t s)(ht:t<700000)(hk:s.k<1000000)(hm:6000<m): ∃H' O' F',lvl prog pkN m (.func 24) [pt a.fb] H=some (aK [],H')/\cX H0 H' O' a F' p ev wv nv (t+2400) (dI (bH p) s)/\Frz O O' H H':=by
 obtain⟨H1,O1,F1,g1,h1,z1⟩:=aDx h U hk (m:=m-1) U
 have l11:=h1.ld 11 a.hv rfl;have hlen:=h1.cst.hops.nR;have h36:=qM p;have main: ∃H' u,lvl prog pkN m (.func 24) [pt a.fb] H=some (u,H')/\u=aK []/\ ∃O' F',cX H0 H' O' a F' p ev wv nv (t+42+64*(aZ p).length) (dI (bH p) s)/\Frz O O' H H':=by
  refine dP (aQ rfl) U ?_
  rw[aQO];simp only[gsR,g1,l11,hlen];exact aRC (m:=m-1) (n:=(aZ p).length) rfl U (T:=t+42) U (aZ p).length 0 (m-1) H1 O1 F1 (iE (bH p) s) U U U h1 z1 (by
   unfold dI;rw[List.range_eq_range']
   rfl) ..
 obtain⟨H',u,g2,rfl,O',F',h2,z2⟩:=main
 exact⟨H',O',F',g2,h2.Ie U,z2⟩
end
theorem aRL {κ:Type}[DecidableEq κ]{kt:KeyT}{enc:κ->Value}{H:aG}{mb:Nat}{f:κ->Option Value}(hk:KeyC kt enc)(h:IsMap enc H mb f)(k:κ)(v:Value)(hf:f k=none): ∃es c,kS kt (.map (some mb)) (enc k) v H=some (undef,H.set mb (.map es c))/\IsMap enc (H.set mb (.map es c)) mb (upd f k (some v)):=by
 obtain⟨es,c,h1,h2⟩:=h;have hlt:=(aSW.mp h1).1;have hn:=B9 hk k es 0 ((h2.no k).mp hf);refine⟨(es++[(k,v,c)]).map (gG enc),c+1,?_,_,c+1,by rw[aS2 hlt],h2.aBI v hf⟩
 unfold kS;rw[if_pos (vB hk k)];simp only;rw[h1];simp only;rw[hn,List.map_append];rfl
section
variable {H0 H H' H1 : aG} {O : FP → Nat → Prop} {a : FL} {F : Nat → Part → Nat → Prop} {p : PlanD} {ev wv nv : Value} {t m : Nat} {s : FS}
theorem NodeAt.Sf {F:Part->Nat->Prop}{y:Lay}{c:Cfg}{t:Nat}{s:NS}(h:NodeAt H0 H F y p ev wv nv c t s)(hl:H.length<=H'.length)(hk: ∀b,Un F b->H'[b]? =H[b]?)(he:Ext H0 H'):NodeAt H0 H' F y p ev wv nv c t s:=
 {h with ext:=he,sep:=⟨λi=>(h.sep.own i).Ea (tK _ _ _ _ _ _ _ i) hl λb hb=>hk b ⟨i,hb⟩,h.sep.sep⟩}
theorem FabG.aRI {i:Nat}(h:FabG H0 H O a F p ev wv nv 0 s i 0)(hi:i<100){Fn:Part->Nat->Prop}{y:Lay}(hn:NodeAt H H1 Fn y p ev wv nv (cP p i) 0 (s.n i)):
  ∃ns' H2 H3 O',app 72 1 8 a.ns (.slice (some ⟨H1.length,0,none⟩) 1 1) (H1++[.cells (ptC (some ⟨y.nb,0,none⟩)) 72 .row])=some (ns',H2)/\stN 1 (.Q a.fb 12) ns' H2=some (undef,H3)/\
   FabG H0 H3 O' {a with ns:=ns',y:=up1 a.y i y} (up1 F i Fn) p ev wv nv 0 s (i+1) 0:=by
 have xe:=hn.ext;obtain⟨w1,k1⟩:=h.own.Cr (.nd i) (X:=λ_=>False) (X':=Un Fn) (λ_ hb=>hb.elim) ⟨xe.1,λb hb=> .inr (hn.old b hb),λb hb _=>xe.2 b hb id⟩ hn.sep.nU
 obtain⟨O1,hO1⟩:=aD (updI O (.nd i) (Un Fn));have ocs:O1 .cs=O .cs:=by rw[hO1];exact cL _ _ (by simp)
 have ofb:O1 .fb=O .fb:=by rw[hO1];exact cL _ _ (by simp)
 rw[<-hO1] at w1;have c:=h.cst;have nds1:=nE c.nds xe;have hops1:=nE c.hops xe;have hnew:New H0 a.ns:=λb hb=>h.own.old .cs b (c.ndsO b hb)
 obtain⟨ns',H2,g1,g2,g3,g4,g5,g6⟩:=nds1.K1 (by':=8) Hv aQF aC (some ⟨y.nb,0,none⟩) hnew w1.ext (eJ (n:=1000) aC (by rw[aTa,aTq];omega))
 obtain⟨O2,hO2⟩:=aD (updI O1 .cs (λb=>aS a.hv b∨b=a.mb∨aS ns' b))
 have mp1:IsMap edV H1 a.mb (lkF p a 0):=c.mp.wX (by
  obtain⟨es,cl,hmb,_⟩:=c.mp;rw[xe.2 _ (b9 hmb) id])
 have hmb2:H2[a.mb]? =H1[a.mb]? :=by
  obtain⟨es,cl,hmb,_⟩:=mp1;refine g5.2 _ (b9 hmb) λhh=> ?_
  obtain⟨cs,hc⟩:=nds1.blk hh;rw[hmb] at hc;cases hc
 have hops2:=aQG hops1 nds1 aC g5
 obtain⟨w2,k2⟩:=w1.Cr .cs (X:=O1 .cs) (X':=λb=>aS a.hv b∨b=a.mb∨aS ns' b) (λ_ hb=>hb) ⟨g5.1,λb hb=>by
  rw[ocs];rcases hb with hb|hb|hb
  ·exact .inl (c.hopsO b hb)
  ·exact .inl (by rw[hb];exact c.mpO)
  ·exact(g6 b hb).imp (c.ndsO b) (·.1),λb hb hx=>g5.2 b hb λhh=>hx (by rw[ocs];exact c.ndsO b hh)⟩ (λb hb=>by
  rcases hb with hb|hb|hb
  ·exact hops2.dZ hb
  ·rw[hb]
   have:=w1.lt .cs a.mb (by rw[ocs];exact c.mpO)
   exact aTb this g5.1
  ·exact g2.dZ hb)
 rw[<-hO2] at w2;have o2fb:O2 .fb=O .fb:=by rw[hO2,cL _ _ (by simp),ofb]
 have o2cs: ∀b,O2 .cs b=(aS a.hv b∨b=a.mb∨aS ns' b):=λb=>by rw[hO2,eV]
 have hfb2:H2[a.fb]? =some (.cells (nG p ev wv nv a.hv a.ns a.mb s.k) 87 .fix):=by
  have h1:=(k2 .fb (by simp) a.fb (by rw[ofb];exact c.fabO)).2
  rw[h1,xe.2 _ (b9 c.fab) id,c.fab]
 obtain⟨s1,s2⟩:=zQ g2;obtain⟨H3,hH3⟩:=aD (H2.set a.fb (.cells (nG p ev wv nv a.hv ns' a.mb s.k) 87 .fix));have st:stN 1 (.Q a.fb 12) ns' H2=some (undef,H3):=by rw[hH3];exact nA hfb2 aC (by simp[nG,plC]) s1 s2
 have hk: ∀b,b≠a.fb->H3[b]? =H2[b]? :=λb hb=>by rw[hH3,aSX (λhh=>hb hh.symm)]
 have hl:H3.length=H2.length:=by rw[hH3,List.length_set]
 have hne: ∀j,j≠ .fb-> ∀b,O2 j b->b≠a.fb:=λj hj b hb hh=>hj (w2.dis j .fb b hb (by rw[hh,o2fb];exact c.fabO))
 have ext3:Ext H0 H3:=by rw[hH3];exact jY w2.ext (h.own.old _ _ c.fabO)
 have kN: ∀v b,O1 (.nd v) b->H3[b]? =H1[b]? /\O2 (.nd v) b:=λv b hb=>by
  have ho:O2 (.nd v) b:=by rw[hO2,cL _ _ (by simp)];exact hb
  exact⟨by rw[hk b (hne _ (by simp) b ho),(k2 (.nd v) (by simp) b hb).2],ho⟩
 refine⟨ns',H2,H3,O2,g1,st,h.ok,h.pv,⟨w2.dis,λj b hb=>by rw[hl];exact w2.lt j b hb,w2.old,ext3⟩,⟨?_,?_,?_,?_,?_,?_,?_,?_⟩,λv hv=> ?_,λv hv b hb=> ?_,λj hj=>by omega⟩
 ·rw[hH3]
  exact dN hfb2
 ·rw[o2fb];exact c.fabO
 ·exact hops2.cZ λb hb=>hk b (hne .cs (by simp) b (by rw[o2cs];exact .inl hb))
 ·exact λb hb=>by rw[o2cs];exact .inl hb
 ·have e:(List.range (i+1)).map (λv=>some (⟨(up1 a.y i y v).nb,0,none⟩:Addr))=(List.range i).map (λv=>some (⟨(a.y v).nb,0,none⟩:Addr))++[some ⟨y.nb,0,none⟩]:=by
   rw[aTv,List.map_append]
   congr 1
   ·refine List.map_congr_left λv hv=> ?_
    have:=aTA.mp hv;unfold up1;rw[if_neg U]
   ·simp only[aTr,List.map_nil,up1,if_pos]
  show Rw ptC 72 1 H3 ns' ((List.range (i+1)).map λv=>some (⟨(up1 a.y i y v).nb,0,none⟩:Addr))
  rw[e];exact g2.cZ λb hb=>hk b (hne .cs (by simp) b (by rw[o2cs];exact .inr (.inr hb)))
 ·exact λb hb=>by rw[o2cs];exact .inr (.inr hb)
 ·exact mp1.wX (by rw[hk _ (hne .cs (by simp) _ (by rw[o2cs];exact .inr (.inl rfl))),hmb2])
 ·rw[o2cs];exact .inr (.inl rfl)
 ·have hle:H1.length<=H3.length:=by rw[hl];exact g5.1
  by_cases hvi:v=i
  ·subst hvi
   simp only[up1,if_pos]
   exact(hn.aQD h.own.ext h.pv).Sf hle (λb hb=>(kN v b (by rw[hO1,eV];exact hb)).1) ext3
  ·simp only[up1,if_neg hvi]
   have hn':=h.node v U
   exact(hn'.fW xe).Sf hle (λb hb=>(kN v b (by rw[hO1,cL _ _ (λhh=>hvi (by injection hh))];exact h.nodeO v U b hb)).1) ext3
 ·by_cases hvi:v=i
  ·subst hvi
   simp only[up1,if_pos] at hb
   exact(kN v b (by rw[hO1,eV];exact hb)).2
  ·simp only[up1,if_neg hvi] at hb
   exact(kN v b (by rw[hO1,cL _ _ (λhh=>hvi (by injection hh))];exact h.nodeO v U b hb)).2
theorem FabG.aRH {n j:Nat}(h:FabG H0 H O a F p ev wv nv t s n j)(hj:j<(aZ p).length)(hs:s.l j=[])(xe:Ext H H1){lbn:Nat}(hl:Lk.IsLink H1 lbn [] p.bag.toNat (Nw H H1)):
  ∃H2 O',kS (.str [true,true]) (.map (some a.mb)) (edV ((aZ p)[j]'hj)) (pt lbn) H1=some (undef,H2)/\FabG H0 H2 O' {a with lb:=up1 a.lb j lbn} F p ev wv nv t s n (j+1):=by
 obtain⟨N,hN⟩:=qN h.ok;have hnd:=(uX hN).1;have c:=h.cst;have hix:(aZ p).idxOf ((aZ p)[j]'hj)=j:=List.Nodup.idxOf_getElem hnd j hj;have h1:=h.dC xe;have mp1:=h1.cst.mp;obtain⟨es,cl,g1,g2⟩:=aRL R9 mp1 ((aZ p)[j]'hj) (pt lbn) (by unfold lkF;rw[hix,if_neg U])
 obtain⟨H2,hH2⟩:=aD (H1.set a.mb (.map es cl));rw[<-hH2] at g1 g2;obtain⟨w1,k1⟩:=h.own.Cr (.lk j) (X:=λ_=>False) (X':=Nw H H1) (λ_ hb=>hb.elim) ⟨xe.1,λb hb=> .inr hb.1,λb hb _=>xe.2 b hb id⟩ (λb hb=>hb.2)
 obtain⟨O1,hO1⟩:=aD (updI O (.lk j) (Nw H H1));have ocs:O1 .cs=O .cs:=by rw[hO1];exact cL _ _ (by simp)
 have ofb:O1 .fb=O .fb:=by rw[hO1];exact cL _ _ (by simp)
 rw[<-hO1] at w1;have hk: ∀b,b≠a.mb->H2[b]? =H1[b]? :=λb hb=>by rw[hH2,aSX (λhh=>hb hh.symm)]
 have hl2:H2.length=H1.length:=by rw[hH2,List.length_set]
 have hne: ∀i,i≠ .cs-> ∀b,O1 i b->b≠a.mb:=λi hi b hb hh=>hi (w1.dis i .cs b hb (by rw[hh,ocs];exact c.mpO))
 have ext2:Ext H0 H2:=by rw[hH2];exact jY w1.ext (h.own.old _ _ c.mpO)
 have hrow: ∀{α:Type}{el:α->List Value}{e:TypeId}{sz:Nat}{w:Value}{xs:List α},Rw el e sz H1 w xs->Rw el e sz H2 w xs:=λhr=>hr.cZ λb hb=>hk b λhh=>by
  obtain⟨cs,hc⟩:=hr.blk hb;obtain⟨es',cl',hm,_⟩:=mp1;rw[hh,hm] at hc;cases hc
 have hmp:upd (lkF p a j) ((aZ p)[j]'hj) (some (pt lbn))=lkF p {a with lb:=up1 a.lb j lbn} (j+1):=by
  funext e
  unfold upd lkF;by_cases he:e=(aZ p)[j]'hj
  ·rw[if_pos he,he,hix,if_pos U]
   simp only[up1,if_pos]
  ·rw[if_neg he]
   have hne':(aZ p).idxOf e≠j:=λhh=>he (by
    have:=List.getElem_idxOf (xs:=aZ p) (x:=e) (by rw[hh];exact hj)
    simp only[hh] at this;exact this.symm)
   by_cases hlt:(aZ p).idxOf e<j
   ·rw[if_pos hlt,if_pos U]
    simp only[up1];rw[if_neg hne']
   ·rw[if_neg hlt,if_neg U]
 refine⟨H2,O1,g1,h.ok,h.pv,⟨w1.dis,λi b hb=>by rw[hl2];exact w1.lt i b hb,w1.old,ext2⟩,⟨?_,by rw[ofb];exact c.fabO,hrow h1.cst.hops,λb hb=>by rw[ocs];exact c.hopsO b hb,hrow h1.cst.nds,λb hb=>by rw[ocs];exact c.ndsO b hb,by rw[<-hmp];exact g2,by rw[ocs];exact c.mpO⟩,λv hv=> ?_,λv hv b hb=> ?_,λi hi=> ?_⟩
 ·show H2[a.fb]? =some (.cells (nG p ev wv nv a.hv a.ns a.mb s.k) 87 .fix)
  rw[hk _ (hne .fb (by simp) _ (by rw[ofb];exact c.fabO)),h1.cst.fab]
 ·exact(h1.node v hv).Sf U (λb hb=>hk b (hne (.nd v) (by simp) b (by rw[hO1,cL _ _ (by simp)];exact h.nodeO v hv b hb))) ext2
 ·rw[hO1,cL _ _ (by simp)]
  exact h.nodeO v hv b hb
 ·by_cases hij:i=j
  ·subst hij
   simp only[up1,if_pos];rw[hs,hO1,eV];exact hl.zT (λb hb=>hk b (hne (.lk i) (by simp) b (by rw[hO1,eV];exact hb))) U
  ·have hne2:FP.lk i≠ .lk j:=λhh=>hij (by injection hh)
   simp only[up1,if_neg hij];rw[hO1,cL _ _ hne2]
   exact(h1.link i U).zT (λb hb=>hk b (hne (.lk i) (by simp) b (by rw[hO1,cL _ _ hne2];exact hb))) U
def Se (Hs:aG)(p:PlanD)(H2:aG)(u:Value):Prop:= ∃H0 O a F ev wv nv,u= .tuple #[pt a.fb,.int .u16 0]/\Ext Hs H0/\cX H0 H2 O a F p ev wv nv 0 (FS.p7 (bH p))/\ ∀G:aG,(∀b,Hs.length<=b->G[b]? =H0[b]?)->PV G p ev wv nv
theorem aRJ {Hs:aG}{pb:Nat}{ev0 wv0 nv0:Value}(hs0:Ext Hs H0)(hpg: ∀G:aG,(∀b,Hs.length<=b->G[b]? =H0[b]?)->PV G p ev wv nv)(bp:H0[pb]? =some (plB p ev0 wv0 nv0))(hm:100<m){fb:Nat}{hv:Value}:
  ∀(q j l:Nat)(H:aG)(O:FP->Nat->Prop)(a:FL),(aZ p).length-j=q->j<=(aZ p).length->q<l->a.fb=fb->a.hv=hv->FabG H0 H O a F p ev wv nv 0 (FS.p7 (bH p)) p.nodes.toNat j-> ∀(x2 x3 gL sR:Value),
  ∃H2 u2,aL l (aO prog (lvl prog pkN m) (aL m) Rc) (Rf (lvl prog pkN m) (aL m)) (aF 1 (some (.Q pb 0)::x2::x3::aF 1 (some (pt fb)::aF 16 (gL::sR::aF 21 (hv::some (.I ((aZ p).length:Nat))::some (.I (j:Nat))::aF 13 []))))) H=some (u2,H2)/\Se Hs p H2 u2:=by
 intro q;induction q with
 |zero=>
  intro j l H O a hq hj hl hfb hhv h;intros;obtain⟨l,rfl⟩:=aB l U
  obtain rfl:j=(aZ p).length:=U
  have e:decide (((aZ p).length:Int)<((aZ p).length:Nat))=false:=by simp
  refine⟨H,_,?_,H0,O,a,F,ev,wv,nv,rfl,hs0,h,hpg⟩;rw[bS,aCU];simp only[gsR,e];rw[aQK,<-hfb];rfl
 |succ q ih=>
  intro j l H O a hq hj hl hfb hhv h;intros;obtain⟨l,rfl⟩:=aB l U
  have h36:=qM p;have hjl:j<(aZ p).length:=U
  have e:decide ((j:Int)<((aZ p).length:Nat))=true:=aTG U
  have e3:=aA (i:=j) U
  obtain⟨x,hx⟩:=aD ((aZ p)[j]'hjl);have hxj:(aZ p)[j]? =some x:=by rw[hx];exact aSY _
  obtain⟨b,o,q1,_,q3⟩:=h.cst.hops.rs.dS mY hxj .i64;rw[hhv] at q1;have q4:ldN 2 (.pointer (some ⟨b,o,none⟩)) H=some (edV x,H):=(q3 H rfl).1;obtain⟨H1,hH1⟩:=aD (H++[Blk.cells (edC x) 83 .fix]);have x1:Ext H H1:=by rw[hH1];exact Fr.app _ _ _
  have st:stN 2 (.pointer (some ⟨H.length,0,none⟩)) (edV x) (H++[Blk.cells [Value.int .i64 0,.int .i64 0] 83 .fix])=some (undef,H1):=by
   rw[sD (n:=2) (vs:=edC x) (cD H _) aC rfl rfl (aS1 2) (wI x),gQ,hH1]
   rfl
  have b1:H1[H.length]? =some (.cells (edC x) 83 .fix):=by rw[hH1];exact cV _ _
  have h1:=h.dC x1;have l13:ld1 (.Q fb 13) H1=some (.map (some a.mb),H1):=by rw[<-hfb];exact bA h1.cst.fab rfl
  have lx: ∀{G:aG},Ext H1 G->ldN 2 (.pointer (some ⟨H.length,0,none⟩)) G=some (edV x,G):=λhG=>m9 (cR b1 hG) (aS1 2)
  have lx1:=lx (Fr.dY _ _);have l7:ld1 (.Q pb 7) H1=some (.I p.bag,H1):=cO (cR bp h1.own.ext) 7 (.I p.bag) rfl;have hbag:1<=p.bag/\p.bag<=64:=by
   have:=h.ok;unfold eC oP wi at this;simp only[aS4,decide_eq_true_eq] at this;omega
  have ebag:((p.bag.toNat:Nat):Int)=p.bag:=U
  obtain⟨H2,g2,x2,hl2⟩:=Lk.aRp (pr:=pkN) (H:=H1) (aQ rfl) (m:=m) U p.bag.toNat U
  rw[ebag] at g2;have lx2:=lx x2;have l13':ld1 (.Q fb 13) H2=some (.map (some a.mb),H2):=by rw[<-hfb];exact bA (h1.dC x2).cst.fab rfl
  have ck1:chk (some (edV x,H2)) (edV x)=true:=by
   obtain⟨x1,x2⟩:=x;simp[chk,veq,rH,edV,edC]
  have ck2:chk (some (Value.map (some a.mb),H2)) (.map (some a.mb))=true:=by simp[chk,veq]
  obtain⟨H3,O3,g3,h3⟩:=h1.aRH hjl rfl x2 hl2;rw[<-hx] at g3;rw[bS,aCU];simp only[gsR,e,q1,q4,st,l13,lx1,l7,g2,lx2,ck1,l13',ck2,g3,aT,e3];exact ih (j+1) l H3 O3 {a with lb:=up1 a.lb j H1.length} U U U hfb hhv h3 ..
theorem aRK {Hs:aG}{pb:Nat}{ev0 wv0 nv0:Value}(hs0:Ext Hs H0)(hpg: ∀G:aG,(∀b,Hs.length<=b->G[b]? =H0[b]?)->PV G p ev wv nv)(bp:H0[pb]? =some (plB p ev0 wv0 nv0))(hck:jA p=0)(hst:0<=p.start/\p.start<65536)(hm:17592186045500<m)(hm2:m<=72057594037927936){fb:Nat}{hv:Value}:
  ∀(q i l:Nat)(H:aG)(O:FP->Nat->Prop)(a:FL)(F:Nat->Part->Nat->Prop),p.nodes.toNat-i=q->i<=p.nodes.toNat->q<l->a.fb=fb->a.hv=hv->FabG H0 H O a F p ev wv nv 0 (FS.p7 (bH p)) i 0-> ∀(x2 x3 x45 Iu Ab:Value),
  ∃H2 u2,aL l (aO prog (lvl prog pkN m) (aL m) Rb) (Re (lvl prog pkN m) (aL m)) (aF 1 (some (.Q pb 0)::x2::x3::aF 1 (some (pt fb)::aF 16 (some (.I (p.nodes.toNat:Nat))::some (.I (i:Nat))::aF 21 (x45::Iu::Ab::aF 13 []))))) H=some (u2,H2)/\Se Hs p H2 u2:=by
 intro q;induction q with
 |zero=>
  intro i l H O a F hq hi hl hfb hhv h;intros;obtain⟨l,rfl⟩:=aB l U
  obtain rfl:i=p.nodes.toNat:=U
  have h36:=qM p;have e:decide ((p.nodes.toNat:Int)<(p.nodes.toNat:Nat))=false:=by simp
  have l11:ld1 (.Q fb 11) H=some (hv,H):=by rw[<-hfb,<-hhv];exact bA h.cst.fab rfl
  have hlen:=h.cst.hops.nR;rw[hhv] at hlen;rw[bS,aCT];simp only[gsR,e];rw[aQJ];simp only[gsR,l11,hlen];exact aRJ hs0 hpg bp (m:=m) U (aZ p).length 0 m H O a U U U hfb hhv h ..
 |succ q ih=>
  intro i l H O a F hq hi hl hfb hhv h;intros;obtain⟨l,rfl⟩:=aB l U
  obtain⟨N,hN⟩:=qN h.ok;have hn:=hN.hn;have h6:=hN.h6;have e:decide ((i:Int)<(p.nodes.toNat:Nat))=true:=aTG U
  have e3:=aA (i:=i) U
  have l12: ∀{G:aG},Ext H G->ld1 (.pointer (some ⟨fb,12,none⟩)) G=some (a.ns,G):=λhG=>by rw[<-hfb];exact bA (cR h.cst.fab hG) rfl
  have l12a:=l12 (Fr.dY _ _);have lpl:ldN 11 (.Q fb 0) H=some (plV p ev wv nv,H):=by rw[<-hfb];exact m9 h.cst.fab (by simp[nG,plC])
  obtain⟨H1,Fn,y,g1,hn1⟩:=aQA (h.pv.ext h.own.ext) hck hst hm hm2 i U
  have l12b:=l12 hn1.ext;have ck:chk (some (a.ns,H1)) a.ns=true:=aCE h.cst.nds H1;obtain⟨ns',H2,H3,O3,g2,g3,h3⟩:=h.aRI U hn1
  rw[hfb] at g3;rw[bS,aCT];simp only[gsR,e,l12a,lpl,g1,l12b,ck,aQE,g2,g3,aT,e3];exact ih (i+1) l H3 O3 {a with ns:=ns',y:=up1 a.y i y} (up1 F i Fn) U U U hfb hhv h3 ..
theorem ck0 (h:jA p=0):eC p=true:=by
 unfold jA at h
 split at h
 ·assumption
 ·omega
theorem aDA (hp:PV H p ev wv nv)(hck:jA p=0)(hst:0<=p.start/\p.start<65536)(hm:17592186045600<m)(hm2:m<=72057594037927936):
  ∃H2 u,lvl prog pkN m (.func 22) [plV p ev wv nv] H=some (u,H2)/\Se H p H2 u:=by
 have hok:=ck0 hck;obtain⟨N,hN⟩:=qN hok;have hn:=hN.hn;have h6:=hN.h6;have hwl:p.weights.length<=1000:=by
  unfold eC oP wi at hok;simp only[aS4,decide_eq_true_eq] at hok;omega
 obtain⟨H1,hH1⟩:=aD (H++[plB p ev wv nv]);have x1:Ext H H1:=by rw[hH1];exact Fr.app _ _ _
 have b1:H1[H.length]? =some (plB p ev wv nv):=by rw[hH1];exact cV _ _
 have e1:H++[Blk.cells (plV p ev wv nv).cells.toList 40 .fix]=H1:=by rw[hH1];rfl
 have p1:=hp.ext x1;have l1:=fL b1;obtain⟨H2,g2,x2⟩:=aAa p1 (m:=m-1) U U
 rw[hck] at g2;have b2:=cR b1 x2;have l2:=fL b2;have d0:((0:Int)!=0)=false:=rfl;obtain⟨H3,e',w',n',g3,c3⟩:=aDd (p1.ext x2) (by have:=hN.e15;omega) hwl (by have:=hN.nl;omega) (λxs hx=>by have:=hN.rl xs hx;omega) (λxs hx hz=>by have h1:=hN.rl xs hx;have:=hN.h2;rw[hz] at h1;simp only[List.length_nil] at h1;omega) (m:=m-1) U
 have b3:=cR b2 c3.ext;have l3:=fL b3;have pchk:=hp.chk;obtain⟨H4,hv,g4,x4,hw4,nw4⟩:=Yt ((p1.ext x2).ext c3.ext) (m:=m-1) (by have:=hN.e15;omega) U
 have hb:bld prog 87 [(0,plV p e' w' n'),(1,hv),(3,.map (some H4.length))]=some (.agg ⟨nG p e' w' n' hv (.N) H4.length 0⟩):=by
  rcases hw4 with⟨_,⟨rfl,_⟩|⟨_,_,_,rfl,_⟩⟩<;>kernel_rfl
 obtain⟨H5,hH5⟩:=aD (H4++[Blk.map [] 0]);have nm:lU H4=some (.map (some H4.length),H5):=by rw[hH5];rfl
 obtain⟨H6,hH6⟩:=aD (H5++[Blk.cells (nG p e' w' n' hv (.slice none 0 0) H4.length 0) 87 .fix]);have e6:H5++[Blk.cells (Value.cells (.agg ⟨nG p e' w' n' hv (.slice none 0 0) H4.length 0⟩)).toList 87 .fix]=H6:=by rw[hH6];rfl
 have x5:Ext H4 H5:=by rw[hH5];exact Fr.app _ _ _
 have x6:Ext H5 H6:=by rw[hH6];exact Fr.app _ _ _
 have iG:=x4.tr (x5.tr x6);have b6:=cR b3 iG;have l0:ld1 (.Q H.length 0) H6=some (.I (p.nodes.toNat:Nat),H6):=by rw[cO b6 0 (.I p.nodes) rfl,show((p.nodes.toNat:Nat):Int)=p.nodes from U]
 obtain⟨a,ha⟩: ∃a:FL,a=⟨H5.length,hv,.N,H4.length,λ_=>⟨0,0,0,[],λ_=>0,λ_=>0,λ_=>[],λ_=>0,λ_=>0,λ_=>0,λ_=>0,λ_=>0,λ_=>[],λ_=>[],λ_ _=>0,λ_ _=>0,0,0,0,0,0⟩,λ_=>0⟩:=⟨_,rfl⟩
 have a1:a.fb=H5.length:=by rw[ha]
 have a2:a.hv=hv:=by rw[ha]
 have a3:a.ns= .N:=by rw[ha]
 have a4:a.mb=H4.length:=by rw[ha]
 have hl5:H5.length=H4.length+1:=by rw[hH5];simp
 have hl6:H6.length=H5.length+1:=by rw[hH6];simp
 obtain⟨O,hO⟩: ∃O:FP->Nat->Prop,O=λi b=>match i with
  | .fb=>b=H5.length
  | .cs=>aS hv b∨b=H4.length
  |_=>False:=⟨_,rfl⟩
 have hvl: ∀b,aS hv b->b<H4.length:=λb hb=>hw4.dZ hb
 have hG:FabG H3 H6 O a (λ_ _ _=>False) p e' w' n' 0 (FS.p7 (bH p)) 0 0:=by
  refine⟨hok,c3.pv,⟨λi j b hi hj=> ?_,λi b hi=> ?_,λi b hi=> ?_,iG⟩,⟨?_,?_,?_,?_,?_,?_,?_,?_⟩,λv hv=>by omega,λv hv=>by omega,λv hv=>by omega⟩
  ·rw[hO] at hi hj
   cases i<;>cases j<;>simp only at hi hj<;>(try rfl)<;>(try exact hi.elim)<;>(try exact hj.elim)
   ·rcases hj with hj|hj
    ·have:=hvl b hj;omega
    ·omega
   ·rcases hi with hi|hi
    ·have:=hvl b hi;omega
    ·omega
  ·rw[hO] at hi
   cases i<;>simp only at hi<;>(try exact hi.elim)
   ·omega
   ·rcases hi with hi|hi
    ·have:=hvl b hi;omega
    ·omega
  ·rw[hO] at hi
   have:=x4.1;cases i<;>simp only at hi<;>(try exact hi.elim)
   ·omega
   ·rcases hi with hi|hi
    ·exact nw4 b hi
    ·omega
  ·rw[a1,a2,a3,a4,hH6]
   exact cV _ _
  ·rw[hO,a1]
  ·rw[a2]
   exact nE hw4 (x5.tr x6)
  ·intro b hb
   rw[a2] at hb;rw[hO];exact .inl hb
  ·rw[a3]
   exact Rw.fE
  ·intro b hb
   rw[a3] at hb;obtain⟨_,_,_,hh⟩:=hb;cases hh
  ·have hz:lkF p a 0=λ_=>none:=by
    funext e
    unfold lkF;rw[if_neg U]
   have hm5:IsMap edV H5 H4.length (λ_=>none):=by rw[hH5];exact IsMap.aBH H4
   rw[a4,hz];exact hm5.wX (by rw[x6.2 _ U id])
  ·rw[hO,a4]
   exact .inr rfl
 have hpg: ∀G:aG,(∀b,H.length<=b->G[b]? =H3[b]?)->PV G p e' w' n':=λG hG=>by
  have eQ:=(x1.tr x2).1;obtain⟨us,n1,n2,n3,n4⟩:=c3.n;have hk: ∀{α:Type}{el:α->List Value}{e:TypeId}{sz:Nat}{w:Value}{xs:List α},Rw el e sz H3 w xs->New H2 w->Rw el e sz G w xs:=λh hn=>h.cZ λb hb=>hG b (aTc eQ (hn b hb))
  exact⟨(hk c3.e.1 c3.e.2).rs,(hk c3.w.1 c3.w.2).rs,Hy (hk n1 n2).rs n3 λi u xs hu hx=>(hk (n4 i u xs hu hx).1 (n4 i u xs hu hx).2).rs,c3.pv.be,c3.pv.bw,c3.pv.bn⟩
 refine dP (aQ rfl) U ?_
 rw[aQL];simp only[gsR,e1,l1,g2,d0,l2,g3,l3,pchk,g4,nm,hb,e6,l0];exact aRK (H0:=H3) (Hs:=H) (pb:=H.length) (m:=m-1) (x1.tr (x2.tr c3.ext)) hpg b3 hck hst U U p.nodes.toNat 0 (m-1) H6 O a _ U U U a1 a2 hG ..
end
section
variable {H0 H H' H1 : aG} {O : FP → Nat → Prop} {a : FL} {F : Nat → Part → Nat → Prop} {p : PlanD} {ev wv nv : Value} {t m : Nat} {s : FS}
theorem aRO {G:aG}{b:Nat}(hz:G[b]? =some plZ)(hp:PV G p ev wv nv):stN 11 (.Q b 0) (plV p ev wv nv) G=some (undef,G.set b (plB p ev wv nv)):=by
 have e1:(plV p ev wv nv).cells.toList=plC p ev wv nv:=rfl;rw[iI 11 _ _ _ rfl,hz,e1];unfold plZ;rw[kV _ _ _ _ _ _ aC (by simp[plC]) hp.Bi]
 simp[cT,plC,plB]
theorem Clo.aRM {G:aG}{b:Nat}{cs cs':List Value}{T:TypeId}(c:Clo H1 G p ev wv nv)(x:Ext H H1)(hb:H.length<=b)(hz:G[b]? =some (.cells cs T .fix)):Clo H (G.set b (.cells cs' T .fix)) p ev wv nv:=by
 have hk: ∀{α:Type}{el:α->List Value}{e:TypeId}{sz:Nat}{w:Value}{xs:List α},Rw el e sz G w xs->Rw el e sz (G.set b (.cells cs' T .fix)) w xs:=λh=>h.cZ λc hc=>aSX λhh=>by
  obtain⟨cs,hx⟩:=h.blk hc;rw[<-hh,hz] at hx;cases hx
 have hn: ∀v,New H1 v->New H v:=λv h b hb=>aTc x.1 (h b hb)
 obtain⟨us,n1,n2,n3,n4⟩:=c.n
 exact⟨⟨(hk c.e.1).rs,(hk c.w.1).rs,Hy (hk n1).rs n3 λi u xs hu hx=>(hk (n4 i u xs hu hx).1).rs,c.pv.be,c.pv.bw,c.pv.bn⟩,jY (x.tr c.ext) hb,⟨hk c.e.1,hn _ c.e.2⟩,⟨hk c.w.1,hn _ c.w.2⟩,us,hk n1,hn _ n2,n3,λi u xs hu hx=>⟨hk (n4 i u xs hu hx).1,hn _ (n4 i u xs hu hx).2⟩⟩
theorem aRN (hok:eC p=true):p.edges.length<=1000/\p.weights.length<=1000/\p.next.length<=1000/\(∀xs∈p.next,xs.length<=1000)/\ ∀xs∈p.next,xs≠[]:=by
 obtain⟨N,hN⟩:=qN hok;have h6:=hN.h6;have h2:=hN.h2;refine⟨by have:=hN.e15;omega,?_,by have:=hN.nl;omega,λxs hx=>by have:=hN.rl xs hx;omega,λxs hx hz=>by have h1:=hN.rl xs hx;rw[hz] at h1;simp only[List.length_nil] at h1;omega⟩
 unfold eC oP wi at hok;simp only[aS4,decide_eq_true_eq] at hok;omega
theorem zV (h:cX H0 H O a F p ev wv nv t s)(hm:3000<m): ∃H' e' w' n',lvl prog pkN m (.func 37) [pt a.fb] H=some (plV p e' w' n',H')/\Clo H H' p e' w' n':=by
 obtain⟨c1,c2,c3,c4,c5⟩:=aRN h.ok;obtain⟨H1,hH1⟩:=aD (H++[plZ]);have x1:Ext H H1:=by rw[hH1];exact Fr.app _ _ _
 have z1:H1[H.length]? =some plZ:=by rw[hH1];exact cV _ _
 have h1:=h.dC x1;have lpl:ldN 11 (.Q a.fb 0) H1=some (plV p ev wv nv,H1):=m9 h1.cst.fab (by simp[nG,plC])
 obtain⟨H2,e',w',n',g2,c⟩:=aDd (h1.pv.ext h1.own.ext) c1 c2 c3 c4 c5 (m:=m-1) U
 have z2:=cR z1 c.ext;have st:=aRO z2 c.pv;have cc:=c.aRM (cs':=plC p e' w' n') x1 (aS1 _) z2;obtain⟨H3,hH3⟩:=aD (H2.set H.length (plB p e' w' n'));have l3:=fL (H:=H3) (b:=H.length) (p:=p) (ev:=e') (wv:=w') (nv:=n') (by rw[hH3];exact dN z2)
 rw[<-hH3] at st;refine⟨H3,e',w',n',aV (aQ rfl) U ?_,by rw[hH3];exact cc⟩
 rw[aQU];simp only[gsR,uV,<-hH1,lpl,g2,st,l3]
def kq:PlanD:=qW [0] 1 0 0
def kI:Nat×FS:=tQ kq kx (FS.p7 (bH kq))
end
end Go.Proofs.YtciiopkbmjppfaaGreatDoor
namespace Go.Abs
open M
def gK (lane fr to:Nat)(b:List UInt8):Option Nat:=match jZ b with
 |none=>none
 |some f=>if f.kind=1/\f.lane=lane/\fr<=bU fr f.seq/\bU fr f.seq<to then some (bU fr f.seq) else none
def mU (ks:List Nat)(b:Option Nat):List Nat:=match b with
 |none=>ks
 |some n=>if n∈ks then ks else ks++[n]
def p8 (lane fr to:Nat)(l:List (List UInt8)):List Nat:=l.foldl (λks b=>mU ks (gK lane fr to b)) []
structure Acc where
 usable:Int
 late:Int
 flying:Int
 held:Int
 lost:Int
deriving DecidableEq
def Acc.lE (a:Acc):List Value:=[.int .i64 a.usable,.int .i64 a.late,.int .i64 a.flying,.int .i64 a.held,.int .i64 a.lost]
def cI (n:Int):Int:=IntKind.i64.wrap (IntKind.u64.wrap n)
def tR (room lane:Nat)(x:Snd)(y:Rcv)(l:List (List UInt8)):Acc:=
 let fl:=(p8 lane y.n x.s l).length
 ⟨x.gR,cI (y.dE room-x.l),fl,y.h,IntKind.i64.wrap (cI (x.s-y.n)-fl)⟩
def qA (c:Cfg)(s:NS):Nat:=((List.range c.lanes).map λk:Nat=>(cW s.hL k).length+((List.range c.aJ).map λi=>((List.range c.aJ).map λo=>fT s.rL i o k).sum).sum).sum
theorem vM (f:Nat->Nat)(n:Nat):((List.range (n+1)).map f).sum=((List.range n).map f).sum+f n:=by
 rw[aTv,List.map_append,List.sum_append];simp
theorem Cw {f:Nat->Nat}: ∀n,(∀i,i<n->f i=0)->((List.range n).map f).sum=0
 |0,_=>rfl
 |n+1,h=>by rw[vM,Cw n λi hi=>h i U,h n U]
theorem Cv {f:Nat->Nat}{B:Nat}: ∀n,(∀i,i<n->f i<=B)->((List.range n).map f).sum<=n*B
 |0,_=>by simp
 |n+1,h=>by
  have:=Cv n λi hi=>h i U
  have:=h n U
  rw[vM,Nat.succ_mul];omega
theorem aDB: ∀(L:List Pkt)(n:Nat),(∀x∈L,0<=x.lane/\x.lane<(n:Int))->((List.range n).map λk:Nat=>(cW L k).length).sum=L.length
 |[],n,_=>by
  rw[Cw]
  ·rfl
  ·intro i _
   rfl
 |x::L,n,h=>by
  have ih:=aDB L n λy hy=>h y (aTd _ hy)
  obtain⟨h1,h2⟩:=h x (aS5 ..);have key: ∀m:Nat,((List.range m).map λk:Nat=>(cW (x::L) k).length).sum=((List.range m).map λk:Nat=>(cW L k).length).sum+if x.lane<(m:Int) then 1 else 0:=by
   intro m;induction m with
   |zero=>
    rw[if_neg U]
    rfl
   |succ m ihm=>
    rw[vM,vM,ihm];have e:(cW (x::L) (m:Int)).length=(cW L (m:Int)).length+if x.lane=(m:Int) then 1 else 0:=by
     unfold cW;rw[List.filter_cons];by_cases hx:x.lane=(m:Int)
     ·rw[if_pos (by simpa using hx),if_pos hx]
      rfl
     ·rw[if_neg (by simpa using hx),if_neg hx]
      rfl
    rw[e];by_cases h3:x.lane<(m:Int)
    ·rw[if_pos h3,if_neg U,if_pos U]
     omega
    ·by_cases h4:x.lane=(m:Int)
     ·rw[if_neg h3,if_pos h4,if_pos U]
      omega
     ·rw[if_neg h3,if_neg h4,if_neg U]
      omega
  rw[key n,ih,if_pos h2];rfl
theorem aRP {c:Cfg}{s:NS}(h1:s.rL=[])(h2: ∀x∈s.hL,0<=x.lane/\x.lane<(c.lanes:Int)):qA c s=s.hL.length:=by
 have hl: ∀i o k,fT s.rL i o k=0:=λi o k=>by
  unfold fT jB;rw[h1];rfl
 unfold qA;have:(λk:Nat=>(cW s.hL k).length+((List.range c.aJ).map λi=>((List.range c.aJ).map λo=>fT s.rL i o k).sum).sum)=λk:Nat=>(cW s.hL k).length:=by
  funext k
  rw[Cw _ λi _=>Cw _ λo _=>hl i o k,Nat.add_zero]
 rw[this,aDB _ _ h2]
end Go.Abs
namespace Go.Proofs.YtciiopkbmjppfaaGreatDoor
open Go.Proofs.Tryz
open Go.Abs Go.Abs.M
open Classical
def xQ (n:Nat):Value:= .int .u64 n
def IsKeys (H:aG)(mb:Nat)(ks:List Nat):Prop:= ∃(es:List (Nat×Value×Nat))(c:Nat),H[mb]? =some (.map (es.map (gG xQ)) c)/\es.map (·.1)=ks/\ks.Nodup
theorem IsKeys.aRQ {H H':aG}{mb:Nat}{ks:List Nat}(h:IsKeys H mb ks)(hk:H'[mb]? =H[mb]?):IsKeys H' mb ks:=by
 obtain⟨es,c,h1,h2⟩:=h
 exact⟨es,c,by rw[hk,h1],h2⟩
theorem IsKeys.aRS (H:aG):IsKeys (H++[.map [] 0]) H.length []:=⟨[],0,by simp,rfl,List.nodup_nil⟩
theorem IsKeys.aRR {H:aG}{mb:Nat}{ks:List Nat}(h:IsKeys H mb ks):oD (.map (some mb)) H=some (.I (ks.length:Nat),H):=by
 obtain⟨es,c,h1,h2,_⟩:=h;unfold oD;simp only;rw[h1];simp only;rw[<-h2,aTa,aTa]
theorem IsKeys.aRT {kt:KeyT}(hk:KeyC kt xQ){H:aG}{mb:Nat}{ks:List Nat}(h:IsKeys H mb ks)(n:Nat)(v:Value): ∃X,kS kt (.map (some mb)) (xQ n) v H=some (undef,H.set mb X)/\IsKeys (H.set mb X) mb (mU ks (some n)):=by
 obtain⟨es,c,h1,h2,h3⟩:=h;have hlt:=(aSW.mp h1).1;have e:mU ks (some n)=if n∈ks then ks else ks++[n]:=rfl
 rw[e];by_cases hn:n∈ks
 ·rw[if_pos hn]
  rw[<-h2] at hn;obtain⟨e,he,hen⟩:=aTz.mp hn;obtain⟨i,hi⟩:=List.getElem?_of_mem he;have hf:=zJ hk es i 0 e (by rw[h2];exact h3) hi
  rw[hen] at hf;refine⟨.map ((es.set i (n,v,e.2.2)).map (gG xQ)) c,?_,es.set i (n,v,e.2.2),c,by rw[aS2 hlt],?_,h3⟩
  ·unfold kS
   rw[if_pos (vB hk n)];simp only;rw[h1];simp only;rw[hf];simp only[aTh];rw[<-Ca];rfl
  ·rw[List.map_set,h2]
   refine aTx λj=> ?_
   rw[List.getElem?_set];split
   ·rename_i hij
    subst hij;split
    ·rw[<-h2,aS9,hi,Option.map_some,hen]
    ·rename_i hh
     have:=(aSW.mp hi).1;rw[<-h2,aTa] at hh;omega
   ·rfl
 ·rw[if_neg hn]
  have hf:=B9 hk n es 0 λe he hen=>hn (by rw[<-h2,<-hen];exact List.mem_map_of_mem he)
  refine⟨.map ((es++[(n,v,c)]).map (gG xQ)) (c+1),?_,es++[(n,v,c)],c+1,by rw[aS2 hlt],by rw[List.map_append,h2];rfl,?_⟩
  ·unfold kS
   rw[if_pos (vB hk n)];simp only;rw[h1];simp only;rw[hf,List.map_append];rfl
  ·rw[List.nodup_append]
   exact⟨h3,by simp,λa ha b hb hab=>hn (by rw[List.mem_singleton] at hb;rw[<-hb,<-hab];exact ha)⟩
theorem aDC (a:Acc):a.lE.length=5:=rfl
theorem aRU (a:Acc):cA a.lE=true:=rfl
def oA (p:PlanD)(v w:Nat):Nat:=(uS p.edges v w).toNat
def dM (p:PlanD)(s:FS)(k lane:Nat):Acc:=
 let v:=((aZ p).getD k (0,0)).1.toNat
 let w:=((aZ p).getD k (0,0)).2.toNat
 tR p.room.toNat lane ((s.n v).snd (oA p v w) lane) ((s.n w).rcv (oA p w v) lane) (s.l k)
def iF (p:PlanD)(s:FS):List Acc:=(List.range (aZ p).length).flatMap λk=>(List.range p.lanes.toNat).map (dM p s k)
def sN (p:PlanD)(s:FS):Nat:=((List.range p.nodes.toNat).map λv=>qA (cP p v) (s.n v)).sum
theorem aDD (x y:Acc):bin prog .eql 46 (.agg ⟨x.lE⟩) (.agg ⟨y.lE⟩)=some (.bool (decide (x=y))):=by
 have k:qF prog 46=some [true,true,true,true,true]:=by kernel_rfl
 obtain⟨a1,a2,a3,a4,a5⟩:=x;obtain⟨b1,b2,b3,b4,b5⟩:=y;simp only[Acc.lE,Acc.mk.injEq];simp[bin,cK,jI,k,eqT,Bool.beq_eq_decide_eq,Bool.decide_and]
theorem aDE {p:PlanD}{N:Nat}(hN:OkP p N){v w:Nat}(h:((v:Int),(w:Int))∈aZ p):uS p.edges v w=(oA p v w:Int)/\1<=oA p v w/\oA p v w<(cP p v).aJ/\((w:Int),(v:Int))∈aZ p:=by
 rw[(uX hN).2,Bk hN.ve hN.h6] at h;simp only at h;obtain⟨i,hi⟩:=List.getElem?_of_mem h;have hp:=aJV hi;have hl:=(aSW.mp hi).1;have hpo:(cP p v).aJ=(bes p.edges v).length+1:=by
  show((bes p.edges v).map Int.toNat).length+1=_
  rw[aTa]
 unfold oA;refine⟨by omega,by omega,by rw[hpo];omega,?_⟩
 rw[(uX hN).2,Bk hN.ve hN.h6];exact aJR h
end Go.Proofs.YtciiopkbmjppfaaGreatDoor
noncomputable section
namespace Go.Proofs.YtciiopkbmjppfaaGreatDoor
open Go.Proofs.Tryz
open Go.Abs Go.Abs.M
variable (O:aH)(L:LV)(k:KV)(N P Q R S T U V W X Y Z a b c d e f g i j l m n o p q r s t u v w x y z A B C D E F G H I J zz zy zx zw zv zu zt zs zr zq zp zo zn zm zl zk zj zi zh zg zf ze zd zc zb za yz:Value)(rr:List Value)(h:aG)
theorem aR8:aR prog O L 7 [N,P,Q]=bM (bV 5 1 1 [(.int .u8 0)] [(0,(.int .u8 0))]) λaa=>bC O 21 [aa,N,P,Q] λab=>bM (aX 40 [(.I 0),(.N),(.I 0),(.I 0),(.I 0),(.I 0),(.I 0),(.I 0),(.N),(.int .u16 0),(.N)] .fix) λac=>bM (stN 11 ac ab) λad=>bF 6 ac λae=>bT ae (.I 2) λaf=>bM (ldN 11 ac) λag=>bC O 22 [ag] λah=>bX 0 ah λai=>bX 1 ah λaj=>bB prog .neq 59 aj (.int .u16 0) λak=>bG ak false (aU ai) λal=>bG ak false (aP (bin prog .eql 41 al (.pointer none))) λam=>bP ak (.bool true) am λan=>bG an false (aU ai) λao=>gO an false O 14 [ao,(.I 0)] λap=>bG an false (aP (bin prog .eql 51 ap (.pointer none))) λaq=>bP an (.bool true) aq λar=>gO ar false O 26 [] λau=>bG ar false (aP (un prog .not au)) λav=>bP ar (.bool true) av λaw=>aN aw (aM (aK [(.bool false)])) (bO (bld prog 31 [(0,(.I 0)),(1,(.I 1))]) λax=>bC O 23 [ai,ax] λay=>bC O 27 [ai] λaz=>bC O 14 [ai,(.I 0)] λba=>bC O 28 [ba,(.I 0)] λbb=>bX 0 bb λbc=>bX 1 bb λbd=>bC O 29 [ai,(.I 0),(.I 0)] λbe=>bX 0 be λbf=>bX 1 be λbg=>bM (aX 46 [(.I 0),(.I 0),(.I 0),(.I 0),(.I 0)] .fix) λbh=>bM (stN 5 bh bf) λbi=>bC O 24 [ai] λbj=>bC O 29 [ai,(.I 0),(.I 0)] λbk=>bX 0 bk λbl=>bX 1 bk λbm=>bM (aX 46 [(.I 0),(.I 0),(.I 0),(.I 0),(.I 0)] .fix) λbn=>bM (stN 5 bn bl) λbo=>bC O 24 [ai] λbp=>bC O 24 [ai] λbq=>bC O 29 [ai,(.I 0),(.I 0)] λbr=>bX 0 br λbs=>bX 1 br λbt=>bM (aX 46 [(.I 0),(.I 0),(.I 0),(.I 0),(.I 0)] .fix) λbu=>bM (stN 5 bu bs) λbv=>bG bd true (ldN 5 bh) λbw=>gFL bd true 3 ac λbx=>bG bd true (aP (bin prog .sub 3 bx (.I 1))) λbz=>bG bd true (aP (bld prog 46 [(0,bz),(4,(.I 1))])) λca=>bG bd true (aP (bin prog .eql 46 bw ca)) λcb=>bP bd cb (.bool false) λcd=>bG cd true (ldN 5 bn) λce=>gFL cd true 3 ac λcf=>bG cd true (aP (bin prog .sub 3 cf (.I 1))) λcg=>bG cd true (aP (bld prog 46 [(0,cg),(1,(.I 1))])) λch=>bG cd true (aP (bin prog .eql 46 ce ch)) λci=>bP cd ci (.bool false) λcj=>bG cj true (ldN 5 bu) λck=>gFL cj true 3 ac λcl=>bG cj true (aP (bld prog 46 [(0,cl)])) λcm=>bG cj true (aP (bin prog .eql 46 ck cm)) λcn=>bP cj cn (.bool false) λco=>bG co true (aU ai) λcp=>gO co true O 17 [cp] λcq=>bG co true (aP (bin prog .eql 3 cq (.I 0))) λcr=>bP co cr (.bool false) λcs=>aM (aK [cs])):=by kernel_rfl
def S1:CC:=cc prog 5896 8 [1,1,1,1,1,1,1,0,1,0,0]
def S2:KV:=(bY 0 (cJ prog O L (cc prog 5896 8 [1,1,1,1,1,1,1,1]) (cS prog Tryz.f8)))
theorem aR9:S2 O L (.exit 0) (aF 3 (d::aF 4 (j::l::m::aF 1 (o::aF 77 []))))=bC O 29 [m,(.I 0),(.I 0)] λaa=>bX 0 aa λab=>bX 1 aa λac=>bM (aX 46 [(.I 0),(.I 0),(.I 0),(.I 0),(.I 0)] .fix) λad=>bM (stN 5 ad ab) λae=>bC O 17 [m] λaf=>bC O 24 [m] λag=>bC O 24 [m] λah=>bM (ldN 5 ad) λai=>bFL 3 l λaj=>bB prog .sub 3 aj (.I 1) λak=>bO (bld prog 46 [(0,ak),(2,(.I 1))]) λal=>bB prog .eql 46 ai al λam=>bG am true (aU af) λan=>bG am true (aP (bin prog .eql 3 an (.I 1))) λao=>bP am ao (.bool false) λap=>bG ap true (aU m) λaq=>gO ap true O 25 [aq,(.I 1)] λar=>bG ap true (aP (cY ar)) λau=>bG ap true (aP (bin prog .eql 3 au (.I 1))) λav=>bP ap av (.bool false) λaw=>bG aw true (aU m) λax=>gO aw true O 17 [ax] λay=>bG aw true (aP (bin prog .eql 3 ay (.I 0))) λaz=>bP aw az (.bool false) λba=>aM (aK [ba]):=by kernel_rfl
theorem aDO:aO prog O L S1 k (aF 3 (d::aF 4 (j::l::m::aF 1 (o::aF 77 []))))=bB prog .rem 5 d (.int .u8 20) λaa=>bM (cH prog 5 3 aa) λab=>bB prog .lss 3 o ab λac=>aN ac (bC O 14 [m,(.I 0)] λad=>bC O 30 [ad,(.I 0)] λae=>bO (un prog .not ae) λaf=>aN af (k .ret (aF 3 (d::aF 4 (some (.bool false)::l::m::aF 1 (o::aF 77 []))))) (bB prog .add 3 o (.I 1) λag=>k .normal (aF 3 (d::aF 4 (j::l::m::aF 1 (ag::aF 77 [])))))) (k (.exit 0) (aF 3 (d::aF 4 (j::l::m::aF 1 (o::aF 77 []))))):=by kernel_rfl
theorem aSa:aR prog O L 8 [N,P,Q,R]=bM (bV 5 1 1 [(.int .u8 0)] [(0,(.int .u8 0))]) λaa=>bC O 21 [aa,N,P,Q] λab=>bM (aX 40 [(.I 0),(.N),(.I 0),(.I 0),(.I 0),(.I 0),(.I 0),(.I 0),(.N),(.int .u16 0),(.N)] .fix) λac=>bM (stN 11 ac ab) λad=>bF 6 ac λae=>bT ae (.I 8) λaf=>bM (ldN 11 ac) λag=>bC O 22 [ag] λah=>bX 0 ah λai=>bX 1 ah λaj=>bB prog .neq 59 aj (.int .u16 0) λak=>bG ak false (aU ai) λal=>bG ak false (aP (bin prog .eql 41 al (.pointer none))) λam=>bP ak (.bool true) am λan=>bG an false (aU ai) λao=>gO an false O 14 [ao,(.I 0)] λap=>bG an false (aP (bin prog .eql 51 ap (.pointer none))) λaq=>bP an (.bool true) aq λar=>gO ar false O 26 [] λau=>bG ar false (aP (un prog .not au)) λav=>bP ar (.bool true) av λaw=>aN aw (aM (aK [(.bool false)])) (bO (bld prog 31 [(0,(.I 0)),(1,(.I 1))]) λax=>bC O 23 [ai,ax] λay=>bC O 27 [ai] λaz=>L (aO prog O L S1) (S2 O L) (aF 3 (R::aF 4 (some (.bool false)::ac::ai::aF 1 (some (.I 0)::aF 77 []))))):=by kernel_rfl
def Sh:CC:=cc prog 199709 12 [1,1,0,1,0,0,1,1,0,0,1,1,0,0]
def Sk:KV:=(bY 2 (bY 1 (cJ prog O L (cc prog 199709 12 [1,1,0,1,0,0,1,1,1]) (jL 199709 k))))
def Si (O:aH)(L:LV) (k:KV) (a c d e m n s t:Value):MV:=bB prog .add 3 n (.I 1) λaa=>k .normal (a::aF 1 (c::d::e::aF 5 (m::aa::aF 4 (s::t::aF 16 []))))
theorem aRW:Sk O L k (.exit 2) (a::aF 1 (c::d::e::aF 5 (m::n::aF 4 (s::t::aF 16 []))))=Si O L k a c d e m n s t:=by kernel_rfl
theorem aDG:aO prog O L Sh k (a::aF 1 (c::d::e::aF 5 (m::n::aF 4 (s::t::aF 16 []))))=bB prog .lss 3 t s λaa=>aN aa (bC O 29 [a,e,t] λab=>bX 0 ab λac=>bX 1 ab λad=>bM (aX 46 [(.I 0),(.I 0),(.I 0),(.I 0),(.I 0)] .fix) λae=>bM (stN 5 ae ac) λaf=>bM (ldN 5 ae) λag=>bM (bV 46 5 1 [(.I 0),(.I 0),(.I 0),(.I 0),(.I 0)] [(0,ag)]) λah=>bM (app 46 5 40 d ah) λai=>bB prog .add 3 t (.I 1) λaj=>k .normal (a::aF 1 (c::ai::e::aF 5 (m::n::aF 4 (s::aj::aF 16 []))))) (k (.exit 2) (a::aF 1 (c::d::e::aF 5 (m::n::aF 4 (s::t::aF 16 []))))):=by kernel_rfl
def Sg:CC:=cc prog 199709 12 [1,1,0,1,0,0]
def Sj:KV:=(bY 0 (cJ prog O L (cc prog 199709 12 [1,1,1]) (cS prog Tryz.f12)))
theorem aRV:Sj O L (.exit 0) (a::aF 1 (c::d::e::aF 5 (m::n::aF 4 (s::t::aF 16 []))))=aM (aK [d]):=by kernel_rfl
theorem aDF:aO prog O L Sg k (a::aF 1 (c::d::e::aF 5 (m::n::aF 4 (s::t::aF 16 []))))=bB prog .lss 3 n m λaa=>aN aa (bC O 37 [a] λab=>bO (pA 2 ab) λac=>L (aO prog O L Sh) (Sk O L k) (a::aF 1 (c::d::n::aF 5 (m::n::aF 4 (ac::some (.I 0)::aF 16 []))))) (k (.exit 0) (a::aF 1 (c::d::e::aF 5 (m::n::aF 4 (s::t::aF 16 []))))):=by kernel_rfl
theorem aRX:aR prog O L 12 [N]=bC O 13 [N] λaa=>bN aa λab=>L (aO prog O L Sg) (Sj O L) (N::aF 1 (some (.N)::some (.N)::some aE::aF 5 (ab::some (.I 0)::aF 4 (some aE::some aE::aF 16 [])))):=by kernel_rfl
def So:CC:=cc prog 7341581 17 [1,1,1,0,1,0,0]
def Sq:KV:=(bY 2 (cJ prog O L (cc prog 7341581 17 [1,1,1,1]) (cS prog Tryz.f17)))
theorem aRZ:Sq O L (.exit 2) (a::aF 1 (c::d::aF 5 (l::m::aF 9 (w::x::y::aF 9 []))))=aM (aK [d]):=by kernel_rfl
theorem aDI:aO prog O L So k (a::aF 1 (c::d::aF 5 (l::m::aF 9 (w::x::y::aF 9 []))))=bB prog .lss 3 y x λaa=>aN aa (bI 5 w y λab=>bM (ldN 5 ab) λac=>bM (aX 46 [(.I 0),(.I 0),(.I 0),(.I 0),(.I 0)] .fix) λad=>bM (stN 5 ad ac) λae=>bFL 2 ad λaf=>bB prog .add 3 d af λag=>bB prog .add 3 y (.I 1) λah=>k .normal (a::aF 1 (c::ag::aF 5 (l::m::aF 9 (w::x::ah::aF 9 []))))) (k (.exit 2) (a::aF 1 (c::d::aF 5 (l::m::aF 9 (w::x::y::aF 9 []))))):=by kernel_rfl
def Sm:CC:=cc prog 7341581 17 [1,1,0,1,0,0]
def Sp:KV:=(bY 0 (cJ prog O L (cc prog 7341581 17 [1,1,1]) (cS prog Tryz.f17)))
theorem aRY:Sp O L (.exit 0) (a::aF 1 (c::d::aF 5 (l::m::aF 9 (w::x::y::aF 9 []))))=bC O 12 [a] λaa=>bN aa λab=>L (aO prog O L So) (Sq O L) (a::aF 1 (c::d::aF 5 (l::m::aF 9 (aa::ab::some (.I 0)::aF 9 [])))):=by kernel_rfl
theorem aDH:aO prog O L Sm k (a::aF 1 (c::d::aF 5 (l::m::aF 9 (w::x::y::aF 9 []))))=bB prog .lss 3 m l λaa=>aN aa (bC O 40 [a,m] λab=>bB prog .add 3 d ab λac=>bB prog .add 3 m (.I 1) λad=>k .normal (a::aF 1 (c::ac::aF 5 (l::ad::aF 9 (w::x::y::aF 9 []))))) (k (.exit 0) (a::aF 1 (c::d::aF 5 (l::m::aF 9 (w::x::y::aF 9 []))))):=by kernel_rfl
theorem aR0:aR prog O L 17 [N]=bC O 37 [N] λaa=>bO (pA 0 aa) λab=>L (aO prog O L Sm) (Sp O L) (N::aF 1 (some (.I 0)::some (.I 0)::aF 5 (ab::some (.I 0)::aF 9 (some aE::some aE::some aE::aF 9 [])))):=by kernel_rfl
theorem aR1:aR prog O L 26 []=bM (bV 5 1 1 [(.int .u8 0)] [(0,(.int .u8 0))]) λaa=>bC O 21 [aa,(.int .u8 1),(.int .u8 0),(.int .u16 0)] λab=>bC O 22 [ab] λac=>bX 0 ac λad=>bX 1 ac λae=>bB prog .neq 59 ae (.int .u16 0) λaf=>bG af false (aU ad) λag=>bG af false (aP (bin prog .eql 41 ag (.pointer none))) λah=>bP af (.bool true) ah λai=>bG ai false (aU ad) λaj=>gO ai false O 14 [aj,(.I 0)] λak=>bG ai false (aP (bin prog .eql 51 ak (.pointer none))) λal=>bP ai (.bool true) al λam=>aN am (aM (aK [(.bool false)])) (bO (bld prog 31 [(0,(.I 0)),(1,(.I 1)),(3,(.int .u32 7))]) λan=>bC O 23 [ad,an] λao=>bC O 27 [ad] λap=>bC O 29 [ad,(.I 0),(.I 0)] λaq=>bX 0 aq λar=>bX 1 aq λau=>bM (aX 46 [(.I 0),(.I 0),(.I 0),(.I 0),(.I 0)] .fix) λav=>bM (stN 5 av ar) λaw=>bC O 29 [ad,(.I 2),(.I 0)] λax=>bX 0 ax λay=>bX 1 ax λaz=>bM (aX 46 [(.I 0),(.I 0),(.I 0),(.I 0),(.I 0)] .fix) λba=>bM (stN 5 ba ay) λbb=>bG au true (aU az) λbc=>bG au true (aP (un prog .not bc)) λbd=>bP au bd (.bool false) λbe=>bG be true (ldN 5 av) λbf=>bG be true (aP (bld prog 46 [(0,(.I 1)),(2,(.I 1))])) λbg=>bG be true (aP (bin prog .eql 46 bf bg)) λbh=>bP be bh (.bool false) λbi=>bG bi true (aU ad) λbj=>gO bi true O 17 [bj] λbk=>bG bi true (aP (bin prog .eql 3 bk (.I 1))) λbl=>bP bi bl (.bool false) λbm=>bG bm true (aU ad) λbn=>gO bm true O 12 [bn] λbo=>bG bm true (aP (cY bo)) λbp=>bG bm true (aP (bin prog .eql 3 bp (.I 2))) λbq=>bP bm bq (.bool false) λbr=>aM (aK [br])):=by kernel_rfl
theorem aDJ:aR prog O L 29 [N,P,Q]=bM (aX 46 [(.I 0),(.I 0),(.I 0),(.I 0),(.I 0)] .fix) λaa=>bC O 37 [N] λab=>bM (aX 40 [(.I 0),(.N),(.I 0),(.I 0),(.I 0),(.I 0),(.I 0),(.I 0),(.N),(.int .u16 0),(.N)] .fix) λac=>bM (stN 11 ac ab) λad=>bC O 14 [N,P] λae=>bB prog .eql 51 ae (.pointer none) λaf=>bG af false (aU Q) λag=>bG af false (aP (bin prog .lss 3 ag (.I 0))) λah=>bP af (.bool true) ah λai=>bG ai false (aU Q) λaj=>gFL ai false 2 ac λak=>bG ai false (aP (bin prog .geq 3 aj ak)) λal=>bP ai (.bool true) al λam=>aN am (bO (bld prog 46 []) λan=>bM (stN 5 aa an) λao=>bR (ldN 5 aa) λw16=>aM (aK [w16,(.bool false)])) (bC O 13 [N] λap=>bI 2 ap P λaq=>bM (ldN 2 aq) λar=>bM (aX 83 [(.I 0),(.I 0)] .fix) λau=>bM (stN 2 au ar) λav=>bFL 0 au λaw=>gH λh23=>bC O 31 [N,aw] λax=>bM (ldN 11 ac) λay=>ifK (chk ((ldN 11 ac) h23) ay&&(true)) (bF 0 au λaz=>bL az λba=>ifK (chk ((ld1 az) h23) ba&&(true)) (bF 1 au λbb=>bL bb λbc=>ifK (chk ((ld1 bb) h23) bc&&(true)) (bC O 56 [ay,ba,bc] λbd=>bC O 55 [ax,bd,Q] λbe=>bFL 1 au λbf=>gH λh33=>bC O 31 [N,bf] λbg=>bM (ldN 11 ac) λbh=>ifK (chk ((ldN 11 ac) h33) bh&&(true)) (bF 1 au λbi=>bL bi λbj=>ifK (chk ((ld1 bi) h33) bj&&(true)) (bF 0 au λbk=>bL bk λbl=>ifK (chk ((ld1 bk) h33) bl&&(true)) (bC O 56 [bh,bj,bl] λbm=>bC O 57 [bg,bm,Q] λbn=>bC O 58 [be] λbo=>bC O 59 [bn] λbp=>bC O 60 [be] λbq=>bB prog .sub 112 bp bq λbr=>bM (cH prog 112 3 br) λbs=>bC O 61 [bn] λbt=>bO (bld prog 46 [(0,bo),(1,bs),(3,bt)]) λbu=>bM (aX 46 [(.I 0),(.I 0),(.I 0),(.I 0),(.I 0)] .fix) λbv=>bM (stN 5 bv bu) λbw=>bC O 15 [ae] λbx=>bC O 63 [bn] λbz=>bC O 64 [be] λca=>bC O 62 [bx,Q,bz,ca] λcb=>bF 2 bv λcd=>bT cd cb λce=>gH λh56=>bC O 64 [be] λcf=>gH λh57=>bC O 63 [bn] λcg=>bB prog .sub 112 cf cg λch=>bM (cH prog 112 3 ch) λci=>bF 2 bv λcj=>bL cj λck=>ifK (chk ((ld1 cj) h57) ck&&(chk ((ld1 cj) h56) ck&&(true))) (bB prog .sub 3 ci ck λcl=>bF 4 bv λcm=>bT cm cl λcn=>bM (ldN 5 bv) λco=>bM (stN 5 aa co) λcp=>bR (ldN 5 aa) λw68=>aM (aK [w68,(.bool true)]))))))))):=by kernel_rfl
def St:CC:=cc prog 219055916016 40 [1,1,1,1,0,1,0,0,1,1,0,0,1,1,1,0,0,1,1,0,0,1,1,0,0]
def Sy:KV:=(bY 4 (bY 3 (cJ prog O L (cc prog 219055916016 40 [1,1,1,1,0,1,0,0,1,1,0,0,1,1,1,0,0,1,1,1]) (jL 219055916016 k))))
def Sv (O:aH)(L:LV) (k:KV) (e f g i j l y z I J zx zw:Value):MV:=bB prog .add 3 J (.I 1) λaa=>k .normal (aF 4 (e::f::g::i::j::l::aF 12 (y::z::aF 8 (I::aa::aF 2 (zx::zw::aF 14 [])))))
theorem aR4:Sy O L k (.exit 4) (aF 4 (e::f::g::i::j::l::aF 12 (y::z::aF 8 (I::J::aF 2 (zx::zw::aF 14 [])))))=Sv O L k e f g i j l y z I J zx zw:=by kernel_rfl
theorem aDM:aO prog O L St k (aF 4 (e::f::g::i::j::l::aF 12 (y::z::aF 8 (I::J::aF 2 (zx::zw::aF 14 [])))))=bB prog .lss 3 zw zx λaa=>aN aa (bC O 69 [f] λab=>bC O 70 [ab,l,zw,j] λac=>bB prog .add 3 g ac λad=>bB prog .add 3 zw (.I 1) λae=>k .normal (aF 4 (e::f::ad::i::j::l::aF 12 (y::z::aF 8 (I::J::aF 2 (zx::ae::aF 14 [])))))) (k (.exit 4) (aF 4 (e::f::g::i::j::l::aF 12 (y::z::aF 8 (I::J::aF 2 (zx::zw::aF 14 [])))))):=by kernel_rfl
def Ss:CC:=cc prog 219055916016 40 [1,1,1,1,0,1,0,0,1,1,0,0,1,1,1,0,0]
def Sx:KV:=(bY 2 (bY 1 (cJ prog O L (cc prog 219055916016 40 [1,1,1,1,0,1,0,0,1,1,1]) (jL 219055916016 k))))
def Su (O:aH)(L:LV) (k:KV) (e f g i j l y z I J zx zw:Value):MV:=bB prog .add 3 z (.I 1) λaa=>k .normal (aF 4 (e::f::g::i::j::l::aF 12 (y::aa::aF 8 (I::J::aF 2 (zx::zw::aF 14 [])))))
theorem aR3:Sx O L k (.exit 2) (aF 4 (e::f::g::i::j::l::aF 12 (y::z::aF 8 (I::J::aF 2 (zx::zw::aF 14 [])))))=Su O L k e f g i j l y z I J zx zw:=by kernel_rfl
theorem aDL:aO prog O L Ss k (aF 4 (e::f::g::i::j::l::aF 12 (y::z::aF 8 (I::J::aF 2 (zx::zw::aF 14 [])))))=bB prog .lss 3 J I λaa=>aN aa (L (aO prog O L St) (Sy O L k) (aF 4 (e::f::g::i::j::J::aF 12 (y::z::aF 8 (I::J::aF 2 (i::some (.I 0)::aF 14 [])))))) (k (.exit 2) (aF 4 (e::f::g::i::j::l::aF 12 (y::z::aF 8 (I::J::aF 2 (zx::zw::aF 14 [])))))):=by kernel_rfl
def Sr:CC:=cc prog 219055916016 40 [1,1,1,1,0,1,0,0]
def Sw:KV:=(bY 0 (cJ prog O L (cc prog 219055916016 40 [1,1,1,1,1]) (cS prog Tryz.f40)))
theorem aR2:Sw O L (.exit 0) (aF 4 (e::f::g::i::j::l::aF 12 (y::z::aF 8 (I::J::aF 2 (zx::zw::aF 14 [])))))=aM (aK [g]):=by kernel_rfl
theorem aDK:aO prog O L Sr k (aF 4 (e::f::g::i::j::l::aF 12 (y::z::aF 8 (I::J::aF 2 (zx::zw::aF 14 [])))))=bB prog .lss 3 z y λaa=>aN aa (bC O 32 [f] λab=>bC O 68 [ab,z] λac=>bB prog .add 3 g ac λad=>L (aO prog O L Ss) (Sx O L k) (aF 4 (e::f::ad::i::z::l::aF 12 (y::z::aF 8 (i::some (.I 0)::aF 2 (zx::zw::aF 14 [])))))) (k (.exit 0) (aF 4 (e::f::g::i::j::l::aF 12 (y::z::aF 8 (I::J::aF 2 (zx::zw::aF 14 [])))))):=by kernel_rfl
theorem aR5:aR prog O L 40 [N,P]=bC O 31 [N,P] λaa=>bC O 37 [N] λab=>bC O 67 [ab,P] λac=>bN ac λad=>bB prog .add 3 ad (.I 1) λae=>bC O 37 [N] λaf=>bO (pA 2 af) λag=>L (aO prog O L Sr) (Sw O L) (aF 4 (some (.I 0)::aa::some (.I 0)::ae::some aE::some aE::aF 12 (ag::some (.I 0)::aF 8 (some aE::some aE::aF 2 (some aE::some aE::aF 14 []))))):=by kernel_rfl
def Sz:CC:=cc prog 459534 62 [1,1,0,1,0,0]
def S0:KV:=(bY 0 (cJ prog O L (cc prog 459534 62 [1,1,1]) (cS prog Tryz.f62)))
theorem aR6:S0 O L (.exit 0) (aF 1 (b::c::d::aF 4 (j::l::aF 6 (s::t::u::aF 41 []))))=bM (oD l) λaa=>aM (aK [aa]):=by kernel_rfl
theorem aDN:aO prog O L Sz k (aF 1 (b::c::d::aF 4 (j::l::aF 6 (s::t::u::aF 41 []))))=bB prog .lss 3 u t λaa=>aN aa (bIL 1 s u λab=>bC O 99 [ab] λac=>bX 0 ac λad=>bX 1 ac λae=>bM (aX 157 [(.int .u8 0),(.int .u8 0),(.int .u16 0),(.int .u8 0),(.int .u8 0),(.int .u32 0)] .fix) λaf=>bM (stN 6 af ad) λag=>bB prog .neq 59 ae (.int .u16 0) λah=>gFL ah false 0 af λai=>bG ah false (aP (bin prog .neq 5 ai (.int .u8 1))) λaj=>bP ah (.bool true) aj λak=>gFL ak false 1 af λal=>bG ak false (cH prog 5 3 al) λam=>bG ak false (aU b) λan=>bG ak false (aP (bin prog .neq 3 am an)) λao=>bP ak (.bool true) ao λap=>aN ap (bB prog .add 3 u (.I 1) λaq=>k .normal (aF 1 (b::c::d::aF 4 (j::l::aF 6 (s::t::aq::aF 41 []))))) (bFL 2 af λar=>bC O 100 [c,ar] λau=>bB prog .geq 112 au c λav=>bG av true (aU au) λaw=>bG av true (aU d) λax=>bG av true (aP (bin prog .lss 112 aw ax)) λay=>bP av ay (.bool false) λaz=>aN az (bM (kS .num l au u) λba=>bB prog .add 3 u (.I 1) λbb=>k .normal (aF 1 (b::c::d::aF 4 (j::l::aF 6 (s::t::bb::aF 41 []))))) (bB prog .add 3 u (.I 1) λbc=>k .normal (aF 1 (b::c::d::aF 4 (j::l::aF 6 (s::t::bc::aF 41 []))))))) (k (.exit 0) (aF 1 (b::c::d::aF 4 (j::l::aF 6 (s::t::u::aF 41 []))))):=by kernel_rfl
theorem aR7:aR prog O L 62 [N,P,Q,R]=bM lU λaa=>bN N λab=>L (aO prog O L Sz) (S0 O L) (aF 1 (P::Q::R::aF 4 (some (.I 0)::aa::aF 6 (N::ab::some (.I 0)::aF 41 [])))):=by kernel_rfl
end Go.Proofs.YtciiopkbmjppfaaGreatDoor
end
namespace Go.Proofs.YtciiopkbmjppfaaGreatDoor
open Go.Proofs.Tryz
open Go.Abs Go.Abs.M
open Classical
section
variable {H0 H H' : aG} {O : FP → Nat → Prop} {a : FL} {F : Nat → Part → Nat → Prop} {p : PlanD} {ev wv nv : Value} {t : Nat} {s : FS} {m : Nat}
theorem aSd:KeyC .num xQ:=⟨λx y=>by
 simp only[fX,xQ];simp[Bool.beq_eq_decide_eq];omega⟩
theorem aSc {Hs:aG}{u:Value}{l:List (List UInt8)}{G:Nat->Prop}(hr:Lk.sM Hs u l G)(hsm:l.length<=64)(lane fr to:Nat)(hfr:fr<9223372036854775808)(hm:1000<m){mb:Nat}(hmb:Hs.length<=mb):
  ∀(q i lp:Nat)(H:aG),l.length-i=q->i<=l.length->q<lp->Ext Hs H->IsKeys H mb ((l.take i).foldl (λks b=>mU ks (gK lane fr to b)) [])-> ∀(x8:Value),
  ∃H2,aL lp (aO prog (lvl prog pkN m) (aL m) Sz) (S0 (lvl prog pkN m) (aL m)) (aF 1 (some (.I (lane:Nat))::some (.int .u64 (fr:Nat))::some (.int .u64 (to:Nat))::aF 4 (x8::some (.map (some mb))::aF 6 (u::some (.I (l.length:Nat))::some (.I (i:Nat))::aF 41 [])))) H=some (.I ((p8 lane fr to l).length:Nat),H2)/\Ext Hs H2:=by
 intro q;induction q with
 |zero=>
  intro i lp H hq hi hl he hk;intros;obtain⟨lp,rfl⟩:=aB lp U
  obtain rfl:i=l.length:=U
  have e:decide ((l.length:Int)<(l.length:Nat))=false:=by simp
  rw[List.take_length] at hk;have hlen:=hk.aRR;refine⟨H,?_,he⟩;rw[bS,aDN];simp only[gsR,e];rw[aR6];simp only[gsR,hlen];rfl
 |succ q ih=>
  intro i lp H hq hi hl he hk;intros;obtain⟨lp,rfl⟩:=aB lp U
  have e:decide ((i:Int)<(l.length:Nat))=true:=aTG U
  have e3:=aA (i:=i) U
  obtain⟨bs,hb⟩: ∃bs,l[i]? =some bs:=⟨_,aSY U⟩
  obtain⟨v,pp,g1,g2,g3,g4,g5⟩:=hr.Ky hb .i64;have hld:=g3 H (he.2 pp (hr.uL pp g2) id);have hub:=(g4.yX λb hl=>he.2 b (hr.uL b (g5 b hl)) id:Bo 5 H v bs)
  obtain⟨H3,d1,x3⟩:=aA4 (m:=m) U (Bo.rs' hub)
  have hfold:(l.take (i+1)).foldl (λks b=>mU ks (gK lane fr to b)) []=mU ((l.take i).foldl (λks b=>mU ks (gK lane fr to b)) []) (gK lane fr to bs):=by
   rw[List.take_add_one,hb,List.foldl_append];rfl
  have kk: ∀{K:aG},Ext H K->IsKeys K mb ((l.take i).foldl (λks b=>mU ks (gK lane fr to b)) []):=λhx=>hk.aRQ (by
   obtain⟨es,c,hh,_⟩:=hk;exact hx.2 _ (b9 hh) id)
  rw[bS,aDN];cases hdec:jZ bs with
  |none=>
   rw[aCt hdec] at d1;have c2:((30:Int)!=0)=true:=rfl;have hn:gK lane fr to bs=none:=by unfold gK;rw[hdec]
   rw[hn] at hfold;have x4:Ext H3 (H3++[frB Frm.lO]):=Fr.app _ _ _;simp only[gsR,e,g1,hld,d1,kP,qS,qT,c2,aT,e3];exact ih (i+1) lp _ U U U (he.tr (x3.tr x4)) (by rw[hfold];exact kk (x3.tr x4)) ..
  |some f=>
   have hok:=aCp hdec;have fl:=hok.lane;have fk:=hok.kind;have fs:=hok.seq;rw[aCu hdec] at d1;have c2:((0:Int)!=0)=false:=rfl;obtain⟨H4,hH4⟩:=aD (H3++[frB f]);have x4:Ext H3 H4:=by rw[hH4];exact Fr.app _ _ _
   have b4:H4[H3.length]? =some (frB f):=by rw[hH4];exact cD _ _
   obtain⟨l40,l41,l42,_⟩:=lQ b4;have cl:=λG=>cvU G f.lane fl
   have xx:=he.tr (x3.tr x4);have k4:=kk (x3.tr x4);by_cases h1:f.kind=1
   ·have d1':((f.kind:Int)!=1)=false:=by rw[h1];rfl
    by_cases h2:f.lane=lane
    ·have d2:((f.lane:Int)!=(lane:Int))=false:=by rw[h2];simp
     have gw:=Pk (H:=H4) (m:=m) U fr f.seq U fs
     obtain⟨H5,gw,x5⟩: ∃H5,lvl prog pkN m (.func 100) [.int .u64 fr,.int .u16 f.seq] H4=some (.int .u64 (bU fr f.seq:Nat),H5)/\Ext H4 H5:=⟨_,gw,by first|exact Fr.dY _ _|exact Fr.app _ _ _⟩
     by_cases h3:fr<=bU fr f.seq
     ·have d3:decide ((fr:Int)<=(bU fr f.seq:Nat))=true:=aTG U
      by_cases h4:bU fr f.seq<to
      ·have d4:decide (((bU fr f.seq:Nat):Int)<(to:Nat))=true:=aTG U
       have hn:gK lane fr to bs=some (bU fr f.seq):=by unfold gK;rw[hdec];simp only;rw[if_pos ⟨h1,h2,h3,h4⟩]
       rw[hn] at hfold;obtain⟨X,gs,ks⟩:=(kk ((x3.tr x4).tr x5)).aRT aSd (bU fr f.seq) (.I (i:Nat));have gs:kS .num (.map (some mb)) (.int .u64 (bU fr f.seq:Nat)) (.I (i:Nat)) H5=some (undef,H5.set mb X):=gs;simp only[gsR,e,g1,hld,d1,kP,qS,qT,c2,<-hH4,l40,d1',l41,cl,d2,l42,gw,d3,d4,gs,aT,e3];exact ih (i+1) lp _ U U U (jY (xx.tr x5) hmb) (by rw[hfold];exact ks) ..
      ·have d4:decide (((bU fr f.seq:Nat):Int)<(to:Nat))=false:=aTH U
       have hn:gK lane fr to bs=none:=by unfold gK;rw[hdec];simp only;rw[if_neg λh=>h4 h.2.2.2]
       rw[hn] at hfold;simp only[gsR,e,g1,hld,d1,kP,qS,qT,c2,<-hH4,l40,d1',l41,cl,d2,l42,gw,d3,d4,aT,e3];exact ih (i+1) lp _ U U U (xx.tr x5) (by rw[hfold];exact kk ((x3.tr x4).tr x5)) ..
     ·have d3:decide ((fr:Int)<=(bU fr f.seq:Nat))=false:=aTH U
      have hn:gK lane fr to bs=none:=by unfold gK;rw[hdec];simp only;rw[if_neg λh=>h3 h.2.2.1]
      rw[hn] at hfold;simp only[gsR,e,g1,hld,d1,kP,qS,qT,c2,<-hH4,l40,d1',l41,cl,d2,l42,gw,d3,aT,e3];exact ih (i+1) lp _ U U U (xx.tr x5) (by rw[hfold];exact kk ((x3.tr x4).tr x5)) ..
    ·have d2:((f.lane:Int)!=(lane:Int))=true:=by rw[bne_iff_ne];omega
     have hn:gK lane fr to bs=none:=by unfold gK;rw[hdec];simp only;rw[if_neg λh=>h2 h.2.1]
     rw[hn] at hfold;simp only[gsR,e,g1,hld,d1,kP,qS,qT,c2,<-hH4,l40,d1',l41,cl,d2,aT,e3];exact ih (i+1) lp _ U U U xx (by rw[hfold];exact k4) ..
   ·have d1':((f.kind:Int)!=1)=true:=by rw[bne_iff_ne];omega
    have hn:gK lane fr to bs=none:=by unfold gK;rw[hdec];simp only;rw[if_neg λh=>h1 h.1]
    rw[hn] at hfold;simp only[gsR,e,g1,hld,d1,kP,qS,qT,c2,<-hH4,l40,d1',aT,e3];exact ih (i+1) lp _ U U U xx (by rw[hfold];exact k4) ..
theorem aSb {u:Value}{l:List (List UInt8)}{G:Nat->Prop}(hr:Lk.sM H u l G)(hsm:l.length<=64)(lane fr to:Nat)(hfr:fr<9223372036854775808)(hm:1100<m):
  ∃H2,lvl prog pkN m (.func 62) [u,.I (lane:Nat),.int .u64 (fr:Nat),.int .u64 (to:Nat)] H=some (.I ((p8 lane fr to l).length:Nat),H2)/\Ext H H2:=by
 have hlen:=hr.yY;obtain⟨H1,hH1⟩:=aD (H++[Blk.map [] 0]);have nm:lU H=some (.map (some H.length),H1):=by rw[hH1];rfl
 have x1:Ext H H1:=by rw[hH1];exact Fr.app _ _ _
 have hk:IsKeys H1 H.length []:=by rw[hH1];exact IsKeys.aRS H
 refine iB (aQ rfl) U ?_
 rw[aR7];simp only[gsR,nm,hlen];exact aSc hr hsm lane fr to hfr (m:=m-1) U (aS1 _) l.length 0 (m-1) H1 U U U x1 hk ..
end
section
variable {H0 H H' : aG} {O : FP → Nat → Prop} {a : FL} {F : Nat → Part → Nat → Prop} {p : PlanD} {ev wv nv : Value} {t : Nat} {s : FS} {m : Nat}
def acB (x:Acc):Blk:= .cells x.lE 46 .fix
def acV (x:Acc):Value:= .agg ⟨x.lE⟩
def ac0:Acc:=⟨0,0,0,0,0⟩
theorem xR (x y:Acc){G:aG}{b:Nat}(hb:G[b]? =some (acB x)):stN 5 (.Q b 0) (acV y) G=some (undef,G.set b (acB y)):=by
 rw[sD (n:=5) (vs:=y.lE) hb aC rfl rfl (aS1 5) rfl]
 rfl
theorem aDP (x y:Acc){G:aG}{b j:Nat}{z:Int}(hb:G[b]? =some (acB x))(hj:j<5)(hy:x.lE.set j (.I z)=y.lE):stN 1 (.Q b j) (.I z) G=some (undef,G.set b (acB y)):=by
 rw[iD hb aC (by show j<5;exact hj),hy]
 rfl
theorem aSf (e:Ed)(G:aG):stN 2 (.pointer (some ⟨G.length,0,none⟩)) (edV e) (G++[Blk.cells [Value.int .i64 0,.int .i64 0] 83 .fix])=some (undef,G++[Blk.cells (edC e) 83 .fix]):=by
 rw[sD (n:=2) (vs:=edC e) (cD G _) aC rfl rfl (aS1 2) (wI e),gQ]
 rfl
theorem aSe (h:cX H0 H O a F p ev wv nv t s)(hm:10000<m)(k lane:Int)(hk:k<0∨(aZ p).length<=k): ∃H',lvl prog pkN m (.func 29) [pt a.fb,.I k,.I lane] H=some (.tuple #[acV ac0,.bool false],H')/\Ext H H':=by
 obtain⟨H1,hH1⟩:=aD (H++[acB ac0]);have e1:H++[Blk.cells [Value.int .i64 0,.int .i64 0,.int .i64 0,.int .i64 0,.int .i64 0] 46 .fix]=H1:=by rw[hH1];rfl
 have x1:Ext H H1:=by rw[hH1];exact Fr.app _ _ _
 have b1:H1[H.length]? =some (acB ac0):=by rw[hH1];exact cV _ _
 have h1:=h.dC x1;obtain⟨H2,e',w',n',g2,c2⟩:=zV h1 (m:=m-1) U
 have cp:=Fg c2.pv H2;obtain⟨H3,hH3⟩:=aD (H2++[plB p e' w' n']);rw[<-hH3] at cp;have x3:Ext H2 H3:=by rw[hH3];exact Fr.app _ _ _
 have h3:=(h1.dC c2.ext).dC x3;have g4:=tP h3 (m:=m-1) U k
 have hv:mF p a k= .pointer none:=if_neg U
 rw[hv] at g4;have n3:=(tO 51 ⟨0,0,none⟩ (by kernel_rfl)).2
 have eb:bld prog 46 []=some (acV ac0):=rfl;have b3:H3[H.length]? =some (acB ac0):=cR (cR b1 c2.ext) x3;have st:=xR ac0 ac0 b3;have hs:H3.set H.length (acB ac0)=H3:=by
  refine aTx λj=> ?_
  by_cases hj:H.length=j
  ·subst hj
   rw[aS2 (b9 b3),b3]
  ·rw[aSX hj]
 rw[hs] at st;have ld:ldN 5 (.Q H.length 0) H3=some (acV ac0,H3):=m9 b3 (aS1 5);refine⟨H3,aV (aQ rfl) U ?_,(x1.tr c2.ext).tr x3⟩
 rw[aDJ];simp only[gsR,e1,g2,uV,cp,g4,n3,eb,st,ld]
theorem S3 (h:cX H0 H O a F p ev wv nv t s)(ht:t<1000000)(hm:10000<m)(hm2:m<=72057594037927936){k lane:Nat}(hk:k<(aZ p).length)(hl:lane<p.lanes.toNat):
    ∃H',lvl prog pkN m (.func 29) [pt a.fb,.I (k:Nat),.I (lane:Nat)] H=some (.tuple #[acV (dM p s k lane),.bool true],H')/\Ext H H':=by
  obtain⟨N,hN,hNe⟩:=h.oY;have hn:=hN.hn;have hE15:=hN.e15;have he:(aZ p)[k]? =some ((aZ p)[k]'hk):=aSY _;have hmem:=aS6 he;obtain⟨v,w,hvw,hv1,hw1⟩:=aDz h.ok he;rw[hvw] at he hmem;have hgd:(aZ p).getD k (0,0)=((v:Int),(w:Int)):=by rw[aS0,he];rfl
  obtain⟨p1,p2,p3,hback⟩:=aDE hN hmem;obtain⟨q1,q2,q3,_⟩:=aDE hN hback;obtain⟨iv,hiv⟩:=aD (oA p v w);obtain⟨iw,hiw⟩:=aD (oA p w v);rw[<-hiv] at p1 p2 p3;rw[<-hiw] at q1 q2 q3;obtain⟨xs,hxs⟩:=aD ((s.n v).snd iv lane);obtain⟨yr,hyr⟩:=aD ((s.n w).rcv iw lane)
  -- a place for the answer, the plan
  obtain⟨H1,hH1⟩:=aD (H++[acB ac0]);have e0: ∀G:aG,G++[Blk.cells [Value.int .i64 0,.int .i64 0,.int .i64 0,.int .i64 0,.int .i64 0] 46 .fix]=G++[acB ac0]:=λ_=>rfl
  have x1:Ext H H1:=by rw[hH1];exact Fr.app _ _ _
  have b1:H1[H.length]? =some (acB ac0):=by rw[hH1];exact cV _ _
  have h1:=h.dC x1;obtain⟨H2,e',w',n',g2,c2⟩:=zV h1 (m:=m-1) U
  have cp:=Fg c2.pv H2;obtain⟨H3,hH3⟩:=aD (H2++[plB p e' w' n']);rw[<-hH3] at cp;have x3:Ext H2 H3:=by rw[hH3];exact Fr.app _ _ _
  have b3:H3[H2.length]? =some (plB p e' w' n'):=by rw[hH3];exact cV _ _
  have h3:=(h1.dC c2.ext).dC x3;have pv3:=c2.pv.ext x3;have g4:=tP h3 (m:=m-1) U (k:Int)
  have hlv:mF p a (k:Int)=pt (a.lb k):=by
    unfold mF;rw[if_pos U,aTo]
  rw[hlv] at g4;have n3:=λb=>(tO 51 b (by kernel_rfl)).1
  have l2:=cO b3 2 (.I p.lanes) rfl;have d1:decide ((lane:Int)<0)=false:=aTH U
  have d2:decide (p.lanes<=(lane:Int))=false:=aTH U
  -- the hop
  obtain⟨hv,H5,g5,x5,hw5,_⟩:=aDw h3 (m:=m-1) U
  obtain⟨bh,oh,i1,_,i3⟩:=hw5.rs.dS mY he .i64;have i4:ldN 2 (.pointer (some ⟨bh,oh,none⟩)) H5=some (edV ((v:Int),(w:Int)),H5):=(i3 H5 rfl).1;have hs:=aSf ((v:Int),(w:Int)) H5;obtain⟨H6,hH6⟩:=aD (H5++[Blk.cells (edC ((v:Int),(w:Int))) 83 .fix]);rw[<-hH6] at hs;have x6:Ext H5 H6:=by rw[hH6];exact Fr.app _ _ _
  have b6:H6[H5.length]? =some (.cells (edC ((v:Int),(w:Int))) 83 .fix):=by rw[hH6];exact cV _ _
  have h6:=(h3.dC x5).dC x6;have ldv: ∀{G:aG},Ext H6 G->ld1 (.pointer (some ⟨H5.length,0,none⟩)) G=some (.int .i64 (v:Nat),G):=λhG=>bA (cR b6 hG) rfl
  have ldw: ∀{G:aG},Ext H6 G->ld1 (.pointer (some ⟨H5.length,1,none⟩)) G=some (.int .i64 (w:Nat),G):=λhG=>bA (cR b6 hG) rfl
  have iG:=x5.tr x6;have ldp: ∀{G:aG},Ext H6 G->ldN 11 (.pointer (some ⟨H2.length,0,none⟩)) G=some (plV p e' w' n',G):=λhG=>fL (cR b3 (iG.tr hG))
  have v6:=ldv (Fr.dY _ H6);have w6:=ldw (Fr.dY _ H6);have pl6:=ldp (Fr.dY _ H6);have pchk:=pv3.chk
  -- the sender
  have gv:=Cs h6 (m:=m-1) U (v:Int)
  have nv1:oZ p a (v:Int)=pt (a.y v).nb:=by unfold oZ;rw[if_pos U,aTo]
  rw[nv1] at gv;obtain⟨H7,g7,x7⟩:=Yv (pv3.ext iG) (m:=m-1) U U (v:Int) (w:Int)
  rw[p1] at g7;have h7:=h6.dC x7;obtain⟨H8,g8,x8⟩:=aPn (h7.node v hv1) (m:=m-1) U p2 p3 (k:=lane) hl
  have h8:=h7.dC x8;have Ad:=x7.tr x8;have w8:=ldw Ad;have v8:=ldv Ad;have pl8:=ldp Ad;have gw:=Cs h8 (m:=m-1) U (w:Int)
  have nw1:oZ p a (w:Int)=pt (a.y w).nb:=by unfold oZ;rw[if_pos U,aTo]
  rw[nw1] at gw;obtain⟨H9,g9,x9⟩:=Yv ((pv3.ext iG).ext Ad) (m:=m-1) U U (w:Int) (v:Int)
  rw[q1] at g9;have h9:=h8.dC x9;obtain⟨HA,gA,xA⟩:=aPl (h9.node w hw1) (m:=m-1) U q2 q3 (k:=lane) hl
  have hA:=h9.dC xA
  -- what they say
  have sb: ∀{G:aG},Ext HA G->G[(a.y v).sb iv lane]? =some (iM xs):=λhG=>by rw[hxs];exact((hA.dC hG).node v hv1).Cj p2 p3 hl
  have rb: ∀{G:aG},Ext HA G->G[(a.y w).rb iw lane]? =some (eO yr (cP p w).room):=λhG=>by rw[hyr];exact((hA.dC hG).node w hw1).Cg q2 q3 hl
  have hso:SndOk xs:=by rw[hxs];exact(hA.node v hv1).Hm U iv lane
  have hro:RcvOk yr (cP p w).room:=by rw[hyr];exact(hA.node w hw1).Ci U iw lane
  have gu:=aAX (m:=m-1) U (sb (Fr.dY _ HA)) hso
  obtain⟨HB,gu,xB⟩: ∃HB,lvl prog pkN (m-1) (.func 58) [.Q ((a.y v).sb iv lane) 0] HA=some (.I xs.gR,HB)/\Ext HA HB:=⟨_,gu,Fr.app _ _ _⟩;have gl:=aAV (m:=m-1) U (rb xB) hro
  have gs:=aM7 (m:=m-1) U (sb xB)
  have gh:=aM4 (m:=m-1) U (rb xB)
  have u1:prog.underlying 3=some (.int .i64):=by kernel_rfl
  have u3:prog.underlying 112=some (.int .u64):=by kernel_rfl
  have cv: ∀(z:Int)(G:aG),cH prog 112 3 (.int .u64 (IntKind.u64.wrap z)) G=some (.I (cI z),G):=λz G=>dJ _ _ u3 u1 _ _
  have hroom:(cP p w).room=p.room.toNat:=rfl;obtain⟨la,hla⟩: ∃la:Int,la=cI ((yr.dE p.room.toNat:Int)-xs.l):=⟨_,rfl⟩;rw[hroom] at gl;have eb:bld prog 46 [(0,.I xs.gR),(1,.I la),(3,.I yr.h)]=some (acV ⟨xs.gR,la,0,yr.h,0⟩):=rfl;obtain⟨A1,hA1⟩: ∃A1:Acc,A1=⟨xs.gR,la,0,yr.h,0⟩:=⟨_,rfl⟩;rw[<-hA1] at eb;have sB:stN 5 (.Q HB.length 0) (acV A1) (HB++[acB ac0])=some (undef,HB++[acB A1]):=by rw[xR ac0 A1 (cD HB _),gQ]
  obtain⟨HC,hHC⟩:=aD (HB++[acB A1]);rw[<-hHC] at sB;have xC:Ext HB HC:=by rw[hHC];exact Fr.app _ _ _
  have bC:HC[HB.length]? =some (acB A1):=by rw[hHC];exact cV _ _
  -- what flies
  have hC:=(hA.dC xB).dC xC;obtain⟨lv,HD,gD,xD,rD⟩:=Lk.aDt (pr:=pkN) (aQ rfl) (aQ rfl) (hC.link k hk) (m:=m-1) U
  have xBD:=(xB.tr xC).tr xD;have gex:=aAU (m:=m-1) U (rb xBD)
  have gse:=Po (m:=m-1) U (sb xBD)
  have hfew:=(hC.link k hk).few;have hyb:=hro;obtain⟨HE,gE,xE⟩:=aSb rD U lane yr.n xs.s (by have:=((hA.node w hw1).inv.rcv iw lane).big;rw[<-hyr] at this;omega) (m:=m-1) U
  obtain⟨fl,hfl⟩:=aD ((p8 lane yr.n xs.s (s.l k)).length);rw[<-hfl] at gE;have bE:HE[HB.length]? =some (acB A1):=cR (cR bC xD) xE;obtain⟨A2,hA2⟩: ∃A2:Acc,A2=⟨xs.gR,la,(fl:Int),yr.h,0⟩:=⟨_,rfl⟩;have sE:=aDP A1 A2 (j:=2) (z:=(fl:Int)) bE U (by rw[hA1,hA2];rfl)
  obtain⟨HF,hHF⟩:=aD (HE.set HB.length (acB A2));rw[<-hHF] at sE;have bF:HF[HB.length]? =some (acB A2):=by rw[hHF];exact dN bE
  have xBF:Ext HB HF:=by rw[hHF];exact jY ((xC.tr xD).tr xE) (aS1 _)
  have gse2:=Po (m:=m-1) U (sb (xB.tr xBF))
  have gex2:=aAU (m:=m-1) U (rb (xB.tr xBF))
  have lF:ld1 (.Q HB.length 2) HF=some (.I (fl:Nat),HF):=by rw[bA bF (show A2.lE[2]? =some (.I (fl:Int)) from by rw[hA2];rfl)]
  have ckI': ∀(z:Int)(G:aG),chk (some (Value.I z,G)) (.I z)=true:=λz G=>by simp[chk,veq]
  have ckI1: ∀(z:Int)(G:aG),chk (some (Value.I z,G)) (.I z)=true:=ckI';obtain⟨lo,hlo⟩: ∃lo:Int,lo=IntKind.i64.wrap (cI ((xs.s:Int)-yr.n)-fl):=⟨_,rfl⟩;obtain⟨A3,hA3⟩: ∃A3:Acc,A3=⟨xs.gR,la,(fl:Int),yr.h,lo⟩:=⟨_,rfl⟩;have sF:=aDP A2 A3 (j:=4) (z:=lo) bF U (by rw[hA2,hA3];rfl)
  obtain⟨HG,hHG⟩:=aD (HF.set HB.length (acB A3));rw[<-hHG] at sF;have bG:HG[HB.length]? =some (acB A3):=by rw[hHG];exact dN bF
  have lG:ldN 5 (.Q HB.length 0) HG=some (acV A3,HG):=m9 bG (aS1 5);have xBG:Ext HB HG:=by rw[hHG];exact jY xBF (aS1 _)
  -- the answer
  have xHB:Ext H1 HB:=((((((c2.ext.tr x3).tr iG).tr Ad).tr x9).tr xA).tr xB);have bR:HG[H.length]? =some (acB ac0):=cR b1 (xHB.tr xBG);have sG:=xR ac0 A3 bR;obtain⟨HK,hHK⟩:=aD (HG.set H.length (acB A3));rw[<-hHK] at sG;have bK:HK[H.length]? =some (acB A3):=by rw[hHK];exact dN bR
  have lK:ldN 5 (.Q H.length 0) HK=some (acV A3,HK):=m9 bK (aS1 5);have hacc:dM p s k lane=A3:=by
    unfold dM tR;simp only[hgd,aTo,<-hiv,<-hiw,<-hxs,<-hyr];rw[<-hfl,hA3,hla,hlo]
  refine⟨HK,?_,by rw[hHK];exact jY (x1.tr (xHB.tr xBG)) (aS1 _)⟩
  rw[hacc];refine aV (aQ rfl) U ?_
  rw[aDJ];simp only[gsR,e0,<-hH1,g2,uV,cp,g4,n3,d1,l2,d2,g5,i1,i4,hs,v6,gv,pl6,pchk,ckI',w6,g7,g8,w8,gw,pl8,v8,g9,gA,gu,gl,gs,dX,cv,<-hla,gh,eb,sB,gD,gex,gse,gE,sE,gse2,gex2,lF,<-hlo,sF,lG,sG,lK]
end
section
variable {H0 Hs H H' : aG} {O : FP → Nat → Prop} {a : FL} {F : Nat → Part → Nat → Prop} {p : PlanD} {ev wv nv : Value} {t : Nat} {s : FS} {m : Nat}
theorem aSg (x:Acc)(H:aG):bV 46 5 1 [.I 0,.I 0,.I 0,.I 0,.I 0] [(0,acV x)] H=some (.slice (some ⟨H.length,0,none⟩) 1 1,H++[.cells x.lE 46 .row]):=rfl
theorem Ig (hok:eC p=true):1<=p.lanes/\p.lanes<=3:=by
 unfold eC oP wi at hok;simp only[aS4,decide_eq_true_eq] at hok;omega
theorem aSh (h:cX H0 Hs O a F p ev wv nv t s)(ht:t<1000000)(hm:20000<m)(hm2:m<=72057594037927936){k:Nat}(hk:k<(aZ p).length){iW:Value}{xs:List Acc}(hxl:xs.length<=200){K:Ex->K (Value×aG)}{Q:aG->Value->Prop}
  (hK: ∀(H':aG)(v':Value),Ext Hs H'->Rw Acc.lE 46 5 H' v' (xs++(List.range p.lanes.toNat).map (dM p s k))->New Hs v'-> ∀(x2 x4 fC eE:Value),∃H2 u2,Si (lvl prog pkN m) (aL m) K (pt a.fb) x2 v' x4 iW (.I (k:Nat)) fC eE H'=some (u2,H2)/\Q H2 u2):
  ∀(q i l:Nat)(H:aG)(v:Value),p.lanes.toNat-i=q->i<=p.lanes.toNat->q<l->Ext Hs H->Rw Acc.lE 46 5 H v (xs++(List.range i).map (dM p s k))->New Hs v-> ∀(x2:Value),
  ∃H2 u2,aL l (aO prog (lvl prog pkN m) (aL m) Sh) (Sk (lvl prog pkN m) (aL m) K) (some (pt a.fb)::aF 1 (x2::v::some (.I (k:Nat))::aF 5 (iW::some (.I (k:Nat))::aF 4 (some (.I (p.lanes.toNat:Nat))::some (.I (i:Nat))::aF 16 [])))) H=some (u2,H2)/\Q H2 u2:=by
 have h3:=Ig h.ok;intro q;induction q with
 |zero=>
  intro i l H v hq hi hl he hr hn;intros;obtain⟨l,rfl⟩:=aB l U
  obtain rfl:i=p.lanes.toNat:=U
  have e:decide ((p.lanes.toNat:Int)<(p.lanes.toNat:Nat))=false:=by simp
  rw[bS,aDG];simp only[gsR,e];rw[aRW];exact hK H v he hr hn ..
 |succ q ih=>
  intro i l H v hq hi hl he hr hn;intros;obtain⟨l,rfl⟩:=aB l U
  have e:decide ((i:Int)<(p.lanes.toNat:Nat))=true:=aTG U
  have e3:=aA (i:=i) U
  obtain⟨H1,g1,x1⟩:=S3 (h.dC he) ht (m:=m) U hm2 hk (lane:=i) U
  have E0:ext 0 (.tuple #[acV (dM p s k i),.bool true])=some (acV (dM p s k i)):=rfl;have E1:ext 1 (.tuple #[acV (dM p s k i),.bool true])=some (.bool true):=rfl;have ez: ∀G:aG,G++[Blk.cells [Value.int .i64 0,.int .i64 0,.int .i64 0,.int .i64 0,.int .i64 0] 46 .fix]=G++[acB ac0]:=λ_=>rfl
  have st:stN 5 (.Q H1.length 0) (acV (dM p s k i)) (H1++[acB ac0])=some (undef,H1++[acB (dM p s k i)]):=by rw[xR ac0 _ (cD H1 _),gQ]
  obtain⟨H2,hH2⟩:=aD (H1++[acB (dM p s k i)]);rw[<-hH2] at st;have x2:Ext H1 H2:=by rw[hH2];exact Fr.app _ _ _
  have b2:H2[H1.length]? =some (acB (dM p s k i)):=by rw[hH2];exact cV _ _
  have ld:ldN 5 (.Q H1.length 0) H2=some (acV (dM p s k i),H2):=m9 b2 (aS1 5);have hr2:=nE (nE hr x1) x2;obtain⟨v',H3,g3,r3,n3,x3⟩:=hr2.pM (by':=40) aDC aRU aC (dM p s k i) hn (he.tr (x1.tr x2)) (eJ (n:=1000) aC (by rw[aS8,aTa,aTq];omega))
  have hs:xs++(List.range i).map (dM p s k)++[dM p s k i]=xs++(List.range (i+1)).map (dM p s k):=by rw[aTv,List.map_append,aS3];rfl
  rw[hs] at r3;rw[bS,aDG];simp only[gsR,e,g1,E0,E1,ez,st,ld,aSg,g3,aT,e3];exact ih (i+1) l H3 v' U U U x3 r3 n3 ..
theorem aSi (h:cX H0 Hs O a F p ev wv nv t s)(ht:t<1000000)(hm:30000<m)(hm2:m<=72057594037927936){n:Nat}(hn:(aZ p).length=n):
  ∀(q k l:Nat)(H:aG)(v:Value),n-k=q->k<=n->q<l->Ext Hs H->Rw Acc.lE 46 5 H v ((List.range k).flatMap λk=>(List.range p.lanes.toNat).map (dM p s k))->New Hs v-> ∀(x2 x4 fC eE:Value),
  ∃H2 u2,aL l (aO prog (lvl prog pkN m) (aL m) Sg) (Sj (lvl prog pkN m) (aL m)) (some (pt a.fb)::aF 1 (x2::v::x4::aF 5 (some (.I (n:Nat))::some (.I (k:Nat))::aF 4 (fC::eE::aF 16 [])))) H=some (u2,H2)/\Ext Hs H2/\Rw Acc.lE 46 5 H2 u2 (iF p s)/\New Hs u2:=by
 have h36:=qM p;have h3:=Ig h.ok;have hll: ∀k,((List.range k).flatMap λk=>(List.range p.lanes.toNat).map (dM p s k)).length=k*p.lanes.toNat:=λk=>Cq λi _=>by rw[aTa,aTq]
 intro q;induction q with
 |zero=>
  intro k l H v hq hk hl he hr hnw;intros;obtain⟨l,rfl⟩:=aB l U
  obtain rfl:k=n:=U
  have e:decide ((k:Int)<(k:Nat))=false:=by simp
  refine⟨H,v,?_,he,by unfold iF;rw[hn];exact hr,hnw⟩
  rw[bS,aDF];simp only[gsR,e];rw[aRV]
  first|done|rfl
 |succ q ih=>
  intro k l H v hq hk hl he hr hnw;intros;obtain⟨l,rfl⟩:=aB l U
  have e:decide ((k:Int)<(n:Nat))=true:=aTG U
  have e3:=aA (i:=k) U
  obtain⟨H1,e',w',n',g1,c1⟩:=zV (h.dC he) (m:=m) U
  have p1:pA 2 (plV p e' w' n')=some (.I (p.lanes.toNat:Nat)):=by
   have:pA 2 (plV p e' w' n')=some (.I p.lanes):=rfl;rw[this,show((p.lanes.toNat:Nat):Int)=p.lanes from U]
  have hle:=hll k;have hmul:k*p.lanes.toNat<=36*3:=Nat.mul_le_mul U U
  rw[bS,aDF];simp only[gsR,e,g1,p1];refine aSh h ht (m:=m) U hm2 (k:=k) (iW:= .I (n:Nat)) (xs:=(List.range k).flatMap λk=>(List.range p.lanes.toNat).map (dM p s k)) (Q:=λH2 u2=>Ext Hs H2/\Rw Acc.lE 46 5 H2 u2 (iF p s)/\New Hs u2) U U ?_ p.lanes.toNat 0 m H1 v U U U (he.tr c1.ext) (by simpa using nE hr c1.ext) hnw ..
  intro H2 v2 x2 r2 n2;intros;have hs:((List.range k).flatMap λk=>(List.range p.lanes.toNat).map (dM p s k))++(List.range p.lanes.toNat).map (dM p s k)=(List.range (k+1)).flatMap λk=>(List.range p.lanes.toNat).map (dM p s k):=by rw[aTv,List.flatMap_append];simp
  rw[hs] at r2;unfold Si;simp only[gsR,aT,e3];exact ih (k+1) l H2 v2 U U U x2 r2 n2 ..
theorem aDQ (h:cX H0 H O a F p ev wv nv t s)(ht:t<1000000)(hm:40000<m)(hm2:m<=72057594037927936): ∃H2 u2,lvl prog pkN m (.func 12) [pt a.fb] H=some (u2,H2)/\Ext H H2/\Rw Acc.lE 46 5 H2 u2 (iF p s)/\New H u2:=by
 obtain⟨v,H1,g1,x1,r1,n1⟩:=aDw h (m:=m-1) U
 have hlen:=r1.nR;have h36:=qM p;refine dP (aQ rfl) U ?_
 rw[aRX];simp only[gsR,g1,hlen];exact aSi h ht (m:=m-1) U U rfl (aZ p).length 0 (m-1) H1 _ U U U x1 Rw.fE (New.iJ _) ..
end
theorem aSs (L:List (Go.Abs.dO×Pkt))(i o k:Nat):fT L i o k<=L.length:=by
 unfold fT jB;rw[aTa];exact List.length_filter_le _ _
theorem aSn (ks:List Nat)(b:Option Nat):(mU ks b).length<=ks.length+1:=by
 unfold mU;split
 ·omega
 ·split
  ·omega
  ·simp
theorem aSl (lane fr to:Nat)(l:List (List UInt8)):(p8 lane fr to l).length<=l.length:=by
 unfold p8;have: ∀(l:List (List UInt8))(ks:List Nat),(l.foldl (λks b=>mU ks (gK lane fr to b)) ks).length<=ks.length+l.length:=by
  intro l;induction l with
  |nil=>intro ks;simp
  |cons b l ih=>
   intro ks;rw[List.foldl_cons];have:=ih (mU ks (gK lane fr to b));have:=aSn ks (gK lane fr to b);simp only[aTi];omega
 simpa using this l []
def oC (s:NS)(i k j:Nat):Nat:=((List.range j).map λo=>fT s.rL i o k).sum
def mG (s:NS)(P k i:Nat):Nat:=((List.range i).map λi=>oC s i k P).sum
def nH (s:NS)(P k:Nat):Nat:=((List.range k).map λk:Nat=>(cW s.hL k).length+mG s P k P).sum
section
variable {H0 Hs H H' : aG} {O : FP → Nat → Prop} {a : FL} {F : Nat → Part → Nat → Prop} {p : PlanD} {ev wv nv : Value} {t : Nat} {s : FS} {m : Nat}
variable {Fn : Part → Nat → Prop} {y : Lay} {c : Cfg} {sv : NS}
theorem Ii (h:NodeAt H0 H Fn y p ev wv nv c t sv):(∀i k j,j<=c.aJ->oC sv i k j<=1000)/\(∀k i,i<=c.aJ->mG sv c.aJ k i<=6000)/\ ∀k,k<=c.lanes->nH sv c.aJ k<=20000:=by
 have h5:=h.ok.by';have h3:=h.ok.lanes;have h8:=h.ok.room;have hq:=h.ok.queue;have hp:c.aJ<=6:=by unfold Cfg.aJ;omega
 have hr:sv.rL.length<=144:=by
  have h1:=h.inv.rN;have h2:c.aJ*c.lanes<=6*3:=Nat.mul_le_mul hp h3.2;have h3:c.aJ*c.lanes*c.room<=18*8:=Nat.mul_le_mul h2 h8.2;omega
 have a1: ∀i k j,j<=c.aJ->oC sv i k j<=1000:=λi k j hj=>by
  have:=Cv (B:=144) j λo _=>aTc (aSs sv.rL i o k) hr
  unfold oC;omega
 have a2: ∀k i,i<=c.aJ->mG sv c.aJ k i<=6000:=λk i hi=>by
  have:=Cv (B:=1000) (f:=λi=>oC sv i k c.aJ) i λo _=>a1 o k c.aJ (aS1 _)
  unfold mG;omega
 refine⟨a1,a2,λk hk=> ?_⟩
 have:=Cv (B:=6008) (f:=λk:Nat=>(cW sv.hL k).length+mG sv c.aJ k c.aJ) k λo _=>by
  have:=h.inv.hQ o;have:=a2 o c.aJ (aS1 _);omega
 unfold nH;omega
theorem aSq (h:NodeAt H0 H Fn y p ev wv nv c t sv)(hm:1000<m){i k M:Nat}(hM:M<=50000){gL sR:Value}{K:Ex->K (Value×aG)}{Q:aG->Value->Prop}
  (hK: ∀(x4 x9 iG nI:Value),∃H2 u2,Sv (lvl prog pkN m) (aL m) K x4 (pt y.nb) (.I (M+oC sv i k c.aJ:Nat)) (.I (c.aJ:Nat)) (.I (k:Nat)) x9 gL sR (.I (c.aJ:Nat)) (.I (i:Nat)) iG nI H=some (u2,H2)/\Q H2 u2):
  ∀(q j l:Nat),c.aJ-j=q->j<=c.aJ->q<l-> ∀(x4:Value),
  ∃H2 u2,aL l (aO prog (lvl prog pkN m) (aL m) St) (Sy (lvl prog pkN m) (aL m) K) (aF 4 (x4::some (pt y.nb)::some (.I (M+oC sv i k j:Nat))::some (.I (c.aJ:Nat))::some (.I (k:Nat))::some (.I (i:Nat))::aF 12 (gL::sR::aF 8 (some (.I (c.aJ:Nat))::some (.I (i:Nat))::aF 2 (some (.I (c.aJ:Nat))::some (.I (j:Nat))::aF 14 []))))) H=some (u2,H2)/\Q H2 u2:=by
 have h6:c.aJ<=6:=by have:=h.ok.by';unfold Cfg.aJ;omega
 obtain⟨a1,_,_⟩:=Ii h;intro q;induction q with
 |zero=>
  intro j l hq hj hl;intros;obtain⟨l,rfl⟩:=aB l U
  obtain rfl:j=c.aJ:=U
  have e:decide ((c.aJ:Int)<(c.aJ:Nat))=false:=by simp
  rw[bS,aDM];simp only[gsR,e];rw[aR4];exact hK ..
 |succ q ih=>
  intro j l hq hj hl;intros;obtain⟨l,rfl⟩:=aB l U
  have e:decide ((j:Int)<(c.aJ:Nat))=true:=aTG U
  have e3:=aA (i:=j) U
  have g1:=aPm h (m:=m) U
  have g2:=Qw h (m:=m) U i j k
  have hs:oC sv i k (j+1)=oC sv i k j+fT sv.rL i j k:=vM _ _;have hb:=a1 i k (j+1) U
  have ea:IntKind.i64.wrap (((M+oC sv i k j:Nat):Int)+(fT sv.rL i j k:Nat))=((M+oC sv i k (j+1):Nat):Int):=by rw[bJ U U];omega
  rw[bS,aDM];simp only[gsR,e,g1,g2,aT,ea,e3];exact ih (j+1) l U U U ..
theorem aSp (h:NodeAt H0 H Fn y p ev wv nv c t sv)(hm:1000<m){k M:Nat}(hM:M<=40000){gL:Value}{K:Ex->K (Value×aG)}{Q:aG->Value->Prop}
  (hK: ∀(x4 x8 x9 qY qZ iG nI:Value),∃H2 u2,Su (lvl prog pkN m) (aL m) K x4 (pt y.nb) (.I (M+mG sv c.aJ k c.aJ:Nat)) (.I (c.aJ:Nat)) x8 x9 gL (.I (k:Nat)) qY qZ iG nI H=some (u2,H2)/\Q H2 u2):
  ∀(q i l:Nat),c.aJ-i=q->i<=c.aJ->q<l-> ∀(x4 x9 iG nI:Value),
  ∃H2 u2,aL l (aO prog (lvl prog pkN m) (aL m) Ss) (Sx (lvl prog pkN m) (aL m) K) (aF 4 (x4::some (pt y.nb)::some (.I (M+mG sv c.aJ k i:Nat))::some (.I (c.aJ:Nat))::some (.I (k:Nat))::x9::aF 12 (gL::some (.I (k:Nat))::aF 8 (some (.I (c.aJ:Nat))::some (.I (i:Nat))::aF 2 (iG::nI::aF 14 []))))) H=some (u2,H2)/\Q H2 u2:=by
 have h6:c.aJ<=6:=by have:=h.ok.by';unfold Cfg.aJ;omega
 obtain⟨_,a2,_⟩:=Ii h;intro q;induction q with
 |zero=>
  intro i l hq hi hl;intros;obtain⟨l,rfl⟩:=aB l U
  obtain rfl:i=c.aJ:=U
  have e:decide ((c.aJ:Int)<(c.aJ:Nat))=false:=by simp
  rw[bS,aDL];simp only[gsR,e];rw[aR3];exact hK ..
 |succ q ih=>
  intro i l hq hi hl;intros;obtain⟨l,rfl⟩:=aB l U
  have e:decide ((i:Int)<(c.aJ:Nat))=true:=aTG U
  have e3:=aA (i:=i) U
  have hb:=a2 k i U
  have hs:mG sv c.aJ k (i+1)=mG sv c.aJ k i+oC sv i k c.aJ:=vM _ _;have hz:M+mG sv c.aJ k i=M+mG sv c.aJ k i+oC sv i k 0:=rfl;rw[bS,aDL];simp only[gsR,e];rw[hz];refine aSq h hm (i:=i) (k:=k) (M:=M+mG sv c.aJ k i) U (gL:=gL) (sR:= .I (k:Nat)) (Q:=Q) ?_ c.aJ 0 m U U U ..
  intros;have hs':M+mG sv c.aJ k i+oC sv i k c.aJ=M+mG sv c.aJ k (i+1):=U
  rw[hs'];unfold Sv;simp only[gsR,aT,e3];exact ih (i+1) l U U U ..
theorem aSo (h:NodeAt H0 H Fn y p ev wv nv c t sv)(hm:1000<m):
  ∀(q k l:Nat),c.lanes-k=q->k<=c.lanes->q<l-> ∀(x4 x8 x9 qY qZ iG nI:Value),
  ∃H2 u2,aL l (aO prog (lvl prog pkN m) (aL m) Sr) (Sw (lvl prog pkN m) (aL m)) (aF 4 (x4::some (pt y.nb)::some (.I (nH sv c.aJ k:Nat))::some (.I (c.aJ:Nat))::x8::x9::aF 12 (some (.I (c.lanes:Nat))::some (.I (k:Nat))::aF 8 (qY::qZ::aF 2 (iG::nI::aF 14 []))))) H=some (u2,H2)/\u2= .I (nH sv c.aJ c.lanes:Nat)/\H2=H:=by
 have h3:=h.ok.lanes;have h8:=h.ok.queue;have h6:c.aJ<=6:=by have:=h.ok.by';unfold Cfg.aJ;omega
 obtain⟨_,a2,a3⟩:=Ii h;intro q;induction q with
 |zero=>
  intro k l hq hk hl;intros;obtain⟨l,rfl⟩:=aB l U
  obtain rfl:k=c.lanes:=U
  have e:decide ((c.lanes:Int)<(c.lanes:Nat))=false:=by simp
  refine⟨H,_,?_,rfl,rfl⟩;rw[bS,aDK];simp only[gsR,e];rw[aR2]
  first|done|rfl
 |succ q ih=>
  intro k l hq hk hl;intros;obtain⟨l,rfl⟩:=aB l U
  have e:decide ((k:Int)<(c.lanes:Nat))=true:=aTG U
  have e3:=aA (i:=k) U
  have g1:=aCm h (m:=m) U
  obtain⟨w0,w1,w2,cv,hh⟩:=h.aCv;have g2:=Pv hh (m:=m) U k U
  have hs:nH sv c.aJ (k+1)=nH sv c.aJ k+((cW sv.hL k).length+mG sv c.aJ k c.aJ):=vM _ _;have hq8:=h.inv.hQ (k:Int);have hb:=a3 k U
  have hb2:=a3 (k+1) U
  have ea:IntKind.i64.wrap (((nH sv c.aJ k:Nat):Int)+((cW sv.hL (k:Int)).length:Nat))=((nH sv c.aJ k+(cW sv.hL k).length:Nat):Int):=by rw[bJ U U];omega
  have hz:nH sv c.aJ k+(cW sv.hL k).length=nH sv c.aJ k+(cW sv.hL k).length+mG sv c.aJ k 0:=rfl;rw[bS,aDK];simp only[gsR,e,g1,g2,aT,ea];rw[hz];refine aSp h hm (k:=k) (M:=nH sv c.aJ k+(cW sv.hL k).length) U (gL:= .I (c.lanes:Nat)) (Q:=λH2 u2=>u2= .I (nH sv c.aJ c.lanes:Nat)/\H2=H) ?_ c.aJ 0 m U U U ..
  intros;have hs':nH sv c.aJ k+(cW sv.hL k).length+mG sv c.aJ k c.aJ=nH sv c.aJ (k+1):=U
  rw[hs'];unfold Su;simp only[gsR,aT,e3];exact ih (k+1) l U U U ..
theorem aSr (h:cX H0 H O a F p ev wv nv t s)(hm:20000<m)(hm2:m<=72057594037927936){v:Nat}(hv:v<p.nodes.toNat): ∃H',lvl prog pkN m (.func 40) [pt a.fb,.I (v:Nat)] H=some (.I (qA (cP p v) (s.n v):Nat),H')/\Ext H H':=by
 obtain⟨N,hN,hNe⟩:=h.oY;have hn:=hN.hn;have hE15:=hN.e15;have g1:=Cs h (m:=m-1) U (v:Int)
 have nv1:oZ p a (v:Int)=pt (a.y v).nb:=by unfold oZ;rw[if_pos U,aTo]
 rw[nv1] at g1;obtain⟨H1,e1,w1,n1,g2,c1⟩:=zV h (m:=m-1) U
 obtain⟨H2,bv,g3,x3,r3,_⟩:=Bd c1.pv (m:=m-1) U U (v:Int)
 have hlen:=r3.nR;have hpo:(cP p v).aJ=(bes p.edges v).length+1:=by
  show((bes p.edges v).map Int.toNat).length+1=_
  rw[aTa]
 have hbl:=E5 p.edges (v:Int);have ea:IntKind.i64.wrap (((bes p.edges v).length:Int)+1)=((cP p v).aJ:Nat):=by rw[bJ U U];omega
 have h2:=(h.dC c1.ext).dC x3;obtain⟨H3,e3',w3,n3,g4,c4⟩:=zV h2 (m:=m-1) U
 have h3:=h2.dC c4.ext;have hl3:=Ig h.ok;have p1:pA 2 (plV p e3' w3 n3)=some (.I ((cP p v).lanes:Nat)):=by
  have:pA 2 (plV p e3' w3 n3)=some (.I p.lanes):=rfl;rw[this];show some (Value.I p.lanes)=some (.I ((p.lanes.toNat:Nat):Int))
  rw[show((p.lanes.toNat:Nat):Int)=p.lanes from U]
 have main: ∃H' u,lvl prog pkN m (.func 40) [pt a.fb,.I (v:Nat)] H=some (u,H')/\u= .I (nH (s.n v) (cP p v).aJ (cP p v).lanes:Nat)/\H'=H3:=by
  refine dP (aQ rfl) U ?_
  rw[aR5];simp only[gsR,g1,g2,g3,hlen,aT,ea,g4,p1];exact aSo (h3.node v hv) (m:=m-1) U (cP p v).lanes 0 (m-1) U U (by have:=(h3.node v hv).ok.lanes;omega) ..
 obtain⟨H',u,g5,rfl,rfl⟩:=main
 exact⟨_,g5,(c1.ext.tr x3).tr c4.ext⟩
def oB (p:PlanD)(s:FS)(i:Nat):Int:=(((iF p s).take i).map (·.flying)).sum
def qX (p:PlanD)(s:FS):Int:=(sN p s:Int)+oB p s (iF p s).length
theorem aDR (h:cX H0 H O a F p ev wv nv t s): ∀x∈iF p s,0<=x.flying/\x.flying<=64:=λx hx=>by
 unfold iF at hx;obtain⟨k,hk,hx⟩:=List.mem_flatMap.mp hx;obtain⟨l,_,rfl⟩:=aTz.mp hx;have hf:=(h.link k (aTA.mp hk)).few;unfold dM tR;simp only;refine⟨by omega,?_⟩
 have:=aSl l ((s.n ((aZ p).getD k (0,0)).2.toNat).rcv (oA p ((aZ p).getD k (0,0)).2.toNat ((aZ p).getD k (0,0)).1.toNat) l).n ((s.n ((aZ p).getD k (0,0)).1.toNat).snd (oA p ((aZ p).getD k (0,0)).1.toNat ((aZ p).getD k (0,0)).2.toNat) l).s (s.l k);omega
theorem aSm (h:cX H0 H O a F p ev wv nv t s): ∀i,0<=oB p s i/\oB p s i<=64*i:=by
 have hb:=aDR h;intro i;unfold oB;induction i with
 |zero=>simp
 |succ i ih=>
  rw[List.take_add_one,List.map_append,List.sum_append];cases hx:(iF p s)[i]? with
  |none=>simp only[Option.toList,List.map_nil,List.sum_nil];omega
  |some x=>
   have:=hb x (aS6 hx);simp only[Option.toList,aTr,List.map_nil,List.sum_cons,List.sum_nil];omega
theorem aDS (h:cX H0 H O a F p ev wv nv t s): ∀i,i<=p.nodes.toNat->((List.range i).map λv=>qA (cP p v) (s.n v)).sum<=120000:=λi hi=>by
 obtain⟨N,hN,hNe⟩:=h.oY;have h6:=hN.h6;have:=Cv (B:=20000) (f:=λv=>qA (cP p v) (s.n v)) i λv hv=>(Ii (h.node v U)).2.2 _ (aS1 _)
 omega
theorem aSj (h:cX H0 Hs O a F p ev wv nv t s){A:Value}(hA:Rw Acc.lE 46 5 Hs A (iF p s))(hm:1000<m)(hlen:(iF p s).length<=108):
  ∀(q i l:Nat)(H:aG),(iF p s).length-i=q->i<=(iF p s).length->q<l->Ext Hs H-> ∀(x0 x2 x9 iW:Value),
  ∃H2,aL l (aO prog (lvl prog pkN m) (aL m) So) (Sq (lvl prog pkN m) (aL m)) (x0::aF 1 (x2::some (.I ((sN p s:Int)+oB p s i))::aF 5 (x9::iW::aF 9 (A::some (.I ((iF p s).length:Nat))::some (.I (i:Nat))::aF 9 [])))) H=some (.I (qX p s),H2)/\Ext Hs H2:=by
 have hb:=aSm h;have hfb:=aDR h;have hi1:=aDS h p.nodes.toNat (aS1 _);have hi2:sN p s<=120000:=hi1;intro q;induction q with
 |zero=>
  intro i l H hq hi hl he;intros;obtain⟨l,rfl⟩:=aB l U
  obtain rfl:i=(iF p s).length:=U
  have e:decide (((iF p s).length:Int)<((iF p s).length:Nat))=false:=by simp
  refine⟨H,?_,he⟩;rw[bS,aDI];simp only[gsR,e];rw[aRZ]
  first|done|rfl
 |succ q ih=>
  intro i l H hq hi hl he;intros;obtain⟨l,rfl⟩:=aB l U
  have e:decide ((i:Int)<((iF p s).length:Nat))=true:=aTG U
  have e3:=aA (i:=i) U
  obtain⟨x,hx⟩: ∃x,(iF p s)[i]? =some x:=⟨_,aSY U⟩
  obtain⟨b,o,g1,_,g3⟩:=(nE hA he).rs.dS aDC hx .i64;have g4:ldN 5 (.pointer (some ⟨b,o,none⟩)) H=some (acV x,H):=(g3 H rfl).1;have ez: ∀G:aG,G++[Blk.cells [Value.int .i64 0,.int .i64 0,.int .i64 0,.int .i64 0,.int .i64 0] 46 .fix]=G++[acB ac0]:=λ_=>rfl
  have st:stN 5 (.Q H.length 0) (acV x) (H++[acB ac0])=some (undef,H++[acB x]):=by rw[xR ac0 _ (cD H _),gQ]
  obtain⟨H2,hH2⟩:=aD (H++[acB x]);rw[<-hH2] at st;have x2:Ext H H2:=by rw[hH2];exact Fr.app _ _ _
  have b2:H2[H.length]? =some (acB x):=by rw[hH2];exact cV _ _
  have ld:ld1 (.Q H.length 2) H2=some (.I x.flying,H2):=bA b2 rfl;have hf:=hfb x (aS6 hx);have hs:oB p s (i+1)=oB p s i+x.flying:=by
   unfold oB;rw[List.take_add_one,hx,List.map_append,List.sum_append];simp
  have h1:=hb i;have ea:IntKind.i64.wrap ((sN p s:Int)+oB p s i+x.flying)=(sN p s:Int)+oB p s (i+1):=by rw[bJ U U];omega
  rw[bS,aDI];simp only[gsR,e,g1,g4,ez,st,ld,aT,ea,e3];exact ih (i+1) l H2 U U U (he.tr x2) ..
theorem aSk (h:cX H0 Hs O a F p ev wv nv t s)(ht:t<1000000)(hm:60000<m)(hm2:m<=72057594037927936):
  ∀(q v l:Nat)(H:aG),p.nodes.toNat-v=q->v<=p.nodes.toNat->q<l->Ext Hs H-> ∀(x2 gN gX gL:Value),
  ∃H2,aL l (aO prog (lvl prog pkN m) (aL m) Sm) (Sp (lvl prog pkN m) (aL m)) (some (pt a.fb)::aF 1 (x2::some (.I (((List.range v).map λv=>qA (cP p v) (s.n v)).sum:Nat))::aF 5 (some (.I (p.nodes.toNat:Nat))::some (.I (v:Nat))::aF 9 (gN::gX::gL::aF 9 [])))) H=some (.I (qX p s),H2)/\Ext Hs H2:=by
 have h3:=Ig h.ok;have h36:=qM p;obtain⟨N,hN,hNe⟩:=h.oY;have h6:=hN.h6;intro q;induction q with
 |zero=>
  intro v l H hq hv hl he;intros;obtain⟨l,rfl⟩:=aB l U
  obtain rfl:v=p.nodes.toNat:=U
  have e:decide ((p.nodes.toNat:Int)<(p.nodes.toNat:Nat))=false:=by simp
  have hh:=h.dC he;obtain⟨H1,A,g1,x1,r1,_⟩:=aDQ hh ht (m:=m) U hm2
  have hlen:=r1.rs.fR;have hal:(iF p s).length=(aZ p).length*p.lanes.toNat:=Cq λi _=>by rw[aTa,aTq]
  have hmul:(aZ p).length*p.lanes.toNat<=36*3:=Nat.mul_le_mul h36 U
  have z0:(sN p s:Int)=(sN p s:Int)+oB p s 0:=by
   unfold oB;simp
  rw[bS,aDH];simp only[gsR,e];rw[aRY];simp only[gsR,g1,hlen];have hz:(((List.range p.nodes.toNat).map λv=>qA (cP p v) (s.n v)).sum:Nat)=sN p s:=rfl
  rw[hz,z0];obtain⟨H2,g2,x2⟩:=(aSj (hh.dC x1) r1 (m:=m) U U (iF p s).length 0 m H1 U U U (Fr.dY _ _) ..)
  exact⟨H2,g2,(he.tr x1).tr x2⟩
 |succ q ih=>
  intro v l H hq hv hl he;intros;obtain⟨l,rfl⟩:=aB l U
  have e:decide ((v:Int)<(p.nodes.toNat:Nat))=true:=aTG U
  have e3:=aA (i:=v) U
  obtain⟨H1,g1,x1⟩:=aSr (h.dC he) (m:=m) U hm2 (v:=v) U
  have hs:=vM (λv=>qA (cP p v) (s.n v)) v
  have hb:=aDS h (v+1) U
  have ea:IntKind.i64.wrap ((((List.range v).map λv=>qA (cP p v) (s.n v)).sum:Nat)+(qA (cP p v) (s.n v):Nat):Int)=(((List.range (v+1)).map λv=>qA (cP p v) (s.n v)).sum:Nat):=by rw[bJ U U];omega
  rw[bS,aDH];simp only[gsR,e,g1,aT,ea,e3];exact ih (v+1) l H1 U U U (he.tr x1) ..
theorem Ih (h:cX H0 H O a F p ev wv nv t s)(ht:t<1000000)(hm:70000<m)(hm2:m<=72057594037927936): ∃H',lvl prog pkN m (.func 17) [pt a.fb] H=some (.I (qX p s),H')/\Ext H H':=by
 obtain⟨N,hN,hNe⟩:=h.oY;have hn:=hN.hn;have h6:=hN.h6;obtain⟨H1,e1,w1,n1,g1,c1⟩:=zV h (m:=m-1) U
 have p1:pA 0 (plV p e1 w1 n1)=some (.I (p.nodes.toNat:Nat)):=by
  have:pA 0 (plV p e1 w1 n1)=some (.I p.nodes):=rfl;rw[this,show((p.nodes.toNat:Nat):Int)=p.nodes from U]
 refine iB (aQ rfl) U ?_
 rw[aR0];simp only[gsR,g1,p1];exact aSk h ht (m:=m-1) U U p.nodes.toNat 0 (m-1) H1 U U U c1.ext ..
end
end Go.Proofs.YtciiopkbmjppfaaGreatDoor
