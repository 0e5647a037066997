/-
  PARTS OF THIS CLAIM'S PROOF, laid together by a program of mine.
-/
import Derived.Test.YtndnnndnhnlkdaaGreatDoorAbsM6
set_option linter.unusedVariables false
set_option linter.unusedSimpArgs false
set_option linter.unusedSectionVars false
set_option maxRecDepth 100000
namespace Go.Proofs.YtndnnndnhnlkdaaGreatDoor
open Go.Proofs.Tryz
open Go.Abs Go.Abs.M
open Classical
theorem Sep.aO7 {ι:Type}{A:ι->aE->Prop}{F:ι->Nat->Prop}{H:aE}(h:Sep A F H)(i:ι)(hi: ∀b,¬F i b){B:aE->Prop}{G:Nat->Prop}(hB:Has B G H)(hd: ∀b,G b-> ¬Un F b):Sep (updI A i B) (updI F i G) H:=by
 refine⟨λj=> ?_,λj k b hj hk=> ?_⟩
 ·by_cases hji:j=i
  ·rw[hji,iC,iC]
   exact hB
  ·rw[eJ _ _ hji,eJ _ _ hji]
   exact h.own j
 ·by_cases hji:j=i
  ·by_cases hki:k=i
   ·rw[hji,hki]
   ·rw[hji,iC] at hj
    rw[eJ _ _ hki] at hk;exact absurd ⟨k,hk⟩ (hd b hj)
  ·rw[eJ _ _ hji] at hj
   by_cases hki:k=i
   ·rw[hki,iC] at hk
    exact absurd ⟨j,hj⟩ (hd b hk)
   ·rw[eJ _ _ hki] at hk
    exact h.sep j k b hj hk
section
variable {Hs H : aE} {F : Part → Nat → Prop} {bag : Int} {ev wv nv : Value} {y : Lay} {c : Cfg} {n nw cs cr : Nat} {pv : Value} {m : Nat}
theorem Dh (hn:1<=n)(i k:Nat):DnB c n c.lanes i k↔DnB c (n+1) 0 i k:=by
 unfold DnB
 constructor<;>intro h<;>omega
theorem BN.aO6 {w xb:Nat}{lv:Value}(h:BN Hs H F bag ev wv nv y c n (n+1) c.lanes c.lanes pv)(hfe:FE F c n (n+1) c.lanes c.lanes)(hx:XN Hs H F y n c.lanes xb w lv)(hn:1<=n)(hn6:n<=6)(hl:1<=c.lanes)(hw:w=lL c n):
  ∃y' pv' H3 H4 H',y'.nb=y.nb/\dR 114 3 1 [.I 0,.slice none 0 0,.pointer none] [(0,.agg #[.I w,lv,pt (y.wh n)])] H=some (.slice (some ⟨H.length,0,none⟩) 1 1,H3)/\Go.Abs.app 114 3 40 pv (.slice (some ⟨H.length,0,none⟩) 1 1) H3=some (pv',H4)/\
   stN 1 (.Q y.nb 13) pv' H4=some (undef,H')/\BN Hs H' F bag ev wv nv y' c (n+1) (n+1) 0 0 pv'/\FE F c (n+1) (n+1) 0 0/\Krow H H':=by
 obtain⟨b,cap,rest,hlv,hcap,hlb⟩: ∃b cap rest,lv= .slice (some ⟨b,0,none⟩) c.lanes cap/\c.lanes<=cap/\H[b]? =some (.cells (((List.range c.lanes).map (mQ y n)).flatten++rest) 118 .row):=by
  obtain⟨_,⟨_,h0⟩|⟨c',cap,rest,h1,h2,_,h3⟩⟩:=hx.rows
  ·rw[aRE] at h0
   omega
  ·rw[aRE] at h1 h2
   exact⟨c',cap,rest,h1,h2,h3⟩
 obtain⟨y',hy'⟩: ∃y':Lay,y'={y with lb:=up1 y.lb n b,lcap:=up1 y.lcap n cap,lrest:=up1 y.lrest n rest}:=⟨_,rfl⟩;have hbF:=hx.lvF b (by rw[hlv];exact⟨_,_,_,rfl⟩)
 have hpo: ∀i,i<n->fR y' c i=fR y c i:=λi hi=>by
  rw[hy'];unfold fR nD;simp only;rw[oB _ _ U,oB _ _ U]
 have hpn:fR y' c n=[.I w,lv,pt (y.wh n)]:=by
  rw[hy',hw,hlv];unfold fR nD;simp only;rw[if_neg U,oJ,oJ]
 have hrw:Rw (fR y' c) 114 3 H pv (List.range n):=by
  have:=h.ports;unfold Rw at this⊢;rw[List.map_congr_left λi hi=>hpo i (aRO.mp hi)]
  exact this
 have eb:dR 114 3 1 [.I 0,.slice none 0 0,.pointer none] [(0,.agg #[.I w,lv,pt (y.wh n)])] H=some (.slice (some ⟨H.length,0,none⟩) 1 1,H++[.cells [.I w,lv,pt (y.wh n)] 114 .row]):=by
  rw[hlv];rfl
 have hw1:Rr (fR y' c) 114 (H++[.cells [.I w,lv,pt (y.wh n)] 114 .row]) (.slice (some ⟨H.length,0,none⟩) 1 1) [n]:=by
  have:=xS (el:=fR y' c) (e:=114) n H;rw[hpn] at this;exact this
 obtain⟨pv',H4,k1,k2,k3,k4,k5⟩:=(hrw.wC [Blk.cells [.int .i64 w,lv,pt (y.wh n)] 114 .row]).xT (Db y' c) (aBJ y' c) aC (by':=40) hw1.rs (gX (n:=1000) aC (by simp;omega))
 rw[<-aRJ] at k2;have hlen:(H++[Blk.cells [.int .i64 w,lv,pt (y.wh n)] 114 .row]).length=H.length+1:=by simp
 rw[hlen] at k3 k4 k5;have hnl:=dT h.nb;have hnpv: ¬cP pv y.nb:=λhh=>by
  obtain⟨cs',hc'⟩:=h.ports.blk hh;rw[h.nb] at hc';injection hc' with hc';injection hc' with _ _ h3;cases h3
 have bn4:H4[y.nb]? =some (sO bag ev wv nv y c pv):=by rw[k4 _ U hnpv,aRd hnl,h.nb]
 have sh:=Aw k2;have st:stN 1 (.Q y.nb 13) pv' H4=some (undef,H4.set y.nb (sO bag ev wv nv y c pv')):=pP bn4 aC (by simp) sh.1 sh.2
 have hfr:Fr (λb=>b=y.nb∨cP pv b) H (H4.set y.nb (sO bag ev wv nv y c pv')):=⟨by simp;omega,λb hb hn=>by
  rw[aRb (λhh=>hn (.inl hh.symm)),k4 b U (λhh=>hn (.inr hh)),aRd hb]⟩
 have hNF: ∀b,(b=y.nb∨cP pv b)-> ¬Un F b/\Hs.length<=b:=λb hb=>by
  rcases hb with rfl|hb
  ·exact⟨h.nbF,h.nb0⟩
  ·exact⟨(h.pvF b hb).2,(h.pvF b hb).1⟩
 obtain⟨x1,x2⟩:=h.Qj (pv':=pv) (n':=n) hfr hNF;have hlkeep: ∀(a:Nat)(cs':List Value),H[a]? =some (.cells cs' 118 .row)->(H4.set y.nb (sO bag ev wv nv y c pv'))[a]? =some (.cells cs' 118 .row):=λa cs' ha=>by
  rw[hfr.2 a (dT ha) (λhh=> ?_),ha]
  rcases hh with rfl|hh
  ·rw[h.nb] at ha
   injection ha with ha;injection ha with _ _ h3;cases h3
  ·obtain⟨cs2,hc2⟩:=h.ports.blk hh
   rw[ha] at hc2;injection hc2 with hc2;injection hc2 with _ h2 _
   revert h2
   decide
 have hpvn: ¬cP pv' y.nb:=λhh=>by
  rcases k5 _ hh with hh|hh
  ·exact hnpv hh
  ·omega
 have hsl:=h.ext.1;refine⟨y',pv',_,H4,_,by rw[hy'],eb,k1,st,?_,λj hj=>hfe j λhd=>hj ?_,λb cs hb=> ?_⟩
 ·refine⟨x1,x2.xV λj D hD=> ?_,h.new,?_,by rw[hy'];exact h.nbF,by rw[hy'];exact h.nb0,k2.eX λb hb=>aRb λhh=>hpvn (by rw[hh];exact hb),λb hb=> ?_,λi h1 h2=> ?_,λi j a1 a2 a3 a4 he=> ?_,by rw[hy'];exact h.ww⟩
  ·rw[hy']
   cases j with
   |snd i k=>
    simp only[mS] at hD⊢;by_cases hd:DnB c n c.lanes i k
    ·rw[if_pos hd] at hD
     rw[if_pos ((Dh hn i k).mp hd)];exact hD
    ·rw[if_neg hd] at hD
     rw[if_neg (λhh=>hd ((Dh hn i k).mpr hh))]
     exact hD
   |rcv i k=>
    simp only[mS] at hD⊢;by_cases hd:DnB c n c.lanes i k
    ·rw[if_pos hd] at hD
     rw[if_pos ((Dh hn i k).mp hd)];exact hD
    ·rw[if_neg hd] at hD
     rw[if_neg (λhh=>hd ((Dh hn i k).mpr hh))]
     exact hD
   |_=>exact hD
  ·rw[hy']
   exact fS bn4
  ·rcases k5 b hb with hb|hb
   ·exact h.pvF b hb
   ·exact⟨by omega,λhu=>by have:=h.sep.qU b hu;omega⟩
  ·by_cases hin:i=n
   ·subst hin
    have e1:y'.lb i=b:=by rw[hy'];exact oJ _ _ _
    have e2:y'.lcap i=cap:=by rw[hy'];exact oJ _ _ _
    have e3:oT y' c i= .cells (((List.range c.lanes).map (mQ y i)).flatten++rest) 118 .row:=by
     rw[hy'];unfold oT;simp only;rw[oJ];rfl
    rw[e1,e2,e3]
    exact⟨hlkeep _ _ hlb,hbF.1,hbF.2.1,hcap⟩
   ·obtain⟨q1,q2,q3,q4⟩:=h.lanes i h1 U
    have e1:y'.lb i=y.lb i:=by rw[hy'];exact oB _ _ hin
    have e2:y'.lcap i=y.lcap i:=by rw[hy'];exact oB _ _ hin
    have e3:oT y' c i=oT y c i:=by
     rw[hy'];unfold oT;simp only;rw[oB _ _ hin];rfl
    rw[e1,e2,e3]
    exact⟨hlkeep _ _ q1,q2,q3,q4⟩
  ·have e1: ∀i,y'.lb i=up1 y.lb n b i:=λi=>by rw[hy']
   rw[e1,e1] at he;by_cases hi:i=n
   ·by_cases hj:j=n
    ·rw[hi,hj]
    ·rw[hi,oJ,oB _ _ hj] at he
     exact absurd he (hbF.2.2 j a3 U)
   ·by_cases hj:j=n
    ·rw[hj,oJ,oB _ _ hi] at he
     exact absurd he.symm (hbF.2.2 i a1 U)
    ·rw[oB _ _ hi,oB _ _ hj] at he
     exact h.lne i j a1 U a3 U he
 ·cases j<;>simp only[sP] at hd⊢ <;>(try exact hd)<;>exact(Dh hn _ _).mp hd
 ·rw[hfr.2 b (dT hb) (λhh=> ?_),hb]
  rcases hh with rfl|hh
  ·rw[h.nb] at hb
   injection hb with hb;injection hb with _ _ h3;cases h3
  ·obtain⟨cs2,hc2⟩:=h.ports.blk hh
   rw[hb] at hc2;injection hc2 with hc2;injection hc2 with _ h2 _
   revert h2
   decide
end
section
variable {Hs H : aE} {F : Part → Nat → Prop} {ev wv nv : Value} {y : Lay} {c : Cfg} {p : PlanD} {m : Nat}
def Ql (Hs:aE)(p:PlanD)(ev wv nv:Value)(c:Cfg)(H':aE)(r:Value):Prop:= ∃F y,r=pt y.nb/\NodeAt Hs H' F y p ev wv nv c 0 (NS.m9 c)
theorem aBL (a b:Nat)(h:a*b<100000):IntKind.i64.wrap ((a:Int)*b)=((a*b:Nat):Int):=by
 have e:(a:Int)*b=((a*b:Nat):Int):=by push_cast;rfl
 rw[e];exact dJ U U
theorem aO8 {pl:Nat}{pv:Value}(hok:c.ok)(hc:c=eW p c.me)(hop: ∃n,OkP p n)(hPV:PV Hs p ev wv nv)(hpl:Hs[pl]? =some (plB p ev wv nv))(e2:p.lanes=(c.lanes:Int))(e3:p.room=(c.room:Int))(hm:400<m)
    (h:BN Hs H F p.bag ev wv nv y c c.aI c.aI 0 0 pv)(hfe:FE F c c.aI c.aI 0 0): ∀(x0 x1 x3 x4 x6 x7 x8 x9 bQ cG aS aP aQ aO bB bI aR bJ bM bT bN bP aU aV aW aX aY aZ bA bH bO bV cH cJ bX cC bY b9 cA cD cF cM cN cO cQ cW cX cY cS cT cZ dA dE dB dC dF dL dM dN dQ dZ eA eE eF eG eH eK eN eO eZ fA fB fC fD fE fI fJ fK fL fM fN fX fY fZ gC gF gG gH gI iF iG iH iI iJ iK iL iM iN iO iP iQ iR iS iT iV iW iX iY iZ jA jB jC jD jE jH jI jJ jK jL jM jO jQ:Value),
    ∃H2 r,Nr (lvl prog pkN m) (aK m) x0 x1 (pt pl) x3 x4 (pt y.nb) x6 x7 x8 x9 bQ cG aS aP aQ aO bB bI aR bJ bM bT bN bP aU aV aW aX aY aZ bA bH bO bV cH cJ bX cC bY b9 cA cD cF cM cN cO cQ cW cX cY cS cT cZ dA dE dB dC dF dL dM dN dQ dZ eA eE eF eG eH eK eN eO eZ fA fB fC fD fE fI fJ fK fL fM fN fX fY fZ gC gF gG gH gI iF iG iH iI iJ iK iL iM iN iO iP iQ iR iS iT iV iW iX iY iZ jA jB jC jD jE jH jI jJ jK jL jM jO jQ H=some (r,H2)/\Ql Hs p ev wv nv c H2 r:=by
  intros;have h6:c.aI<=6:=by have:=hok.by';unfold Cfg.aI;omega
  have hp1:1<=c.aI:=by unfold Cfg.aI;omega
  have hlanes:=hok.lanes;have hroom:=hok.room
  -- the ports' slice
  obtain⟨pb,pcap,prest,hpv,hpc,hpb⟩: ∃b cap rest,pv= .slice (some ⟨b,0,none⟩) c.aI cap/\c.aI<=cap/\H[b]? =some (.cells (((List.range c.aI).map (fR y c)).flatten++rest) 114 .row):=by
    obtain⟨_,⟨_,h0⟩|⟨c',cap,rest,h1,h2,_,h3⟩⟩:=h.ports
    · rw[aRE] at h0
      omega
    · rw[aRE] at h1 h2
      exact⟨c',cap,rest,h1,h2,h3⟩
  have hpbF:=h.pvF pb (by rw[hpv];exact⟨_,_,_,rfl⟩)
  have n13:ld1 (.Q y.nb 13) H=some (pv,H):=dI h.nb rfl;have lpv:cK pv=some (.I c.aI):=by rw[hpv];rfl
  -- the arbiter
  obtain⟨ab,ga,aa,H1,a1,a2,a3,x1,a4,a5,a6⟩:=aNE (H:=H) (m:=m) (n:=c.aI) hp1 U U
  have hA1:Has (Blks (j6 ab ga aa (List.replicate c.aI 0) (List.replicate c.aI 0))) (InB (j6 ab ga aa (List.replicate c.aI 0) (List.replicate c.aI 0))) H1:=
    Has.Hx a2 (λq hq=>⟨q,hq,rfl⟩) λb ⟨q,hq,hb⟩=>by rw[<-hb];exact dT (a2 q hq)
  have hge1: ∀b,InB (j6 ab ga aa (List.replicate c.aI 0) (List.replicate c.aI 0)) b->H.length<=b:=λb ⟨q,hq,hb⟩=>by
    rw[<-hb];simp only[j6,aRt,aRA,or_false] at hq;rcases hq with rfl|rfl|rfl
    · exact a4
    · exact a5
    · exact a6
  have sep1:=h.sep.Hy .arb (Dg _ _ _ _ _ _) (hfe .arb id) hA1 x1 hge1;obtain⟨F1,hF1⟩:=aD (updI F .arb (InB (j6 ab ga aa (List.replicate c.aI 0) (List.replicate c.aI 0))));obtain⟨A1,hA1'⟩: ∃A1,A1=updI (mS y c c.aI c.aI 0 0) .arb (Blks (j6 ab ga aa (List.replicate c.aI 0) (List.replicate c.aI 0))):=⟨_,rfl⟩;rw[<-hF1,<-hA1'] at sep1;have dx1: ∀j,DX (A1 j):=λj=>by
    rw[hA1'];unfold updI;split
    · exact Blks.dx _
    · exact Dg _ _ _ _ _ _ j
  have hun1: ∀b,b<H.length-> ¬Un F b-> ¬Un F1 b:=λb hb hF hu=>by
    rw[hF1] at hu
    exact(uK hu).elim hF λhg=>by have:=hge1 b hg;omega
  have bn1:H1[y.nb]? =some (sO p.bag ev wv nv y c pv):=by rw[x1.2 _ (dT h.nb) id,h.nb]
  -- stored
  obtain⟨H2,hH2⟩:=aD (H1.set y.nb (.cells [pt ab,.I c.nodes,ev,.I c.lanes,.I c.room,.I c.queue,.I c.rounds,.I c.every,.I p.bag,wv,.int .u16 c.start,nv,.I c.me,pv,pt y.hb,.pointer none,.I 0] 109 .fix));have st1:stN 1 (.Q y.nb 0) (pt ab) H1=some (undef,H2):=by rw[hH2];exact pP bn1 aC (by simp) rfl rfl
  have bn2:H2[y.nb]? =some (.cells [pt ab,.I c.nodes,ev,.I c.lanes,.I c.room,.I c.queue,.I c.rounds,.I c.every,.I p.bag,wv,.int .u16 c.start,nv,.I c.me,pv,pt y.hb,.pointer none,.I 0] 109 .fix):=by rw[hH2];exact fS bn1
  have fr2:Fr (λb=>b=y.nb) H1 H2:=⟨by rw[hH2];simp,λb hb hn=>by rw[hH2,aRb (λhh=>hn hh.symm)]⟩
  have nbl:=dT h.nb;have nbF1:=hun1 _ nbl h.nbF;have mv2:Mv (λb=>b=y.nb) (λb=>b=y.nb) H1 H2:=⟨fr2.1,λ_ h=> .inl h,λb hb hn=>fr2.2 b hb hn⟩
  have sep2:=sep1.xW dx1 mv2 λb hb hh=>nbF1 (by rw[<-hh];exact hb)
  -- the rings
  have hroom2:=aBx hok;have hpos:1<=c.aI*c.lanes*c.room:=Nat.mul_pos (Nat.mul_pos U U) U
  obtain⟨r,H3,G3,r1,r2,x3,r3⟩:=Has.aAZ (A:=λ_=>True) (H:=H2) uA (n:=m) (B:=λr D'=> ∃a,r=pt a/\RingsN D' a [] (c.aI*c.lanes*c.room) c.aI c.lanes) (λD _ _=>by
    obtain⟨a,D',g1,g2,_,_⟩:=aMX (D:=D) (m:=m) U c.aI c.lanes (c.aI*c.lanes*c.room) ⟨hp1,by omega,hlanes.1,hlanes.2,hpos,by omega⟩
    exact⟨_,D',g1,a,rfl,g2⟩)
  obtain⟨rg,hrg,_⟩:=r2.at_;have r2':Has (λD=>RingsN D rg [] (c.aI*c.lanes*c.room) c.aI c.lanes) G3 H3:=Has.yU r2 λD ⟨a,ha,hD⟩=>by
    rw[hrg] at ha;injection ha with ha;injection ha with ha;injection ha with ha;rw[ha];exact hD
  have fr1: ∀b,¬F1 .rings b:=λb hb=>by
    rw[hF1,eJ _ _ (λhh=>by cases hh)] at hb
    exact hfe .rings id b hb
  have sep3:=sep2.Hy .rings dx1 fr1 r2' x3 r3;obtain⟨F3,hF3⟩:=aD (updI F1 .rings G3);obtain⟨A3,hA3⟩:=aD (updI A1 .rings (λD=>RingsN D rg [] (c.aI*c.lanes*c.room) c.aI c.lanes))
  rw[<-hF3,<-hA3] at sep3;have dx3: ∀j,DX (A3 j):=λj=>by
    rw[hA3];unfold updI;split
    · exact λD D' h he=>h.ext he
    · exact dx1 j
  have hl12:=fr2.1;have hl01:=x1.1;have hun3: ∀b,b<H.length-> ¬Un F b-> ¬Un F3 b:=λb hb hF hu=>by
    rw[hF3] at hu
    exact(uK hu).elim (hun1 b hb hF) λhg=>by have:=r3 b hg;omega
  have bn3:H3[y.nb]? =some (.cells [pt ab,.I c.nodes,ev,.I c.lanes,.I c.room,.I c.queue,.I c.rounds,.I c.every,.I p.bag,wv,.int .u16 c.start,nv,.I c.me,pv,pt y.hb,.pointer none,.I 0] 109 .fix):=by rw[x3.2 _ (dT bn2) id,bn2]
  -- stored
  obtain⟨y',hy'⟩: ∃y':Lay,y'={y with pb:=pb,pcap:=pcap,prest:=prest,ab:=ab,ga:=ga,aa:=aa,rg:=rg}:=⟨_,rfl⟩;have hnc:Blk.cells [pt ab,.int .i64 c.nodes,ev,.int .i64 c.lanes,.int .i64 c.room,.int .i64 c.queue,.int .i64 c.rounds,.int .i64 c.every,.int .i64 p.bag,wv,.int .u16 c.start,nv,.int .i64 c.me,pv,pt y.hb,pt rg,.int .i64 0] 109 .fix=wT p.bag ev wv nv y' c 0:=by
    rw[hy',hpv];rfl
  obtain⟨H4,hH4⟩:=aD (H3.set y.nb (wT p.bag ev wv nv y' c 0));have st2:stN 1 (.Q y.nb 15) (pt rg) H3=some (undef,H4):=by rw[hH4,<-hnc];exact pP bn3 aC (by simp) rfl rfl
  have fr4:Fr (λb=>b=y.nb) H3 H4:=⟨by rw[hH4];simp,λb hb hn=>by rw[hH4,aRb (λhh=>hn hh.symm)]⟩
  have mv4:Mv (λb=>b=y.nb) (λb=>b=y.nb) H3 H4:=⟨fr4.1,λ_ h=> .inl h,λb hb hn=>fr4.2 b hb hn⟩
  have nbF3:=hun3 _ nbl h.nbF;have sep4:=sep3.xW dx3 mv4 λb hb hh=>nbF3 (by rw[<-hh];exact hb)
  have keep: ∀b,b<H.length->b≠y.nb->H4[b]? =H[b]? :=λb hb hn=>by
    have hl23:=x3.1;rw[fr4.2 b U hn,x3.2 b U id,fr2.2 b U hn,x1.2 b hb id]
  have bn4:H4[y.nb]? =some (wT p.bag ev wv nv y' c 0):=by rw[hH4];exact fS bn3
  -- the node's own blocks
  have enb:y'.nb=y.nb:=by rw[hy']
  have hpbn:pb≠y.nb:=λhh=>by
    have:=h.nb;rw[<-hh,hpb] at this;injection this with this;injection this with _ _ h3;cases h3
  have hlbn: ∀i,1<=i->i<c.aI->y.lb i≠y.nb:=λi a b hh=>by
    have:=(h.lanes i a b).1;rw[hh,h.nb] at this;injection this with this;injection this with _ _ h3;cases h3
  have hnl:Blks (mR p.bag ev wv nv y' c 0) H4/\ ∀b,InB (mR p.bag ev wv nv y' c 0) b->b<H.length/\ ¬Un F b/\Hs.length<=b:=by
    have q0: ∀q∈mR p.bag ev wv nv y' c 0,H4[q.1]? =some q.2/\q.1<H.length/\ ¬Un F q.1/\Hs.length<=q.1:=λq hq=>by
      simp only[mR,aRt,aRN,aRO] at hq;rcases hq with rfl|rfl|⟨j,hj,rfl⟩
      · simp only
        rw[enb]
        exact⟨bn4,nbl,h.nbF,h.nb0⟩
      · have e:y'.pb=pb:=by rw[hy']
        have e2:yT y' c= .cells (((List.range c.aI).map (fR y c)).flatten++prest) 114 .row:=by rw[hy'];rfl
        simp only;rw[e,e2]
        exact⟨by rw[keep _ (dT hpb) hpbn,hpb],dT hpb,hpbF.2,hpbF.1⟩
      · have hjp:j+1<c.aI:=by unfold Cfg.aI;omega
        obtain⟨q1,q2,q3,q4⟩:=h.lanes (j+1) U hjp
        have e:y'.lb (j+1)=y.lb (j+1):=by rw[hy']
        have e2:oT y' c (j+1)=oT y c (j+1):=by rw[hy'];rfl
        simp only;rw[e,e2]
        exact⟨by rw[keep _ (dT q1) (hlbn _ U hjp),q1],dT q1,q3,q2⟩
    exact⟨λq hq=>(q0 q hq).1,λb ⟨q,hq,hb⟩=>by rw[<-hb];exact(q0 q hq).2⟩
  have hl4:H.length<=H4.length:=by
    have:=x3.1;have:=fr4.1;omega
  have fn3: ∀b,¬F3 .node b:=λb hb=>by
    rw[hF3,eJ _ _ (λhh=>by cases hh),hF1,eJ _ _ (λhh=>by cases hh)] at hb
    exact hfe .node id b hb
  have sep5:=Sep.aO7 sep4 .node fn3 (B:=Blks (mR p.bag ev wv nv y' c 0)) (G:=InB (mR p.bag ev wv nv y' c 0)) (Has.Hx hnl.1 (λq hq=>⟨q,hq,rfl⟩) λb hb=>by have:=(hnl.2 b hb).1;omega) λb hb=>hun3 b (hnl.2 b hb).1 (hnl.2 b hb).2.1
  -- all of it
  have hx4:Ext Hs H4:=by
    have hsl:=h.ext.1;have hnb0:=h.nb0
    exact⟨by omega,λb hb _=>by rw[keep b U U,h.ext.2 b hb id]⟩
  have hnode:NodeAt Hs H4 (updI F3 .node (InB (mR p.bag ev wv nv y' c 0))) y' p ev wv nv c 0 (NS.m9 c):=by
    refine⟨hok,hc,hop,⟨?_,?_,?_,?_⟩,hx4,λb hb=> ?_,hPV,NInv.aL2 hok,sep5.xV λj D hD=> ?_⟩
    · rw[hy'];exact hpc
    · rw[hy'];exact λi h1 h2=>(h.lanes i h1 h2).2.2.2
    · rw[hy'];exact a3
    · rw[hy'];exact h.ww
    · have hsl:=h.ext.1
      rcases uK hb with hb|hb
      · rw[hF3] at hb
        rcases uK hb with hb|hb
        · rw[hF1] at hb
          rcases uK hb with hb|hb
          · exact h.new b hb
          · have:=hge1 b hb;omega
        · have:=r3 b hb;omega
      · exact(hnl.2 b hb).2.2
    · cases j with
      |node=>
        rw[iC] at hD;exact hD
      |rings=>
        rw[eJ _ _ (λhh=>by cases hh),hA3,iC] at hD
        rw[hy'];exact hD
      |arb=>
        rw[eJ _ _ (λhh=>by cases hh),hA3,eJ _ _ (λhh=>by cases hh),hA1',iC] at hD
        rw[hy'];exact hD
      |host=>
        rw[eJ _ _ (λhh=>by cases hh),hA3,eJ _ _ (λhh=>by cases hh),hA1',eJ _ _ (λhh=>by cases hh)] at hD
        rw[hy'];exact hD
      |whl i=>
        rw[eJ _ _ (λhh=>by cases hh),hA3,eJ _ _ (λhh=>by cases hh),hA1',eJ _ _ (λhh=>by cases hh)] at hD
        rw[hy'];exact hD
      |snd i k=>
        rw[eJ _ _ (λhh=>by cases hh),hA3,eJ _ _ (λhh=>by cases hh),hA1',eJ _ _ (λhh=>by cases hh)] at hD
        rw[hy'];simp only[mS,lR] at hD⊢;by_cases hd:1<=i/\i<c.aI/\k<c.lanes
        · rw[if_pos (.inl hd)] at hD
          rw[if_pos hd];exact hD
        · rw[if_neg (by unfold DnB;omega)] at hD
          rw[if_neg hd];exact hD
      |rcv i k=>
        rw[eJ _ _ (λhh=>by cases hh),hA3,eJ _ _ (λhh=>by cases hh),hA1',eJ _ _ (λhh=>by cases hh)] at hD
        rw[hy'];simp only[mS,lR] at hD⊢;by_cases hd:1<=i/\i<c.aI/\k<c.lanes
        · rw[if_pos (.inl hd)] at hD
          rw[if_pos hd];exact hD
        · rw[if_neg (by unfold DnB;omega)] at hD
          rw[if_neg hd];exact hD
  -- the walk
  have hp: ∀G:aE,Ext Hs G->G[pl]? =some (plB p ev wv nv):=λG hG=>by rw[hG.2 _ (dT hpl) id,hpl]
  have hx2:Ext Hs H2:=by
    have hsl:=h.ext.1;have hnb0:=h.nb0
    exact⟨by omega,λb hb _=>by rw[fr2.2 b U U,x1.2 b U id,h.ext.2 b hb id]⟩
  have l2:ld1 (.Q pl 2) H2=some (.I c.lanes,H2):=by rw[eP (hp H2 hx2) 2 (.I p.lanes) rfl,e2]
  have l3:ld1 (.Q pl 3) H2=some (.I c.room,H2):=by rw[eP (hp H2 hx2) 3 (.I p.room) rfl,e3]
  have n13':ld1 (.Q y.nb 13) H2=some (pv,H2):=dI bn2 rfl;have hpl18:c.aI*c.lanes<=18:=Nat.mul_le_mul h6 hlanes.2;have m1:=aBL c.aI c.lanes U
  have m2:=aBL (c.aI*c.lanes) c.room U
  rw[hrg] at r1;refine⟨H4,pt y.nb,?_,updI F3 .node (InB (mR p.bag ev wv nv y' c 0)),y',by rw[enb],hnode⟩
  unfold Nr;simp only[gsR,n13,lpv,a1,st1,n13',l2,Tx,m1,l3,m2,r1,st2]
end
theorem aO9 (a b d e f g h i:Int)(ev wv nv:Value)(me:Int)(q:Nat):bld prog 109 [(1,.agg ⟨[.I a,ev,.I b,.I d,.I e,.I f,.I g,.I h,wv,.int .u16 i,nv]⟩),(2,.I me),(4,pt q)]=
  some (.agg ⟨[.pointer none]++[.I a,ev,.I b,.I d,.I e,.I f,.I g,.I h,wv,.int .u16 i,nv]++[.I me,.slice none 0 0,pt q,.pointer none,.I 0]⟩):=by kernel_rfl
section
variable {Hs H : aE} {F : Part → Nat → Prop} {ev wv nv : Value} {y : Lay} {c : Cfg} {p : PlanD} {m : Nat}
theorem aPb {pl:Nat}{bv:Value}(hok:c.ok)(hc:c=eW p c.me)(hop: ∃n,OkP p n)(hPV:PV Hs p ev wv nv)(hpl:Hs[pl]? =some (plB p ev wv nv))(e2:p.lanes=(c.lanes:Int))(e3:p.room=(c.room:Int))(e9:p.start=(c.start:Int))(hwo:wOk p.weights=true)
  {Hb:aE}(hbv:Iw Hb bv (bes p.edges c.me))(hbl:(bes p.edges c.me).length=c.by'.length)(hbg: ∀i,i<c.by'.length->(bes p.edges c.me)[i]? =some ((c.by'.getD i 0:Nat):Int))(hm:500<m)(hm2:m<=72057594037927936){nb:Nat}:
  ∀(q i l:Nat)(H:aE)(F:Part->Nat->Prop)(y:Lay)(pv:Value),c.by'.length-i=q->i<=c.by'.length->q<l->y.nb=nb->BN Hs H F p.bag ev wv nv y c (i+1) (i+1) 0 0 pv->FE F c (i+1) (i+1) 0 0->Krow Hb H-> ∀(x0 x1 x3 x4 x6 x7 x8 x9 bQ cG aS aP aQ aO bB bI aR bJ bM bT bN bP aU aV aW aX aY aZ bA bH bO bV cH cJ bX cC bY b9 cA cD cF cM cN cO cQ cS cT cZ dA dE dB dC dF dL dM dN dQ dZ eA eE eF eG eH eK eN eO eZ fA fB fC fD fE fI fJ fK fL fM fN fX fY fZ gC gF gG gH gI iF iG iH iI iJ iK iL iM iN iO iP iQ iR iS iT iV iW iX iY iZ jA jB jC jD jE jH jI jJ jK jL jM jO jQ:Value),
  ∃H2 r,aK l (aM prog (lvl prog pkN m) (aK m) Np) (Nt (lvl prog pkN m) (aK m)) [x0,x1,(pt pl),x3,x4,(pt nb),x6,x7,x8,x9,bQ,cG,aS,aP,aQ,aO,bB,bI,aR,bJ,bM,bT,bN,bP,aU,aV,aW,aX,aY,aZ,bA,bH,bO,bV,cH,cJ,bX,cC,bY,b9,cA,cD,cF,cM,cN,cO,cQ,bv,(.I c.by'.length),(.I (i:Nat)),cS,cT,cZ,dA,dE,dB,dC,dF,dL,dM,dN,dQ,dZ,eA,eE,eF,eG,eH,eK,eN,eO,eZ,fA,fB,fC,fD,fE,fI,fJ,fK,fL,fM,fN,fX,fY,fZ,gC,gF,gG,gH,gI,iF,iG,iH,iI,iJ,iK,iL,iM,iN,iO,iP,iQ,iR,iS,iT,iV,iW,iX,iY,iZ,jA,jB,jC,jD,jE,jH,jI,jJ,jK,jL,jM,jO,jQ] H=some (r,H2)/\Ql Hs p ev wv nv c H2 r:=by
 intro q;induction q with
 |zero=>
  intro i l H F y pv hq hi hl hnb h hfe hkr;intros;obtain⟨l,rfl⟩: ∃l',l=l'+1:=⟨l-1,by omega⟩
  have hie:i+1=c.aI:=by unfold Cfg.aI;omega
  have c1:decide ((i:Int)<(c.by'.length:Int))=false:=by rw[decide_eq_false_iff_not];omega
  rw[aK,Za];simp only[gsR,c1];rw[aKu];rw[hie] at h hfe;rw[<-hnb];exact aO8 hok hc hop hPV hpl e2 e3 U h hfe ..
 |succ q ih=>
  intro i l H F y pv hq hi hl hnb h hfe hkr;intros;obtain⟨l,rfl⟩: ∃l',l=l'+1:=⟨l-1,by omega⟩
  have h5:=hok.by';have hil:i<c.by'.length:=U
  have c1:decide ((i:Int)<(c.by'.length:Int))=true:=by rw[decide_eq_true_eq];omega
  have hpH: ∀G:aE,Ext Hs G->G[pl]? =some (plB p ev wv nv):=λG hG=>by rw[hG.2 _ (dT hpl) id,hpl]
  obtain⟨b,o,a1,_,a3⟩:=(hkr.iw hbv).rs.fV gW (hbg i hil) .i64;have a3:ld1 (.Q b o) H=some (.I (c.by'.getD i 0:Nat),H):=(a3 H rfl).2.1 0 _ rfl;have l8:ld1 (.Q pl 8) H=some (wv,H):=eP (hpH H h.ext) 8 wv rfl;have hcw:c.weights=p.weights:=by have:=congrArg Cfg.weights hc;rw[this];rfl
  have hwl:=hok.wlen;rw[hcw] at hwl;have hlanes:=hok.lanes;obtain⟨H1,wh,ww,wl,wc,lc,wr,lr,w1,x1,w2,w3,w4,w5,w6⟩:=aBH (m:=m) (hPV.w.ext h.ext) hwo U hm2
  rw[<-hcw] at w2;have g1:=h.whl (λj hj b hb=>hfe (.whl j) (by show¬j<i+1;omega) b hb) w2 x1 w3 w4 w5 w6
  have fe1:=hfe.Il (i:= .whl (i+1)) (G:=InB (lQ wh ww wl wc lc wr lr c.weights ⟨c.weights,0⟩)) (n':=i+1) (nw':=i+1+1) (cs':=0) (cr':=0) (show i+1<i+1+1 by omega) (λj hj=>by
   cases j<;>simp only[sP] at hj⊢ <;>(try exact hj);omega)
  obtain⟨y1,hy1⟩: ∃y1:Lay,y1={y with wh:=up1 y.wh (i+1) wh,ww:=up1 y.ww (i+1) ww,wl:=up1 y.wl (i+1) wl,wc:=up1 y.wc (i+1) wc,lc:=up1 y.lc (i+1) lc,wr:=up1 y.wr (i+1) wr,lr:=up1 y.lr (i+1) lr}:=⟨_,rfl⟩;obtain⟨F1,hF1⟩:=aD (updI F (.whl (i+1)) (InB (lQ wh ww wl wc lc wr lr c.weights ⟨c.weights,0⟩)));rw[<-hF1] at g1 fe1;have g1:BN Hs H1 F1 p.bag ev wv nv y1 c (i+1) (i+1+1) 0 0 pv:=by rw[hy1];exact g1
  have hwh:y1.wh (i+1)=wh:=by rw[hy1];exact oJ _ _ _
  have eb:bld prog 114 [(0,.int .i64 (c.by'.getD i 0:Nat)),(2,pt wh)]=some (.agg #[.int .i64 (c.by'.getD i 0:Nat),.slice none 0 0,pt wh]):=rfl;obtain⟨H2,hH2⟩:=aD (H1++[Blk.cells [.int .i64 (c.by'.getD i 0:Nat),.slice none 0 0,pt wh] 114 .fix]);have x2:Ext H1 H2:=by rw[hH2];exact Fr.app _ _ _
  have st:stN 3 (.pointer (some ⟨H1.length,0,none⟩)) (.agg #[.int .i64 (c.by'.getD i 0:Nat),.slice none 0 0,pt wh]) (H1++[Blk.cells [Value.int .i64 0,.slice none 0 0,.pointer none] 114 .fix])=some (undef,H2):=by
   rw[uG (n:=3) (vs:=[.I (c.by'.getD i 0:Nat),.slice none 0 0,pt wh]) (eC H1 _) aC rfl rfl (aRf 3) rfl,lO,hH2]
   rfl
  have g2:=g1.aBI x2;have hx2:XN Hs H2 F1 y1 (i+1) 0 H1.length (c.by'.getD i 0) (.slice none 0 0):=by
   have hs1:=g1.ext.1;refine⟨by rw[hwh,hH2];exact eC _ _,λhu=>by have:=g1.sep.qU _ hu;omega,hs1,Rw.kL,λb ⟨_,_,_,hh⟩=>(by cases hh)⟩
  have l2:ld1 (.Q pl 2) H2=some (.I c.lanes,H2):=by rw[eP (hpH H2 g2.ext) 2 (.I p.lanes) rfl,e2]
  rw[aK,Za];simp only[gsR,c1,a1,a3,l8,w1,eb,st,l2];refine aO5 (nb:=nb) (Hb:=Hb) (p:=p) (pl:=pl) (i:=i) (w:=c.by'.getD i 0) (xb:=H1.length) hok hpl U e3 e9 U ?_ c.lanes 0 m H2 F1 y1 (.slice none 0 0) U U U (by rw[hy1];exact hnb) g2 fe1 hx2 (hkr.ext (x1.tr x2)) ..
  intro H3 F3 y3 lv hnb3 g3 fe3 hx3 hkr3;intros;obtain⟨y',pv',H4,H5,H6,q1,q2,q3,q4,q5,q6,q7⟩:=g3.aO6 fe3 hx3 U U hlanes.1 (by unfold lL;rw[if_neg U];rfl)
  have n13:ld1 (.Q nb 13) H3=some (pv,H3):=by rw[<-hnb3];exact dI g3.nb rfl
  have lx:ldN 3 (.Q H1.length 0) H3=some (.agg #[.I (c.by'.getD i 0:Nat),lv,pt (y3.wh (i+1))],H3):=qA hx3.blk (aRf 3);have e1:=pE i U
  rw[hnb3] at q4;unfold Ns;simp only[gsR,n13,lx,q2,q3,q4,cU,e1];exact ih (i+1) l H6 F3 y' pv' U U U (by rw[q1,hnb3]) q5 q6 (λb cs hb=>q7 b cs (hkr3 b cs hb)) ..
theorem aPa (hp:PV H p ev wv nv)(hck:nO p=0)(hst:0<=p.start/\p.start<65536)(hm:17592186045500<m)(hm2:m<=72057594037927936)(me:Nat)(hme:(me:Int)<p.nodes):
    ∃H' F y,lvl prog pkN m (.func 19) [plV p ev wv nv,.I me] H=some (pt y.nb,H')/\NodeAt H H' F y p ev wv nv (eW p me) 0 (NS.m9 (eW p me)):=by
  have hcheck:gS p=true:=by
    unfold nO at hck
    split at hck
    · assumption
    · omega
  obtain⟨hok,k1,k2,k3,k4,k5,k6,k7,hbg,hwo⟩:=aO2 hcheck hme hst;obtain⟨c,hc⟩:=aD (eW p me);rw[<-hc] at hok k1 k2 k3 k4 k5 k6 k7 hbg⊢;have hcme:c.me=me:=by rw[hc];rfl
  have hc':c=eW p c.me:=by rw[hcme];exact hc
  have hlanes:=hok.lanes;have hqueue:=hok.queue;have hbl:(bes p.edges me).length=c.by'.length:=by rw[hc];show _=((bes p.edges me).map Int.toNat).length;simp
  have hop:=tB hcheck;have hel:p.edges.length<=15:=by
    obtain⟨n,hn⟩:=hop;exact hn.e15
  -- the plan in a block
  obtain⟨H1,hH1⟩:=aD (H++[plB p ev wv nv]);have x1:Ext H H1:=by rw[hH1];exact Fr.app _ _ _
  have b1:H1[H.length]? =some (plB p ev wv nv):=by rw[hH1];exact eY _ _
  have p1:=hp.ext x1;have l11:=kE b1;obtain⟨H2,g1,x2⟩:=Yy p1 (m:=m-1) U U
  rw[hck] at g1;have aS:=x1.tr x2;have b2:H2[H.length]? =some (plB p ev wv nv):=by rw[x2.2 _ (dT b1) id,b1]
  have l0:ld1 (.Q H.length 0) H2=some (.I c.nodes,H2):=by rw[eP b2 0 (.I p.nodes) rfl,k1]
  have l2:ld1 (.Q H.length 2) H2=some (.I c.lanes,H2):=by rw[eP b2 2 (.I p.lanes) rfl,k2]
  have l4:ld1 (.Q H.length 4) H2=some (.I c.queue,H2):=by rw[eP b2 4 (.I p.queue) rfl,k4]
  have l11':=kE b2;have hmn:=hok.me;rw[hcme] at hmn;have c1:decide ((me:Int)<0)=false:=by rw[decide_eq_false_iff_not];omega
  have c2:decide ((c.nodes:Int)<=(me:Int))=false:=by rw[decide_eq_false_iff_not];omega
  -- the host
  obtain⟨r,H3,G3,r1,r2,x3,r3⟩:=Has.aAZ (A:=λ_=>True) (H:=H2) uA (n:=m-1) (B:=λr D'=> ∃a,r=pt a/\HostAt D' a [] [] c.lanes c.queue) (λD _ _=>by
    obtain⟨a,D',q1,q2,_,_⟩:=aLU (D:=D) (m:=m-1) U c.lanes c.queue hlanes hqueue
    exact⟨_,D',q1,a,rfl,q2⟩)
  obtain⟨hb,hrb,_⟩:=r2.at_;have r2':Has (λD=>HostAt D hb [] [] c.lanes c.queue) G3 H3:=Has.yU r2 λD ⟨a,ha,hD⟩=>by
    rw[hrb] at ha;injection ha with ha;injection ha with ha;injection ha with ha;rw[ha];exact hD
  rw[hrb] at r1;have b3:H3[H.length]? =some (plB p ev wv nv):=by rw[x3.2 _ (dT b2) id,b2]
  have l11c:=kE b3
  -- the node's block
  have eplc:plC p ev wv nv=[.I c.nodes,ev,.I c.lanes,.I c.room,.I c.queue,.I c.rounds,.I c.every,.I p.bag,wv,.int .u16 c.start,nv]:=by
    unfold plC;rw[k1,k2,k3,k4,k5,k6,k7]
  have ebn:bld prog 109 [(1,plV p ev wv nv),(2,.I me),(4,pt hb)]=some (.agg ⟨[.pointer none]++plC p ev wv nv++[.I me,.slice none 0 0,pt hb,.pointer none,.I 0]⟩):=by
    exact aO9 ..
  obtain⟨y0,hy0⟩: ∃y0:Lay,y0=⟨H3.length,0,0,[],λ_=>0,λ_=>0,λ_=>[],λ_=>0,λ_=>0,λ_=>0,λ_=>0,λ_=>0,λ_=>[],λ_=>[],λ_ _=>0,λ_ _=>0,0,0,0,hb,0⟩:=⟨_,rfl⟩
  have y0n:y0.nb=H3.length:=by rw[hy0]
  have y0h:y0.hb=hb:=by rw[hy0]
  obtain⟨H4,hH4⟩:=aD (H3++[sO p.bag ev wv nv y0 c (.slice none 0 0)]);have e4:H3++[Blk.cells (Value.cells (.agg ⟨[.pointer none]++plC p ev wv nv++[.int .i64 me,.slice none 0 0,pt hb,.pointer none,.int .i64 0]⟩)).toList 109 .fix]=H4:=by
    rw[hH4,eplc];unfold sO;rw[hcme,y0h];rfl
  have x4:Ext H3 H4:=by rw[hH4];exact Fr.app _ _ _
  have bn4:H4[y0.nb]? =some (sO p.bag ev wv nv y0 c (.slice none 0 0)):=by rw[y0n,hH4];exact eC _ _
  obtain⟨F0,hF0⟩: ∃F0:Part->Nat->Prop,F0=updI (λ_ _=>False) .host G3:=⟨_,rfl⟩
  have sep0:Sep (mS y0 c 0 0 0 0) F0 H4:=by
    have s0:Sep (λ_:Part=>Blks []) (λ_ _=>False) H2:=⟨λi=>⟨λq hq=>(by cases hq),λb hb=>hb.elim⟩,λi j b hb=>hb.elim⟩
    have s1:=s0.Hy .host (λ_=>Blks.dx _) (λb hb=>hb) r2' x3 r3
    rw[<-hF0] at s1;have s2:=s1.ext (λj=>by
      unfold updI;split
      · exact λD D' h he=>h.ext he
      · exact Blks.dx _) x4
    refine s2.xV λj D hD=> ?_
    cases j with
    |host=>
      rw[iC] at hD;show HostAt D y0.hb [] [] c.lanes c.queue
      rw[y0h];exact hD
    |whl i=>
      rw[eJ _ _ (λhh=>by cases hh)] at hD
      simp only[mS];rw[if_neg U]
      exact hD
    |snd i k=>
      rw[eJ _ _ (λhh=>by cases hh)] at hD
      simp only[mS];rw[if_neg (by unfold DnB;omega)]
      exact hD
    |rcv i k=>
      rw[eJ _ _ (λhh=>by cases hh)] at hD
      simp only[mS];rw[if_neg (by unfold DnB;omega)]
      exact hD
    |_=>
      rw[eJ _ _ (λhh=>by cases hh)] at hD
      exact hD
  have unF0: ∀b,Un F0 b->G3 b:=λb hb=>by
    rw[hF0] at hb;rcases uK hb with⟨_,hb⟩|hb
    · exact hb.elim
    · exact hb
  have hg3l: ∀b,G3 b->b<H3.length:=λb hb=>r2'.lt b hb
  have bnN:BN H2 H4 F0 p.bag ev wv nv y0 c 0 0 0 0 (.slice none 0 0):=
    ⟨x3.tr x4,sep0,λb hb=>r3 b (unF0 b hb),bn4,λhu=>by have:=hg3l _ (unF0 _ hu);omega,by rw[y0n];exact x3.1,Rw.kL,λb ⟨_,_,_,hh⟩=>(by cases hh),λi a b=>by omega,λi j a b=>by omega,λi hi=>by omega⟩
  have fe0:FE F0 c 0 0 0 0:=λj hj b hb=>by
    rw[hF0] at hb;cases j with
    |host=>exact hj trivial
    |_=>
      rw[eJ _ _ (λhh=>by cases hh)] at hb
      exact hb
  -- the first wheel
  have hpH: ∀G:aE,Ext H2 G->G[H.length]? =some (plB p ev wv nv):=λG hG=>by rw[hG.2 _ (dT b2) id,b2]
  have n13:ld1 (.Q H3.length 13) H4=some (.slice none 0 0,H4):=by rw[<-y0n];exact dI bn4 rfl
  have l8:ld1 (.Q H.length 8) H4=some (wv,H4):=eP (hpH H4 bnN.ext) 8 wv rfl;have hcw:c.weights=p.weights:=by rw[hc];rfl
  have hwl:=hok.wlen;rw[hcw] at hwl;obtain⟨H5,wh,ww,wl,wc,lc,wr,lr,w1,x5,w2,w3,w4,w5,w6⟩:=aBH (m:=m-1) (hp.w.ext (aS.tr bnN.ext)) hwo U U
  rw[<-hcw] at w2;have g5:=bnN.whl (λj hj b hb=>fe0 (.whl j) (by show¬j<0;omega) b hb) w2 x5 w3 w4 w5 w6
  have fe5:=fe0.Il (i:= .whl 0) (G:=InB (lQ wh ww wl wc lc wr lr c.weights ⟨c.weights,0⟩)) (n':=0) (nw':=1) (cs':=0) (cr':=0) (show 0<1 by omega) (λj hj=>by
    cases j<;>simp only[sP] at hj⊢ <;>(try exact hj);omega)
  obtain⟨y1,hy1⟩: ∃y1:Lay,y1={y0 with wh:=up1 y0.wh 0 wh,ww:=up1 y0.ww 0 ww,wl:=up1 y0.wl 0 wl,wc:=up1 y0.wc 0 wc,lc:=up1 y0.lc 0 lc,wr:=up1 y0.wr 0 wr,lr:=up1 y0.lr 0 lr}:=⟨_,rfl⟩;obtain⟨F1,hF1⟩:=aD (updI F0 (.whl 0) (InB (lQ wh ww wl wc lc wr lr c.weights ⟨c.weights,0⟩)));rw[<-hF1] at g5 fe5;have g5:BN H2 H5 F1 p.bag ev wv nv y1 c 0 1 0 0 (.slice none 0 0):=by rw[hy1];exact g5
  have y1n:y1.nb=H3.length:=by rw[hy1];exact y0n
  have n13':ld1 (.Q H3.length 13) H5=some (.slice none 0 0,H5):=by rw[<-y1n];exact dI g5.nb rfl
  have hpc0:fR y1 c 0=[.I me,.slice none 0 0,pt wh]:=by
    unfold fR lL nD;rw[if_pos rfl,if_pos rfl,hcme,hy1];simp only;rw[oJ]
  have eb:bld prog 114 [(0,.int .i64 me),(2,pt wh)]=some (.agg #[.int .i64 me,.slice none 0 0,pt wh]):=rfl;obtain⟨H6,hH6⟩:=aD (H5++[Blk.cells [.int .i64 me,.slice none 0 0,pt wh] 114 .row]);have es:dR 114 3 1 [.int .i64 0,.slice none 0 0,.pointer none] [(0,.agg #[.int .i64 me,.slice none 0 0,pt wh])] H5=some (.slice (some ⟨H5.length,0,none⟩) 1 1,H6):=by rw[hH6];rfl
  have hw1:Rr (fR y1 c) 114 H6 (.slice (some ⟨H5.length,0,none⟩) 1 1) [0]:=by
    have:=xS (el:=fR y1 c) (e:=114) 0 H5;rw[hpc0] at this;rw[hH6];exact this
  have hrw0:Rw (fR y1 c) 114 3 H6 (.slice none 0 0) []:=Rw.kL;obtain⟨pv,H7,k1',k2',k3',k4',k5'⟩:=hrw0.xT (Db y1 c) (aBJ y1 c) aC (by':=40) hw1.rs aC
  have hnh: ∀b,¬cP (.slice none 0 0) b:=λb ⟨_,_,_,hh⟩=>by cases hh
  have h6l:H6.length=H5.length+1:=by rw[hH6];simp
  have nbl:=dT g5.nb;have bn7:H7[y1.nb]? =some (sO p.bag ev wv nv y1 c (.slice none 0 0)):=by rw[k4' _ U (hnh _),hH6,aRd nbl,g5.nb]
  have sh:=Aw k2';obtain⟨H8,hH8⟩:=aD (H7.set y1.nb (sO p.bag ev wv nv y1 c pv));have st:stN 1 (.Q H3.length 13) pv H7=some (undef,H8):=by rw[<-y1n,hH8];exact pP bn7 aC (by simp) sh.1 sh.2
  have hfr:Fr (λb=>b=y1.nb) H5 H8:=⟨by rw[hH8];simp;omega,λb hb hn=>by
    rw[hH8,aRb (λhh=>hn hh.symm),k4' b U (hnh _),hH6,aRd hb]⟩
  obtain⟨x8,s8⟩:=g5.Qj (pv':=pv) (n':=0) hfr λb hb=>by rw[hb];exact⟨g5.nbF,g5.nb0⟩
  have hpvn: ¬cP pv y1.nb:=λhh=>by
    rcases k5' _ hh with hh|hh
    · exact hnh _ hh
    · omega
  have hsl:=g5.ext.1;have g8:BN H2 H8 F1 p.bag ev wv nv y1 c 1 1 0 0 pv:=by
    refine⟨x8,s8.xV λj D hD=> ?_,g5.new,by rw[hH8];exact fS bn7,g5.nbF,g5.nb0,?_,λb hb=> ?_,λi a b=>by omega,λi j a b=>by omega,g5.ww⟩
    · cases j with
      |snd i k=>
        simp only[mS] at hD⊢;rw[if_neg (by unfold DnB;omega)] at hD⊢
        exact hD
      |rcv i k=>
        simp only[mS] at hD⊢;rw[if_neg (by unfold DnB;omega)] at hD⊢
        exact hD
      |_=>exact hD
    · refine(show Rw (fR y1 c) 114 3 H7 pv (List.range 1) from k2').eX λb hb=> ?_
      rw[hH8];exact aRb λhh=>hpvn (by rw[hh];exact hb)
    · rcases k5' b hb with hb|hb
      · exact absurd hb (hnh b)
      · exact⟨by omega,λhu=>by have:=g5.sep.qU b hu;omega⟩
  have fe8:FE F1 c 1 1 0 0:=λj hj=>fe5 j λhd=>hj (by
    cases j<;>simp only[sP] at hd⊢ <;>(try exact hd)<;>(unfold DnB at hd ⊢; omega))
  -- who is beside
  have b8:=hpH H8 g8.ext;have l11d:=kE b8;obtain⟨H9,bv,q1,x9,q3,q4⟩:=Cc (hp.ext (aS.tr g8.ext)) (m:=m-1) U U (me:Int)
  have g9:=g8.aBI x9;have lbv:=q3.qT;rw[hbl] at lbv;have main: ∃H' r,lvl prog pkN m (.func 19) [plV p ev wv nv,.I me] H=some (r,H')/\Ql H2 p ev wv nv c H' r:=by
    refine iB (cV rfl) U ?_
    rw[aKw];have e1:H++[Blk.cells (Value.cells (plV p ev wv nv)).toList 30 .fix]=H1:=by rw[hH1];rfl
    have c3:((0:Int)!=0)=false:=rfl;have pchk:=λG=>(hp.chk G)
    have nchk: ∀G:aE,chk (some (Value.slice none 0 0,G)) (.slice none 0 0)=true:=λ_=>by simp[chk,veq]
    simp only[gsR,e1,l11,g1,c3,c1,l0,c2,l11',l2,l4,r1,l11c,pchk,ebn,e4,n13,l8,w1,n13',nchk,eb,es,k1',st,l11d,q1,lbv];have y1n':y1.nb=H3.length:=y1n;exact aPb (pl:=H.length) (Hs:=H2) (Hb:=H9) hok hc' hop (hp.ext aS) b2 k2 k3 k7 hwo (by rw[hcme];exact q3) (by rw[hcme];exact hbl) (λi hi=>by rw[hcme];exact hbg i (by rw[hbl];exact hi)) U U c.by'.length 0 (m-1) H9 F1 y1 pv U U (by have:=hok.by';omega) y1n' g9 fe8 (λb cs hb=>hb) ..
  obtain⟨H',r,z1,F,y,rfl,z2⟩:=main;refine⟨H',F,y,z1,{z2 with ext:=aS.tr z2.ext,old:=λb hb=>aRq aS.1 (z2.old b hb),plan:=hp}⟩
end
end Go.Proofs.YtndnnndnhnlkdaaGreatDoor
namespace Go.Proofs.YtndnnndnhnlkdaaGreatDoor
open Go.Proofs.Tryz
open Go.Abs Go.Abs.M
section
variable {H : aE} {m : Nat}
theorem aBM (c:List Nat):jY (ofT c)=true/\1<=(ofT c).length:=by
 unfold ofT;split
 ·exact⟨by decide+kernel,by simp⟩
 ·rename_i h
  have hl:(ofL c (min c.length 5)).length=min c.length 5:=by simp[ofL]
  refine⟨?_,by rw[hl];omega⟩
  unfold jY;rw[hl,aRi,aRP];refine⟨λi hi=> ?_,aRU U⟩
  have hi':=aRO.mp hi;have e:(ofL c (min c.length 5)).getD i 0=((c.getD i 0%(i+1):Nat):Int):=by
   unfold ofL;rw[aRe,aRn,aRS hi'];rfl
  have hm:c.getD i 0%(i+1)<i+1:=Nat.mod_lt _ U
  rw[e,aRi]
  exact⟨aRU U,aRU U⟩
def vL (c:List Nat)(room more start:Nat):PlanD:=rY (mkP 0 room more start []) (ofT c)
theorem aBO (c:List Nat)(room more start:Nat):nO (vL c room more start)=0:=by
 obtain⟨hr,ht1⟩:=aBM c
 exact(aJ3 (Xs 0 room more start []) (Y4 hr ht1)).1
theorem Qm {D H D' H':aE}(hs:Sub D H)(hf:Fs D H D' H')(he:Ext D D'):Ext H H':=by
 refine⟨by have:=hf.sub.1;have:=hs.1;have:=he.1;omega,λb hb _=> ?_⟩
 have hbD:b<D.length:=by rw[hs.1];exact hb
 by_cases hd:D[b]? =some .dead
 ·exact hf.keep b hd
 ·have hx:D[b]? =some D[b]:=aRc hbD
  have hn:D[b]≠ .dead:=λh=>hd (by rw[hx,h])
  rw[hs.2 b _ hx hn,hf.sub.2 b _ ((he.2 b hbD id).trans hx) hn]
theorem Im {α:Type}{el:α->List Value}{e:TypeId}{D H:aE}{v:Value}{xs:List α}(h:Rs el e D v xs)(hk: ∀(b:Nat)(x:Blk),D[b]? =some x->x≠ .dead->H[b]? =some x):Rs el e H v xs:=by
 rcases h with h|⟨b,o,cap,h1,h2,h3⟩
 ·exact .inl h
 ·refine .inr ⟨b,o,cap,h1,h2,λhne=> ?_⟩
  obtain⟨e',k,pre,post,q1,q2,q3⟩:=h3 hne
  exact⟨e',k,pre,post,q1,q2,hk b _ q3 (λh=>by cases h)⟩
theorem aBP {D H:aE}{p:PlanD}{ev wv nv:Value}(h:PV D p ev wv nv)(hk: ∀(b:Nat)(x:Blk),D[b]? =some x->x≠ .dead->H[b]? =some x):PV H p ev wv nv:=by
 obtain⟨h1,h2,⟨us,h3,h4,h5⟩,h6,h7,h8⟩:=h
 exact⟨Im h1 hk,Im h2 hk,⟨us,Im h3 hk,h4,λi u xs hu hx=>Im (h5 i u xs hu hx) hk⟩,h6,h7,h8⟩
theorem aBN {cv:Value}{c:List Nat}(hc:Us H cv c)(hu8: ∀x∈c,x<256)(hl:c.length<=72057594037927936)(room more start:Nat)(h2:room<256)(h3:more<256)(h4:start<65536)(hm:700<m)(hm2:m<=72057594037927936):
  ∃H' ev wv nv,lvl prog cR m (.func 5) [cv,.int .u8 room,.int .u8 more,.int .u16 start] H=some (plV (vL c room more start) ev wv nv,H')/\Ext H H'/\PV H' (vL c room more start) ev wv nv:=by
 obtain⟨Ha,hHa⟩:=aD (H++[plZ]);obtain⟨Da,hDa⟩:=aD (H++[Blk.dead]);have xa:Ext H Ha:=by rw[hHa];exact Fr.app _ _ _
 have xd:Ext H Da:=by rw[hDa];exact Fr.app _ _ _
 have ba:Ha[H.length]? =some plZ:=by rw[hHa];exact eY _ _
 have bd:Da[H.length]? =some .dead:=by rw[hDa];exact eY _ _
 have sa:Sub Da Ha:=by
  rw[hHa,hDa];refine⟨by simp,λb x hb hx=> ?_⟩
  by_cases hlt:b<H.length
  ·rw[aRd hlt] at hb⊢
   exact hb
  ·have h9:=dT hb
   simp at h9;have:b=H.length:=U
   subst this;rw[eY] at hb;cases hb;exact absurd rfl hx
 obtain⟨D2,u,d2,hmd⟩:=aIj (H:=Da) (m:=m-1) 0 room more start U h2 h3 h4 (aIz Da) (by simp) (by simp) U
 obtain⟨H2,g2,f2⟩:=Bv _ uA _ _ _ Da Ha sa _ _ d2;obtain⟨ev,wv,nv,rfl,y2,hp⟩:=hmd.pv;have x2:=Qm sa f2 y2;have hok:=Xs 0 room more start [];have hwl:(mkP 0 room more start []).weights.length<=1000:=by simp[mkP];omega
 obtain⟨p,hpp⟩:=aD (mkP 0 room more start []);have hq0:vL c room more start=rY p (ofT c):=by rw[hpp];rfl
 rw[hq0];rw[<-hpp] at hp g2 hok hwl;have z0:((0:Nat):Int)=0:=rfl;simp only[z0] at g2;obtain⟨D1,tv,d1,y1,qt,_⟩:=aJN (hc.ext (xd.tr y2)) hu8 hl (m:=m-1) U
 obtain⟨H1,g1,f1⟩:=Bv _ uA _ _ _ D2 H2 f2.sub _ _ d1;have x1:=Qm f2.sub f1 y1;obtain⟨hr,ht1⟩:=aBM c;obtain⟨D3,_,d3,ev3,wv3,nv3,rfl,y3,hp3⟩:=aJ2 (hp.ext y1) hwl qt.rs hr ht1 (m:=m-1) U U
 obtain⟨H3,g3,f3⟩:=Bv _ uA _ _ _ D1 H1 f1.sub _ _ d3;have x3:=Qm f1.sub f3 y3;have bD:D3[H.length]? =some .dead:=eU bd ((y2.tr y1).tr y3);obtain⟨q,hq⟩:=aD (rY p (ofT c));rw[<-hq] at hp3 g3⊢;have hp3H:PV H3 q ev3 wv3 nv3:=aBP hp3 f3.sub.2;have cp:=F8 hp3H H3;obtain⟨H4,hH4⟩:=aD (H3++[plB q ev3 wv3 nv3]);rw[<-hH4] at cp;have x4:Ext H3 H4:=by rw[hH4];exact Fr.app _ _ _
 have b4:H4[H3.length]? =some (plB q ev3 wv3 nv3):=by rw[hH4];exact eY _ _
 have l4:=kE b4;have xx:=((x2.tr x1).tr x3).tr x4;have bz:H4[H.length]? =some plZ:=eU ba xx;have e1:(plV q ev3 wv3 nv3).cells.toList=plC q ev3 wv3 nv3:=rfl;have st:stN 11 (.Q H.length 0) (plV q ev3 wv3 nv3) H4=some (undef,H4.set H.length (plB q ev3 wv3 nv3)):=by
  rw[mE 11 _ _ _ rfl,bz,e1];unfold plZ;rw[nX _ _ _ _ _ _ aC (by simp[plC]) hp3H.Ci]
  simp[eS,plC,plB]
 have hlt:H.length<H4.length:=dT bz;have x5:Ext H (H4.set H.length (plB q ev3 wv3 nv3)):=nM (xa.tr xx) (aRf _);have l5:ldN 11 (.Q H.length 0) (H4.set H.length (plB q ev3 wv3 nv3))=some (plV q ev3 wv3 nv3,H4.set H.length (plB q ev3 wv3 nv3)):=kE (by rw[aRg U])
 refine⟨H4.set H.length (plB q ev3 wv3 nv3),ev3,wv3,nv3,dH (cV rfl) U ?_,x5,?_⟩
 ·rw[aI1]
  simp only[gsR,yE,<-hHa,g2,g1,g3,cp,l4,st,l5]
  done
 ·refine aBP hp3 λb x hb hx=> ?_
  have hne:b≠H.length:=λh=>by rw[h,bD] at hb;cases hb;exact hx rfl
  rw[aRb (Ne.symm hne),x4.2 b (dT (f3.sub.2 b x hb hx)) id];exact f3.sub.2 b x hb hx
end
end Go.Proofs.YtndnnndnhnlkdaaGreatDoor
namespace Go.Proofs.YtndnnndnhnlkdaaGreatDoor
open Go.Proofs.Tryz
open Go.Abs Go.Abs.M
open Classical
theorem Di (t:TypeId)(a:Addr)(h:mD prog t (.pointer none)=true):bin prog .eql t (.pointer (some a)) (.pointer none)=some (.bool false)/\bin prog .eql t (.pointer none) (.pointer none)=some (.bool true):=by
 have h2:mD prog t (.pointer (some a))=true:=by
  rw[<-h];unfold mD;cases prog.underlying t with
  |none=>rfl
  |some d=>cases d<;>rfl
 constructor<;>simp[bin,eD,nG,h,h2,eqV]
section
variable {H00 H0 H H' : aE} {F : Part → Nat → Prop} {y : Lay} {p : PlanD} {ev wv nv : Value} {c : Cfg} {t : Nat} {s : NS} {N N' : Nat → Prop}
theorem NodeAt.aPc (h:NodeAt H0 H F y p ev wv nv c t s)(he:Ext H00 H0)(hp:PV H00 p ev wv nv):NodeAt H00 H F y p ev wv nv c t s:=
 {h with ext:=he.tr h.ext,old:=λb hb=>aRq he.1 (h.old b hb),plan:=hp}
theorem NodeAt.aBQ (h:NodeAt H0 H F y p ev wv nv c t s)(he:Ext H0 H')(hm:Mv N N' H H')(hd: ∀b,Un F b-> ¬N b):NodeAt H0 H' F y p ev wv nv c t s/\ ∀b,Un F b-> ¬N' b:=
 ⟨{h with ext:=he,sep:=h.sep.xW (vH _ _ _ _ _ _ _) hm hd},λb hb hn=>(hm.own b hn).elim (hd b hb) λhl=>by have:=h.sep.qU b hb;omega⟩
end
def ptC (a:Option Addr):List Value:=[.pointer a]
theorem Qn (a:Option Addr):(ptC a).length=1:=rfl
theorem aPe (a:Option Addr):dX (ptC a)=true:=rfl
theorem aPd (t:TypeId)(a:Option Addr)(H:aE):dR t 1 1 [.pointer none] [(0,.pointer a)] H=some (.slice (some ⟨H.length,0,none⟩) 1 1,H++[.cells (ptC a) t .row]):=rfl
theorem pF {α:Type}{el:α->List Value}{e:TypeId}{sz:Nat}{H H':aE}{v:Value}{xs:List α}(h:Rw el e sz H v xs)(he:Ext H H'):Rw el e sz H' v xs:=h.eX λb hb=>he.2 b (h.gM hb) id
theorem aPf {α β:Type}{el:α->List Value}{el':β->List Value}{e e':TypeId}{sz sz':Nat}{H H':aE}{u v:Value}{xs:List α}{ys:List β}(h:Rw el e sz H v xs)(hu:Rw el' e' sz' H u ys)(hne:e≠e')(hf:Fr (cP u) H H'):Rw el e sz H' v xs:=h.eX λb hb=>hf.2 b (h.gM hb) λhh=>by
 obtain⟨c1,h1⟩:=h.blk hb;obtain⟨c2,h2⟩:=hu.blk hh;rw[h1] at h2;cases h2;exact hne rfl
end Go.Proofs.YtndnnndnhnlkdaaGreatDoor
namespace Go.Proofs.YtndnnndnhnlkdaaGreatDoor
open Go.Proofs.Tryz
open Go.Abs Go.Abs.M
def kx:Pkt:=⟨0,1,0,7⟩
end Go.Proofs.YtndnnndnhnlkdaaGreatDoor
namespace Go.Proofs.YtndnnndnhnlkdaaGreatDoor
open Go.Proofs.Tryz
open Go.Abs Go.Abs.M
open Classical
section
variable {H : aE} {m : Nat}
theorem aPg:un prog .not (.bool true)=some (.bool false):=rfl
end
end Go.Proofs.YtndnnndnhnlkdaaGreatDoor
namespace Go.Proofs.YtndnnndnhnlkdaaGreatDoor
open Go.Proofs.Tryz
open Go.Abs Go.Abs.M
theorem aPi {i:Int}(h:(Lit.int .u32 i).wf=true):0<=i/\i<4294967296:=by
 simp[Lit.wf,IntKind.min,IntKind.max,IntKind.signed,IntKind.bits] at h;omega
theorem Qo {i:Int}(h:(Lit.int .i64 i).wf=true): -9223372036854775808<=i/\i<9223372036854775808:=by
 simp[Lit.wf,IntKind.min,IntKind.max,IntKind.signed,IntKind.bits] at h;omega
theorem aPh {G:aE}{n:Nat}{cs:List Value}(h:Rp prog G n 39 cs): ∃x:Pkt,Value.agg ⟨cs⟩=x.dV/\x.ok:=by
 have hf:J8 prog 39=some [(3,0),(3,1),(3,2),(37,3)]:=by kernel_rfl
 have c0:prog.cellsOf 39=4:=by kernel_rfl
 have c1:prog.cellsOf 37=1:=by kernel_rfl
 obtain⟨m,hl,hh⟩:=h.aEQ hf;rw[c0] at hl
 match cs,hl with
 |[x0,x1,x2,x3],_=>
  have f0:=hh (3,0) (by simp)
  have f1:=hh (3,1) (by simp)
  have f2:=hh (3,2) (by simp)
  have f3:=hh (37,3) (by simp)
  simp only[szI,c1,List.drop_zero,List.drop_succ_cons,List.take_succ_cons,List.take_zero] at f0 f1 f2 f3;obtain⟨a0,h0,w0⟩:=f0.Bm (k:= .i64) (by kernel_rfl)
  obtain⟨a1,h1,w1⟩:=f1.Bm (k:= .i64) (by kernel_rfl)
  obtain⟨a2,h2,w2⟩:=f2.Bm (k:= .i64) (by kernel_rfl)
  obtain⟨a3,h3,w3⟩:=f3.Bm (k:= .u32) (by kernel_rfl)
  cases h0;cases h1;cases h2;cases h3
  exact⟨⟨a0,a1,a2,a3⟩,rfl,Qo w0,Qo w1,Qo w2,aPi w3⟩
end Go.Proofs.YtndnnndnhnlkdaaGreatDoor
noncomputable section
namespace Go.Proofs.YtndnnndnhnlkdaaGreatDoor
open Go.Proofs.Tryz
open Go.Abs Go.Abs.M
variable (O:aG)(L:LV)(k:KV)(N P Q R S T U V W X Y Z a b c d e f g i j l m n o p q r s t u v w x y z A B C D E F G H I J zz zy zx zw zv zu zt zs zr zq zp zo zn zm zl zk zj zi zh zg zf ze zd zc zb za yz yy yx yw yv yu yt ys yr yq yp yo yn ym yl yk yj yi yh yg yf ye yd yc yb ya xz xy xx xw xv xu xt xs xr xq xp xo xn xm xl xk xj xi xh xg xf xe xd xc xb xa wz wy wx ww wv wu wt ws wr wq wp wo wn wm wl wk wj wi wh wg wf we wd wc wb wa vz:Value)(h:aE)
theorem aPr:cL prog O L 23 [N] h=ob (aF (aT N) h) λaa h=>ob (aF (aJ 11 aa) h) λab h=>ob (ld1 ab h) λac h=>ob (O (.func 58) [ac] h) λad h=>some (aL [ad],h):=by kernel_rfl
theorem aPj:cL prog O L 10 [N,P] h=ob (aF (bin prog .lss 3 P (.I 0)) h) λaa h=>ob (gd aa false (c9 P) h) λab h=>ob (gd aa false (c9 N) h) λac h=>ob (gd aa false (aF (aT ac)) h) λad h=>ob (gd aa false (aF (aJ 11 ad)) h) λae h=>ob (gd aa false (ld1 ae) h) λaf h=>ob (gd aa false (aF (cK af)) h) λag h=>ob (gd aa false (aF (bin prog .geq 3 ab ag)) h) λah h=>ob (aF (dO aa (.bool true) ah) h) λai h=>aN ai (some (aL [(.pointer none)],h)) (ob (aF (aT N) h) λaj h=>ob (aF (aJ 13 aj) h) λak h=>ob (ld1 ak h) λal h=>ifB (true) (ob (aF (aT N) h) λam h=>ob (aF (aJ 11 am) h) λan h=>ob (ld1 an h) λao h=>ifB (true) (ob (aF (bS 2 ao P) h) λap h=>ob (ldN 2 ap h) λaq h=>ifB (true) (ob (mU (.str [true,true]) (.pointer none) false al aq h) λar h=>ifB (true) (some (aL [ar],h)))))):=by kernel_rfl
def Qz:Code:=bU [1,1,1,1,0,1,0,0] (cE prog 6)
def Q1:KV:=(dP 2 (dY prog O L (bU [1,1,1,1,1] (cE prog 6)) (eQ prog Tryz.f6)))
theorem aPv:Q1 O L (.exit 2) [a,b,c,d,e,f,g,i,j,l,m,n,o,p,q,r,s,t,u,v,w,x,y,z,A,B,C,D,E,F,G,H,I,J,zz,zy,zx,zw,zv,zu,zt,zs,zr,zq,zp,zo,zn,zm,zl,zk,zj,zi,zh,zg,zf,ze,zd,zc,zb,za,yz] h=some (aL [f,(.int .u16 0)],h):=by kernel_rfl
theorem aBZ:aM prog O L Qz k [a,b,c,d,e,f,g,i,j,l,m,n,o,p,q,r,s,t,u,v,w,x,y,z,A,B,C,D,E,F,G,H,I,J,zz,zy,zx,zw,zv,zu,zt,zs,zr,zq,zp,zo,zn,zm,zl,zk,zj,zi,zh,zg,zf,ze,zd,zc,zb,za,yz] h=ob (aF (bin prog .lss 3 zm zn) h) λaa h=>aN aa (ob (aF (bS 2 zo zm) h) λab h=>ob (ldN 2 ab h) λac h=>ob (dD 65 [(.I 0),(.I 0)] .fix h) λad h=>ob (stN 2 ad ac h) λae h=>ob (aF (aT f) h) λaf h=>ob (aF (aJ 13 af) h) λag h=>ob (ld1 ag h) λah h=>ifB (true) (ob (ldN 2 ad h) λai h=>ifB (true) (ob (aF (aJ 7 b) h) λaj h=>ob (ld1 aj h) λak h=>ifB (true) (ob (O (.func 20) [ak] h) λal h=>ifB (chk ((ldN 2 ad) h) ai&&(chk ((ld1 ag) h) ah&&(true))) (ob (nU (.str [true,true]) ah ai al h) λam h=>ifB (true) (ob (aF (bin prog .add 3 zm (.I 1)) h) λan h=>k .normal [a,b,c,d,e,f,g,i,ad,l,m,n,o,p,q,r,s,t,u,v,w,x,y,z,A,B,C,D,E,F,G,H,I,J,zz,zy,zx,zw,zv,zu,zt,zs,zr,zq,zp,zo,zn,an,aa,ab,ac,f,af,ag,ah,ai,aj,ak,al,an,yz] h)))))) (k (.exit 2) [a,b,c,d,e,f,g,i,j,l,m,n,o,p,q,r,s,t,u,v,w,x,y,z,A,B,C,D,E,F,G,H,I,J,zz,zy,zx,zw,zv,zu,zt,zs,zr,zq,zp,zo,zn,zm,aa,zk,zj,zi,zh,zg,zf,ze,zd,zc,zb,za,yz] h):=by kernel_rfl
def Qy:Code:=bU [1,1,1,0,1,0,0] (cE prog 6)
def Q0:KV:=(dP 0 (dY prog O L (bU [1,1,1,1] (cE prog 6)) (eQ prog Tryz.f6)))
theorem aPu:Q0 O L (.exit 0) [a,b,c,d,e,f,g,i,j,l,m,n,o,p,q,r,s,t,u,v,w,x,y,z,A,B,C,D,E,F,G,H,I,J,zz,zy,zx,zw,zv,zu,zt,zs,zr,zq,zp,zo,zn,zm,zl,zk,zj,zi,zh,zg,zf,ze,zd,zc,zb,za,yz] h=ob (aF (aT f) h) λaa h=>ob (aF (aJ 11 aa) h) λab h=>ob (ld1 ab h) λac h=>ob (aF (cK ac) h) λad h=>L (aM prog O L Qz) (Q1 O L) [a,b,c,d,e,f,g,i,j,l,m,n,o,p,q,r,s,t,u,v,w,x,y,z,A,B,C,D,E,F,G,H,I,J,zz,zy,zx,zw,zv,zu,zt,zs,f,aa,ab,ac,ad,(.I 0),zl,zk,zj,zi,zh,zg,zf,ze,zd,zc,zb,za,yz] h:=by kernel_rfl
theorem aBY:aM prog O L Qy k [a,b,c,d,e,f,g,i,j,l,m,n,o,p,q,r,s,t,u,v,w,x,y,z,A,B,C,D,E,F,G,H,I,J,zz,zy,zx,zw,zv,zu,zt,zs,zr,zq,zp,zo,zn,zm,zl,zk,zj,zi,zh,zg,zf,ze,zd,zc,zb,za,yz] h=ob (aF (bin prog .lss 3 z y) h) λaa h=>aN aa (ob (aF (aT f) h) λab h=>ob (aF (aJ 12 ab) h) λac h=>ob (ld1 ac h) λad h=>ifB (true) (ob (aF (aT f) h) λae h=>ob (aF (aJ 0 ae) h) λaf h=>ob (ldN 11 af h) λag h=>ifB (true) (ob (O (.func 19) [ag,z] h) λah h=>ifB (chk ((ld1 ac) h) ad&&(true)) (ob (dR 62 1 1 [(.pointer none)] [(0,ah)] h) λai h=>ob (app 62 1 8 ad ai h) λaj h=>ifB (true) (ob (aF (aT f) h) λak h=>ob (aF (aJ 12 ak) h) λal h=>ob (stN 1 al aj h) λam h=>ifB (true) (ob (aF (bin prog .add 3 z (.I 1)) h) λan h=>k .normal [a,b,c,d,e,f,z,i,j,l,m,n,o,p,q,r,s,t,u,v,w,x,y,an,aa,z,f,f,ab,ac,ad,f,ae,af,ag,z,ah,ai,aj,ak,al,an,zr,zq,zp,zo,zn,zm,zl,zk,zj,zi,zh,zg,zf,ze,zd,zc,zb,za,yz] h)))))) (k (.exit 0) [a,b,c,d,e,f,g,i,j,l,m,n,o,p,q,r,s,t,u,v,w,x,y,z,aa,B,C,D,E,F,G,H,I,J,zz,zy,zx,zw,zv,zu,zt,zs,zr,zq,zp,zo,zn,zm,zl,zk,zj,zi,zh,zg,zf,ze,zd,zc,zb,za,yz] h):=by kernel_rfl
theorem aPw:cL prog O L 6 [N] h=ob (dD 30 (Value.cells N).toList .fix h) λaa h0=>ob (ldN 11 aa h0) λab h1=>ob (O (.func 16) [ab] h1) λac h2=>ob (aF (bin prog .neq 33 ac (.int .u16 0)) h2) λad h3=>aN ad (some (aL [(.pointer none),ac],h3)) (ob (ldN 11 aa h3) λae h4=>ifB (true) (ob (O (.func 17) [ae] h4) λaf h5=>ifB (true) (ob (ldN 11 aa h5) λag h6=>ifB (chk ((ldN 11 aa) h4) ag&&(true)) (ob (O (.func 18) [ag] h6) λah h7=>ifB (true) (ob (oK h7) λai h8=>ob (aF (bld prog 61 [(0,af),(1,ah),(3,ai)]) h8) λaj h9=>ob (dD 61 (Value.cells aj).toList .fix h9) λak h10=>ob (aF (aJ 0 aa) h10) λal h11=>ob (ld1 al h11) λam h12=>L (aM prog O L Qy) (Q0 O L) [N,aa,(.pointer none),(.int .u16 0),ac,ak,undef,undef,undef,ab,ac,ac,ad,undef,ae,af,ag,ah,ai,aj,ak,al,am,(.I 0),undef,undef,undef,undef,undef,undef,undef,undef,undef,undef,undef,undef,undef,undef,undef,undef,undef,undef,undef,undef,undef,undef,undef,undef,undef,undef,undef,undef,undef,undef,undef,undef,undef,undef,undef,undef,undef] h12))))):=by kernel_rfl
theorem aB0:cL prog O L 7 [N,P] h=ob (dD 39 (Value.cells P).toList .fix h) λaa h=>ob (aF (aJ 0 aa) h) λab h=>ob (ld1 ab h) λac h=>ob (O (.func 21) [N,ac] h) λad h=>ob (aF (bin prog .neq 62 ad (.pointer none)) h) λae h=>aN ae (ob (ldN 4 aa h) λaf h=>ob (O (.func 22) [ad,af] h) λag h=>some (aL [ag],h)) (some (aL [(.int .u16 1)],h)):=by kernel_rfl
theorem aPs:cL prog O L 24 [N] h=ob (dD 30 [(.I 0),(.slice none 0 0),(.I 0),(.I 0),(.I 0),(.I 0),(.I 0),(.I 0),(.slice none 0 0),(.int .u16 0),(.slice none 0 0)] .fix h) λaa h=>ob (aF (aT N) h) λab h=>ob (aF (aJ 0 ab) h) λac h=>ob (ldN 11 ac h) λad h=>ob (O (.func 17) [ad] h) λae h=>ob (stN 11 aa ae h) λaf h=>ob (ldN 11 aa h) λw6 _=>some (aL [w6],h):=by kernel_rfl
theorem aPq:cL prog O L 21 [N,P] h=ob (aF (aT N) h) λaa h=>ob (aF (aJ 12 aa) h) λab h=>ob (ld1 ab h) λac h=>ob (O (.func 56) [ac,P] h) λad h=>some (aL [ad],h):=by kernel_rfl
def Qr:Code:=bU [1,1,0,1,0,0,1,1,0,0,1,1,0,0] (cE prog 11)
def Qv:KV:=(dP 4 (dP 3 (dY prog O L (bU [1,1,0,1,0,0,1,1,1] (cE prog 11)) k)))
def Qs (O:aG)(L:LV) (k:KV) (a b c d e f g i j l m n o p q r s t u v w x y z A B C D E F G H I J zz zy zx zw zv zu zt zs zr zq zp zo zn zm zl zk zj zi zh zg zf ze zd zc zb za yz yy yx yw yv yu yt ys:Value) (h:aE):OV:=ob (aF (bin prog .add 3 zx (.I 1)) h) λaa h=>k .normal [a,b,c,d,e,f,g,i,j,l,m,n,o,p,q,r,s,t,u,v,w,x,y,z,A,B,C,D,E,F,G,H,I,J,zz,zy,aa,zw,zv,zu,zt,zs,zr,zq,zp,zo,zn,zm,zl,zk,zj,zi,zh,zg,zf,ze,zd,zc,zb,za,aa,yy,yx,yw,yv,yu,yt,ys] h
theorem aPm:Qv O L k (.exit 4) [a,b,c,d,e,f,g,i,j,l,m,n,o,p,q,r,s,t,u,v,w,x,y,z,A,B,C,D,E,F,G,H,I,J,zz,zy,zx,zw,zv,zu,zt,zs,zr,zq,zp,zo,zn,zm,zl,zk,zj,zi,zh,zg,zf,ze,zd,zc,zb,za,yz,yy,yx,yw,yv,yu,yt,ys] h=Qs O L k a b c d e f g i j l m n o p q r s t u v w x y z A B C D E F G H I J zz zy zx zw zv zu zt zs zr zq zp zo zn zm zl zk zj zi zh zg zf ze zd zc zb za yz yy yx yw yv yu yt ys h:=by kernel_rfl
theorem aBT:aM prog O L Qr k [a,b,c,d,e,f,g,i,j,l,m,n,o,p,q,r,s,t,u,v,w,x,y,z,A,B,C,D,E,F,G,H,I,J,zz,zy,zx,zw,zv,zu,zt,zs,zr,zq,zp,zo,zn,zm,zl,zk,zj,zi,zh,zg,zf,ze,zd,zc,zb,za,yz,yy,yx,yw,yv,yu,yt,ys] h=ob (aF (bin prog .lss 3 zq zr) h) λaa h=>aN aa (ob (aF (bS 2 zs zq) h) λab h=>ob (ldN 2 ab h) λac h=>ob (dD 74 [(.I 0),(.slice none 0 0)] .fix h) λad h=>ob (stN 2 ad ac h) λae h=>ob (aF (aT a) h) λaf h=>ob (aF (aJ 13 af) h) λag h=>ob (ld1 ag h) λah h=>ifB (true) (ob (aF (aJ 0 ad) h) λai h=>ob (ld1 ai h) λaj h=>ifB (true) (ob (aF (bld prog 65 [(0,g),(1,aj)]) h) λak h=>ob (mU (.str [true,true]) (.pointer none) false ah ak h) λal h=>ifB (true) (ob (aF (aJ 1 ad) h) λam h=>ob (ld1 am h) λan h=>ifB (true) (ob (O (.func 27) [al,an] h) λao h=>ifB (true) (ob (aF (bin prog .add 3 zq (.I 1)) h) λap h=>k .normal [a,b,c,d,e,f,g,i,j,ad,m,n,o,p,q,r,s,t,u,v,w,x,y,z,A,B,C,D,E,F,G,H,I,J,zz,zy,zx,zw,zv,zu,zt,zs,zr,ap,aa,ab,ac,a,af,ag,ah,g,ai,aj,ak,al,am,an,ao,ap,yz,yy,yx,yw,yv,yu,yt,ys] h)))))) (k (.exit 4) [a,b,c,d,e,f,g,i,j,l,m,n,o,p,q,r,s,t,u,v,w,x,y,z,A,B,C,D,E,F,G,H,I,J,zz,zy,zx,zw,zv,zu,zt,zs,zr,zq,aa,zo,zn,zm,zl,zk,zj,zi,zh,zg,zf,ze,zd,zc,zb,za,yz,yy,yx,yw,yv,yu,yt,ys] h):=by kernel_rfl
def Qq:Code:=bU [1,1,0,1,0,0] (cE prog 11)
def Qu:KV:=(dP 2 (dY prog O L (bU [1,1,1] (cE prog 11)) (eQ prog Tryz.f11)))
theorem aPl:Qu O L (.exit 2) [a,b,c,d,e,f,g,i,j,l,m,n,o,p,q,r,s,t,u,v,w,x,y,z,A,B,C,D,E,F,G,H,I,J,zz,zy,zx,zw,zv,zu,zt,zs,zr,zq,zp,zo,zn,zm,zl,zk,zj,zi,zh,zg,zf,ze,zd,zc,zb,za,yz,yy,yx,yw,yv,yu,yt,ys] h=ob (aF (aT a) h) λaa h=>ob (aF (aJ 14 aa) h) λab h=>ob (ld1 ab h) λac h=>ob (aF (bin prog .add 3 ac (.I 1)) h) λad h=>ob (aF (aT a) h) λae h=>ob (aF (aJ 14 ae) h) λaf h=>ob (stN 1 af ad h) λag h=>some (aL [],h):=by kernel_rfl
theorem aBS:aM prog O L Qq k [a,b,c,d,e,f,g,i,j,l,m,n,o,p,q,r,s,t,u,v,w,x,y,z,A,B,C,D,E,F,G,H,I,J,zz,zy,zx,zw,zv,zu,zt,zs,zr,zq,zp,zo,zn,zm,zl,zk,zj,zi,zh,zg,zf,ze,zd,zc,zb,za,yz,yy,yx,yw,yv,yu,yt,ys] h=ob (aF (bin prog .lss 3 zx zy) h) λaa h=>aN aa (ob (aF (bS 1 zz zx) h) λab h=>ob (ld1 ab h) λac h=>ob (aF (cK ac) h) λad h=>L (aM prog O L Qr) (Qv O L k) [a,b,c,d,e,f,zx,ac,j,l,m,n,o,p,q,r,s,t,u,v,w,x,y,z,A,B,C,D,E,F,G,H,I,J,zz,zy,zx,aa,zx,ab,ac,ac,ad,(.I 0),zp,zo,zn,zm,zl,zk,zj,zi,zh,zg,zf,ze,zd,zc,zb,za,yz,yy,yx,yw,yv,yu,yt,ys] h) (k (.exit 2) [a,b,c,d,e,f,g,i,j,l,m,n,o,p,q,r,s,t,u,v,w,x,y,z,A,B,C,D,E,F,G,H,I,J,zz,zy,zx,aa,zv,zu,zt,zs,zr,zq,zp,zo,zn,zm,zl,zk,zj,zi,zh,zg,zf,ze,zd,zc,zb,za,yz,yy,yx,yw,yv,yu,yt,ys] h):=by kernel_rfl
def Qp:Code:=bU [1,0,1,0,0] (cE prog 11)
def Qt:KV:=(dP 0 (dY prog O L (bU [1,1] (cE prog 11)) (eQ prog Tryz.f11)))
theorem aPk:Qt O L (.exit 0) [a,b,c,d,e,f,g,i,j,l,m,n,o,p,q,r,s,t,u,v,w,x,y,z,A,B,C,D,E,F,G,H,I,J,zz,zy,zx,zw,zv,zu,zt,zs,zr,zq,zp,zo,zn,zm,zl,zk,zj,zi,zh,zg,zf,ze,zd,zc,zb,za,yz,yy,yx,yw,yv,yu,yt,ys] h=ob (aF (cK c) h) λaa h=>L (aM prog O L Qq) (Qu O L) [a,b,c,d,e,f,g,i,j,l,m,n,o,p,q,r,s,t,u,v,w,x,y,z,A,B,C,D,E,F,G,H,I,J,c,aa,(.I 0),zw,zv,zu,zt,zs,zr,zq,zp,zo,zn,zm,zl,zk,zj,zi,zh,zg,zf,ze,zd,zc,zb,za,yz,yy,yx,yw,yv,yu,yt,ys] h:=by kernel_rfl
theorem aBR:aM prog O L Qp k [a,b,c,d,e,f,g,i,j,l,m,n,o,p,q,r,s,t,u,v,w,x,y,z,A,B,C,D,E,F,G,H,I,J,zz,zy,zx,zw,zv,zu,zt,zs,zr,zq,zp,zo,zn,zm,zl,zk,zj,zi,zh,zg,zf,ze,zd,zc,zb,za,yz,yy,yx,yw,yv,yu,yt,ys] h=ob (aF (bin prog .lss 3 x w) h) λaa h=>aN aa (ob (aF (bS 1 v x) h) λab h=>ob (ld1 ab h) λac h=>ob (nT O (.func (.func 26) #[ac] #[]) [] h) λad h=>ob (aF (bS 1 c x) h) λae h=>ob (stN 1 ae ad h) λaf h=>ob (aF (bin prog .add 3 x (.I 1)) h) λag h=>k .normal [a,b,c,x,ac,(.func (.func 26) #[ac] #[]),g,i,j,l,m,n,o,p,q,r,s,t,u,v,w,ag,aa,x,ab,ac,ac,(.func (.func 26) #[ac] #[]),c,x,(.func (.func 26) #[ac] #[]),ad,ae,ag,zz,zy,zx,zw,zv,zu,zt,zs,zr,zq,zp,zo,zn,zm,zl,zk,zj,zi,zh,zg,zf,ze,zd,zc,zb,za,yz,yy,yx,yw,yv,yu,yt,ys] h) (k (.exit 0) [a,b,c,d,e,f,g,i,j,l,m,n,o,p,q,r,s,t,u,v,w,x,aa,z,A,B,C,D,E,F,G,H,I,J,zz,zy,zx,zw,zv,zu,zt,zs,zr,zq,zp,zo,zn,zm,zl,zk,zj,zi,zh,zg,zf,ze,zd,zc,zb,za,yz,yy,yx,yw,yv,yu,yt,ys] h):=by kernel_rfl
theorem aPn:cL prog O L 11 [N] h=ob (aF (aT N) h) λaa h=>ob (aF (aJ 12 aa) h) λab h=>ob (ld1 ab h) λac h=>ob (aF (cK ac) h) λad h=>ob (lD 72 1 24 [(.slice none 0 0)] ad ad h) λae h=>ob (aF (aT N) h) λaf h=>ob (aF (aJ 12 af) h) λag h=>ob (ld1 ag h) λah h=>ob (aF (cK ah) h) λai h=>L (aM prog O L Qp) (Qt O L) [N,undef,ae,undef,undef,undef,undef,undef,undef,undef,N,aa,ab,ac,ad,ae,N,af,ag,ah,ai,(.I 0),undef,undef,undef,undef,undef,undef,undef,undef,undef,undef,undef,undef,undef,undef,undef,undef,undef,undef,undef,undef,undef,undef,undef,undef,undef,undef,undef,undef,undef,undef,undef,undef,undef,undef,undef,undef,undef,undef,undef,undef,undef,undef,undef,undef,undef,undef] h:=by kernel_rfl
theorem aBX:cL prog O L 58 [N] h=ob (aF (bin prog .eql 56 N (.slice none 0 0)) h) λaa h=>aN aa (some (aL [(.slice none 0 0)],h)) (ob (dR 65 2 0 [(.I 0),(.I 0)] [] h) λab h=>ob (app 65 2 16 ab N h) λac h=>some (aL [ac],h)):=by kernel_rfl
def Qw:Code:=bU [1,1,0,1,0,0] (cE prog 17)
def Qx:KV:=(dP 0 (dY prog O L (bU [1,1,1] (cE prog 17)) (eQ prog Tryz.f17)))
theorem aPo:Qx O L (.exit 0) [a,b,c,d,e,f,g,i,j,l,m,n,o,p,q,r,s,t,u,v,w,x,y,z,A,B,C,D,E,F,G,H,I] h=ob (ldN 11 b h) λaa h=>ob (stN 11 c aa h) λab h=>ob (ldN 11 c h) λw31 _=>some (aL [w31],h):=by kernel_rfl
theorem aBU:aM prog O L Qw k [a,b,c,d,e,f,g,i,j,l,m,n,o,p,q,r,s,t,u,v,w,x,y,z,A,B,C,D,E,F,G,H,I] h=ob (aF (bin prog .lss 3 w v) h) λaa h=>aN aa (ob (aF (bS 1 u w) h) λab h=>ob (ld1 ab h) λac h=>ob (aF (aJ 10 b) h) λad h=>ob (ld1 ad h) λae h=>ifB (true) (ob (O (.func 46) [ac] h) λaf h=>ifB (chk ((ld1 ad) h) ae&&(true)) (ob (aF (bS 1 ae w) h) λag h=>ob (stN 1 ag af h) λah h=>ifB (true) (ob (aF (bin prog .add 3 w (.I 1)) h) λai h=>k .normal [a,b,c,w,ac,f,g,i,j,l,m,n,o,p,q,r,s,t,u,v,ai,aa,w,ab,ac,ad,ae,w,ac,af,ag,ai,I] h)))) (k (.exit 0) [a,b,c,d,e,f,g,i,j,l,m,n,o,p,q,r,s,t,u,v,w,aa,y,z,A,B,C,D,E,F,G,H,I] h):=by kernel_rfl
theorem aPp:cL prog O L 17 [N] h=ob (dD 30 (Value.cells N).toList .fix h) λaa h0=>ob (dD 30 [(.I 0),(.slice none 0 0),(.I 0),(.I 0),(.I 0),(.I 0),(.I 0),(.I 0),(.slice none 0 0),(.int .u16 0),(.slice none 0 0)] .fix h0) λab h1=>ob (aF (aJ 1 aa) h1) λac h2=>ob (ld1 ac h2) λad h3=>ifB (true) (ob (O (.func 45) [ad] h3) λae h4=>ifB (true) (ob (aF (aJ 8 aa) h4) λaf h5=>ob (ld1 af h5) λag h6=>ifB (chk ((ld1 af) h3) ag&&(true)) (ob (O (.func 46) [ag] h6) λah h7=>ifB (true) (ob (aF (aJ 10 aa) h7) λai h8=>ob (ld1 ai h8) λaj h9=>ifB (chk ((ld1 ai) h6) aj&&(chk ((ld1 ai) h3) aj&&(true))) (ob (O (.func 47) [aj] h9) λak h10=>ifB (true) (ob (aF (aJ 1 aa) h10) λal h11=>ob (stN 1 al ae h11) λam h12=>ifB (true) (ob (aF (aJ 8 aa) h12) λan h13=>ob (stN 1 an ah h13) λao h14=>ifB (true) (ob (aF (aJ 10 aa) h14) λap h15=>ob (stN 1 ap ak h15) λaq h16=>ifB (true) (ob (aF (aJ 10 aa) h16) λar h17=>ob (ld1 ar h17) λau h18=>ob (aF (cK au) h18) λav h19=>L (aM prog O L Qw) (Qx O L) [N,aa,ab,undef,undef,ac,ad,ae,af,ag,ah,ai,aj,ak,al,an,ap,ar,au,av,(.I 0),undef,undef,undef,undef,undef,undef,undef,undef,undef,undef,undef,undef] h19))))))))):=by kernel_rfl
theorem aPt:cL prog O L 56 [N,P] h=ob (aF (bin prog .lss 3 P (.I 0)) h) λaa h=>ob (gd aa false (c9 P) h) λab h=>ob (gd aa false (c9 N) h) λac h=>ob (gd aa false (aF (cK ac)) h) λad h=>ob (gd aa false (aF (bin prog .geq 3 ab ad)) h) λae h=>ob (aF (dO aa (.bool true) ae) h) λaf h=>aN af (some (aL [(.pointer none)],h)) (ob (aF (bS 1 N P) h) λag h=>ob (ld1 ag h) λah h=>some (aL [ah],h)):=by kernel_rfl
theorem aBV:cL prog O L 45 [N] h=ob (aF (bin prog .eql 26 N (.slice none 0 0)) h) λaa h=>aN aa (some (aL [(.slice none 0 0)],h)) (ob (dR 89 2 0 [(.I 0),(.I 0)] [] h) λab h=>ob (app 89 2 16 ab N h) λac h=>some (aL [ac],h)):=by kernel_rfl
theorem aBW:cL prog O L 47 [N] h=ob (aF (bin prog .eql 28 N (.slice none 0 0)) h) λaa h=>aN aa (some (aL [(.slice none 0 0)],h)) (ob (dR 27 1 0 [(.slice none 0 0)] [] h) λab h=>ob (app 27 1 24 ab N h) λac h=>some (aL [ac],h)):=by kernel_rfl
end Go.Proofs.YtndnnndnhnlkdaaGreatDoor
end
namespace Go.Proofs.YtndnnndnhnlkdaaGreatDoor
open Go.Proofs.Tryz
open Go.Abs Go.Abs.M
open Classical
theorem aPx (t:TypeId)(a:Addr)(h:mD prog t (.pointer none)=true):bin prog .neq t (.pointer (some a)) (.pointer none)=some (.bool true):=by
 have h2:mD prog t (.pointer (some a))=true:=by
  rw[<-h];unfold mD;cases prog.underlying t with
  |none=>rfl
  |some d=>cases d<;>rfl
 simp[bin,eD,nG,h,h2,eqV]
section
variable {m : Nat} {H0 H : aE} {F : Part → Nat → Prop} {y : Lay} {p : PlanD} {ev wv nv : Value} {c : Cfg}
end
section
variable {H : aE} {m : Nat} {p : PlanD} {ev wv nv v : Value}
theorem Iq {t e:TypeId}(h:prog.underlying t=some (.slice e)):bin prog .eql t (.slice none 0 0) (.slice none 0 0)=some (.bool true)/\ ∀b o n c,bin prog .eql t (.slice (some ⟨b,o,none⟩) n c) (.slice none 0 0)=some (.bool false):=by
 constructor
 ·simp[bin,eD,nG,mD,eqV,h]
 ·intro b o n c
  simp[bin,eD,nG,mD,eqV,h]
theorem Io {α:Type}{el:α->List Value}{e:TypeId}{sz by':Nat}(hsz: ∀x,(el x).length=sz)(hall: ∀x,dX (el x)=true)(h0:0<sz){xs:List α}(h:Rs el e H v xs)(hr:hP xs.length by'=true):
  (v= .slice none 0 0/\xs=[])∨((∃b o n c,v= .slice (some ⟨b,o,none⟩) n c)/\ ∃u H',app e sz by' (.slice (some ⟨H.length,0,none⟩) 0 0) v (H++[.cells [] e .row])=some (u,H')/\Ext H H'/\Rw el e sz H' u xs/\New H u):=by
 have hx:Ext H (H++[.cells [] e .row]):=Fr.app _ _ _;have hc:=h;rcases h with h|⟨b,o,cap,h,_⟩
 ·exact .inl h
 ·have z:Rw el e sz (H++[.cells [] e .row]) (.slice (some ⟨H.length,0,none⟩) 0 0) []:=⟨by simp,.inr ⟨H.length,0,[],rfl,aRf _,by simp,by simp⟩⟩
  obtain⟨u,H',g1,g2,g3,g4⟩:=z.zT hsz hall h0 (by':=by') (H0:=H) (hc.ext hx) (λb ⟨_,_,_,h⟩=>by cases h;exact aRf _) hx (by simpa using hr)
  exact .inr ⟨⟨b,o,_,_,h⟩,u,H',g1,g4,g2,g3⟩
theorem aB1 {xs:List Int}(h:Is H v xs)(hl:xs.length<=1000)(hm:0<m): ∃u H',lvl prog pkN m (.func 46) [v] H=some (u,H')/\Ext H H'/\Iw H' u xs/\New H u:=by
 have q:=Iq (t:=27) (e:=3) (by kernel_rfl)
 rcases Io (by':=8) gW o5 aC h (gX (n:=1000) aC hl) with⟨rfl,rfl⟩|⟨⟨b,o,n,c,rfl⟩,u,H',g1,g2⟩
 ·refine⟨_,H,dH (cV rfl) hm ?_,Fr.gR _ _,Rw.kL,New.mN _⟩
  rw[Lq];simp only[gsR,q.1]
 ·have b0:dR 3 1 0 [.I 0] [] H=some (.slice (some ⟨H.length,0,none⟩) 0 0,H++[.cells [] 3 .row]):=rfl
  refine⟨u,H',dH (cV rfl) hm ?_,g2⟩;rw[Lq];simp only[gsR,q.2,b0,g1]
theorem aPy {xs:List Ed}(h:Es H v xs)(hl:xs.length<=1000)(hm:0<m): ∃u H',lvl prog pkN m (.func 45) [v] H=some (u,H')/\Ext H H'/\Ew H' u xs/\New H u:=by
 have q:=Iq (t:=26) (e:=89) (by kernel_rfl)
 rcases Io (by':=16) p8 yA aC h (gX (n:=1000) aC hl) with⟨rfl,rfl⟩|⟨⟨b,o,n,c,rfl⟩,u,H',g1,g2⟩
 ·refine⟨_,H,dH (cV rfl) hm ?_,Fr.gR _ _,Rw.kL,New.mN _⟩
  rw[aBV];simp only[gsR,q.1]
 ·have b0:dR 89 2 0 [.I 0,.I 0] [] H=some (.slice (some ⟨H.length,0,none⟩) 0 0,H++[.cells [] 89 .row]):=rfl
  refine⟨u,H',dH (cV rfl) hm ?_,g2⟩;rw[aBV];simp only[gsR,q.2,b0,g1]
theorem aPz {xs:List Ed}(h:Hs H v xs)(hl:xs.length<=1000)(hm:0<m): ∃u H',lvl prog pkN m (.func 58) [v] H=some (u,H')/\Ext H H'/\Hw H' u xs/\New H u:=by
 have q:=Iq (t:=56) (e:=65) (by kernel_rfl)
 rcases Io (by':=16) p8 yA aC h (gX (n:=1000) aC hl) with⟨rfl,rfl⟩|⟨⟨b,o,n,c,rfl⟩,u,H',g1,g2⟩
 ·refine⟨_,H,dH (cV rfl) hm ?_,Fr.gR _ _,Rw.kL,New.mN _⟩
  rw[aBX];simp only[gsR,q.1]
 ·have b0:dR 65 2 0 [.I 0,.I 0] [] H=some (.slice (some ⟨H.length,0,none⟩) 0 0,H++[.cells [] 65 .row]):=rfl
  refine⟨u,H',dH (cV rfl) hm ?_,g2⟩;rw[aBX];simp only[gsR,q.2,b0,g1]
theorem aPA {us:List SV}(h:Rs sC 27 H v us)(hl:us.length<=1000)(hm:0<m): ∃u H',lvl prog pkN m (.func 47) [v] H=some (u,H')/\Ext H H'/\Rw sC 27 1 H' u us/\New H u:=by
 have q:=Iq (t:=28) (e:=27) (by kernel_rfl)
 rcases Io (by':=24) Cf F7 aC h (gX (n:=1000) aC hl) with⟨rfl,rfl⟩|⟨⟨b,o,n,c,rfl⟩,u,H',g1,g2⟩
 ·refine⟨_,H,dH (cV rfl) hm ?_,Fr.gR _ _,Rw.kL,New.mN _⟩
  rw[aBW];simp only[gsR,q.1]
 ·have b0:dR 27 1 0 [.slice none 0 0] [] H=some (.slice (some ⟨H.length,0,none⟩) 0 0,H++[.cells [] 27 .row]):=rfl
  refine⟨u,H',dH (cV rfl) hm ?_,g2⟩;rw[aBW];simp only[gsR,q.2,b0,g1]
theorem Q2 {e:TypeId}{us:List SV}(h:Rw sC e 1 H v us){i:Nat}(hi:i<us.length)(x:SV): ∃c cs,cP v c/\H[c]? =some (.cells cs e .row)/\bS 1 v (.I (i:Nat))=some (.Q c i)/\ld1 (.Q c i) H=some (us[i].1,H)/\
  stN 1 (.Q c i) x.1 H=some (undef,H.set c (.cells (cs.set i x.1) e .row))/\Rw sC e 1 (H.set c (.cells (cs.set i x.1) e .row)) v (us.set i x):=by
 have hf: ∀us:List SV,(us.map sC).flatten=us.map (·.1):=by
  intro us;induction us with
  |nil=>rfl
  |cons a us ih=>rw[aRF,aRK,ih];rfl
 rcases h with⟨h1,⟨rfl,h2⟩|⟨c,cap,rest,rfl,h2,h3,h4⟩⟩
 ·omega
 ·rw[hf] at h4
  refine⟨c,_,⟨_,_,_,rfl⟩,h4,?_,dI h4 ?_,pP h4 aC (by simp;omega) (by rw[x.2.2]) x.2.1,?_⟩
  ·rw[pM _ _ _ _ _ _ _ U U]
   simp
  ·rw[aRd (by simpa using hi),aRn,aRc hi]
   rfl
  ·refine⟨by rw[hf];simp,.inr ⟨c,cap,rest,by rw[List.length_set],by rw[List.length_set];exact h2,by rw[List.length_set];exact h3,?_⟩⟩
   rw[aRg (aRa.mp h4).1,hf,List.map_set,List.set_append_left _ _ (by simpa using hi)]
theorem aPC {xss:List (List Int)}(h:Rows H v xss): ∃us:List SV,Rs sC 27 H v us/\us.length=xss.length/\ ∀(i:Nat)(u:SV)(xs:List Int),us[i]? =some u->xss[i]? =some xs->Is H u.1 xs:=by
 obtain⟨us,h1,h2,h3⟩:=h;have hs: ∀u∈us,dX [u]=true/\u.cells= #[u]:=λu hu=>by
  obtain⟨i,hi⟩:=List.getElem?_of_mem hu;have hl:=(aRa.mp hi).1;rcases h3 i u _ hi (aRc U) with⟨rfl,_⟩|⟨b,o,cap,rfl,_⟩<;>exact⟨rfl,rfl⟩
 obtain⟨ws,hw⟩: ∃ws:List SV,ws.map (·.1)=us:=by
  clear h1 h2 h3;induction us with
  |nil=>exact⟨[],rfl⟩
  |cons a us ih=>
   obtain⟨ws,hw⟩:=ih λu hu=>hs u (aRr _ hu)
   exact⟨⟨a,hs a (aRj ..)⟩::ws,congrArg (a:: ·) hw⟩
 have hl:ws.length=us.length:=by rw[<-hw,aRo]
 refine⟨ws,?_,by omega,λi u xs hu hx=>h3 i u.1 xs (by rw[<-hw,aRn,hu];rfl) hx⟩
 unfold Rs at h1⊢;rw[Cg,hw,hl];rcases h1 with⟨a,b⟩|⟨b,o,cap,a1,a2,a3⟩
 ·exact .inl ⟨a,aRs.mp (by rw[hl,b];rfl)⟩
 ·exact .inr ⟨b,o,cap,a1,a2,λhne=>a3 λhz=>hne (aRs.mp (by rw[hl,hz];rfl))⟩
theorem Ip {xss:List (List Int)}{us:List SV}(h:Rs sC 27 H v us)(hl:us.length=xss.length)(h3: ∀(i:Nat)(u:SV)(xs:List Int),us[i]? =some u->xss[i]? =some xs->Is H u.1 xs):Rows H v xss:=by
 refine⟨us.map (·.1),?_,by rw[aRo,hl],λi u xs hu hx=> ?_⟩
 ·unfold Rs at h⊢
  rw[<-Cg,aRo];rcases h with⟨a,b⟩|⟨b,o,cap,a1,a2,a3⟩
  ·exact .inl ⟨a,by rw[b];rfl⟩
  ·exact .inr ⟨b,o,cap,a1,a2,λhne=>a3 λhz=>hne (by rw[hz];rfl)⟩
 ·rw[aRn] at hu
  cases hw:us[i]? with
  |none=>rw[hw] at hu;cases hu
  |some w=>
   rw[hw] at hu;cases hu;exact h3 i w xs hw hx
structure Clo (H H':aE)(p:PlanD)(ev wv nv:Value):Prop where
 pv:PV H' p ev wv nv
 ext:Ext H H'
 e:Ew H' ev p.edges/\New H ev
 w:Iw H' wv p.weights/\New H wv
 n: ∃us:List SV,Rw sC 27 1 H' nv us/\New H nv/\us.length=p.next.length/\ ∀(i:Nat)(u:SV)(xs:List Int),us[i]? =some u->p.next[i]? =some xs->Iw H' u.1 xs/\New H u.1
theorem aPB {Hb:aE}{pb zb:Nat}(hb0:Hb.length<=pb)(hb1:Hb.length<=zb)(hne:pb≠zb)(hE:p.edges.length<=17592186043000)(hW:p.weights.length<=17592186043000)(hN:p.next.length<=1000)(hN2: ∀xs∈p.next,xs.length<=1000)(hm:100<m):
  ∀(q i l:Nat)(H1:aE)(us:List SV),p.next.length-i=q->i<=p.next.length->q<l->Ext Hb H1->H1[pb]? =some (plB p ev wv nv)->H1[zb]? =some plZ->Ew H1 ev p.edges->New Hb ev->Iw H1 wv p.weights->New Hb wv->Rw sC 27 1 H1 nv us->New Hb nv->us.length=p.next.length->
   (∀(j:Nat)(u:SV)(xs:List Int),us[j]? =some u->p.next[j]? =some xs->Is H1 u.1 xs/\(∀b,cP nv b-> ¬cP u.1 b)/\(j<i->Iw H1 u.1 xs/\New Hb u.1))-> ∀(x0 x3 x4 x5 x6 x7 x8 x9 bQ cG aS aP aQ aO bB bI bT bN bP aU aV aW aX aY aZ bA bH bO:Value),
  ∃H2 u2,aK l (aM prog (lvl prog pkN m) (aK m) Qw) (Qx (lvl prog pkN m) (aK m)) [x0,(.Q pb 0),(.Q zb 0),x3,x4,x5,x6,x7,x8,x9,bQ,cG,aS,aP,aQ,aO,bB,bI,nv,(.I (p.next.length:Nat)),(.I (i:Nat)),bT,bN,bP,aU,aV,aW,aX,aY,aZ,bA,bH,bO] H1=some (u2,H2)/\u2=plV p ev wv nv/\Clo Hb H2 p ev wv nv:=by
 intro q;induction q with
 |zero=>
  intro i l H1 us hq hi hl he hb hz e1 e2 w1 w2 r1 r2 hul hall;intros;obtain⟨l,rfl⟩:=aB l U
  obtain rfl:i=p.next.length:=U
  have e:decide ((p.next.length:Int)<(p.next.length:Nat))=false:=by simp
  have l11:=kE hb;obtain⟨H2,hH2⟩:=aD (H1.set zb (plB p ev wv nv));have st:stN 11 (.Q zb 0) (plV p ev wv nv) H1=some (undef,H2):=by
   have e1':(plV p ev wv nv).cells.toList=plC p ev wv nv:=rfl;have hpv:PV H1 p ev wv nv:=⟨e1.rs,w1.rs,Ip r1.rs hul λj u xs hu hx=>(hall j u xs hu hx).1,hE,by omega,by omega⟩
   rw[mE 11 _ _ _ rfl,hz,e1',hH2];unfold plZ;rw[nX _ _ _ _ _ _ aC (by simp[plC]) hpv.Ci]
   simp[eS,plC,plB]
  have hzl:=dT hz;have b2:H2[zb]? =some (plB p ev wv nv):=by rw[hH2,aRg hzl]
  have l11z:=kE b2;have hk: ∀b,b≠zb->H2[b]? =H1[b]? :=λb hbz=>by rw[hH2,aRb (λhh=>hbz hh.symm)]
  have hnh: ∀{α:Type}{el:α->List Value}{e:TypeId}{sz:Nat}{w:Value}{xs:List α},Rw el e sz H1 w xs->Rw el e sz H2 w xs:=λh=>h.eX λb hbb=>hk b λhh=>by
   obtain⟨cs,hc⟩:=h.blk hbb;rw[hh,hz] at hc;cases hc
  have he2:Ext Hb H2:=by rw[hH2];exact nM he hb1
  refine⟨H2,_,?_,rfl,⟨⟨(hnh e1).rs,(hnh w1).rs,Ip (hnh r1).rs hul λj u xs hu hx=>(hnh ((hall j u xs hu hx).2.2 (aRa.mp hx).1).1).rs,hE,by omega,by omega⟩,he2,⟨hnh e1,e2⟩,⟨hnh w1,w2⟩,us,hnh r1,r2,hul,λj u xs hu hx=> ?_⟩⟩
  ·rw[dG,aBU]
   simp only[gsR,e];rw[aPo];simp only[gsR,l11,st,l11z]
  ·have:=(hall j u xs hu hx).2.2 (aRa.mp hx).1
   exact⟨hnh this.1,this.2⟩
 |succ q ih=>
  intro i l H1 us hq hi hl he hb hz e1 e2 w1 w2 r1 r2 hul hall;intros;obtain⟨l,rfl⟩:=aB l U
  have e:decide ((i:Int)<(p.next.length:Nat))=true:=aRU U
  have e3:=aA (i:=i) U
  have hi1:i<us.length:=U
  have hxi:p.next[i]? =some p.next[i]:=aRc U
  have hui:us[i]? =some us[i]:=aRc hi1;obtain⟨hIs,hap,_⟩:=hall i _ _ hui hxi;obtain⟨u,H2,g1,x2,g2,g3⟩:=aB1 hIs (hN2 _ (aRk hxi)) (m:=m) U
  obtain⟨su,rfl⟩: ∃su:SV,su.1=u:=by
   obtain⟨s1,s2⟩:=Rw.tW g2
   exact⟨⟨u,s2,Array.toList_inj.mp s1⟩,rfl⟩
  have r1':=pF r1 x2;obtain⟨c,cs,p1,p2,p3,p4,_,_⟩:=Q2 r1 hi1 su;obtain⟨c',cs',q1,q2,q3,_,q5,q6⟩:=Q2 r1' hi1 su
  obtain rfl:c'=c:=by
   obtain⟨o,n,k,hh⟩:=p1;obtain⟨o',n',k',hh'⟩:=q1;rw[hh] at hh';cases hh';rfl
  have hcb:Hb.length<=c':=r2 _ q1;obtain⟨H3,hH3⟩:=aD (H2.set c' (.cells (cs'.set i su.1) 27 .row));rw[<-hH3] at q5 q6;have l10: ∀G,Ext H1 G->ld1 (.pointer (some ⟨pb,10,none⟩)) G=some (nv,G):=λG hG=>eP (eU hb hG) 10 nv rfl
  have l10a:=l10 H1 (Fr.gR _ _);have l10b:=l10 H2 x2;have ck:chk (some (nv,H2)) nv=true:=by rcases r1 with⟨_,⟨rfl,_⟩|⟨_,_,_,rfl,_⟩⟩<;>exact Hj _ _ _ _
  have hk: ∀b,b≠c'->H3[b]? =H2[b]? :=λb hbz=>by rw[hH3,aRb (λhh=>hbz hh.symm)]
  have he3:Ext Hb H3:=by rw[hH3];exact nM (he.tr x2) hcb
  have hkR: ∀{α:Type}{el:α->List Value}{e:TypeId}{sz:Nat}{w:Value}{xs:List α},Rw el e sz H1 w xs->e≠27->Rw el e sz H3 w xs:=λh hne=>(pF h x2).eX λb hbb=>hk b λhh=>by
   obtain⟨cs,hc⟩:=(pF h x2).blk hbb;rw[hh,q2] at hc;cases hc;exact hne rfl
  have hkF: ∀{b:Nat}{cs1:List Value},H1[b]? =some (.cells cs1 30 .fix)->H3[b]? =some (.cells cs1 30 .fix):=λh=>by
   have h2:=eU h x2;rw[hk _ (λhh=>by rw[hh,q2] at h2;cases h2),h2]
  rw[dG,aBU];simp only[gsR,e,p3,p4,l10a,g1,l10b,ck,q3,q5,cU,e3];have hnu: ∀b,cP su.1 b-> ¬cP nv b:=λb h1 h2=>by
   have:=g3 b h1;have:=r1.gM h2;omega
  refine ih (i+1) l H3 (us.set i su) U U U he3 (hkF hb) (hkF hz) (hkR e1 aC) e2 (hkR w1 aC) w2 q6 r2 (by rw[List.length_set];exact hul) (λj u xs hu hx=> ?_) ..
  have hjl:j<us.length:=by have:=(aRa.mp hu).1;rwa [List.length_set] at this
  by_cases hji:j=i
  ·subst hji
   rw[aRg hjl] at hu;cases hu;rw[hxi] at hx;cases hx;have hiw:Iw H3 su.1 p.next[j]:=g2.eX λb hbb=>hk b λhh=>hnu b hbb (by rw[hh];exact q1)
   exact⟨hiw.rs,λb h1 h2=>hnu b h2 h1,λ_=>⟨hiw,λb hbb=>aRq he.1 (g3 b hbb)⟩⟩
  ·rw[aRb (λhh=>hji hh.symm)] at hu
   obtain⟨a1,a2,a3⟩:=hall j u xs hu hx;have hs:Is H3 u.1 xs:=(a1.ext x2).E4 λb hbb _=>hk b λhh=>a2 b (by rw[hh];exact q1) hbb
   refine⟨hs,a2,λhj=> ?_⟩
   obtain⟨a4,a5⟩:=a3 U
   exact⟨(pF a4 x2).eX λb hbb=>hk b λhh=>a2 b (by rw[hh];exact q1) hbb,a5⟩
theorem aB2 (hp:PV H p ev wv nv)(hE:p.edges.length<=1000)(hW:p.weights.length<=1000)(hN:p.next.length<=1000)(hN2: ∀xs∈p.next,xs.length<=1000)(hN0: ∀xs∈p.next,xs≠[])(hm:2000<m):
    ∃H' ev' wv' nv',lvl prog pkN m (.func 17) [plV p ev wv nv] H=some (plV p ev' wv' nv',H')/\Clo H H' p ev' wv' nv':=by
  obtain⟨H0,hH0⟩:=aD (H++[plB p ev wv nv]);have x0:Ext H H0:=by rw[hH0];exact Fr.app _ _ _
  have b0:H0[H.length]? =some (plB p ev wv nv):=by rw[hH0];exact eY _ _
  have e0:H++[Blk.cells (plV p ev wv nv).cells.toList 30 .fix]=H0:=by rw[hH0];rfl
  obtain⟨H1,hH1⟩:=aD (H0++[plZ]);have x1:Ext H0 H1:=by rw[hH1];exact Fr.app _ _ _
  have z1:H1[H0.length]? =some plZ:=by rw[hH1];exact eY _ _
  have b1:=eU b0 x1;have hx1:=x0.tr x1;have hl0:H0.length=H.length+1:=by rw[hH0];simp
  obtain⟨e',H2,g2,x2,e2,ne2⟩:=aPy (hp.ext hx1).e hE (m:=m-1) U
  have l1:=eP b1 1 ev rfl;have b2:=eU b1 x2;have l8a:=eP b1 8 wv rfl;have l8:=eP b2 8 wv rfl;obtain⟨w',H3,g3,x3,w3,nw3⟩:=aB1 ((hp.ext hx1).ext x2).w hW (m:=m-1) U
  have b3:=eU b2 x3;have l10a:=eP b1 10 nv rfl;have l10b:=eP b2 10 nv rfl;have l10:=eP b3 10 nv rfl;obtain⟨us,us1,us2,us3⟩:=aPC hp.n;obtain⟨n',H4,g4,x4,n4,nn4⟩:=aPA (us1.ext ((hx1.tr x2).tr x3)) U (m:=m-1) U
  have b4:=eU b3 x4;have hx4:Ext H H4:=((hx1.tr x2).tr x3).tr x4;have ckw: ∀G,chk (some (wv,G)) wv=true:=λG=>by rcases hp.w with⟨rfl,_⟩|⟨_,_,_,rfl,_⟩<;>exact Hj _ _ _ _
  have ckn: ∀G,chk (some (nv,G)) nv=true:=λG=>by
    obtain⟨us,h1,_⟩:=hp.n;rcases h1 with⟨rfl,_⟩|⟨_,_,_,rfl,_⟩<;>exact Hj _ _ _ _
  have hpb:H.length≠H0.length:=U
  -- the plan is the clone's now
  have hs: ∀{G:aE}{a b c:Value},G[H.length]? =some (plB p a b c)-> ∀{α:Type}{el:α->List Value}{e:TypeId}{sz:Nat}{w:Value}{xs:List α}(G2:aE),Rw el e sz G w xs->(∀b,b≠H.length->G2[b]? =G[b]?)->Rw el e sz G2 w xs:=λhb _ _ _ _ _ _ _ h hk=>h.eX λb hbb=>hk b λhh=>by
    obtain⟨cs,hc⟩:=h.blk hbb;rw[hh,hb] at hc;cases hc
  obtain⟨H5,hH5⟩:=aD (H4.set H.length (plB p e' wv nv));have k5: ∀b,b≠H.length->H5[b]? =H4[b]? :=λb hb=>by rw[hH5,aRb (λhh=>hb hh.symm)]
  have b5:H5[H.length]? =some (plB p e' wv nv):=by rw[hH5];exact fS b4
  have e4:=pF (pF e2 x3) x4;have w4:=pF w3 x4;obtain⟨s1,s2⟩:=Rw.tW e2;obtain⟨s3,s4⟩:=Rw.tW w3;obtain⟨s5,s6⟩:=Rw.tW n4;have st5:stN 1 (.Q H.length 1) e' H4=some (undef,H5):=by rw[hH5];exact pP b4 aC (by simp[plC]) s1 s2
  obtain⟨H6,hH6⟩:=aD (H5.set H.length (plB p e' w' nv));have k6: ∀b,b≠H.length->H6[b]? =H4[b]? :=λb hb=>by rw[hH6,aRb (λhh=>hb hh.symm),k5 b hb]
  have b6:H6[H.length]? =some (plB p e' w' nv):=by rw[hH6];exact fS b5
  have st6:stN 1 (.Q H.length 8) w' H5=some (undef,H6):=by rw[hH6];exact pP b5 aC (by simp[plC]) s3 s4
  obtain⟨H7,hH7⟩:=aD (H6.set H.length (plB p e' w' n'));have k7: ∀b,b≠H.length->H7[b]? =H4[b]? :=λb hb=>by rw[hH7,aRb (λhh=>hb hh.symm),k6 b hb]
  have b7:H7[H.length]? =some (plB p e' w' n'):=by rw[hH7];exact fS b6
  have st7:stN 1 (.Q H.length 10) n' H6=some (undef,H7):=by rw[hH7];exact pP b6 aC (by simp[plC]) s5 s6
  have l10c:=eP b7 10 n' rfl;have n7:=hs b4 H7 n4 k7;have hln:=n7.qT;rw[us2] at hln;have x7:Ext H H7:=⟨by rw[hH7,hH6,hH5];simp only[List.length_set];exact hx4.1,λb hb _=>by rw[k7 b U,hx4.2 b hb id]⟩
  have hxl:=hx1.1;have hx2l:=x2.1;have hx3l:=x3.1;have main: ∃H' u,lvl prog pkN m (.func 17) [plV p ev wv nv] H=some (u,H')/\u=plV p e' w' n'/\Clo H H' p e' w' n':=by
    refine iB (cV rfl) U ?_
    rw[aPp];simp only[gsR,e0,yE,<-hH1,l1,g2,l8a,l8,ckw,g3,l10a,l10b,l10,ckn,g4,st5,st6,st7,l10c,hln];exact aPB (Hb:=H) (pb:=H.length) (zb:=H0.length) (m:=m-1) (aRf _) U hpb U U hN hN2 U p.next.length 0 (m-1) H7 us U U U x7 b7 (by rw[k7 _ (Ne.symm hpb),eU (eU (eU z1 x2) x3) x4]) (hs b4 H7 e4 k7) (λb hb=>aRq hxl (ne2 b hb)) (hs b4 H7 w4 k7) (λb hb=>aRq hxl (aRq hx2l (nw3 b hb))) n7 (λb hb=>aRq hxl (aRq hx2l (aRq hx3l (nn4 b hb)))) us2 (λj u xs hu hx=>by
        have hi:=us3 j u xs hu hx;have hlt: ∀b,cP u.1 b->b<H.length:=λb hb=>by
          rcases hi with⟨_,h2⟩|⟨b',o,cap,h1,_,h3⟩
          · exact absurd h2 (hN0 _ (aRk hx))
          · obtain⟨o',n,c,hh⟩:=hb
            rw[h1] at hh;cases hh;obtain⟨_,_,_,_,_,_,h4⟩:=h3 (hN0 _ (aRk hx));exact dT h4
        exact⟨hi.E4 λb hb _=>x7.2 b (hlt b hb) id,λb h1 h2=>by have:=hlt b h2;have:=nn4 b h1;omega,λh=>by omega⟩) ..
  obtain⟨H',u,h1,rfl,h2⟩:=main
  exact⟨H',_,_,_,h1,h2⟩
end
end Go.Proofs.YtndnnndnhnlkdaaGreatDoor
namespace Go.Abs
open M
theorem Ay {α:Type}{f:Nat->List α}{L:Nat}: ∀{a:Nat},(∀i,i<a->(f i).length=L)->((List.range a).flatMap f).length=a*L
 |0,_=>by simp
 |a+1,h=>by
  rw[aRJ,List.flatMap_append,aRm,Ay (a:=a) (λi hi=>h i U)]
  simp[h a U,Nat.add_mul]
theorem aPD (c:Cfg)(s:NS):(qD c s).length=2*c.by'.length*c.lanes:=by
 unfold qD;rw[Ay (L:=c.lanes*2) λi _=>Ay (L:=2) λk _=>rfl]
 rw[Nat.mul_comm c.lanes 2,<-Nat.mul_assoc,Nat.mul_comm c.by'.length 2]
theorem aPE (f:Frm):(sH f).length<=12:=by
 unfold sH Cx;split
 ·rw[aRD,aLp]
  split<;>omega
 ·simp
def OutOk (c:Cfg)(os:kO):Prop:= ∀o∈os,o.1∈c.by'/\o.2.length<=12
theorem OutOk.Q3 (c:Cfg):OutOk c []:=λ_ h=>by cases h
theorem OutOk.app {c:Cfg}{a b:kO}(h1:OutOk c a)(h2:OutOk c b):OutOk c (a++b):=λo ho=>(List.mem_append.mp ho).elim (h1 o) (h2 o)
theorem aB6 {c:Cfg}{o:Nat}(h1:1<=o)(h2:o<c.aI)(f:Frm):(uI c o f).1∈c.by'/\(uI c o f).2.length<=12:=by
 unfold Cfg.aI at h2;unfold uI;refine⟨?_,aPE f⟩;simp only;rw[aRe,aRc U,aRD]
 exact List.getElem_mem _
theorem aPH {c:Cfg}(s:NS)(i:Nat){o:Nat}(h2:o<c.aI):OutOk c (oQ c s i o).2:=by
 unfold oQ;split
 ·exact OutOk.Q3 c
 ·simp only
  split
  ·exact OutOk.Q3 c
  ·rename_i hne
   intro x hx;rw[List.mem_singleton] at hx;subst hx;exact aB6 U h2 _
theorem aB5 {c:Cfg}{m:List Int}(hm: ∀x∈m,x= -1∨0<=x/\x<(c.aI:Int))(hp:0<c.aI): ∀(l:List Nat)(s:NS×kO),OutOk c s.2->OutOk c (qF c m l s).2
 |[],_,h=>h
 |i::l,s,h=>by
  unfold qF;refine aB5 hm hp l _ ?_;split
  ·rename_i h0
   have:(m.getD i 0).toNat<c.aI:=by
    rw[aRe];cases hg:m[i]? with
    |none=>simpa using hp
    |some x=>
     rcases hm x (aRk hg) with h1|h1
     ·subst h1
      simpa using hp
     ·simp only[aRD]
      omega
   exact h.app (aPH _ _ this)
  ·exact h
theorem aPF (c:Cfg)(s:NS):OutOk c (qD c s):=by
 intro o ho;unfold qD at ho;obtain⟨i,hi,ho⟩:=List.mem_flatMap.mp ho;obtain⟨k,hk,ho⟩:=List.mem_flatMap.mp ho;have hi:=aRO.mp hi;simp only[aRt,aRA,or_false] at ho;rcases ho with rfl|rfl<;>exact aB6 U (by unfold Cfg.aI;omega) _
theorem aPK {c:Cfg}{t:Nat}{s:NS}(hc:c.ok)(h:NInv c t s):OutOk c (sJ c s).2:=by
 have h1:=h.aL0 hc;have hp:0<c.aI:=by unfold Cfg.aI;omega
 have h2:=MatI.aAl (req:=mI c (Go.Abs.lA c s)) (rounds:=c.rounds) hp h1.gl h1.al h1.g h1.a;unfold sJ;simp only;have h3:=aB5 h2.m hp (List.range c.aI) ({Go.Abs.lA c s with g:=(o6 (mI c (Go.Abs.lA c s)) c.aI c.rounds (Go.Abs.lA c s).g (Go.Abs.lA c s).a).g,a:=(o6 (mI c (Go.Abs.lA c s)) c.aI c.rounds (Go.Abs.lA c s).g (Go.Abs.lA c s).a).a},[]) (OutOk.Q3 c);split
 ·exact h3.app (aPF _ _)
 ·exact h3
theorem aPG (c:Cfg)(s:NS)(i o:Nat):(oQ c s i o).2.length<=1:=by
 unfold oQ;split
 ·exact Nat.zero_le _
 ·simp only
  split
  ·exact Nat.zero_le _
  ·exact aRf _
theorem aB4 (c:Cfg)(m:List Int): ∀(l:List Nat)(s:NS×kO),(qF c m l s).2.length<=l.length+s.2.length
 |[],s=>by simp[qF]
 |i::l,s=>by
  unfold qF;refine aRq (aB4 c m l _) ?_;split
  ·have:=aPG c s.1 i (m.getD i 0).toNat
   simp only[aRm,aRw];omega
  ·simp only[aRw]
   omega
theorem aPJ {c:Cfg}(hc:c.ok)(s:NS):(sJ c s).2.length<=36:=by
 have h5:=hc.by';have h3:=hc.lanes.2;have h1:=aB4 c (o6 (mI c (Go.Abs.lA c s)) c.aI c.rounds (Go.Abs.lA c s).g (Go.Abs.lA c s).a).m (List.range c.aI) ({Go.Abs.lA c s with g:=(o6 (mI c (Go.Abs.lA c s)) c.aI c.rounds (Go.Abs.lA c s).g (Go.Abs.lA c s).a).g,a:=(o6 (mI c (Go.Abs.lA c s)) c.aI c.rounds (Go.Abs.lA c s).g (Go.Abs.lA c s).a).a},[]);rw[aRE] at h1;have h2:2*c.by'.length*c.lanes<=2*5*3:=Nat.mul_le_mul U h3
 unfold sJ;simp only;unfold Cfg.aI at h1;simp only[List.length_nil] at h1;split
 ·rw[aRm,aPD]
  unfold Cfg.aI;omega
 ·unfold Cfg.aI
  omega
structure FS where
 n:Nat->NS
 l:Nat->List (List UInt8)
 k:Nat
structure FC where
 c:Nat->Cfg
 N:Nat
 hs:List (Int×Int)
 bag:Nat
def aPI (room:Nat)(bss:List (List UInt8))(bs:List UInt8):List (List UInt8):=if bss.length=room then bss else bss++[bs]
def aB3 (C:FC)(v w:Nat):Nat:=C.hs.idxOf ((v:Int),(w:Int))
def uM (C:FC)(v:Nat)(l:Nat->List (List UInt8))(o:Nat×List UInt8):Nat->List (List UInt8):=up1 l (aB3 C v o.1) (aPI C.bag (l (aB3 C v o.1)) o.2)
def uL (C:FC)(s:FS)(v:Nat):kO:=(sJ (C.c v) (s.n v)).2
def rC (C:FC)(s:FS)(i v:Nat):NS:=if v<i then(sJ (C.c v) (s.n v)).1 else s.n v
def Az (C:FC)(s:FS)(i:Nat):Nat->List (List UInt8):=(List.range i).foldl (λl v=>(uL C s v).foldl (uM C v) l) s.l
def yZ (C:FC)(s:FS):FS:=⟨rC C s C.N,Az C s C.N,s.k+1⟩
def FS.wV (C:FC):FS:=⟨λv=>NS.m9 (C.c v),λ_=>[],0⟩
end Go.Abs
noncomputable section
namespace Go.Proofs.YtndnnndnhnlkdaaGreatDoor
open Go.Proofs.Tryz
open Go.Abs Go.Abs.M
variable (O:aG)(L:LV)(k:KV)(N P Q R S T U V W X Y Z a b c d e f g i j l m n o p q r s t u v w x y z A B C D E F G H I J zz zy zx zw zv zu zt zs zr zq zp zo zn zm zl zk zj zi zh zg zf ze zd zc zb za yz yy yx yw yv yu yt ys yr yq yp yo yn ym yl yk yj yi yh yg yf ye yd yc yb ya xz xy xx xw xv xu xt xs xr xq xp xo xn xm xl xk xj xi xh xg xf xe xd xc xb xa wz wy wx ww wv wu wt ws wr wq wp wo wn wm wl wk wj wi wh wg wf we wd wc wb wa vz:Value)(h:aE)
def Q4:Code:=bU [1,1,0,1,0,0] (cE prog 36)
def Q5:KV:=(dP 0 (dY prog O L (bU [1,1,1] (cE prog 36)) (eQ prog Tryz.f36)))
theorem aPM:Q5 O L (.exit 0) [a,b,c,d,e,f,g,i,j,l,m,n,o,p,q,r,s,t,u,v,w,x] h=some (aL [d],h):=by kernel_rfl
theorem aB8:aM prog O L Q4 k [a,b,c,d,e,f,g,i,j,l,m,n,o,p,q,r,s,t,u,v,w,x] h=ob (aF (bin prog .lss 3 n m) h) λaa h=>aN aa (ob (aF (bS 1 l n) h) λab h=>ob (ld1 ab h) λac h=>ob (O (.func 70) [ac] h) λad h=>ob (dR 22 1 1 [(.slice none 0 0)] [(0,ad)] h) λae h=>ob (app 22 1 24 d ae h) λaf h=>ob (aF (bin prog .add 3 n (.I 1)) h) λag h=>k .normal [a,b,c,af,e,ac,g,i,j,l,m,ag,aa,ab,ac,d,ac,ad,ae,af,ag,x] h) (k (.exit 0) [a,b,c,d,e,f,g,i,j,l,m,n,aa,p,q,r,s,t,u,v,w,x] h):=by kernel_rfl
theorem aPN:cL prog O L 36 [N] h=ob (aF (aT N) h) λaa h=>ob (aF (aJ 0 aa) h) λab h=>ob (ld1 ab h) λac h=>ob (aF (cK ac) h) λad h=>L (aM prog O L Q4) (Q5 O L) [N,undef,(.slice none 0 0),(.slice none 0 0),undef,undef,N,aa,ab,ac,ad,(.I 0),undef,undef,undef,undef,undef,undef,undef,undef,undef,undef] h:=by kernel_rfl
theorem aB9:cL prog O L 70 [N] h=ob (aF (bin prog .eql 22 N (.slice none 0 0)) h) λaa h=>aN aa (some (aL [(.slice none 0 0)],h)) (ob (dR 5 1 0 [(.int .u8 0)] [] h) λab h=>ob (app 5 1 1 ab N h) λac h=>some (aL [ac],h)):=by kernel_rfl
theorem aPL:cL prog O L 20 [N] h=ob (aF (bin prog .lss 3 N (.I 1)) h) λaa h=>ob (gd aa false (c9 N) h) λab h=>ob (gd aa false (aF (bin prog .gtr 3 ab (.I 64))) h) λac h=>ob (aF (dO aa (.bool true) ac) h) λad h=>aN ad (some (aL [(.pointer none)],h)) (ob (aF (bld prog 122 [(1,N)]) h) λae h=>ob (dD 122 (Value.cells ae).toList .fix h) λaf h=>some (aL [af],h)):=by kernel_rfl
theorem aB7:cL prog O L 27 [N,P] h=ob (aF (aT N) h) λaa h=>ob (aF (aJ 0 aa) h) λab h=>ob (ld1 ab h) λac h=>ifB (true) (ob (aF (cK ac) h) λad h=>ob (aF (aT N) h) λae h=>ob (aF (aJ 1 ae) h) λaf h=>ob (ld1 af h) λag h=>ifB (true) (ob (aF (bin prog .eql 3 ad ag) h) λah h=>aN ah (some (aL [(.bool false)],h)) (ob (aF (aT N) h) λai h=>ob (aF (aJ 0 ai) h) λaj h=>ob (ld1 aj h) λak h=>ifB (true) (ob (O (.func 70) [P] h) λal h=>ifB (chk ((ld1 aj) h) ak&&(true)) (ob (dR 22 1 1 [(.slice none 0 0)] [(0,al)] h) λam h=>ob (app 22 1 24 ak am h) λan h=>ifB (true) (ob (aF (aT N) h) λao h=>ob (aF (aJ 0 ao) h) λap h=>ob (stN 1 ap an h) λaq h=>ifB (true) (some (aL [(.bool true)],h)))))))):=by kernel_rfl
end Go.Proofs.YtndnnndnhnlkdaaGreatDoor
end
namespace Go.Proofs.YtndnnndnhnlkdaaGreatDoor.Lk
open Go.Proofs.Tryz
open Go.Abs Go.Abs.M
theorem eBn (a:Addr)(n c:Nat):bin prog .eql 22 (.slice (some a) n c) (.slice none 0 0)=some (.bool false):=by
 have h:prog.underlying 22=some (.slice 5):=by kernel_rfl
 simp[bin,eD,nG,mD,h,eqV]
theorem aPP:bin prog .eql 22 (.slice none 0 0) (.slice none 0 0)=some (.bool true):=by
 have h:prog.underlying 22=some (.slice 5):=by kernel_rfl
 simp[bin,eD,nG,mD,h,eqV]
theorem bL (n:Int):bld prog 122 [(1,.I n)]=some (.agg #[.slice none 0 0,.I n]):=rfl
theorem neRU:22≠5:=by decide
abbrev uN:=Row 22 5
section
variable {pr : gQ} {H : aE} {m : Nat}
theorem aPT {n:Nat}(h:n<=1000000):hP n 1=true:=by simp[hP];omega
theorem aCb {n:Nat}(h:n<=1000000):hP n 24=true:=by simp[hP];omega
theorem aCa (hn:pr (.func 70)=none){u:Value}{bs:List UInt8}(h:Br H u bs)(hl:bs.length<=1000000)(hm:0<m):
  ∃u' H',lvl prog pr m (.func 70) [u] H=some (u',H')/\Ext H H'/\Bo 5 H' u' bs/\ ∀b,p7 u' b->H.length<=b:=by
 rcases h.aFM with rfl|⟨b,o,n,c,rfl⟩
 ·have hb:bs=[]:=by
   rcases h with⟨h,_⟩|⟨_,_,_,_,_,_,h,_⟩
   ·exact h
   ·cases h
  refine⟨.slice none 0 0,H,dH hn hm ?_,Fr.gR _ _,.inl ⟨hb,.inl rfl⟩,λb hl=> ?_⟩
  ·rw[aB9]
   simp only[aPP,r_opt,ob_some,iteV_true,oneOf_one]
  ·obtain⟨o,n,c,hv⟩:=hl
   cases hv
 ·have g0:dR 5 1 0 [.int .u8 0] [] H=some (.slice (some ⟨H.length,0,none⟩) 0 0,H++[.cells [] 5 .row]):=rfl
  have hold: ∀b,b<H.length->(H++[Blk.cells [] 5 .row])[b]? =H[b]? :=λb hb=>aRd hb
  have hbr:Br (H++[Blk.cells [] 5 .row]) (.slice (some ⟨b,o,none⟩) n c) bs:=by
   rcases h with h|⟨b',o',c',cs,e,k,h1,h2,h3,h4⟩
   ·exact .inl h
   ·exact .inr ⟨b',o',c',cs,e,k,h1,h2,by rw[hold _ (aRa.mp h3).1,h3],h4⟩
  obtain⟨v',H',g1,g2,g3,g4,g5⟩:=Kt (by':=1) (v:= .slice (some ⟨H.length,0,none⟩) 0 0) (n:=0) (cs:=[]) (e:=5) (sz:=1) (H:=H++[Blk.cells [] 5 .row])
   ⟨rfl,.inr ⟨H.length,0,[],rfl,aRf _,rfl,by simp⟩⟩ hbr.aFQ hbr.aFP (by rw[aRv];exact aPT hl) (aFS bs) aC
  simp only[aRm,aRw,List.length_nil] at g3 g4 g5;refine⟨v',H',dH hn hm ?_,⟨by omega,λb hb _=> ?_⟩,Bo.aFV (by simpa using g2),λb hl=> ?_⟩
  ·rw[aB9]
   simp only[eBn,r_opt,ob_some,iteV_false,oneOf_one,g0,g1]
  ·rw[g4 b U (λ⟨o,n,c,hh⟩=>by cases hh;omega),hold b hb]
  ·obtain⟨o,n,c,hv⟩:=hl
   rcases g5 b ⟨o,_,c,hv⟩ with⟨o,n,c,hh⟩|hh
   ·cases hh
    exact aRf _
   ·omega
structure IsLink (H:aE)(a:Nat)(bss:List (List UInt8))(room:Nat)(F:Nat->Prop):Prop where
 ex: ∃v G,H[a]? =some (.cells [v,.I room] 122 .fix)/\uN H v bss G/\ ¬G a/\ ∀b,G b->F b
 at_:F a
 lt: ∀b,F b->b<H.length
 few:bss.length<=room/\room<=64
 small: ∀bs∈bss,bs.length<=100000
theorem IsLink.A4 {H':aE}{a:Nat}{bss:List (List UInt8)}{room:Nat}{F:Nat->Prop}(h:IsLink H a bss room F)(hk: ∀b,F b->H'[b]? =H[b]?)(hl:H.length<=H'.length):IsLink H' a bss room F:=by
 obtain⟨v,G,h1,h2,h3,h4⟩:=h.ex
 exact⟨⟨v,G,by rw[hk a h.at_,h1],h2.E3 (λb hb=>hk b (h4 b hb)) hl,h3,h4⟩,h.at_,λb hb=>aRp (h.lt b hb) hl,h.few,h.small⟩
theorem IsLink.aPO {a:Nat}{bss:List (List UInt8)}{room:Nat}{F F':Nat->Prop}(h:IsLink H a bss room F)(hF: ∀b,F b->F' b)(hl: ∀b,F' b->b<H.length):IsLink H a bss room F':=by
 obtain⟨v,G,h1,h2,h3,h4⟩:=h.ex
 exact⟨⟨v,G,h1,h2,h3,λb hb=>hF b (h4 b hb)⟩,hF a h.at_,hl,h.few,h.small⟩
theorem aPR (hn:pr (.func 20)=none)(hm:0<m)(n:Nat)(h:1<=n/\n<=64): ∃H',lvl prog pr m (.func 20) [.I n] H=some (.Q H.length 0,H')/\Ext H H'/\IsLink H' H.length [] n (Nw H H'):=by
 have e1:decide ((n:Int)<1)=false:=aRV U
 have e2:decide (64<(n:Int))=false:=aRV U
 refine⟨H++[.cells [.slice none 0 0,.I n] 122 .fix],dH hn hm ?_,Fr.app _ _ _,⟨⟨.slice none 0 0,λ_=>False,by simp,Row.Vg.mpr (λb hb=>hb.elim),id,λb hb=>hb.elim⟩,⟨aRf _,by simp⟩,λb hb=>hb.2,⟨by simp,h.2⟩,by simp⟩⟩
 rw[aPL];simp only[b_lss,b_gtr,e1,e2,r_opt,r_ret,ob_some,r_gdff,r_gdff2,pick_f,iteV_false,bL,x_newB,oneOf_one];rfl
theorem Q6 (hv:Value)(room:Nat){a:Nat}(h:H[a]? =some (.cells [hv,.I room] 122 .fix)):ld1 (.Q a 0) H=some (hv,H):=by rw[j9,h];rfl
theorem aPQ (hv:Value)(room:Nat){a:Nat}(h:H[a]? =some (.cells [hv,.I room] 122 .fix)):ld1 (.Q a 1) H=some (.I room,H):=by rw[j9,h];rfl
section
variable {a room : Nat} {bss : List (List UInt8)} {F : Nat → Prop}
def Ir (room:Nat)(bss:List (List UInt8))(bs:List UInt8):List (List UInt8):=if bss.length=room then bss else bss++[bs]
theorem aPS (hn:pr (.func 27)=none)(hc:pr (.func 70)=none)(h:IsLink H a bss room F)(hm:100<=m){u:Value}{bs:List UInt8}(hb:Br H u bs)(hl:bs.length<=100000):
  ∃H',lvl prog pr m (.func 27) [.Q a 0,u] H=some (.bool (decide (bss.length<room)),H')/\Fr F H H'/\IsLink H' a (Ir room bss bs) room (Up F H H'):=by
 obtain⟨v,G,h1,h2,h3,h4⟩:=h.ex;have l0:=Q6 v room h1;have l1:=aPQ v room h1;have hlen:=h2.Ku;by_cases hf:bss.length=room
 ·have e1:((bss.length:Int)==(room:Int))=true:=by simp[hf]
  refine⟨H,dH hn U ?_,Fr.gR _ _,?_⟩
  ·rw[aB7]
   have e2:decide (bss.length<room)=false:=aRV U
   simp only[r_nil,r_fAddr,aRv,l0,l1,hlen,b_eql,e1,e2,r_opt,ob_some,ifB_true,iteV_true,oneOf_one]
  ·unfold Ir
   rw[if_pos hf];exact h.aPO (λb hb=> .inl hb) λb hb=>hb.elim (h.lt b) λhx=>hx.2
 ·have hlt:bss.length<room:=by
   have:=h.few.1;omega
  have e1:((bss.length:Int)==(room:Int))=false:=by simp;omega
  have e2:decide (bss.length<room)=true:=aRU hlt;obtain⟨u',H1,c1,c2,c3,c4⟩:=aCa hc hb U (m:=m-1) U
  have ha:=h.lt a h.at_;have h1':H1[a]? =some (.cells [v,.I room] 122 .fix):=by rw[c2.2 a ha id,h1]
  have h2':uN H1 v bss G:=h2.E3 (λb hb=>c2.2 b (h2.wB b hb) id) c2.1
  have l0':=Q6 v room h1';have hck:chk (ld1 (.Q a 0) H1) v=true:=by
   rw[l0'];obtain⟨us,hi⟩:=h2';obtain⟨_,⟨rfl,_⟩|⟨c,cap,rest,rfl,_⟩⟩:=hi.row<;>simp[chk,veq]
  obtain⟨w,H2,v',H3,g1,g2,g3,g4,g5⟩:=h2'.Vh neRU c3 (λb hl hF=>by have:=c4 b hl;have:=h2.wB b hF;omega) (by':=24) (aCb (by have:=h.few;omega)) (.slice none 0 0)
  have hH3:H3[a]? =some (.cells [v,.I room] 122 .fix):=by rw[g5.2 a (by have:=c2.1;omega) h3,h1']
  have hlt3:=(aRa.mp hH3).1;have hst:stN 1 (.Q a 0) v' H3=some (undef,H3.set a (.cells [v',.I room] 122 .fix)):=by
   obtain⟨us,hi⟩:=g4;obtain⟨_,⟨rfl,_⟩|⟨c,cap,rest,rfl,_⟩⟩:=hi.row<;>rw[mE 1 a 0 _ rfl,hH3]<;>rfl
  refine⟨H3.set a (.cells [v',.I room] 122 .fix),dH hn U ?_,⟨by have:=c2.1;have:=g5.1;simp;omega,λb hb hF=> ?_⟩,?_⟩
  ·rw[aB7]
   simp only[r_nil,r_fAddr,aRv,l0,l1,hlen,b_eql,e1,e2,r_opt,ob_some,ifB_true,iteV_false,oneOf_one,c1,hck,Bool.and_true,g1,g3,hst]
  ·rw[o0 (λhx=>hF (by rw[hx];exact h.at_)),g5.2 b (by have:=c2.1;omega) (λhx=>hF (h4 b hx)),c2.2 b hb id]
  ·unfold Ir
   rw[if_neg hf];have hna: ¬Up (λb=>G b∨p7 u' b) H1 H3 a:=by
    rintro ((hx|hx)|hx)
    ·exact h3 hx
    ·have:=c4 a hx
     omega
    ·have:=c2.1
     omega
   refine⟨⟨v',Up (λb=>G b∨p7 u' b) H1 H3,by rw[aRg hlt3],g4.E3 (λb hb=>o0 λhx=>hna (by rw[<-hx];exact hb)) (by simp),hna,λb hb=> ?_⟩,.inl h.at_,λb hb=> ?_,⟨by simp;omega,h.few.2⟩,?_⟩
   ·rcases hb with(hx|hx)|hx
    ·exact .inl (h4 b hx)
    ·exact .inr ⟨c4 b hx,by have:=g4.wB b (.inl (.inr hx));simpa using this⟩
    ·exact .inr ⟨by have:=c2.1;omega,by simpa using hx.2⟩
   ·rcases hb with hb|hb
    ·have:=h.lt b hb
     have:=c2.1;have:=g5.1;simp;omega
    ·exact hb.2
   ·intro x hx
    rcases List.mem_append.mp hx with hx|hx
    ·exact h.small x hx
    ·rw[List.mem_singleton] at hx
     subst hx;exact hl
end
end
section
variable {pr : gQ} {H : aE} {m : Nat}
section
variable {a room : Nat} {bss : List (List UInt8)} {F : Nat → Prop}
end
section
variable (H0 : aE) (w : Value) (bss : List (List UInt8)) (G : Nat → Prop)
theorem aPU (hc:pr (.func 70)=none)(h2:uN H0 w bss G)(hl:bss.length<=100000)(hsm: ∀bs∈bss,bs.length<=100000): ∀(r i k:Nat)(H:aE)(o:Value),bss.length-i=r->i<=bss.length->r<k->0<m->Ext H0 H->uN H o (bss.take i) (Nw H0 H)-> ∀(x0 x1 x2 x4 x5 x6 x7 x8 aS aP aQ aO bB bI aR bJ bM bT:Value),
  ∃v H',aK k (aM prog (lvl prog pr m) (aK m) Q4) (Q5 (lvl prog pr m) (aK m)) [x0,x1,x2,o,x4,x5,x6,x7,x8,w,(.I (bss.length:Nat)),(.I (i:Nat)),aS,aP,aQ,aO,bB,bI,aR,bJ,bM,bT] H=some (v,H')/\Ext H0 H'/\uN H' v bss (Nw H0 H'):=by
 intro r;induction r with
 |zero=>
  intro i k H o hr hi hk hm hE hO;intros;obtain⟨k,rfl⟩:=aB k U
  obtain rfl:i=bss.length:=U
  have e:decide ((bss.length:Int)<bss.length)=false:=by simp
  refine⟨o,H,?_,hE,by rw[List.take_length] at hO;exact hO⟩
  rw[dG,aB8];simp only[b_lss,e,r_opt,ob_some,iteV_false,again_exit];rw[aPM];simp only[oneOf_one]
 |succ r ih=>
  intro i k H o hr hi hk hm hE hO;intros;obtain⟨k,rfl⟩:=aB k U
  have e:decide ((i:Int)<bss.length)=true:=by simp;omega
  have hb:bss[i]? =some bss[i]:=aRc U
  obtain⟨u,p,g1,g2,g3,g4,g5⟩:=h2.Vf hb .i64;have hld:=g3 H (hE.2 p (h2.wB p g2) id);have hub:Br H u bss[i]:=g4.aFK.aFN λb hl=>hE.2 b (h2.wB b (g5 b hl)) id
  obtain⟨u',H1,c1,c2,c3,c4⟩:=aCa hc hub (by have:=hsm _ (List.getElem_mem (show i<bss.length by omega));omega) hm
  have hO1:uN H1 o (bss.take i) (Nw H0 H):=hO.E3 (λb hb=>c2.2 b hb.2 id) c2.1
  have htl:(bss.take i).length=i:=by simp;omega
  obtain⟨w',H2,v',H3,p1,p2,p3,p4,p5⟩:=hO1.Vh neRU c3 (λb hl hF=>by have:=c4 b hl;have:=hF.2;omega) (by':=24) (aCb (by rw[htl];omega)) (.slice none 0 0)
  have e3:=aA (i:=i) U
  have hE3:Ext H0 H3:=⟨by have:=hE.1;have:=c2.1;have:=p5.1;omega,λb hb _=>by
   rw[p5.2 b (by have:=hE.1;have:=c2.1;omega) (λhx=>by have:=hx.1;omega),c2.2 b (by have:=hE.1;omega) id,hE.2 b hb id]⟩
  have htk:bss.take i++[bss[i]]=bss.take (i+1):=by rw[List.take_add_one,hb];rfl
  rw[htk] at p4;have hO3:uN H3 v' (bss.take (i+1)) (Nw H0 H3):=p4.aFW (λb hb=>by
   have h1:=hE.1;have h2:=c2.1;have h3:=p5.1;rcases hb with(hb|hb)|hb
   ·exact⟨hb.1,by have:=hb.2;omega⟩
   ·obtain⟨cs,hcs⟩:=c3.Kr b hb
    have:=(aRa.mp hcs).1
    exact⟨by have:=c4 b hb;omega,by omega⟩
   ·exact⟨by have:=hb.1;omega,hb.2⟩) (λb hb=>hb.2)
  rw[dG,aB8];simp only[b_lss,e,r_opt,ob_some,iteV_true,g1,hld,c1,p1,p3,cU,e3,again_normal];exact ih (i+1) k H3 v' U U U hm hE3 hO3 ..
end
theorem aPV {a room:Nat}{bss:List (List UInt8)}{F:Nat->Prop}(hn:pr (.func 36)=none)(hc:pr (.func 70)=none)(h:IsLink H a bss room F)(hm:100<=m):
  ∃v H',lvl prog pr m (.func 36) [.Q a 0] H=some (v,H')/\Ext H H'/\uN H' v bss (Nw H H'):=by
 obtain⟨v,G,h1,h2,h3,h4⟩:=h.ex;have l0:=Q6 v room h1;have hlen:=h2.Ku;have hf:=h.few;obtain⟨v',H',g1,g2,g3⟩:=aPU (pr:=pr) (m:=m-1) H v bss G hc h2 U h.small bss.length 0 (m-1) H (.slice none 0 0) U U U U (Fr.gR _ _) (Row.Vg.mpr λb hb=>hb.2)
  (.Q a 0) undef (.slice none 0 0) undef undef (.Q a 0) (.Q a 0) (.Q a 0) undef undef undef undef undef undef undef undef undef undef
 refine⟨v',H',dH hn U ?_,g2,g3⟩
 rw[aPN];simp only[r_nil,r_fAddr,aRv,l0,hlen,r_opt,ob_some];exact g1
end
end Go.Proofs.YtndnnndnhnlkdaaGreatDoor.Lk
namespace Go.Proofs.YtndnnndnhnlkdaaGreatDoor
open Go.Proofs.Tryz
open Go.Abs Go.Abs.M
open Classical
def pU (p:PlanD)(ev wv nv hv ns:Value)(mb k:Nat):List Value:=plC p ev wv nv++[hv,ns,.map (some mb),.I (k:Nat)]
structure FL where
 fb:Nat
 hv:Value
 ns:Value
 mb:Nat
 y:Nat->Lay
 lb:Nat->Nat
inductive FP where
 |nd (v:Nat)|lk (h:Nat)|fb|cs
def fG (p:PlanD):FC:=⟨eW p,p.nodes.toNat,dK p,p.bag.toNat⟩
def lkF (p:PlanD)(a:FL)(j:Nat)(e:Ed):Option Value:=if(dK p).idxOf e<j then some (pt (a.lb ((dK p).idxOf e))) else none
structure OwnF (H0 H:aE)(O:FP->Nat->Prop):Prop where
 dis: ∀i j b,O i b->O j b->i=j
 lt: ∀i b,O i b->b<H.length
 old: ∀i b,O i b->H0.length<=b
 ext:Ext H0 H
structure FCst (H:aE)(O:FP->Nat->Prop)(a:FL)(p:PlanD)(ev wv nv:Value)(k n j:Nat):Prop where
 fab:H[a.fb]? =some (.cells (pU p ev wv nv a.hv a.ns a.mb k) 61 .fix)
 fabO:O .fb a.fb
 hops:Hw H a.hv (dK p)
 hopsO: ∀b,cP a.hv b->O .cs b
 nds:Rw ptC 62 1 H a.ns ((List.range n).map λv=>some ⟨(a.y v).nb,0,none⟩)
 ndsO: ∀b,cP a.ns b->O .cs b
 mp:IsMap edV H a.mb (lkF p a j)
 mpO:O .cs a.mb
structure FabG (H0 H:aE)(O:FP->Nat->Prop)(a:FL)(F:Nat->Part->Nat->Prop)(p:PlanD)(ev wv nv:Value)(t:Nat)(s:FS)(n j:Nat):Prop where
 ok:gS p=true
 pv:PV H0 p ev wv nv
 own:OwnF H0 H O
 cst:FCst H O a p ev wv nv s.k n j
 node: ∀v,v<n->NodeAt H0 H (F v) (a.y v) p ev wv nv (eW p v) t (s.n v)
 nodeO: ∀v,v<n-> ∀b,Un (F v) b->O (.nd v) b
 link: ∀h,h<j->Lk.IsLink H (a.lb h) (s.l h) p.bag.toNat (O (.lk h))
abbrev fU (H0 H:aE)(O:FP->Nat->Prop)(a:FL)(F:Nat->Part->Nat->Prop)(p:PlanD)(ev wv nv:Value)(t:Nat)(s:FS):Prop:=FabG H0 H O a F p ev wv nv t s p.nodes.toNat (dK p).length
section
variable {H0 H H' : aE} {O : FP → Nat → Prop} {a : FL} {F : Nat → Part → Nat → Prop} {p : PlanD} {ev wv nv : Value} {t : Nat} {s : FS} {m : Nat}
theorem OwnF.Dj (h:OwnF H0 H O)(i:FP){X X':Nat->Prop}(hX: ∀b,X b->O i b)(hm:Mv X X' H H')(hl: ∀b,X' b->b<H'.length):
  OwnF H0 H' (updI O i X')/\ ∀j,j≠i-> ∀b,O j b-> ¬X b/\H'[b]? =H[b]? :=by
 have key: ∀j,j≠i-> ∀b,O j b-> ¬X b:=λj hj b hb hx=>hj (h.dis j i b hb (hX b hx))
 have k2: ∀j,j≠i-> ∀b,O j b-> ¬X' b:=λj hj b hb hx=>(hm.own b hx).elim (key j hj b hb) λhl=>by have:=h.lt j b hb;omega
 refine⟨⟨λj k b hj hk=> ?_,λj b hj=> ?_,λj b hj=> ?_,⟨aRq h.ext.1 hm.le,λb hb _=> ?_⟩⟩,λj hj b hb=>⟨key j hj b hb,hm.keep b (h.lt j b hb) (key j hj b hb)⟩⟩
 ·by_cases hji:j=i
  ·by_cases hki:k=i
   ·rw[hji,hki]
   ·rw[hji,iC] at hj
    rw[eJ _ _ hki] at hk;exact absurd hj (k2 k hki b hk)
  ·rw[eJ _ _ hji] at hj
   by_cases hki:k=i
   ·rw[hki,iC] at hk
    exact absurd hk (k2 j hji b hj)
   ·rw[eJ _ _ hki] at hk
    exact h.dis j k b hj hk
 ·by_cases hji:j=i
  ·rw[hji,iC] at hj
   exact hl b hj
  ·rw[eJ _ _ hji] at hj
   exact aRp (h.lt j b hj) hm.le
 ·by_cases hji:j=i
  ·rw[hji,iC] at hj
   exact(hm.own b hj).elim (λhx=>h.old i b (hX b hx)) λhl=>aRq h.ext.1 hl
  ·rw[eJ _ _ hji] at hj
   exact h.old j b hj
 ·rw[hm.keep b (aRp hb h.ext.1) (λhx=>by have:=h.old i b (hX b hx);omega),h.ext.2 b hb id]
theorem FCst.Q7 {O':FP->Nat->Prop}{k n j:Nat}(h:FCst H O a p ev wv nv k n j)(h1: ∀b,O .fb b->H'[b]? =H[b]? /\O' .fb b)(h2: ∀b,O .cs b->H'[b]? =H[b]? /\O' .cs b):FCst H' O' a p ev wv nv k n j where
 fab:=by rw[(h1 _ h.fabO).1,h.fab]
 fabO:=(h1 _ h.fabO).2
 hops:=h.hops.eX λb hb=>(h2 b (h.hopsO b hb)).1
 hopsO:=λb hb=>(h2 b (h.hopsO b hb)).2
 nds:=h.nds.eX λb hb=>(h2 b (h.ndsO b hb)).1
 ndsO:=λb hb=>(h2 b (h.ndsO b hb)).2
 mp:=h.mp.yO (h2 _ h.mpO).1
 mpO:=(h2 _ h.mpO).2
theorem NodeAt.aCd {F:Part->Nat->Prop}{y:Lay}{c:Cfg}{t t':Nat}{s:NS}(h:NodeAt H0 H F y p ev wv nv c t s)(ht:t<=t'):NodeAt H0 H F y p ev wv nv c t' s:={h with inv:=h.inv.Ak ht}
theorem FabG.nd (h:fU H0 H O a F p ev wv nv t s){v:Nat}(hv:v<p.nodes.toNat){F':Part->Nat->Prop}{t':Nat}{s':NS}(ht:t<=t')(hn:NodeAt H0 H' F' (a.y v) p ev wv nv (eW p v) t' s')(hm:Mv (Un (F v)) (Un F') H H'):
  fU H0 H' (updI O (.nd v) (Un F')) a (up1 F v F') p ev wv nv t' {s with n:=up1 s.n v s'}:=by
 obtain⟨h1,h2⟩:=h.own.Dj (.nd v) (h.nodeO v hv) hm hn.sep.qU;have hk: ∀j,j≠ .nd v-> ∀b,O j b->H'[b]? =H[b]? /\updI O (.nd v) (Un F') j b:=λj hj b hb=>⟨(h2 j hj b hb).2,by rw[eJ _ _ hj];exact hb⟩
 refine⟨h.ok,h.pv,h1,h.cst.Q7 (hk _ (by simp)) (hk _ (by simp)),λw hw=> ?_,λw hw b hb=> ?_,λk hk'=> ?_⟩
 ·by_cases hwv:w=v
  ·subst hwv
   simp only[up1,if_pos];exact hn
  ·have hne:FP.nd w≠ .nd v:=λhh=>hwv (by injection hh)
   simp only[up1,if_neg hwv]
   exact(NodeAt.aBQ (h.node w hw) h1.ext hm λb hb=>(h2 _ hne b (h.nodeO w hw b hb)).1).1.aCd ht
 ·by_cases hwv:w=v
  ·subst hwv
   rw[iC];simpa only[up1,if_pos] using hb
  ·simp only[up1,if_neg hwv] at hb
   rw[eJ _ _ λhh=>hwv (by injection hh)]
   exact h.nodeO w hw b hb
 ·rw[eJ _ _ (by simp)]
  exact(h.link k hk').A4 (λb hb=>(h2 (.lk k) (by simp) b hb).2) hm.le
theorem FabG.lk (h:fU H0 H O a F p ev wv nv t s){k:Nat}(hk:k<(dK p).length){G':Nat->Prop}{l':List (List UInt8)}(hl:Lk.IsLink H' (a.lb k) l' p.bag.toNat G')(hm:Mv (O (.lk k)) G' H H'):
  fU H0 H' (updI O (.lk k) G') a F p ev wv nv t {s with l:=up1 s.l k l'}:=by
 obtain⟨h1,h2⟩:=h.own.Dj (.lk k) (λ_ hb=>hb) hm hl.lt
 have hkk: ∀j,j≠ .lk k-> ∀b,O j b->H'[b]? =H[b]? /\updI O (.lk k) G' j b:=λj hj b hb=>⟨(h2 j hj b hb).2,by rw[eJ _ _ hj];exact hb⟩
 refine⟨h.ok,h.pv,h1,h.cst.Q7 (hkk _ (by simp)) (hkk _ (by simp)),λw hw=> ?_,λw hw b hb=> ?_,λj hj=> ?_⟩
 ·exact(NodeAt.aBQ (h.node w hw) h1.ext hm λb hb=>(h2 (.nd w) (by simp) b (h.nodeO w hw b hb)).1).1
 ·rw[eJ _ _ (by simp)]
  exact h.nodeO w hw b hb
 ·by_cases hjk:j=k
  ·subst hjk
   simp only[up1,if_pos];rw[iC];exact hl
  ·have hne:FP.lk j≠ .lk k:=λhh=>hjk (by injection hh)
   simp only[up1,if_neg hjk];rw[eJ _ _ hne]
   exact(h.link j hj).A4 (λb hb=>(h2 _ hne b hb).2) hm.le
theorem FabG.aCc {n j:Nat}(h:FabG H0 H O a F p ev wv nv t s n j)(hl:H.length<=H'.length)(hk: ∀i b,O i b->H'[b]? =H[b]?)(he:Ext H0 H'):FabG H0 H' O a F p ev wv nv t s n j:=by
 refine⟨h.ok,h.pv,⟨h.own.dis,λi b hb=>aRp (h.own.lt i b hb) hl,h.own.old,he⟩,h.cst.Q7 (λb hb=>⟨hk _ b hb,hb⟩) (λb hb=>⟨hk _ b hb,hb⟩),λw hw=> ?_,h.nodeO,λj hj=>(h.link j hj).A4 (λb hb=>hk _ b hb) hl⟩
 have hn:=h.node w hw;exact {hn with ext:=he,sep:=⟨λi=>(hn.sep.own i).E6 (vH _ _ _ _ _ _ _ i) hl λb hb=>hk _ b (h.nodeO w hw b ⟨i,hb⟩),hn.sep.sep⟩}
theorem FabG.fQ {n j:Nat}(h:FabG H0 H O a F p ev wv nv t s n j)(he:Ext H H'):FabG H0 H' O a F p ev wv nv t s n j:=
 h.aCc he.1 (λi b hb=>he.2 b (h.own.lt i b hb) id) (h.own.ext.tr he)
theorem FabG.aPW (h:fU H0 H O a F p ev wv nv t s):stN 1 (.Q a.fb 14) (.I (s.k+1:Nat)) H=some (undef,H.set a.fb (.cells (pU p ev wv nv a.hv a.ns a.mb (s.k+1)) 61 .fix))/\
  fU H0 (H.set a.fb (.cells (pU p ev wv nv a.hv a.ns a.mb (s.k+1)) 61 .fix)) O a F p ev wv nv t {s with k:=s.k+1}:=by
 have hb:=h.cst.fab;obtain⟨H',hH'⟩: ∃H',H'=H.set a.fb (.cells (pU p ev wv nv a.hv a.ns a.mb (s.k+1)) 61 .fix):=⟨_,rfl⟩;have hst:stN 1 (.Q a.fb 14) (.I (s.k+1:Nat)) H=some (undef,H'):=by rw[hH'];exact mZ hb aC (by simp[pU,plC])
 have hk: ∀b,b≠a.fb->H'[b]? =H[b]? :=λb hb=>by rw[hH',aRb (λhh=>hb hh.symm)]
 have hne: ∀j,j≠ .fb-> ∀b,O j b->b≠a.fb:=λj hj b hb hh=>hj (h.own.dis j .fb b hb (by rw[hh];exact h.cst.fabO))
 have hl:H'.length=H.length:=by rw[hH',List.length_set]
 rw[<-hH'];refine⟨hst,⟨h.ok,h.pv,⟨h.own.dis,λi b hb=>by rw[hl];exact h.own.lt i b hb,h.own.old,?_⟩,?_,λw hw=> ?_,h.nodeO,λj hj=>(h.link j hj).A4 (λb hb=>hk b (hne _ (by simp) b hb)) U⟩⟩
 ·rw[hH']
  exact nM h.own.ext (h.own.old _ _ h.cst.fabO)
 ·have c:=h.cst
  exact⟨by rw[hH'];exact fS hb,c.fabO,c.hops.eX λb hb=>hk b (hne _ (by simp) b (c.hopsO b hb)),c.hopsO,c.nds.eX λb hb=>hk b (hne _ (by simp) b (c.ndsO b hb)),c.ndsO,c.mp.yO (hk _ (hne _ (by simp) _ c.mpO)),c.mpO⟩
 ·have hn:=h.node w hw
  exact {hn with ext:=by rw[hH'];exact nM h.own.ext (h.own.old _ _ h.cst.fabO),sep:=⟨λi=>(hn.sep.own i).E6 (vH _ _ _ _ _ _ _ i) U λb hb=>hk b (hne _ (by simp) b (h.nodeO w hw b ⟨i,hb⟩)),hn.sep.sep⟩}
end
section
variable {H0 H H' : aE} {O : FP → Nat → Prop} {a : FL} {F : Nat → Part → Nat → Prop} {p : PlanD} {ev wv nv : Value} {t : Nat} {s : FS} {m : Nat}
theorem FabG.ld (h:fU H0 H O a F p ev wv nv t s)(j:Nat)(v:Value)(hv:(pU p ev wv nv a.hv a.ns a.mb s.k)[j]? =some v):ld1 (.Q a.fb j) H=some (v,H):=dI h.cst.fab hv
theorem FabG.rE (h:fU H0 H O a F p ev wv nv t s): ∃N,OkP p N/\p.nodes.toNat=N:=by
 obtain⟨N,hN⟩:=tB h.ok
 exact⟨N,hN,by have:=hN.hn;omega⟩
def tG (p:PlanD)(a:FL)(v:Int):Value:=if 0<=v/\v<p.nodes then pt (a.y v.toNat).nb else .pointer none
def y5 (p:PlanD)(a:FL)(h:Int):Value:=if 0<=h/\h<(dK p).length then pt (a.lb h.toNat) else .pointer none
theorem It (h:fU H0 H O a F p ev wv nv t s)(hm:10<m)(v:Int):lvl prog pkN m (.func 21) [pt a.fb,.I v] H=some (tG p a v,H):=by
 obtain⟨N,hN,hNe⟩:=h.rE;have hn:=hN.hn;have l12:=h.ld 12 a.ns rfl;have hlen:=h.cst.nds.qT;rw[aRo,aRE,hNe] at hlen;have hat:lvl prog pkN (m-1) (.func 56) [a.ns,.I v] H=some (tG p a v,H):=by
  refine dH (cV rfl) U ?_
  rw[aPt];unfold tG;by_cases c1:v<0
  ·have d1:decide (v<0)=true:=aRU c1
   rw[if_neg U]
   simp only[gsR,d1]
  ·have d1:decide (v<0)=false:=aRV c1
   by_cases c2:(N:Int)<=v
   ·have d2:decide ((N:Int)<=v)=true:=aRU c2
    rw[if_neg U]
    simp only[gsR,d1,hlen,d2]
   ·have d2:decide ((N:Int)<=v)=false:=aRV c2
    rw[if_pos U]
    obtain⟨k,rfl⟩: ∃k:Nat,v=k:=⟨v.toNat,by omega⟩
    obtain⟨b,o,g1,_,g3⟩:=h.cst.nds.rs.fV Qn (i:=k) (x:=some ⟨(a.y k).nb,0,none⟩) (by rw[aRn,aRS U];rfl) .i64
    have l1:=(g3 H rfl).2.1 0 _ rfl;rw[Nat.add_zero] at l1;simp only[gsR,d1,hlen,d2,g1,l1,aRC]
 refine dH (cV rfl) U ?_
 rw[aPq];simp only[gsR,l12,hat]
theorem Q8:KeyC (.str [true,true]) edV:=⟨λx y=>by
 obtain⟨x1,x2⟩:=x;obtain⟨y1,y2⟩:=y;simp[edV,edC,kS,eqT,Bool.beq_eq_decide_eq,Bool.decide_and]⟩
theorem Q9 (h:fU H0 H O a F p ev wv nv t s)(hm:10<m)(k:Int):lvl prog pkN m (.func 10) [pt a.fb,.I k] H=some (y5 p a k,H):=by
 have l11:=h.ld 11 a.hv rfl;have l13:=h.ld 13 (.map (some a.mb)) rfl;have hlen:=h.cst.hops.qT;refine dH (cV rfl) U ?_
 rw[aPj];unfold y5;by_cases c1:k<0
 ·have d1:decide (k<0)=true:=aRU c1
  rw[if_neg U]
  simp only[gsR,d1]
 ·have d1:decide (k<0)=false:=aRV c1
  by_cases c2:((dK p).length:Int)<=k
  ·have d2:decide (((dK p).length:Int)<=k)=true:=aRU c2
   rw[if_neg U]
   simp only[gsR,d1,l11,hlen,d2]
  ·have d2:decide (((dK p).length:Int)<=k)=false:=aRV c2
   rw[if_pos U]
   obtain⟨j,rfl⟩: ∃j:Nat,k=j:=⟨k.toNat,by omega⟩
   have hj:(dK p)[j]? =some ((dK p)[j]' U):=aRc _
   obtain⟨b,o,g1,_,g3⟩:=h.cst.hops.rs.fV p8 hj .i64;have l2:ldN 2 (.Q b o) H=some (edV ((dK p)[j]' U),H):=(g3 H rfl).1
   have g:=h.cst.mp.yN Q8 ((dK p)[j]' U) (.pointer none)
   have hix:(dK p).idxOf ((dK p)[j]' U)=j:=by
    obtain⟨N,hN,_⟩:=h.rE;have hnd:=(wL hN).1;exact List.Nodup.idxOf_getElem hnd j U
   have hf:lkF p a (dK p).length ((dK p)[j]' U)=some (pt (a.lb j)):=by
    unfold lkF;rw[hix,if_pos U]
   rw[hf,aRD] at g;simp only[gsR,d1,l11,hlen,d2,l13,g1,l2,g,aRC]
theorem aCe (h:fU H0 H O a F p ev wv nv t s)(hm:10<m): ∃u H',lvl prog pkN m (.func 23) [pt a.fb] H=some (u,H')/\Ext H H'/\Hw H' u (dK p)/\New H u:=by
 have l11:=h.ld 11 a.hv rfl;have h36:=uC p;obtain⟨u,H',g1,g2⟩:=aPz h.cst.hops.rs U (m:=m-1) U
 refine⟨u,H',dH (cV rfl) U ?_,g2⟩
 rw[aPr];simp only[gsR,l11,g1]
def uO (p:PlanD)(x:Pkt)(s:FS):Nat×FS:=
 if 0<=x.src/\x.src<p.nodes then let r:=qE (eW p x.src.toNat) x (s.n x.src.toNat);(r.1,{s with n:=up1 s.n x.src.toNat r.2}) else(1,s)
def Frd (O O':FP->Nat->Prop)(H H':aE):Prop:= ∀b,b<H.length->(∀i,¬O i b)->H'[b]? =H[b]? /\ ∀i,¬O' i b
theorem A5 {X X':Nat->Prop}{i:FP}(hX: ∀b,X b->O i b)(hm:Mv X X' H H'){b:Nat}(hb:b<H.length)(h: ∀j,¬O j b):H'[b]? =H[b]? /\ ∀j,¬updI O i X' j b:=by
 refine⟨hm.keep b hb λhx=>h i (hX b hx),λj hj=> ?_⟩
 by_cases hji:j=i
 ·rw[hji,iC] at hj
  exact(hm.own b hj).elim (λhx=>h i (hX b hx)) λhl=>by omega
 ·rw[eJ _ _ hji] at hj
  exact h j hj
theorem aCf (h:fU H0 H O a F p ev wv nv t s)(hm:100<m)(x:Pkt)(hb:0<=x.body/\x.body<4294967296): ∃H' O' F',lvl prog pkN m (.func 7) [pt a.fb,x.dV] H=some (.int .u16 (uO p x s).1,H')/\fU H0 H' O' a F' p ev wv nv t (uO p x s).2/\Frd O O' H H':=by
 obtain⟨N,hN,hNe⟩:=h.rE;have hn:=hN.hn;obtain⟨H1,hH1⟩:=aD (H++[eT x]);have x1:Ext H H1:=by rw[hH1];exact Fr.app _ _ _
 have h1:=h.fQ x1;have b1:H1[H.length]? =some (eT x):=by rw[hH1];exact eY _ _
 have e1:H++[Blk.cells (Value.cells x.dV).toList 39 .fix]=H1:=by rw[hH1];rfl
 have l0:ld1 (.Q H.length 0) H1=some (.I x.src,H1):=dI b1 rfl;have l4:ldN 4 (.Q H.length 0) H1=some (x.dV,H1):=qA b1 (aRf 4);have g:=It h1 (m:=m-1) U x.src
 unfold uO;by_cases c:0<=x.src/\x.src<p.nodes
 ·rw[if_pos c]
  have hv:tG p a x.src=pt (a.y x.src.toNat).nb:=if_pos c;rw[hv] at g;obtain⟨H2,F2,g2,h2,m2⟩:=aNX (h1.node x.src.toNat U) (m:=m-1) U x hb
  have n1:=λa=>aPx 62 a (by kernel_rfl)
  refine⟨H2,_,_,dH (cV rfl) U ?_,h1.nd U (aRf _) h2 m2,λb hb ho=> ?_⟩
  ·rw[aB0]
   simp only[gsR,e1,l0,g,n1,l4,g2]
  ·have:=A5 (h1.nodeO x.src.toNat U) m2 (aRp hb x1.1) ho
   exact⟨by rw[this.1,x1.2 b hb id],this.2⟩
 ·rw[if_neg c]
  have hv:tG p a x.src= .pointer none:=if_neg c;rw[hv] at g;have n1:bin prog .neq 62 (.pointer none) (.pointer none)=some (.bool false):=by kernel_rfl
  refine⟨H1,_,_,dH (cV rfl) U ?_,h1,λb hb ho=>⟨x1.2 b hb id,ho⟩⟩
  rw[aB0];simp only[gsR,e1,l0,g,n1];rfl
end
section
variable {H0 H H' : aE} {O : FP → Nat → Prop} {a : FL} {F : Nat → Part → Nat → Prop} {p : PlanD} {ev wv nv : Value} {t : Nat} {s : FS} {m : Nat}
theorem Bo.rs' {u:Value}{bs:List UInt8}(h:Bo 5 H u bs):Bs H u bs:=by
 rcases h with⟨rfl,rfl|⟨b,o,c,rfl⟩⟩|⟨b,c,rest,rfl,h2,h3⟩
 ·exact .inl ⟨rfl,rfl⟩
 ·exact .inr ⟨b,o,c,rfl,Nat.zero_le _,λhne=>absurd rfl hne⟩
 ·exact .inr ⟨b,0,c,rfl,h2.2,λ_=>⟨_,_,[],rest,rfl,λ_=>rfl,by rw[h3,uJ];rfl⟩⟩
theorem Iv {X:Nat->Prop}(h:Fr X H H'):Mv X (Up X H H') H H':=⟨h.1,λ_ hb=>hb.imp id (·.1),λb hb hx=>h.2 b hb hx⟩
theorem aP4 (hok:gS p=true){k:Nat}{e:Ed}(he:(dK p)[k]? =some e): ∃v w:Nat,e=((v:Int),(w:Int))/\v<p.nodes.toNat/\w<p.nodes.toNat:=by
 obtain⟨N,hN⟩:=tB hok;have hn:=hN.hn;have hm:=aRk he;rw[(wL hN).2,Ck hN.ve hN.h6] at hm;have:=zZ hN.ve hm
 exact⟨e.1.toNat,e.2.toNat,Prod.ext (by simp only;omega) (by simp only;omega),by omega,by omega⟩
theorem FabG.aPX {t':Nat}(h:fU H0 H O a F p ev wv nv t s)(ht:t<=t'):fU H0 H O a F p ev wv nv t' s:={h with node:=λv hv=>(h.node v hv).aCd ht}
def Iu (O:FP->Nat->Prop)(ob b:Nat):Prop:=ob<b/\ ∀j,¬O j b
structure TickI (H0 H:aE)(O:FP->Nat->Prop)(a:FL)(F:Nat->Part->Nat->Prop)(p:PlanD)(ev wv nv:Value)(t:Nat)(fs:FS)(ob:Nat)(us:List SV)(s0:FS)(i:Nat):Prop where
 fab:fU H0 H O a F p ev wv nv t fs
 row:Rw sC 72 1 H (.slice (some ⟨ob,0,none⟩) p.nodes.toNat p.nodes.toNat) us
 obf: ∀j,¬O j ob
 ob0:H0.length<=ob
 outs: ∀j,j<i-> ∃(u:SV)(w:List (Nat×Value)),us[j]? =some u/\OutR H (Iu O ob) u.1 w (uL (fG p) s0 j)
variable {fs s0 : FS} {ob : Nat} {us : List SV} {T i : Nat}
theorem aCg {ob n c b:Nat}(h:cP (.slice (some ⟨ob,0,none⟩) n c) b):b=ob:=by
 obtain⟨_,_,_,hh⟩:=h;cases hh;rfl
theorem TickI.obl (h:TickI H0 H O a F p ev wv nv t fs ob us s0 i)(hN:0<p.nodes.toNat):ob<H.length:=h.row.gM ⟨0,_,_,rfl⟩
theorem TickI.mv {F':Nat->Part->Nat->Prop}{t':Nat}{fs':FS}(h:TickI H0 H O a F p ev wv nv t fs ob us s0 i)(k:FP){X X':Nat->Prop}(hX: ∀b,X b->O k b)(hm:Mv X X' H H')(hf:fU H0 H' (updI O k X') a F' p ev wv nv t' fs'):TickI H0 H' (updI O k X') a F' p ev wv nv t' fs' ob us s0 i:=by
 obtain⟨N,hN,hNe⟩:=h.fab.rE;have hob:=h.obl (by have:=hN.h2;omega)
 have hfo:=A5 hX hm hob h.obf;refine⟨hf,h.row.eX λb hb=> ?_,hfo.2,h.ob0,λj hj=> ?_⟩
 ·rw[aCg hb]
  exact hfo.1
 ·obtain⟨u,w,h1,h2⟩:=h.outs j hj
  exact⟨u,w,h1,h2.yY λb hb ⟨h3,h4⟩=>⟨(A5 hX hm hb h4).1,h3,(A5 hX hm hb h4).2⟩⟩
theorem TickI.aPY (h:TickI H0 H O a F p ev wv nv t fs ob us s0 i)(he:Ext H H'):TickI H0 H' O a F p ev wv nv t fs ob us s0 i:=
 ⟨h.fab.fQ he,pF h.row he,h.obf,h.ob0,λj hj=>by
  obtain⟨u,w,h1,h2⟩:=h.outs j hj
  exact⟨u,w,h1,h2.yY λb hb h3=>⟨he.2 b hb id,h3⟩⟩⟩
theorem aPZ {v w:Nat}(hok:gS p=true)(h:w∈(eW p v).by'):((v:Int),(w:Int))∈dK p:=by
 obtain⟨N,hN⟩:=tB hok;rw[(wL hN).2,Ck hN.ve hN.h6];obtain⟨z,hz,rfl⟩:=aRN.mp (show w∈(bes p.edges v).map Int.toNat from h)
 have:=zZ hN.ve hz;have e:((z.toNat:Nat):Int)=z:=U
 simp only[e];exact hz
theorem aP0 {v:Nat}{lv:Value}{w:List (Nat×Value)}{outs:kO}(hv:v<p.nodes.toNat)(hoo:OutOk (eW p v) outs)(hwl:w.length=outs.length)(hw5:w.length<1000000)(hm:1000<m){K:Ex->K (Value×aE)}{Q:aE->Value->Prop}
  (hK: ∀(H':aE)(O':FP->Nat->Prop),TickI H0 H' O' a F p ev wv nv T {fs with l:=outs.foldl (uM (fG p) v) fs.l} ob us s0 p.nodes.toNat-> ∀(x1 x2 x3 x4 x5 x6 x7 x8 x9 bQ cG aS aP aQ aO bB bI aR bJ bM bT bN bP aU aV aW aX aY aZ bA bH bO bV cC bY b9 cA cD cF cM cN cO cQ cW cX cY cS cT cZ dA dE dB dC dF dL dM dN dQ dZ eA eE eF eG eH:Value),∃H2 u2,Qs (lvl prog pkN m) (aK m) K (pt a.fb) x1 x2 x3 x4 x5 x6 x7 x8 x9 bQ cG aS aP aQ aO bB bI aR bJ bM bT bN bP aU aV aW aX aY aZ bA bH bO bV (.slice (some ⟨ob,0,none⟩) p.nodes.toNat p.nodes.toNat) (.I (p.nodes.toNat:Nat)) (.I (v:Nat)) cC bY b9 cA cD cF cM cN cO cQ cW cX cY cS cT cZ dA dE dB dC dF dL dM dN dQ dZ eA eE eF eG eH H'=some (u2,H2)/\Q H2 u2):
  ∀(q i l:Nat)(H:aE)(O:FP->Nat->Prop),w.length-i=q->i<=w.length->q<l->TickI H0 H O a F p ev wv nv T {fs with l:=(outs.take i).foldl (uM (fG p) v) fs.l} ob us s0 p.nodes.toNat->OutR H (Iu O ob) lv w outs-> ∀(x1 x2 x3 x4 x5 x7 x8 x9 bQ cG aS aP aQ aO bB bI aR bJ bM bT bN bP aU aV aW aX aY aZ bA bH bO bV cC bY b9 cA cN cO cQ cW cX cY cS cT cZ dA dE dB dC dF dL dM dN dQ dZ eA eE eF eG eH:Value),
  ∃H2 u2,aK l (aM prog (lvl prog pkN m) (aK m) Qr) (Qv (lvl prog pkN m) (aK m) K) [(pt a.fb),x1,x2,x3,x4,x5,(.I (v:Nat)),x7,x8,x9,bQ,cG,aS,aP,aQ,aO,bB,bI,aR,bJ,bM,bT,bN,bP,aU,aV,aW,aX,aY,aZ,bA,bH,bO,bV,(.slice (some ⟨ob,0,none⟩) p.nodes.toNat p.nodes.toNat),(.I (p.nodes.toNat:Nat)),(.I (v:Nat)),cC,bY,b9,cA,lv,(.I (w.length:Nat)),(.I (i:Nat)),cN,cO,cQ,cW,cX,cY,cS,cT,cZ,dA,dE,dB,dC,dF,dL,dM,dN,dQ,dZ,eA,eE,eF,eG,eH] H=some (u2,H2)/\Q H2 u2:=by
 intro q;induction q with
 |zero=>
  intro i l H O hq hi hl h hR;intros;obtain⟨l,rfl⟩:=aB l U
  obtain rfl:i=w.length:=U
  have e:decide ((w.length:Int)<(w.length:Nat))=false:=by simp
  rw[hwl,List.take_length] at h;rw[dG,aBT];simp only[gsR,e];rw[aPm];exact hK H O h ..
 |succ q ih=>
  intro i l H O hq hi hl h hR;intros;obtain⟨l,rfl⟩:=aB l U
  have e:decide ((i:Int)<(w.length:Nat))=true:=aRU U
  have e3:=aA (i:=i) U
  obtain⟨u,hu⟩: ∃u,w[i]? =some u:=⟨_,aRc U⟩
  obtain⟨o,ho⟩: ∃o,outs[i]? =some o:=⟨_,aRc U⟩
  obtain⟨u1,u2,u3⟩:=hR.at_ i u o hu ho;obtain⟨hto,h12⟩:=hoo o (aRk ho);have hmem:=aPZ h.fab.ok hto;obtain⟨k,hk⟩:=aD ((dK p).idxOf ((v:Int),(o.1:Int)));have hkl:k<(dK p).length:=by rw[hk];exact List.idxOf_lt_length_of_mem hmem
  have hf:lkF p a (dK p).length ((v:Int),(o.1:Int))=some (pt (a.lb k)):=by
   unfold lkF;rw[<-hk,if_pos hkl]
  obtain⟨b,ofs,q1,_,q3⟩:=hR.rw_.rs.fV aBz hu .i64;have q4:ldN 2 (.pointer (some ⟨b,ofs,none⟩)) H=some (.agg ⟨pT u⟩,H):=(q3 H rfl).1;obtain⟨H1,hH1⟩:=aD (H++[Blk.cells (pT u) 74 .fix]);have x1:Ext H H1:=by rw[hH1];exact Fr.app _ _ _
  have st:stN 2 (.pointer (some ⟨H.length,0,none⟩)) (.agg ⟨pT u⟩) (H++[Blk.cells [Value.int .i64 0,.slice none 0 0] 74 .fix])=some (undef,H1):=by
   rw[uG (n:=2) (vs:=pT u) (eC H _) aC rfl rfl (aRf 2) (aBy u),lO,hH1]
   rfl
  have b1:H1[H.length]? =some (.cells (pT u) 74 .fix):=by rw[hH1];exact eY _ _
  have h1:=h.aPY x1;have R1:OutR H1 (Iu O ob) lv w outs:=hR.yY λb hb h3=>⟨x1.2 b hb id,h3⟩
  have l13:=h1.fab.ld 13 (.map (some a.mb)) rfl;have l0:ld1 (.Q H.length 0) H1=some (.I (o.1:Nat),H1):=by rw[<-u1];exact dI b1 rfl
  have l1:ld1 (.Q H.length 1) H1=some (u.2,H1):=by rw[dI b1 rfl,(aOy u2).1]
  have bh:bld prog 65 [(0,.I (v:Nat)),(1,.I (o.1:Nat))]=some (edV ((v:Int),(o.1:Int))):=rfl;have g:=h1.fab.cst.mp.yN Q8 ((v:Int),(o.1:Int)) (.pointer none);rw[hf,aRD] at g;obtain⟨H2,g2,f2,k2⟩:=Lk.aPS (pr:=pkN) (cV rfl) (cV rfl) (h1.fab.link k hkl) (m:=m) U (By.br (u2.ext x1)) U
  have hlk:=h1.fab.lk hkl k2 (Iv f2);have hx: ∀b,O (.lk k) b->O (.lk k) b:=λ_ hb=>hb
  have h2:=h1.mv (.lk k) hx (Iv f2) hlk;have R2:OutR H2 (Iu (updI O (.lk k) (Up (O (.lk k)) H1 H2)) ob) lv w outs:=R1.yY λb hb ⟨h3,h4⟩=>⟨(A5 hx (Iv f2) hb h4).1,h3,(A5 hx (Iv f2) hb h4).2⟩
  have hfold:(outs.take (i+1)).foldl (uM (fG p) v) fs.l=uM (fG p) v ((outs.take i).foldl (uM (fG p) v) fs.l) o:=by
   rw[List.take_add_one,ho,List.foldl_append];rfl
  have hsame:up1 ((outs.take i).foldl (uM (fG p) v) fs.l) k (Lk.Ir p.bag.toNat ((outs.take i).foldl (uM (fG p) v) fs.l k) o.2)=(outs.take (i+1)).foldl (uM (fG p) v) fs.l:=by
   rw[hfold,hk];rfl
  simp only[hsame] at h2;rw[dG,aBT];simp only[gsR,e,q1,q4,st,l13,l0,bh,g,l1,g2,cU,e3];exact ih (i+1) l H2 _ U U U h2 R2 ..
theorem aP3 (hk:s0.k<1000000)(hm:1000<m)(hTb: ∀j,j<p.nodes.toNat->OutOk (eW p j) (uL (fG p) s0 j)/\(uL (fG p) s0 j).length<=36):
  ∀(q i l:Nat)(H:aE)(O:FP->Nat->Prop),p.nodes.toNat-i=q->i<=p.nodes.toNat->q<l->TickI H0 H O a F p ev wv nv T ⟨rC (fG p) s0 p.nodes.toNat,Az (fG p) s0 i,s0.k⟩ ob us s0 p.nodes.toNat-> ∀(x1 x2 x3 x4 x5 x6 x7 x8 x9 bQ cG aS aP aQ aO bB bI aR bJ bM bT bN bP aU aV aW aX aY aZ bA bH bO bV cC bY b9 cA cD cF cM cN cO cQ cW cX cY cS cT cZ dA dE dB dC dF dL dM dN dQ dZ eA eE eF eG eH:Value),
  ∃H2 u2,aK l (aM prog (lvl prog pkN m) (aK m) Qq) (Qu (lvl prog pkN m) (aK m)) [(pt a.fb),x1,x2,x3,x4,x5,x6,x7,x8,x9,bQ,cG,aS,aP,aQ,aO,bB,bI,aR,bJ,bM,bT,bN,bP,aU,aV,aW,aX,aY,aZ,bA,bH,bO,bV,(.slice (some ⟨ob,0,none⟩) p.nodes.toNat p.nodes.toNat),(.I (p.nodes.toNat:Nat)),(.I (i:Nat)),cC,bY,b9,cA,cD,cF,cM,cN,cO,cQ,cW,cX,cY,cS,cT,cZ,dA,dE,dB,dC,dF,dL,dM,dN,dQ,dZ,eA,eE,eF,eG,eH] H=some (u2,H2)/\u2=aL []/\ ∃O',fU H0 H2 O' a F p ev wv nv T (yZ (fG p) s0):=by
 intro q;induction q with
 |zero=>
  intro i l H O hq hi hl h;intros;obtain⟨l,rfl⟩:=aB l U
  obtain rfl:i=p.nodes.toNat:=U
  have e:decide ((p.nodes.toNat:Int)<(p.nodes.toNat:Nat))=false:=by simp
  obtain⟨st,h1⟩:=h.fab.aPW;have l14:=h.fab.ld 14 (.I (s0.k:Nat)) rfl;have e3:IntKind.i64.wrap ((s0.k:Int)+1)=((s0.k+1:Nat):Int):=by rw[dJ U U];omega
  refine⟨_,_,?_,rfl,O,h1⟩;rw[dG,aBS];simp only[gsR,e];rw[aPl];simp only at st;simp only[gsR,l14,cU,e3,st]
 |succ q ih=>
  intro i l H O hq hi hl h;intros;obtain⟨l,rfl⟩:=aB l U
  have hiN:i<p.nodes.toNat:=U
  obtain⟨N,hN,hNe⟩:=h.fab.rE;have h6:=hN.h6;have e:decide ((i:Int)<(p.nodes.toNat:Nat))=true:=aRU U
  have e3:=aA (i:=i) U
  obtain⟨u,w,h1,h2⟩:=h.outs i hiN;obtain⟨b,o,q1,_,q3⟩:=h.row.rs.fV Cf h1 .i64;have q4:=(q3 H rfl).2.1 0 _ rfl;rw[Nat.add_zero] at q4;have hlen:=h2.rw_.rs.jX;have hwl:=h2.len;obtain⟨ho1,ho2⟩:=hTb i hiN;rw[dG,aBS];simp only[gsR,e,q1,q4,hlen];refine aP0 (m:=m) (T:=T) (s0:=s0) (ob:=ob) (us:=us) (F:=F) (fs:=⟨rC (fG p) s0 p.nodes.toNat,Az (fG p) s0 i,s0.k⟩) (v:=i) (outs:=uL (fG p) s0 i) (Q:=λH2 u2=>u2=aL []/\ ∃O',fU H0 H2 O' a F p ev wv nv T (yZ (fG p) s0)) hiN ho1 hwl U U ?_ w.length 0 m H O U U U h h2 ..
  intro H2 O2 hh;intros;have hs:(uL (fG p) s0 i).foldl (uM (fG p) i) (Az (fG p) s0 i)=Az (fG p) s0 (i+1):=by
   unfold Az;rw[aRJ,List.foldl_append];rfl
  simp only[hs] at hh;unfold Qs;simp only[gsR,cU,e3];exact ih (i+1) l H2 O2 U U U hh ..
theorem aP2 (hT:T<1000000)(hk:s0.k<1000000)(hm:3000<m)(hTb: ∀j,j<p.nodes.toNat->OutOk (eW p j) (uL (fG p) s0 j)/\(uL (fG p) s0 j).length<=36):
  ∀(q i l:Nat)(H:aE)(O:FP->Nat->Prop)(F:Nat->Part->Nat->Prop)(us:List SV),p.nodes.toNat-i=q->i<=p.nodes.toNat->q<l->us.length=p.nodes.toNat->TickI H0 H O a F p ev wv nv (T+7*i) ⟨rC (fG p) s0 i,s0.l,s0.k⟩ ob us s0 i-> ∀(x1 x3 x4 x5 x6 x7 x8 x9 bQ cG aS aP aQ aO bB bI aR bN bP aU aV aW aX aY aZ bA bH bO bV cH cJ bX cC bY b9 cA cD cF cM cN cO cQ cW cX cY cS cT cZ dA dE dB dC dF dL dM dN dQ dZ eA eE eF eG eH:Value),
  ∃H2 u2,aK l (aM prog (lvl prog pkN m) (aK m) Qp) (Qt (lvl prog pkN m) (aK m)) [(pt a.fb),x1,(.slice (some ⟨ob,0,none⟩) p.nodes.toNat p.nodes.toNat),x3,x4,x5,x6,x7,x8,x9,bQ,cG,aS,aP,aQ,aO,bB,bI,aR,a.ns,(.I (p.nodes.toNat:Nat)),(.I (i:Nat)),bN,bP,aU,aV,aW,aX,aY,aZ,bA,bH,bO,bV,cH,cJ,bX,cC,bY,b9,cA,cD,cF,cM,cN,cO,cQ,cW,cX,cY,cS,cT,cZ,dA,dE,dB,dC,dF,dL,dM,dN,dQ,dZ,eA,eE,eF,eG,eH] H=some (u2,H2)/\u2=aL []/\ ∃O' F',fU H0 H2 O' a F' p ev wv nv (T+42) (yZ (fG p) s0):=by
 intro q;induction q with
 |zero=>
  intro i l H O F us hq hi hl hul h;intros;obtain⟨l,rfl⟩:=aB l U
  obtain rfl:i=p.nodes.toNat:=U
  have e:decide ((p.nodes.toNat:Int)<(p.nodes.toNat:Nat))=false:=by simp
  obtain⟨N,hN,hNe⟩:=h.fab.rE;have h6:=hN.h6;have hlen:cK (.slice (some ⟨ob,0,none⟩) p.nodes.toNat p.nodes.toNat)=some (.I (p.nodes.toNat:Nat)):=rfl;rw[dG,aBR];simp only[gsR,e];rw[aPk];simp only[gsR,hlen];obtain⟨H2,u2,g1,g2,O',g3⟩:=(aP3 (m:=m) hk U hTb p.nodes.toNat 0 m H O U U U h ..)
  exact⟨H2,u2,g1,g2,O',F,g3.aPX U⟩
 |succ q ih=>
  intro i l H O F us hq hi hl hul h;intros;obtain⟨l,rfl⟩:=aB l U
  have hiN:i<p.nodes.toNat:=U
  obtain⟨N,hN,hNe⟩:=h.fab.rE;have h6:=hN.h6;have e:decide ((i:Int)<(p.nodes.toNat:Nat))=true:=aRU U
  have e3:=aA (i:=i) U
  have hn:=h.fab.node i hiN;have hni:rC (fG p) s0 i i=s0.n i:=by unfold rC;rw[if_neg U]
  simp only[hni] at hn;obtain⟨b',o',r1,_,r3⟩:=h.fab.cst.nds.rs.fV Qn (i:=i) (x:=some ⟨(a.y i).nb,0,none⟩) (by rw[aRn,aRS hiN];rfl) .i64
  have r4:=(r3 H rfl).2.1 0 _ rfl;rw[Nat.add_zero] at r4;obtain⟨H1,F1,v,w,g1,n1,m1,o1⟩:=aO0 hn U (m:=m) U
  have hcv:nT (lvl prog pkN m) (.func (.func 26) #[.Q ((a.y i).nb) 0] #[]) [] H=some (v,H1):=g1;have f1:=h.fab.nd hiN (t':=T+7*i+7) U n1 m1
  have hX:=h.fab.nodeO i hiN;have t1:=h.mv (.nd i) hX m1 f1;obtain⟨w1,w2⟩:=Aw o1.rw_;obtain⟨sv,rfl⟩: ∃z:SV,z.1=v:=⟨⟨v,w2,Array.toList_inj.mp w1⟩,rfl⟩;obtain⟨c,cs,p1,p2,p3,_,p5,p6⟩:=Q2 t1.row (i:=i) U sv
  obtain rfl:c=ob:=aCg p1
  obtain⟨H2,hH2⟩:=aD (H1.set c (.cells (cs.set i sv.1) 72 .row));rw[<-hH2] at p5 p6;have hkp: ∀b,b≠c->H2[b]? =H1[b]? :=λb hb=>by rw[hH2,aRb (λhh=>hb hh.symm)]
  have hl2:H2.length=H1.length:=by rw[hH2,List.length_set]
  have hob:=h.obl U
  have f2:=t1.fab.aCc (H':=H2) U (λj b hb=>hkp b λhh=>t1.obf j (by rw[<-hh];exact hb)) (by rw[hH2];exact nM t1.fab.own.ext h.ob0)
  have hnew:(⟨up1 (rC (fG p) s0 i) i (sJ (eW p i) (s0.n i)).1,s0.l,s0.k⟩:FS)=⟨rC (fG p) s0 (i+1),s0.l,s0.k⟩:=by
   congr 1
   funext j
   unfold rC up1;by_cases hj:j=i
   ·subst hj
    rw[if_pos rfl,if_pos U]
    rfl
   ·rw[if_neg hj]
    show(if j<i then(sJ ((fG p).c j) (s0.n j)).1 else s0.n j)=_
    by_cases hji:j<i
    ·rw[if_pos hji,if_pos U]
    ·rw[if_neg hji,if_neg U]
  simp only[hnew] at f2;rw[dG,aBR];simp only[gsR,e,r1,r4,hcv,p3,p5,cU,e3];refine ih (i+1) l H2 _ _ (us.set i sv) U U U (by rw[List.length_set];exact hul) ⟨f2,p6,t1.obf,h.ob0,λj hj=> ?_⟩ ..
  by_cases hji:j=i
  ·subst hji
   refine⟨sv,w,by rw[aRg U],o1.yY λb hb ⟨h3,h4⟩=>⟨hkp b U,by omega,λk hk'=> ?_⟩⟩
   by_cases hkj:k= .nd j
   ·rw[hkj,iC] at hk'
    exact h4 hk'
   ·rw[eJ _ _ hkj] at hk'
    have:=h.fab.own.lt k b hk';omega
  ·obtain⟨u,w',g2,g3⟩:=t1.outs j U
   exact⟨u,w',by rw[aRb (λhh=>hji hh.symm)];exact g2,g3.yY λb hb h3=>⟨hkp b (by have:=h3.1;omega),h3⟩⟩
theorem aP1 (h:fU H0 H O a F p ev wv nv t s)(ht:t<900000)(hk:s.k<1000000)(hm:4000<m): ∃H' O' F',lvl prog pkN m (.func 11) [pt a.fb] H=some (aL [],H')/\fU H0 H' O' a F' p ev wv nv (t+42) (yZ (fG p) s):=by
 obtain⟨N,hN,hNe⟩:=h.rE;have h6:=hN.h6;have l12:=h.ld 12 a.ns rfl;have hlen:=h.cst.nds.qT;rw[aRo,aRE] at hlen;have mk:=vY (H:=H) 72 1 24 [.slice none 0 0] .i64 .i64 (p.nodes.toNat:Int) U U U rfl
 rw[aRC] at mk;obtain⟨H1,hH1⟩:=aD (H++[Blk.cells (List.replicate p.nodes.toNat [Value.slice none 0 0]).flatten 72 .row]);rw[<-hH1] at mk;have x1:Ext H H1:=by rw[hH1];exact Fr.app _ _ _
 have h1:=h.fQ x1;have l12':=h1.ld 12 a.ns rfl;obtain⟨zv,hzv⟩: ∃zv:SV,zv=⟨.slice none 0 0,rfl,rfl⟩:=⟨_,rfl⟩;have hfl:((List.replicate p.nodes.toNat zv).map sC).flatten=(List.replicate p.nodes.toNat [Value.slice none 0 0]).flatten:=by rw[List.map_replicate,hzv];rfl
 have b1:H1[H.length]? =some (.cells (List.replicate p.nodes.toNat [Value.slice none 0 0]).flatten 72 .row):=by rw[hH1];exact eY _ _
 have hrow:Rw sC 72 1 H1 (.slice (some ⟨H.length,0,none⟩) p.nodes.toNat p.nodes.toNat) (List.replicate p.nodes.toNat zv):=by
  refine⟨by rw[hfl];simp,.inr ⟨H.length,p.nodes.toNat,[],by rw[aRQ],by rw[aRQ];exact aRf _,by simp,by rw[b1,hfl,List.append_nil]⟩⟩
 have hI:TickI H0 H1 O a F p ev wv nv (t+7*0) ⟨rC (fG p) s 0,s.l,s.k⟩ H.length (List.replicate p.nodes.toNat zv) s 0:=by
  have e:(⟨rC (fG p) s 0,s.l,s.k⟩:FS)=s:=by
   have:rC (fG p) s 0=s.n:=by
    funext v
    unfold rC;rw[if_neg U]
   rw[this]
  rw[e]
  exact⟨h1,hrow,λj hj=>by have:=h.own.lt j _ hj;omega,h.own.ext.1,λj hj=>by omega⟩
 have hTb: ∀j,j<p.nodes.toNat->OutOk (eW p j) (uL (fG p) s j)/\(uL (fG p) s j).length<=36:=λj hj=>by
  have hn:=h.node j hj
  exact⟨aPK hn.ok hn.inv,aPJ hn.ok _⟩
 have main: ∃H' u,lvl prog pkN m (.func 11) [pt a.fb] H=some (u,H')/\u=aL []/\ ∃O' F',fU H0 H' O' a F' p ev wv nv (t+42) (yZ (fG p) s):=by
  refine iB (cV rfl) U ?_
  rw[aPn];simp only[gsR,l12,hlen,mk,l12'];exact aP2 (m:=m-1) U hk U hTb p.nodes.toNat 0 (m-1) H1 O F (List.replicate p.nodes.toNat zv) U U U (by rw[aRQ]) hI ..
 obtain⟨H',u,g1,rfl,O',F',g2⟩:=main
 exact⟨H',O',F',g1,g2⟩
end
theorem aP9 {κ:Type}[DecidableEq κ]{kt:KeyT}{enc:κ->Value}{H:aE}{mb:Nat}{f:κ->Option Value}(hk:KeyC kt enc)(h:IsMap enc H mb f)(k:κ)(v:Value)(hf:f k=none): ∃es c,nU kt (.map (some mb)) (enc k) v H=some (undef,H.set mb (.map es c))/\IsMap enc (H.set mb (.map es c)) mb (upd f k (some v)):=by
 obtain⟨es,c,h1,h2⟩:=h;have hlt:=(aRa.mp h1).1;have hn:=C4 hk k es 0 ((h2.no k).mp hf);refine⟨(es++[(k,v,c)]).map (kZ enc),c+1,?_,_,c+1,by rw[aRg hlt],h2.aAO v hf⟩
 unfold nU;rw[if_pos (wP hk k)];simp only;rw[h1];simp only;rw[hn,List.map_append];rfl
section
variable {H0 H H' H1 : aE} {O : FP → Nat → Prop} {a : FL} {F : Nat → Part → Nat → Prop} {p : PlanD} {ev wv nv : Value} {t m : Nat} {s : FS}
theorem NodeAt.Rb {F:Part->Nat->Prop}{y:Lay}{c:Cfg}{t:Nat}{s:NS}(h:NodeAt H0 H F y p ev wv nv c t s)(hl:H.length<=H'.length)(hk: ∀b,Un F b->H'[b]? =H[b]?)(he:Ext H0 H'):NodeAt H0 H' F y p ev wv nv c t s:=
 {h with ext:=he,sep:=⟨λi=>(h.sep.own i).E6 (vH _ _ _ _ _ _ _ i) hl λb hb=>hk b ⟨i,hb⟩,h.sep.sep⟩}
theorem FabG.aP6 {i:Nat}(h:FabG H0 H O a F p ev wv nv 0 s i 0)(hi:i<100){Fn:Part->Nat->Prop}{y:Lay}(hn:NodeAt H H1 Fn y p ev wv nv (eW p i) 0 (s.n i)):
  ∃ns' H2 H3 O',app 62 1 8 a.ns (.slice (some ⟨H1.length,0,none⟩) 1 1) (H1++[.cells (ptC (some ⟨y.nb,0,none⟩)) 62 .row])=some (ns',H2)/\stN 1 (.Q a.fb 12) ns' H2=some (undef,H3)/\
   FabG H0 H3 O' {a with ns:=ns',y:=up1 a.y i y} (up1 F i Fn) p ev wv nv 0 s (i+1) 0:=by
 have xe:=hn.ext;obtain⟨w1,k1⟩:=h.own.Dj (.nd i) (X:=λ_=>False) (X':=Un Fn) (λ_ hb=>hb.elim) ⟨xe.1,λb hb=> .inr (hn.old b hb),λb hb _=>xe.2 b hb id⟩ hn.sep.qU
 obtain⟨O1,hO1⟩:=aD (updI O (.nd i) (Un Fn));have ocs:O1 .cs=O .cs:=by rw[hO1];exact eJ _ _ (by simp)
 have ofb:O1 .fb=O .fb:=by rw[hO1];exact eJ _ _ (by simp)
 rw[<-hO1] at w1;have c:=h.cst;have nds1:=pF c.nds xe;have hops1:=pF c.hops xe;have hnew:New H0 a.ns:=λb hb=>h.own.old .cs b (c.ndsO b hb)
 obtain⟨ns',H2,g1,g2,g3,g4,g5,g6⟩:=nds1.Kw (by':=8) Qn aPe aC (some ⟨y.nb,0,none⟩) hnew w1.ext (gX (n:=1000) aC (by rw[aRo,aRE];omega))
 obtain⟨O2,hO2⟩:=aD (updI O1 .cs (λb=>cP a.hv b∨b=a.mb∨cP ns' b))
 have mp1:IsMap edV H1 a.mb (lkF p a 0):=c.mp.yO (by
  obtain⟨es,cl,hmb,_⟩:=c.mp;rw[xe.2 _ (dT hmb) id])
 have hmb2:H2[a.mb]? =H1[a.mb]? :=by
  obtain⟨es,cl,hmb,_⟩:=mp1;refine g5.2 _ (dT hmb) λhh=> ?_
  obtain⟨cs,hc⟩:=nds1.blk hh;rw[hmb] at hc;cases hc
 have hops2:=aPf hops1 nds1 aC g5
 obtain⟨w2,k2⟩:=w1.Dj .cs (X:=O1 .cs) (X':=λb=>cP a.hv b∨b=a.mb∨cP ns' b) (λ_ hb=>hb) ⟨g5.1,λb hb=>by
  rw[ocs];rcases hb with hb|hb|hb
  ·exact .inl (c.hopsO b hb)
  ·exact .inl (by rw[hb];exact c.mpO)
  ·exact(g6 b hb).imp (c.ndsO b) (·.1),λb hb hx=>g5.2 b hb λhh=>hx (by rw[ocs];exact c.ndsO b hh)⟩ (λb hb=>by
  rcases hb with hb|hb|hb
  ·exact hops2.gM hb
  ·rw[hb]
   have:=w1.lt .cs a.mb (by rw[ocs];exact c.mpO)
   exact aRp this g5.1
  ·exact g2.gM hb)
 rw[<-hO2] at w2;have o2fb:O2 .fb=O .fb:=by rw[hO2,eJ _ _ (by simp),ofb]
 have o2cs: ∀b,O2 .cs b=(cP a.hv b∨b=a.mb∨cP ns' b):=λb=>by rw[hO2,iC]
 have hfb2:H2[a.fb]? =some (.cells (pU p ev wv nv a.hv a.ns a.mb s.k) 61 .fix):=by
  have h1:=(k2 .fb (by simp) a.fb (by rw[ofb];exact c.fabO)).2
  rw[h1,xe.2 _ (dT c.fab) id,c.fab]
 obtain⟨s1,s2⟩:=Aw g2;obtain⟨H3,hH3⟩:=aD (H2.set a.fb (.cells (pU p ev wv nv a.hv ns' a.mb s.k) 61 .fix));have st:stN 1 (.Q a.fb 12) ns' H2=some (undef,H3):=by rw[hH3];exact pP hfb2 aC (by simp[pU,plC]) s1 s2
 have hk: ∀b,b≠a.fb->H3[b]? =H2[b]? :=λb hb=>by rw[hH3,aRb (λhh=>hb hh.symm)]
 have hl:H3.length=H2.length:=by rw[hH3,List.length_set]
 have hne: ∀j,j≠ .fb-> ∀b,O2 j b->b≠a.fb:=λj hj b hb hh=>hj (w2.dis j .fb b hb (by rw[hh,o2fb];exact c.fabO))
 have ext3:Ext H0 H3:=by rw[hH3];exact nM w2.ext (h.own.old _ _ c.fabO)
 have kN: ∀v b,O1 (.nd v) b->H3[b]? =H1[b]? /\O2 (.nd v) b:=λv b hb=>by
  have ho:O2 (.nd v) b:=by rw[hO2,eJ _ _ (by simp)];exact hb
  exact⟨by rw[hk b (hne _ (by simp) b ho),(k2 (.nd v) (by simp) b hb).2],ho⟩
 refine⟨ns',H2,H3,O2,g1,st,h.ok,h.pv,⟨w2.dis,λj b hb=>by rw[hl];exact w2.lt j b hb,w2.old,ext3⟩,⟨?_,?_,?_,?_,?_,?_,?_,?_⟩,λv hv=> ?_,λv hv b hb=> ?_,λj hj=>by omega⟩
 ·rw[hH3]
  exact fS hfb2
 ·rw[o2fb];exact c.fabO
 ·exact hops2.eX λb hb=>hk b (hne .cs (by simp) b (by rw[o2cs];exact .inl hb))
 ·exact λb hb=>by rw[o2cs];exact .inl hb
 ·have e:(List.range (i+1)).map (λv=>some (⟨(up1 a.y i y v).nb,0,none⟩:Addr))=(List.range i).map (λv=>some (⟨(a.y v).nb,0,none⟩:Addr))++[some ⟨y.nb,0,none⟩]:=by
   rw[aRJ,List.map_append]
   congr 1
   ·refine List.map_congr_left λv hv=> ?_
    have:=aRO.mp hv;unfold up1;rw[if_neg U]
   ·simp only[aRF,List.map_nil,up1,if_pos]
  show Rw ptC 62 1 H3 ns' ((List.range (i+1)).map λv=>some (⟨(up1 a.y i y v).nb,0,none⟩:Addr))
  rw[e];exact g2.eX λb hb=>hk b (hne .cs (by simp) b (by rw[o2cs];exact .inr (.inr hb)))
 ·exact λb hb=>by rw[o2cs];exact .inr (.inr hb)
 ·exact mp1.yO (by rw[hk _ (hne .cs (by simp) _ (by rw[o2cs];exact .inr (.inl rfl))),hmb2])
 ·rw[o2cs];exact .inr (.inl rfl)
 ·have hle:H1.length<=H3.length:=by rw[hl];exact g5.1
  by_cases hvi:v=i
  ·subst hvi
   simp only[up1,if_pos]
   exact(hn.aPc h.own.ext h.pv).Rb hle (λb hb=>(kN v b (by rw[hO1,iC];exact hb)).1) ext3
  ·simp only[up1,if_neg hvi]
   have hn':=h.node v U
   exact(hn'.pR xe).Rb hle (λb hb=>(kN v b (by rw[hO1,eJ _ _ (λhh=>hvi (by injection hh))];exact h.nodeO v U b hb)).1) ext3
 ·by_cases hvi:v=i
  ·subst hvi
   simp only[up1,if_pos] at hb
   exact(kN v b (by rw[hO1,iC];exact hb)).2
  ·simp only[up1,if_neg hvi] at hb
   exact(kN v b (by rw[hO1,eJ _ _ (λhh=>hvi (by injection hh))];exact h.nodeO v U b hb)).2
theorem FabG.aP5 {n j:Nat}(h:FabG H0 H O a F p ev wv nv t s n j)(hj:j<(dK p).length)(hs:s.l j=[])(xe:Ext H H1){lbn:Nat}(hl:Lk.IsLink H1 lbn [] p.bag.toNat (Nw H H1)):
  ∃H2 O',nU (.str [true,true]) (.map (some a.mb)) (edV ((dK p)[j]'hj)) (pt lbn) H1=some (undef,H2)/\FabG H0 H2 O' {a with lb:=up1 a.lb j lbn} F p ev wv nv t s n (j+1):=by
 obtain⟨N,hN⟩:=tB h.ok;have hnd:=(wL hN).1;have c:=h.cst;have hix:(dK p).idxOf ((dK p)[j]'hj)=j:=List.Nodup.idxOf_getElem hnd j hj;have h1:=h.fQ xe;have mp1:=h1.cst.mp;obtain⟨es,cl,g1,g2⟩:=aP9 Q8 mp1 ((dK p)[j]'hj) (pt lbn) (by unfold lkF;rw[hix,if_neg U])
 obtain⟨H2,hH2⟩:=aD (H1.set a.mb (.map es cl));rw[<-hH2] at g1 g2;obtain⟨w1,k1⟩:=h.own.Dj (.lk j) (X:=λ_=>False) (X':=Nw H H1) (λ_ hb=>hb.elim) ⟨xe.1,λb hb=> .inr hb.1,λb hb _=>xe.2 b hb id⟩ (λb hb=>hb.2)
 obtain⟨O1,hO1⟩:=aD (updI O (.lk j) (Nw H H1));have ocs:O1 .cs=O .cs:=by rw[hO1];exact eJ _ _ (by simp)
 have ofb:O1 .fb=O .fb:=by rw[hO1];exact eJ _ _ (by simp)
 rw[<-hO1] at w1;have hk: ∀b,b≠a.mb->H2[b]? =H1[b]? :=λb hb=>by rw[hH2,aRb (λhh=>hb hh.symm)]
 have hl2:H2.length=H1.length:=by rw[hH2,List.length_set]
 have hne: ∀i,i≠ .cs-> ∀b,O1 i b->b≠a.mb:=λi hi b hb hh=>hi (w1.dis i .cs b hb (by rw[hh,ocs];exact c.mpO))
 have ext2:Ext H0 H2:=by rw[hH2];exact nM w1.ext (h.own.old _ _ c.mpO)
 have hrow: ∀{α:Type}{el:α->List Value}{e:TypeId}{sz:Nat}{w:Value}{xs:List α},Rw el e sz H1 w xs->Rw el e sz H2 w xs:=λhr=>hr.eX λb hb=>hk b λhh=>by
  obtain⟨cs,hc⟩:=hr.blk hb;obtain⟨es',cl',hm,_⟩:=mp1;rw[hh,hm] at hc;cases hc
 have hmp:upd (lkF p a j) ((dK p)[j]'hj) (some (pt lbn))=lkF p {a with lb:=up1 a.lb j lbn} (j+1):=by
  funext e
  unfold upd lkF;by_cases he:e=(dK p)[j]'hj
  ·rw[if_pos he,he,hix,if_pos U]
   simp only[up1,if_pos]
  ·rw[if_neg he]
   have hne':(dK p).idxOf e≠j:=λhh=>he (by
    have:=List.getElem_idxOf (xs:=dK p) (x:=e) (by rw[hh];exact hj)
    simp only[hh] at this;exact this.symm)
   by_cases hlt:(dK p).idxOf e<j
   ·rw[if_pos hlt,if_pos U]
    simp only[up1];rw[if_neg hne']
   ·rw[if_neg hlt,if_neg U]
 refine⟨H2,O1,g1,h.ok,h.pv,⟨w1.dis,λi b hb=>by rw[hl2];exact w1.lt i b hb,w1.old,ext2⟩,⟨?_,by rw[ofb];exact c.fabO,hrow h1.cst.hops,λb hb=>by rw[ocs];exact c.hopsO b hb,hrow h1.cst.nds,λb hb=>by rw[ocs];exact c.ndsO b hb,by rw[<-hmp];exact g2,by rw[ocs];exact c.mpO⟩,λv hv=> ?_,λv hv b hb=> ?_,λi hi=> ?_⟩
 ·show H2[a.fb]? =some (.cells (pU p ev wv nv a.hv a.ns a.mb s.k) 61 .fix)
  rw[hk _ (hne .fb (by simp) _ (by rw[ofb];exact c.fabO)),h1.cst.fab]
 ·exact(h1.node v hv).Rb U (λb hb=>hk b (hne (.nd v) (by simp) b (by rw[hO1,eJ _ _ (by simp)];exact h.nodeO v hv b hb))) ext2
 ·rw[hO1,eJ _ _ (by simp)]
  exact h.nodeO v hv b hb
 ·by_cases hij:i=j
  ·subst hij
   simp only[up1,if_pos];rw[hs,hO1,iC];exact hl.A4 (λb hb=>hk b (hne (.lk i) (by simp) b (by rw[hO1,iC];exact hb))) U
  ·have hne2:FP.lk i≠ .lk j:=λhh=>hij (by injection hh)
   simp only[up1,if_neg hij];rw[hO1,eJ _ _ hne2]
   exact(h1.link i U).A4 (λb hb=>hk b (hne (.lk i) (by simp) b (by rw[hO1,eJ _ _ hne2];exact hb))) U
def Ra (Hs:aE)(p:PlanD)(H2:aE)(u:Value):Prop:= ∃H0 O a F ev wv nv,u= .tuple #[pt a.fb,.int .u16 0]/\Ext Hs H0/\fU H0 H2 O a F p ev wv nv 0 (FS.wV (fG p))/\ ∀G:aE,(∀b,Hs.length<=b->G[b]? =H0[b]?)->PV G p ev wv nv
theorem aP7 {Hs:aE}{pb:Nat}{ev0 wv0 nv0:Value}(hs0:Ext Hs H0)(hpg: ∀G:aE,(∀b,Hs.length<=b->G[b]? =H0[b]?)->PV G p ev wv nv)(bp:H0[pb]? =some (plB p ev0 wv0 nv0))(hm:100<m){fb:Nat}{hv:Value}:
  ∀(q j l:Nat)(H:aE)(O:FP->Nat->Prop)(a:FL),(dK p).length-j=q->j<=(dK p).length->q<l->a.fb=fb->a.hv=hv->FabG H0 H O a F p ev wv nv 0 (FS.wV (fG p)) p.nodes.toNat j-> ∀(x0 x2 x3 x4 x6 x7 x8 x9 bQ cG aS aP aQ aO bB bI aR bJ bM bT bN bP aU aV aW aX aY aZ bA bH bO bV cH cJ bX cC bY b9 cA cD cF cM cN cX cY cS cT cZ dA dE dB dC dF dL dM dN:Value),
  ∃H2 u2,aK l (aM prog (lvl prog pkN m) (aK m) Qz) (Q1 (lvl prog pkN m) (aK m)) [x0,(.Q pb 0),x2,x3,x4,(pt fb),x6,x7,x8,x9,bQ,cG,aS,aP,aQ,aO,bB,bI,aR,bJ,bM,bT,bN,bP,aU,aV,aW,aX,aY,aZ,bA,bH,bO,bV,cH,cJ,bX,cC,bY,b9,cA,cD,cF,cM,cN,hv,(.I ((dK p).length:Nat)),(.I (j:Nat)),cX,cY,cS,cT,cZ,dA,dE,dB,dC,dF,dL,dM,dN] H=some (u2,H2)/\Ra Hs p H2 u2:=by
 intro q;induction q with
 |zero=>
  intro j l H O a hq hj hl hfb hhv h;intros;obtain⟨l,rfl⟩:=aB l U
  obtain rfl:j=(dK p).length:=U
  have e:decide (((dK p).length:Int)<((dK p).length:Nat))=false:=by simp
  refine⟨H,_,?_,H0,O,a,F,ev,wv,nv,rfl,hs0,h,hpg⟩;rw[dG,aBZ];simp only[gsR,e];rw[aPv,<-hfb];rfl
 |succ q ih=>
  intro j l H O a hq hj hl hfb hhv h;intros;obtain⟨l,rfl⟩:=aB l U
  have h36:=uC p;have hjl:j<(dK p).length:=U
  have e:decide ((j:Int)<((dK p).length:Nat))=true:=aRU U
  have e3:=aA (i:=j) U
  obtain⟨x,hx⟩:=aD ((dK p)[j]'hjl);have hxj:(dK p)[j]? =some x:=by rw[hx];exact aRc _
  obtain⟨b,o,q1,_,q3⟩:=h.cst.hops.rs.fV p8 hxj .i64;rw[hhv] at q1;have q4:ldN 2 (.pointer (some ⟨b,o,none⟩)) H=some (edV x,H):=(q3 H rfl).1;obtain⟨H1,hH1⟩:=aD (H++[Blk.cells (edC x) 65 .fix]);have x1:Ext H H1:=by rw[hH1];exact Fr.app _ _ _
  have st:stN 2 (.pointer (some ⟨H.length,0,none⟩)) (edV x) (H++[Blk.cells [Value.int .i64 0,.int .i64 0] 65 .fix])=some (undef,H1):=by
   rw[uG (n:=2) (vs:=edC x) (eC H _) aC rfl rfl (aRf 2) (yA x),lO,hH1]
   rfl
  have b1:H1[H.length]? =some (.cells (edC x) 65 .fix):=by rw[hH1];exact eY _ _
  have h1:=h.fQ x1;have l13:ld1 (.Q fb 13) H1=some (.map (some a.mb),H1):=by rw[<-hfb];exact dI h1.cst.fab rfl
  have lx: ∀{G:aE},Ext H1 G->ldN 2 (.pointer (some ⟨H.length,0,none⟩)) G=some (edV x,G):=λhG=>qA (eU b1 hG) (aRf 2)
  have lx1:=lx (Fr.gR _ _);have l7:ld1 (.Q pb 7) H1=some (.I p.bag,H1):=eP (eU bp h1.own.ext) 7 (.I p.bag) rfl;have hbag:1<=p.bag/\p.bag<=64:=by
   have:=h.ok;unfold gS qW wi at this;simp only[aRi,decide_eq_true_eq] at this;omega
  have ebag:((p.bag.toNat:Nat):Int)=p.bag:=U
  obtain⟨H2,g2,x2,hl2⟩:=Lk.aPR (pr:=pkN) (H:=H1) (cV rfl) (m:=m) U p.bag.toNat U
  rw[ebag] at g2;have lx2:=lx x2;have l13':ld1 (.Q fb 13) H2=some (.map (some a.mb),H2):=by rw[<-hfb];exact dI (h1.fQ x2).cst.fab rfl
  have ck1:chk (some (edV x,H2)) (edV x)=true:=by
   obtain⟨x1,x2⟩:=x;simp[chk,veq,tK,edV,edC]
  have ck2:chk (some (Value.map (some a.mb),H2)) (.map (some a.mb))=true:=by simp[chk,veq]
  obtain⟨H3,O3,g3,h3⟩:=h1.aP5 hjl rfl x2 hl2;rw[<-hx] at g3;rw[dG,aBZ];simp only[gsR,e,q1,q4,st,l13,lx1,l7,g2,lx2,ck1,l13',ck2,g3,cU,e3];exact ih (j+1) l H3 O3 {a with lb:=up1 a.lb j H1.length} U U U hfb hhv h3 ..
theorem aP8 {Hs:aE}{pb:Nat}{ev0 wv0 nv0:Value}(hs0:Ext Hs H0)(hpg: ∀G:aE,(∀b,Hs.length<=b->G[b]? =H0[b]?)->PV G p ev wv nv)(bp:H0[pb]? =some (plB p ev0 wv0 nv0))(hck:nO p=0)(hst:0<=p.start/\p.start<65536)(hm:17592186045500<m)(hm2:m<=72057594037927936){fb:Nat}{hv:Value}:
  ∀(q i l:Nat)(H:aE)(O:FP->Nat->Prop)(a:FL)(F:Nat->Part->Nat->Prop),p.nodes.toNat-i=q->i<=p.nodes.toNat->q<l->a.fb=fb->a.hv=hv->FabG H0 H O a F p ev wv nv 0 (FS.wV (fG p)) i 0-> ∀(x0 x2 x3 x4 x6 x7 x8 x9 bQ cG aS aP aQ aO bB bI aR bJ bM bT aU aV aW aX aY aZ bA bH bO bV cH cJ bX cC bY b9 cA cD cF cM cN cO cQ cW cX cY cS cT cZ dA dE dB dC dF dL dM dN:Value),
  ∃H2 u2,aK l (aM prog (lvl prog pkN m) (aK m) Qy) (Q0 (lvl prog pkN m) (aK m)) [x0,(.Q pb 0),x2,x3,x4,(pt fb),x6,x7,x8,x9,bQ,cG,aS,aP,aQ,aO,bB,bI,aR,bJ,bM,bT,(.I (p.nodes.toNat:Nat)),(.I (i:Nat)),aU,aV,aW,aX,aY,aZ,bA,bH,bO,bV,cH,cJ,bX,cC,bY,b9,cA,cD,cF,cM,cN,cO,cQ,cW,cX,cY,cS,cT,cZ,dA,dE,dB,dC,dF,dL,dM,dN] H=some (u2,H2)/\Ra Hs p H2 u2:=by
 intro q;induction q with
 |zero=>
  intro i l H O a F hq hi hl hfb hhv h;intros;obtain⟨l,rfl⟩:=aB l U
  obtain rfl:i=p.nodes.toNat:=U
  have h36:=uC p;have e:decide ((p.nodes.toNat:Int)<(p.nodes.toNat:Nat))=false:=by simp
  have l11:ld1 (.Q fb 11) H=some (hv,H):=by rw[<-hfb,<-hhv];exact dI h.cst.fab rfl
  have hlen:=h.cst.hops.qT;rw[hhv] at hlen;rw[dG,aBY];simp only[gsR,e];rw[aPu];simp only[gsR,l11,hlen];exact aP7 hs0 hpg bp (m:=m) U (dK p).length 0 m H O a U U U hfb hhv h ..
 |succ q ih=>
  intro i l H O a F hq hi hl hfb hhv h;intros;obtain⟨l,rfl⟩:=aB l U
  obtain⟨N,hN⟩:=tB h.ok;have hn:=hN.hn;have h6:=hN.h6;have e:decide ((i:Int)<(p.nodes.toNat:Nat))=true:=aRU U
  have e3:=aA (i:=i) U
  have l12: ∀{G:aE},Ext H G->ld1 (.pointer (some ⟨fb,12,none⟩)) G=some (a.ns,G):=λhG=>by rw[<-hfb];exact dI (eU h.cst.fab hG) rfl
  have l12a:=l12 (Fr.gR _ _);have lpl:ldN 11 (.Q fb 0) H=some (plV p ev wv nv,H):=by rw[<-hfb];exact qA h.cst.fab (by simp[pU,plC])
  obtain⟨H1,Fn,y,g1,hn1⟩:=aPa (h.pv.ext h.own.ext) hck hst hm hm2 i U
  have l12b:=l12 hn1.ext;have ck:chk (some (a.ns,H1)) a.ns=true:=aBA h.cst.nds H1;obtain⟨ns',H2,H3,O3,g2,g3,h3⟩:=h.aP6 U hn1
  rw[hfb] at g3;rw[dG,aBY];simp only[gsR,e,l12a,lpl,g1,l12b,ck,aPd,g2,g3,cU,e3];exact ih (i+1) l H3 O3 {a with ns:=ns',y:=up1 a.y i y} (up1 F i Fn) U U U hfb hhv h3 ..
theorem ck0 (h:nO p=0):gS p=true:=by
 unfold nO at h
 split at h
 ·assumption
 ·omega
theorem aCh (hp:PV H p ev wv nv)(hck:nO p=0)(hst:0<=p.start/\p.start<65536)(hm:17592186045600<m)(hm2:m<=72057594037927936):
  ∃H2 u,lvl prog pkN m (.func 6) [plV p ev wv nv] H=some (u,H2)/\Ra H p H2 u:=by
 have hok:=ck0 hck;obtain⟨N,hN⟩:=tB hok;have hn:=hN.hn;have h6:=hN.h6;have hwl:p.weights.length<=1000:=by
  unfold gS qW wi at hok;simp only[aRi,decide_eq_true_eq] at hok;omega
 obtain⟨H1,hH1⟩:=aD (H++[plB p ev wv nv]);have x1:Ext H H1:=by rw[hH1];exact Fr.app _ _ _
 have b1:H1[H.length]? =some (plB p ev wv nv):=by rw[hH1];exact eY _ _
 have e1:H++[Blk.cells (plV p ev wv nv).cells.toList 30 .fix]=H1:=by rw[hH1];rfl
 have p1:=hp.ext x1;have l1:=kE b1;obtain⟨H2,g2,x2⟩:=Yy p1 (m:=m-1) U U
 rw[hck] at g2;have b2:=eU b1 x2;have l2:=kE b2;have d0:((0:Int)!=0)=false:=rfl;obtain⟨H3,e',w',n',g3,c3⟩:=aB2 (p1.ext x2) (by have:=hN.e15;omega) hwl (by have:=hN.nl;omega) (λxs hx=>by have:=hN.rl xs hx;omega) (λxs hx hz=>by have h1:=hN.rl xs hx;have:=hN.h2;rw[hz] at h1;simp only[List.length_nil] at h1;omega) (m:=m-1) U
 have b3:=eU b2 c3.ext;have l3:=kE b3;have pchk:=hp.chk;obtain⟨H4,hv,g4,x4,hw4,nw4⟩:=Xg ((p1.ext x2).ext c3.ext) (m:=m-1) (by have:=hN.e15;omega) U
 have hb:bld prog 61 [(0,plV p e' w' n'),(1,hv),(3,.map (some H4.length))]=some (.agg ⟨pU p e' w' n' hv (.slice none 0 0) H4.length 0⟩):=by
  rcases hw4 with⟨_,⟨rfl,_⟩|⟨_,_,_,rfl,_⟩⟩<;>kernel_rfl
 obtain⟨H5,hH5⟩:=aD (H4++[Blk.map [] 0]);have nm:oK H4=some (.map (some H4.length),H5):=by rw[hH5];rfl
 obtain⟨H6,hH6⟩:=aD (H5++[Blk.cells (pU p e' w' n' hv (.slice none 0 0) H4.length 0) 61 .fix]);have e6:H5++[Blk.cells (Value.cells (.agg ⟨pU p e' w' n' hv (.slice none 0 0) H4.length 0⟩)).toList 61 .fix]=H6:=by rw[hH6];rfl
 have x5:Ext H4 H5:=by rw[hH5];exact Fr.app _ _ _
 have x6:Ext H5 H6:=by rw[hH6];exact Fr.app _ _ _
 have bX:=x4.tr (x5.tr x6);have b6:=eU b3 bX;have l0:ld1 (.Q H.length 0) H6=some (.I (p.nodes.toNat:Nat),H6):=by rw[eP b6 0 (.I p.nodes) rfl,show((p.nodes.toNat:Nat):Int)=p.nodes from U]
 obtain⟨a,ha⟩: ∃a:FL,a=⟨H5.length,hv,.slice none 0 0,H4.length,λ_=>⟨0,0,0,[],λ_=>0,λ_=>0,λ_=>[],λ_=>0,λ_=>0,λ_=>0,λ_=>0,λ_=>0,λ_=>[],λ_=>[],λ_ _=>0,λ_ _=>0,0,0,0,0,0⟩,λ_=>0⟩:=⟨_,rfl⟩
 have a1:a.fb=H5.length:=by rw[ha]
 have a2:a.hv=hv:=by rw[ha]
 have a3:a.ns= .slice none 0 0:=by rw[ha]
 have a4:a.mb=H4.length:=by rw[ha]
 have hl5:H5.length=H4.length+1:=by rw[hH5];simp
 have hl6:H6.length=H5.length+1:=by rw[hH6];simp
 obtain⟨O,hO⟩: ∃O:FP->Nat->Prop,O=λi b=>match i with
  | .fb=>b=H5.length
  | .cs=>cP hv b∨b=H4.length
  |_=>False:=⟨_,rfl⟩
 have hvl: ∀b,cP hv b->b<H4.length:=λb hb=>hw4.gM hb
 have hG:FabG H3 H6 O a (λ_ _ _=>False) p e' w' n' 0 (FS.wV (fG p)) 0 0:=by
  refine⟨hok,c3.pv,⟨λi j b hi hj=> ?_,λi b hi=> ?_,λi b hi=> ?_,bX⟩,⟨?_,?_,?_,?_,?_,?_,?_,?_⟩,λv hv=>by omega,λv hv=>by omega,λv hv=>by omega⟩
  ·rw[hO] at hi hj
   cases i<;>cases j<;>simp only at hi hj<;>(try rfl)<;>(try exact hi.elim)<;>(try exact hj.elim)
   ·rcases hj with hj|hj
    ·have:=hvl b hj;omega
    ·omega
   ·rcases hi with hi|hi
    ·have:=hvl b hi;omega
    ·omega
  ·rw[hO] at hi
   cases i<;>simp only at hi<;>(try exact hi.elim)
   ·omega
   ·rcases hi with hi|hi
    ·have:=hvl b hi;omega
    ·omega
  ·rw[hO] at hi
   have:=x4.1;cases i<;>simp only at hi<;>(try exact hi.elim)
   ·omega
   ·rcases hi with hi|hi
    ·exact nw4 b hi
    ·omega
  ·rw[a1,a2,a3,a4,hH6]
   exact eY _ _
  ·rw[hO,a1]
  ·rw[a2]
   exact pF hw4 (x5.tr x6)
  ·intro b hb
   rw[a2] at hb;rw[hO];exact .inl hb
  ·rw[a3]
   exact Rw.kL
  ·intro b hb
   rw[a3] at hb;obtain⟨_,_,_,hh⟩:=hb;cases hh
  ·have hz:lkF p a 0=λ_=>none:=by
    funext e
    unfold lkF;rw[if_neg U]
   have hm5:IsMap edV H5 H4.length (λ_=>none):=by rw[hH5];exact IsMap.aAN H4
   rw[a4,hz];exact hm5.yO (by rw[x6.2 _ U id])
  ·rw[hO,a4]
   exact .inr rfl
 have hpg: ∀G:aE,(∀b,H.length<=b->G[b]? =H3[b]?)->PV G p e' w' n':=λG hG=>by
  have aS:=(x1.tr x2).1;obtain⟨us,n1,n2,n3,n4⟩:=c3.n;have hk: ∀{α:Type}{el:α->List Value}{e:TypeId}{sz:Nat}{w:Value}{xs:List α},Rw el e sz H3 w xs->New H2 w->Rw el e sz G w xs:=λh hn=>h.eX λb hb=>hG b (aRq aS (hn b hb))
  exact⟨(hk c3.e.1 c3.e.2).rs,(hk c3.w.1 c3.w.2).rs,Ip (hk n1 n2).rs n3 λi u xs hu hx=>(hk (n4 i u xs hu hx).1 (n4 i u xs hu hx).2).rs,c3.pv.be,c3.pv.bw,c3.pv.bn⟩
 refine iB (cV rfl) U ?_
 rw[aPw];simp only[gsR,e1,l1,g2,d0,l2,g3,l3,pchk,g4,nm,hb,e6,l0];exact aP8 (H0:=H3) (Hs:=H) (pb:=H.length) (m:=m-1) (x1.tr (x2.tr c3.ext)) hpg b3 hck hst U U p.nodes.toNat 0 (m-1) H6 O a _ U U U a1 a2 hG ..
end
section
variable {H0 H H' H1 : aE} {O : FP → Nat → Prop} {a : FL} {F : Nat → Part → Nat → Prop} {p : PlanD} {ev wv nv : Value} {t m : Nat} {s : FS}
theorem aQc {G:aE}{b:Nat}(hz:G[b]? =some plZ)(hp:PV G p ev wv nv):stN 11 (.Q b 0) (plV p ev wv nv) G=some (undef,G.set b (plB p ev wv nv)):=by
 have e1:(plV p ev wv nv).cells.toList=plC p ev wv nv:=rfl;rw[mE 11 _ _ _ rfl,hz,e1];unfold plZ;rw[nX _ _ _ _ _ _ aC (by simp[plC]) hp.Ci]
 simp[eS,plC,plB]
theorem Clo.aQa {G:aE}{b:Nat}{cs cs':List Value}{T:TypeId}(c:Clo H1 G p ev wv nv)(x:Ext H H1)(hb:H.length<=b)(hz:G[b]? =some (.cells cs T .fix)):Clo H (G.set b (.cells cs' T .fix)) p ev wv nv:=by
 have hk: ∀{α:Type}{el:α->List Value}{e:TypeId}{sz:Nat}{w:Value}{xs:List α},Rw el e sz G w xs->Rw el e sz (G.set b (.cells cs' T .fix)) w xs:=λh=>h.eX λc hc=>aRb λhh=>by
  obtain⟨cs,hx⟩:=h.blk hc;rw[<-hh,hz] at hx;cases hx
 have hn: ∀v,New H1 v->New H v:=λv h b hb=>aRq x.1 (h b hb)
 obtain⟨us,n1,n2,n3,n4⟩:=c.n
 exact⟨⟨(hk c.e.1).rs,(hk c.w.1).rs,Ip (hk n1).rs n3 λi u xs hu hx=>(hk (n4 i u xs hu hx).1).rs,c.pv.be,c.pv.bw,c.pv.bn⟩,nM (x.tr c.ext) hb,⟨hk c.e.1,hn _ c.e.2⟩,⟨hk c.w.1,hn _ c.w.2⟩,us,hk n1,hn _ n2,n3,λi u xs hu hx=>⟨hk (n4 i u xs hu hx).1,hn _ (n4 i u xs hu hx).2⟩⟩
theorem aQb (hok:gS p=true):p.edges.length<=1000/\p.weights.length<=1000/\p.next.length<=1000/\(∀xs∈p.next,xs.length<=1000)/\ ∀xs∈p.next,xs≠[]:=by
 obtain⟨N,hN⟩:=tB hok;have h6:=hN.h6;have h2:=hN.h2;refine⟨by have:=hN.e15;omega,?_,by have:=hN.nl;omega,λxs hx=>by have:=hN.rl xs hx;omega,λxs hx hz=>by have h1:=hN.rl xs hx;rw[hz] at h1;simp only[List.length_nil] at h1;omega⟩
 unfold gS qW wi at hok;simp only[aRi,decide_eq_true_eq] at hok;omega
theorem A6 (h:fU H0 H O a F p ev wv nv t s)(hm:3000<m): ∃H' e' w' n',lvl prog pkN m (.func 24) [pt a.fb] H=some (plV p e' w' n',H')/\Clo H H' p e' w' n':=by
 obtain⟨c1,c2,c3,c4,c5⟩:=aQb h.ok;obtain⟨H1,hH1⟩:=aD (H++[plZ]);have x1:Ext H H1:=by rw[hH1];exact Fr.app _ _ _
 have z1:H1[H.length]? =some plZ:=by rw[hH1];exact eY _ _
 have h1:=h.fQ x1;have lpl:ldN 11 (.Q a.fb 0) H1=some (plV p ev wv nv,H1):=qA h1.cst.fab (by simp[pU,plC])
 obtain⟨H2,e',w',n',g2,c⟩:=aB2 (h1.pv.ext h1.own.ext) c1 c2 c3 c4 c5 (m:=m-1) U
 have z2:=eU z1 c.ext;have st:=aQc z2 c.pv;have cc:=c.aQa (cs':=plC p e' w' n') x1 (aRf _) z2;obtain⟨H3,hH3⟩:=aD (H2.set H.length (plB p e' w' n'));have l3:=kE (H:=H3) (b:=H.length) (p:=p) (ev:=e') (wv:=w') (nv:=n') (by rw[hH3];exact fS z2)
 rw[<-hH3] at st;refine⟨H3,e',w',n',dH (cV rfl) U ?_,by rw[hH3];exact cc⟩
 rw[aPs];simp only[gsR,yE,<-hH1,lpl,g2,st,l3]
def kq:PlanD:=vL [0] 1 0 0
def kI:Nat×FS:=uO kq kx (FS.wV (fG kq))
end
end Go.Proofs.YtndnnndnhnlkdaaGreatDoor
namespace Go.Abs
open M
def nF (lane fr to:Nat)(b:List UInt8):Option Nat:=match qB b with
 |none=>none
 |some f=>if f.kind=1/\f.lane=lane/\fr<=qC fr f.seq/\qC fr f.seq<to then some (qC fr f.seq) else none
def sQ (ks:List Nat)(b:Option Nat):List Nat:=match b with
 |none=>ks
 |some n=>if n∈ks then ks else ks++[n]
def y6 (lane fr to:Nat)(l:List (List UInt8)):List Nat:=l.foldl (λks b=>sQ ks (nF lane fr to b)) []
structure Acc where
 usable:Int
 late:Int
 flying:Int
 held:Int
 lost:Int
deriving DecidableEq
def Acc.nE (a:Acc):List Value:=[.int .i64 a.usable,.int .i64 a.late,.int .i64 a.flying,.int .i64 a.held,.int .i64 a.lost]
def cI (n:Int):Int:=IntKind.i64.wrap (IntKind.u64.wrap n)
def Iy (room lane:Nat)(x:Snd)(y:Rcv)(l:List (List UInt8)):Acc:=
 let fl:=(y6 lane y.n x.s l).length
 ⟨x.mH,cI (y.sA room-x.l),fl,y.h,IntKind.i64.wrap (cI (x.s-y.n)-fl)⟩
def sR (c:Cfg)(s:NS):Nat:=((List.range c.lanes).map λk:Nat=>(eV s.hL k).length+((List.range c.aI).map λi=>((List.range c.aI).map λo=>mJ s.rL i o k).sum).sum).sum
theorem uP (f:Nat->Nat)(n:Nat):((List.range (n+1)).map f).sum=((List.range n).map f).sum+f n:=by
 rw[aRJ,List.map_append,List.sum_append];simp
theorem Dl {f:Nat->Nat}: ∀n,(∀i,i<n->f i=0)->((List.range n).map f).sum=0
 |0,_=>rfl
 |n+1,h=>by rw[uP,Dl n λi hi=>h i U,h n U]
theorem Dk {f:Nat->Nat}{B:Nat}: ∀n,(∀i,i<n->f i<=B)->((List.range n).map f).sum<=n*B
 |0,_=>by simp
 |n+1,h=>by
  have:=Dk n λi hi=>h i U
  have:=h n U
  rw[uP,Nat.succ_mul];omega
theorem aCi: ∀(L:List Pkt)(n:Nat),(∀x∈L,0<=x.lane/\x.lane<(n:Int))->((List.range n).map λk:Nat=>(eV L k).length).sum=L.length
 |[],n,_=>by
  rw[Dl]
  ·rfl
  ·intro i _
   rfl
 |x::L,n,h=>by
  have ih:=aCi L n λy hy=>h y (aRr _ hy)
  obtain⟨h1,h2⟩:=h x (aRj ..);have key: ∀m:Nat,((List.range m).map λk:Nat=>(eV (x::L) k).length).sum=((List.range m).map λk:Nat=>(eV L k).length).sum+if x.lane<(m:Int) then 1 else 0:=by
   intro m;induction m with
   |zero=>
    rw[if_neg U]
    rfl
   |succ m ihm=>
    rw[uP,uP,ihm];have e:(eV (x::L) (m:Int)).length=(eV L (m:Int)).length+if x.lane=(m:Int) then 1 else 0:=by
     unfold eV;rw[List.filter_cons];by_cases hx:x.lane=(m:Int)
     ·rw[if_pos (by simpa using hx),if_pos hx]
      rfl
     ·rw[if_neg (by simpa using hx),if_neg hx]
      rfl
    rw[e];by_cases h3:x.lane<(m:Int)
    ·rw[if_pos h3,if_neg U,if_pos U]
     omega
    ·by_cases h4:x.lane=(m:Int)
     ·rw[if_neg h3,if_pos h4,if_pos U]
      omega
     ·rw[if_neg h3,if_neg h4,if_neg U]
      omega
  rw[key n,ih,if_pos h2];rfl
theorem aQd {c:Cfg}{s:NS}(h1:s.rL=[])(h2: ∀x∈s.hL,0<=x.lane/\x.lane<(c.lanes:Int)):sR c s=s.hL.length:=by
 have hl: ∀i o k,mJ s.rL i o k=0:=λi o k=>by
  unfold mJ oR;rw[h1];rfl
 unfold sR;have:(λk:Nat=>(eV s.hL k).length+((List.range c.aI).map λi=>((List.range c.aI).map λo=>mJ s.rL i o k).sum).sum)=λk:Nat=>(eV s.hL k).length:=by
  funext k
  rw[Dl _ λi _=>Dl _ λo _=>hl i o k,Nat.add_zero]
 rw[this,aCi _ _ h2]
end Go.Abs
namespace Go.Proofs.YtndnnndnhnlkdaaGreatDoor
open Go.Proofs.Tryz
open Go.Abs Go.Abs.M
open Classical
def y7 (n:Nat):Value:= .int .u64 n
def IsKeys (H:aE)(mb:Nat)(ks:List Nat):Prop:= ∃(es:List (Nat×Value×Nat))(c:Nat),H[mb]? =some (.map (es.map (kZ y7)) c)/\es.map (·.1)=ks/\ks.Nodup
theorem IsKeys.aQe {H H':aE}{mb:Nat}{ks:List Nat}(h:IsKeys H mb ks)(hk:H'[mb]? =H[mb]?):IsKeys H' mb ks:=by
 obtain⟨es,c,h1,h2⟩:=h
 exact⟨es,c,by rw[hk,h1],h2⟩
theorem IsKeys.aQg (H:aE):IsKeys (H++[.map [] 0]) H.length []:=⟨[],0,by simp,rfl,List.nodup_nil⟩
theorem IsKeys.aQf {H:aE}{mb:Nat}{ks:List Nat}(h:IsKeys H mb ks):qL (.map (some mb)) H=some (.I (ks.length:Nat),H):=by
 obtain⟨es,c,h1,h2,_⟩:=h;unfold qL;simp only;rw[h1];simp only;rw[<-h2,aRo,aRo]
theorem IsKeys.aQh {kt:KeyT}(hk:KeyC kt y7){H:aE}{mb:Nat}{ks:List Nat}(h:IsKeys H mb ks)(n:Nat)(v:Value): ∃X,nU kt (.map (some mb)) (y7 n) v H=some (undef,H.set mb X)/\IsKeys (H.set mb X) mb (sQ ks (some n)):=by
 obtain⟨es,c,h1,h2,h3⟩:=h;have hlt:=(aRa.mp h1).1;have e:sQ ks (some n)=if n∈ks then ks else ks++[n]:=rfl
 rw[e];by_cases hn:n∈ks
 ·rw[if_pos hn]
  rw[<-h2] at hn;obtain⟨e,he,hen⟩:=aRN.mp hn;obtain⟨i,hi⟩:=List.getElem?_of_mem he;have hf:=Am hk es i 0 e (by rw[h2];exact h3) hi
  rw[hen] at hf;refine⟨.map ((es.set i (n,v,e.2.2)).map (kZ y7)) c,?_,es.set i (n,v,e.2.2),c,by rw[aRg hlt],?_,h3⟩
  ·unfold nU
   rw[if_pos (wP hk n)];simp only;rw[h1];simp only;rw[hf];simp only[aRv];rw[<-C5];rfl
  ·rw[List.map_set,h2]
   refine aRL λj=> ?_
   rw[List.getElem?_set];split
   ·rename_i hij
    subst hij;split
    ·rw[<-h2,aRn,hi,Option.map_some,hen]
    ·rename_i hh
     have:=(aRa.mp hi).1;rw[<-h2,aRo] at hh;omega
   ·rfl
 ·rw[if_neg hn]
  have hf:=C4 hk n es 0 λe he hen=>hn (by rw[<-h2,<-hen];exact List.mem_map_of_mem he)
  refine⟨.map ((es++[(n,v,c)]).map (kZ y7)) (c+1),?_,es++[(n,v,c)],c+1,by rw[aRg hlt],by rw[List.map_append,h2];rfl,?_⟩
  ·unfold nU
   rw[if_pos (wP hk n)];simp only;rw[h1];simp only;rw[hf,List.map_append];rfl
  ·rw[List.nodup_append]
   exact⟨h3,by simp,λa ha b hb hab=>hn (by rw[List.mem_singleton] at hb;rw[<-hb,<-hab];exact ha)⟩
theorem Rc (a:Acc):a.nE.length=5:=rfl
theorem aQi (a:Acc):dX a.nE=true:=rfl
def uR (p:PlanD)(v w:Nat):Nat:=(zX p.edges v w).toNat
def kH (p:PlanD)(s:FS)(k lane:Nat):Acc:=
 let v:=((dK p).getD k (0,0)).1.toNat
 let w:=((dK p).getD k (0,0)).2.toNat
 Iy p.room.toNat lane ((s.n v).snd (uR p v w) lane) ((s.n w).rcv (uR p w v) lane) (s.l k)
def gL (p:PlanD)(s:FS):List Acc:=(List.range (dK p).length).flatMap λk=>(List.range p.lanes.toNat).map (kH p s k)
def uQ (p:PlanD)(s:FS):Nat:=((List.range p.nodes.toNat).map λv=>sR (eW p v) (s.n v)).sum
theorem aQj (x y:Acc):bin prog .eql 43 (.agg ⟨x.nE⟩) (.agg ⟨y.nE⟩)=some (.bool (decide (x=y))):=by
 have k:rH prog 43=some [true,true,true,true,true]:=by kernel_rfl
 obtain⟨a1,a2,a3,a4,a5⟩:=x;obtain⟨b1,b2,b3,b4,b5⟩:=y;simp only[Acc.nE,Acc.mk.injEq];simp[bin,eD,nG,k,eqT,Bool.beq_eq_decide_eq,Bool.decide_and]
theorem aCj {p:PlanD}{N:Nat}(hN:OkP p N){v w:Nat}(h:((v:Int),(w:Int))∈dK p):zX p.edges v w=(uR p v w:Int)/\1<=uR p v w/\uR p v w<(eW p v).aI/\((w:Int),(v:Int))∈dK p:=by
 rw[(wL hN).2,Ck hN.ve hN.h6] at h;simp only at h;obtain⟨i,hi⟩:=List.getElem?_of_mem h;have hp:=aIw hi;have hl:=(aRa.mp hi).1;have hpo:(eW p v).aI=(bes p.edges v).length+1:=by
  show((bes p.edges v).map Int.toNat).length+1=_
  rw[aRo]
 unfold uR;refine⟨by omega,by omega,by rw[hpo];omega,?_⟩
 rw[(wL hN).2,Ck hN.ve hN.h6];exact aIs h
structure InjI (p:PlanD)(s:FS)(n:Nat):Prop where
 nd: ∀v,(s.n v).snd=(NS.m9 (eW p v)).snd/\(s.n v).rcv=(NS.m9 (eW p v)).rcv/\(s.n v).rL=[]
 l: ∀k,s.l k=[]
 sum:((List.range p.nodes.toNat).map λv=>(s.n v).hL.length).sum=n
theorem InjI.aQm (p:PlanD):InjI p (FS.wV (fG p)) 0:=⟨λ_=>⟨rfl,rfl,rfl⟩,λ_=>rfl,Dl _ λ_ _=>rfl⟩
theorem aCk (f:Nat->Nat)(v:Nat): ∀n,v<n->((List.range n).map (up1 f v (f v+1))).sum=((List.range n).map f).sum+1
 |0,h=>by omega
 |n+1,h=>by
  rw[uP,uP];by_cases hv:v=n
  ·subst hv
   have e:(List.range v).map (up1 f v (f v+1))=(List.range v).map f:=List.map_congr_left λi hi=>by
    have:=aRO.mp hi;unfold up1;rw[if_neg U]
   rw[e];unfold up1;rw[if_pos rfl];omega
  ·rw[aCk f v n U]
   unfold up1;rw[if_neg (λhh=>hv hh.symm)]
   omega
theorem aQn (c:Cfg)(x:Pkt)(s:NS):(qE c x s=((qE c x s).1,s)/\(qE c x s).1≠0)∨qE c x s=(0,{s with hL:=s.hL++[x]}):=by
 unfold qE sI;split
 ·exact .inl ⟨rfl,by simp⟩
 ·split
  ·exact .inl ⟨rfl,by simp⟩
  ·split
   ·exact .inl ⟨rfl,by simp⟩
   ·exact .inr rfl
theorem InjI.aQk {p:PlanD}{s:FS}{n:Nat}(h:InjI p s n)(x:Pkt):InjI p (uO p x s).2 (if(uO p x s).1=0 then n+1 else n):=by
 unfold uO;split
 ·rename_i hr
  simp only;have hv:x.src.toNat<p.nodes.toNat:=U
  rcases aQn (eW p x.src.toNat) x (s.n x.src.toNat) with⟨h1,h2⟩|h1
  ·rw[if_neg h2,h1]
   have e:up1 s.n x.src.toNat (s.n x.src.toNat)=s.n:=by
    funext j
    unfold up1;split
    ·rename_i hj;rw[hj]
    ·rfl
   simp only[e];exact h
  ·rw[h1]
   simp only[if_pos];refine⟨λv=> ?_,h.l,?_⟩
   ·show(up1 s.n _ _ v).snd=_/\(up1 s.n _ _ v).rcv=_/\(up1 s.n _ _ v).rL=_
    unfold up1;split
    ·rename_i hj
     rw[hj];exact h.nd _
    ·exact h.nd v
   ·have e:(λv=>(up1 s.n x.src.toNat {s.n x.src.toNat with hL:=(s.n x.src.toNat).hL++[x]} v).hL.length)=up1 (λv=>(s.n v).hL.length) x.src.toNat ((s.n x.src.toNat).hL.length+1):=by
     funext v
     unfold up1;split
     ·simp
     ·rfl
    show((List.range p.nodes.toNat).map λv=>(up1 s.n x.src.toNat {s.n x.src.toNat with hL:=(s.n x.src.toNat).hL++[x]} v).hL.length).sum=n+1
    rw[e,aCk (λv=>(s.n v).hL.length) _ _ hv,h.sum]
 ·rw[if_neg (by simp)]
  exact h
theorem InjI.acc {p:PlanD}{s:FS}{n:Nat}(h:InjI p s n)(k lane:Nat):kH p s k lane=⟨(p.room.toNat:Nat),0,0,0,0⟩:=by
 have hs: ∀v i k,(s.n v).snd i k=⟨p.start.toNat,p.start.toNat+p.room.toNat⟩:=λv i k=>by rw[(h.nd v).1];rfl
 have hr: ∀v i k,(s.n v).rcv i k=⟨p.start.toNat,0⟩:=λv i k=>by rw[(h.nd v).2.1];rfl
 have c0:cI 0=0:=by decide
 unfold kH Iy;simp only[hs,hr,h.l];have e1:(⟨p.start.toNat,p.start.toNat+p.room.toNat⟩:Snd).mH=p.room.toNat:=by unfold Snd.mH;simp only;omega
 have e2:(⟨p.start.toNat,0⟩:Rcv).sA p.room.toNat=p.start.toNat+p.room.toNat:=rfl;have e3:y6 lane p.start.toNat p.start.toNat []=[]:=rfl;have e4:((p.start.toNat+p.room.toNat:Nat):Int)-((p.start.toNat+p.room.toNat:Nat):Int)=0:=U
 have e5:((p.start.toNat:Nat):Int)-((p.start.toNat:Nat):Int)=0:=U
 rw[e1,e2,e3,e4,e5,c0];rfl
theorem InjI.aQl {p:PlanD}{s:FS}{n t:Nat}(h:InjI p s n)(hi: ∀v,v<p.nodes.toNat->NInv (eW p v) t (s.n v)):uQ p s=n:=by
 unfold uQ;rw[<-h.sum]
 congr 1
 refine List.map_congr_left λv hv=> ?_
 have:=hi v (aRO.mp hv);exact aQd (h.nd v).2.2 λx hx=>(this.hL x hx).lane
end Go.Proofs.YtndnnndnhnlkdaaGreatDoor
noncomputable section
namespace Go.Proofs.YtndnnndnhnlkdaaGreatDoor
open Go.Proofs.Tryz
open Go.Abs Go.Abs.M
variable (O:aG)(L:LV)(k:KV)(N P Q R S T U V W X Y Z a b c d e f g i j l m n o p q r s t u v w x y z A B C D E F G H I J zz zy zx zw zv zu zt zs zr zq zp zo zn zm zl zk zj zi zh zg zf ze zd zc zb za yz yy yx yw yv yu yt ys yr yq yp yo yn ym yl yk yj yi yh yg yf ye yd yc yb ya xz xy xx xw xv xu xt xs xr xq xp xo xn xm xl xk xj xi xh xg xf xe xd xc xb xa wz wy wx ww wv wu wt ws wr wq wp wo wn wm wl wk wj wi wh wg wf we wd wc wb wa vz:Value)(h:aE)
def Ru:Code:=bU [1,1,1,1,1,1,1,1,0,1,0,0] (cE prog 3)
def Rx:KV:=(dP 2 (dY prog O L (bU [1,1,1,1,1,1,1,1,1] (cE prog 3)) (eQ prog Tryz.f3)))
theorem aQv:Rx O L (.exit 2) [a,b,c,d,e,f,g,i,j,l,m,n,o,p,q,r,s,t,u,v,w,x,y,z,A,B,C,D,E,F,G,H,I,J,zz,zy,zx,zw,zv,zu,zt,zs,zr,zq,zp,zo,zn,zm,zl,zk,zj,zi,zh,zg,zf,ze,zd,zc,zb,za,yz,yy,yx,yw,yv,yu,yt,ys,yr,yq,yp,yo,yn,ym,yl,yk,yj] h=ob (O (.func 9) [o] h) λaa h=>ob (aF (bin prog .eql 3 aa q) h) λab h=>some (aL [ab],h):=by kernel_rfl
theorem aCr:aM prog O L Ru k [a,b,c,d,e,f,g,i,j,l,m,n,o,p,q,r,s,t,u,v,w,x,y,z,A,B,C,D,E,F,G,H,I,J,zz,zy,zx,zw,zv,zu,zt,zs,zr,zq,zp,zo,zn,zm,zl,zk,zj,zi,zh,zg,zf,ze,zd,zc,zb,za,yz,yy,yx,yw,yv,yu,yt,ys,yr,yq,yp,yo,yn,ym,yl,yk,yj] h=ob (aF (cK s) h) λaa h=>ob (aF (bin prog .lss 3 t aa) h) λab h=>aN ab (ob (aF (bS 5 s t) h) λac h=>ob (ldN 5 ac h) λad h=>ifB (true) (ob (aF (aJ 3 n) h) λae h=>ob (ld1 ae h) λaf h=>ifB (true) (ob (aF (bld prog 43 [(0,af)]) h) λag h=>ob (aF (bin prog .neq 43 ad ag) h) λah h=>aN ah (k .ret [a,b,c,d,e,f,g,i,j,l,(.bool false),n,o,p,q,r,s,t,u,v,w,x,y,z,A,B,C,D,E,F,G,H,I,J,zz,zy,zx,zw,zv,zu,zt,zs,zr,zq,zp,zo,zn,zm,zl,zk,zj,zi,zh,zg,zf,ze,zd,zc,zb,t,s,aa,ab,yw,yv,s,t,ac,ad,ae,af,ag,ah,ym,yl,yk,yj] h) (ob (aF (bin prog .add 3 t (.I 1)) h) λai h=>k .normal [a,b,c,d,e,f,g,i,j,l,m,n,o,p,q,r,s,ai,u,v,w,x,y,z,A,B,C,D,E,F,G,H,I,J,zz,zy,zx,zw,zv,zu,zt,zs,zr,zq,zp,zo,zn,zm,zl,zk,zj,zi,zh,zg,zf,ze,zd,zc,zb,t,s,aa,ab,t,ai,s,t,ac,ad,ae,af,ag,ah,ym,yl,yk,yj] h)))) (k (.exit 2) [a,b,c,d,e,f,g,i,j,l,m,n,o,p,q,r,s,t,u,v,w,x,y,z,A,B,C,D,E,F,G,H,I,J,zz,zy,zx,zw,zv,zu,zt,zs,zr,zq,zp,zo,zn,zm,zl,zk,zj,zi,zh,zg,zf,ze,zd,zc,zb,t,s,aa,ab,yw,yv,yu,yt,ys,yr,yq,yp,yo,yn,ym,yl,yk,yj] h):=by kernel_rfl
def Rt:Code:=bU [1,1,1,1,1,1,0,1,0,0] (cE prog 3)
def Rv:KV:=(dP 0 (dY prog O L (bU [1,1,1,1,1,1,1] (cE prog 3)) (eQ prog Tryz.f3)))
theorem aQu:Rv O L (.exit 0) [a,b,c,d,e,f,g,i,j,l,m,n,o,p,q,r,s,t,u,v,w,x,y,z,A,B,C,D,E,F,G,H,I,J,zz,zy,zx,zw,zv,zu,zt,zs,zr,zq,zp,zo,zn,zm,zl,zk,zj,zi,zh,zg,zf,ze,zd,zc,zb,za,yz,yy,yx,yw,yv,yu,yt,ys,yr,yq,yp,yo,yn,ym,yl,yk,yj] h=ob (O (.func 8) [o] h) λaa h=>L (aM prog O L Ru) (Rx O L) [a,b,c,d,e,f,g,i,j,l,m,n,o,p,q,r,aa,(.I 0),u,v,w,x,y,z,A,B,C,D,E,F,G,H,I,J,zz,zy,zx,zw,zv,zu,zt,zs,zr,zq,zp,zo,zn,zm,zl,zk,zj,zi,zh,zg,zf,ze,zd,o,aa,za,yz,yy,yx,yw,yv,yu,yt,ys,yr,yq,yp,yo,yn,ym,yl,yk,yj] h:=by kernel_rfl
theorem aCq:aM prog O L Rt k [a,b,c,d,e,f,g,i,j,l,m,n,o,p,q,r,s,t,u,v,w,x,y,z,A,B,C,D,E,F,G,H,I,J,zz,zy,zx,zw,zv,zu,zt,zs,zr,zq,zp,zo,zn,zm,zl,zk,zj,zi,zh,zg,zf,ze,zd,zc,zb,za,yz,yy,yx,yw,yv,yu,yt,ys,yr,yq,yp,yo,yn,ym,yl,yk,yj] h=ob (aF (cK e) h) λaa h=>ob (aF (bin prog .lss 3 r aa) h) λab h=>aN ab (ob (aF (bS 4 e r) h) λac h=>ob (ldN 4 ac h) λad h=>ob (O (.func 7) [o,ad] h) λae h=>ob (aF (bin prog .eql 33 ae (.int .u16 0)) h) λaf h=>aN af (ob (aF (bin prog .add 3 q (.I 1)) h) λag h=>ob (aF (bin prog .add 3 r (.I 1)) h) λah h=>k .normal [a,b,c,d,e,f,g,i,j,l,m,n,o,p,ag,ah,s,t,u,v,w,x,y,z,A,B,C,D,E,F,G,H,I,J,zz,zy,zx,zw,zv,zu,zt,zs,r,e,aa,ab,r,ah,o,e,r,ac,ad,ae,af,q,ag,zc,zb,za,yz,yy,yx,yw,yv,yu,yt,ys,yr,yq,yp,yo,yn,ym,yl,yk,yj] h) (ob (aF (bin prog .add 3 r (.I 1)) h) λai h=>k .normal [a,b,c,d,e,f,g,i,j,l,m,n,o,p,q,ai,s,t,u,v,w,x,y,z,A,B,C,D,E,F,G,H,I,J,zz,zy,zx,zw,zv,zu,zt,zs,r,e,aa,ab,r,ai,o,e,r,ac,ad,ae,af,ze,zd,zc,zb,za,yz,yy,yx,yw,yv,yu,yt,ys,yr,yq,yp,yo,yn,ym,yl,yk,yj] h)) (k (.exit 0) [a,b,c,d,e,f,g,i,j,l,m,n,o,p,q,r,s,t,u,v,w,x,y,z,A,B,C,D,E,F,G,H,I,J,zz,zy,zx,zw,zv,zu,zt,zs,r,e,aa,ab,zn,zm,zl,zk,zj,zi,zh,zg,zf,ze,zd,zc,zb,za,yz,yy,yx,yw,yv,yu,yt,ys,yr,yq,yp,yo,yn,ym,yl,yk,yj] h):=by kernel_rfl
theorem aQw:cL prog O L 3 [N,P,Q,R,S] h=ob (aF (cK S) h) λaa h=>ob (aF (bin prog .gtr 3 aa (.I 30)) h) λab h=>ob (gd ab false (O (.func 4) []) h) λac h=>ob (gd ab false (aF (un prog .not ac)) h) λad h=>ob (aF (dO ab (.bool true) ad) h) λae h=>aN ae (ob (O (.func 4) [] h) λaf h=>some (aL [af],h)) (ob (O (.func 5) [N,P,Q,R] h) λag h=>ob (dD 30 [(.I 0),(.slice none 0 0),(.I 0),(.I 0),(.I 0),(.I 0),(.I 0),(.I 0),(.slice none 0 0),(.int .u16 0),(.slice none 0 0)] .fix h) λah h=>ob (stN 11 ah ag h) λai h=>ob (ldN 11 ah h) λaj h=>ob (O (.func 6) [aj] h) λak h=>ob (aF (ext 0 ak) h) λal h=>ob (aF (ext 1 ak) h) λam h=>ob (aF (bin prog .neq 33 am (.int .u16 0)) h) λan h=>ob (gd an false (c9 al) h) λao h=>ob (gd an false (aF (bin prog .eql 32 ao (.pointer none))) h) λap h=>ob (aF (dO an (.bool true) ap) h) λaq h=>aN aq (some (aL [(.bool false)],h)) (L (aM prog O L Rt) (Rv O L) [N,P,Q,R,S,undef,undef,undef,undef,undef,(.bool false),ah,al,am,(.I 0),(.I 0),undef,undef,S,aa,ab,ab,ac,ad,ae,undef,N,P,Q,R,ag,ak,aj,ak,al,am,am,an,an,ao,ap,aq,undef,undef,undef,undef,undef,undef,undef,undef,undef,undef,undef,undef,undef,undef,undef,undef,undef,undef,undef,undef,undef,undef,undef,undef,undef,undef,undef,undef,undef,undef,undef,undef,undef,undef,undef] h)):=by kernel_rfl
def Rz:Code:=bU [1,1,0,1,0,0,1,1,0,0,1,1,0,0] (cE prog 8)
def R4:KV:=(dP 2 (dP 1 (dY prog O L (bU [1,1,0,1,0,0,1,1,1] (cE prog 8)) k)))
def R0 (O:aG)(L:LV) (k:KV) (a b c d e f g i j l m n o p q r s t u v w x y z A B C D E F G H I J:Value) (h:aE):OV:=ob (aF (bin prog .add 3 n (.I 1)) h) λaa h=>k .normal [a,b,c,d,e,f,g,i,j,l,m,aa,o,p,q,r,s,t,u,v,w,x,y,z,A,B,C,D,E,F,G,H,aa,J] h
theorem aQz:R4 O L k (.exit 2) [a,b,c,d,e,f,g,i,j,l,m,n,o,p,q,r,s,t,u,v,w,x,y,z,A,B,C,D,E,F,G,H,I,J] h=R0 O L k a b c d e f g i j l m n o p q r s t u v w x y z A B C D E F G H I J h:=by kernel_rfl
theorem aCt:aM prog O L Rz k [a,b,c,d,e,f,g,i,j,l,m,n,o,p,q,r,s,t,u,v,w,x,y,z,A,B,C,D,E,F,G,H,I,J] h=ob (aF (bin prog .lss 3 t s) h) λaa h=>aN aa (ob (O (.func 12) [a,e,t] h) λab h=>ob (aF (ext 0 ab) h) λac h=>ob (aF (ext 1 ab) h) λad h=>ob (dD 43 [(.I 0),(.I 0),(.I 0),(.I 0),(.I 0)] .fix h) λae h=>ob (stN 5 ae ac h) λaf h=>ob (ldN 5 ae h) λag h=>ob (dR 43 5 1 [(.I 0),(.I 0),(.I 0),(.I 0),(.I 0)] [(0,ag)] h) λah h=>ob (app 43 5 40 d ah h) λai h=>ob (aF (bin prog .add 3 t (.I 1)) h) λaj h=>k .normal [a,b,c,ai,e,t,ae,ad,j,l,m,n,o,p,q,r,s,aj,aa,t,ab,a,e,t,ab,ac,ad,d,ag,ah,ai,aj,I,J] h) (k (.exit 2) [a,b,c,d,e,f,g,i,j,l,m,n,o,p,q,r,s,t,aa,v,w,x,y,z,A,B,C,D,E,F,G,H,I,J] h):=by kernel_rfl
def Ry:Code:=bU [1,1,0,1,0,0] (cE prog 8)
def R3:KV:=(dP 0 (dY prog O L (bU [1,1,1] (cE prog 8)) (eQ prog Tryz.f8)))
theorem aQy:R3 O L (.exit 0) [a,b,c,d,e,f,g,i,j,l,m,n,o,p,q,r,s,t,u,v,w,x,y,z,A,B,C,D,E,F,G,H,I,J] h=some (aL [d],h):=by kernel_rfl
theorem aCs:aM prog O L Ry k [a,b,c,d,e,f,g,i,j,l,m,n,o,p,q,r,s,t,u,v,w,x,y,z,A,B,C,D,E,F,G,H,I,J] h=ob (aF (bin prog .lss 3 n m) h) λaa h=>aN aa (ob (O (.func 24) [a] h) λab h=>ob (aF (rI 2 ab) h) λac h=>L (aM prog O L Rz) (R4 O L k) [a,b,c,d,n,f,g,i,j,l,m,n,aa,n,a,ab,ac,(.I 0),u,v,w,x,y,z,A,B,C,D,E,F,G,H,I,J] h) (k (.exit 0) [a,b,c,d,e,f,g,i,j,l,m,n,aa,p,q,r,s,t,u,v,w,x,y,z,A,B,C,D,E,F,G,H,I,J] h):=by kernel_rfl
theorem aQA:cL prog O L 8 [N] h=ob (O (.func 23) [N] h) λaa h=>ob (aF (cK aa) h) λab h=>L (aM prog O L Ry) (R3 O L) [N,undef,(.slice none 0 0),(.slice none 0 0),undef,undef,undef,undef,N,aa,ab,(.I 0),undef,undef,undef,undef,undef,undef,undef,undef,undef,undef,undef,undef,undef,undef,undef,undef,undef,undef,undef,undef,undef,undef] h:=by kernel_rfl
def R6:Code:=bU [1,1,1,0,1,0,0] (cE prog 9)
def R8:KV:=(dP 2 (dY prog O L (bU [1,1,1,1] (cE prog 9)) (eQ prog Tryz.f9)))
theorem aQC:R8 O L (.exit 2) [a,b,c,d,e,f,g,i,j,l,m,n,o,p,q,r,s,t,u,v,w,x,y,z,A,B,C,D,E,F,G,H] h=some (aL [d],h):=by kernel_rfl
theorem aCv:aM prog O L R6 k [a,b,c,d,e,f,g,i,j,l,m,n,o,p,q,r,s,t,u,v,w,x,y,z,A,B,C,D,E,F,G,H] h=ob (aF (bin prog .lss 3 y x) h) λaa h=>aN aa (ob (aF (bS 5 w y) h) λab h=>ob (ldN 5 ab h) λac h=>ob (dD 43 [(.I 0),(.I 0),(.I 0),(.I 0),(.I 0)] .fix h) λad h=>ob (stN 5 ad ac h) λae h=>ob (aF (aJ 2 ad) h) λaf h=>ob (ld1 af h) λag h=>ob (aF (bin prog .add 3 d ag) h) λah h=>ob (aF (bin prog .add 3 y (.I 1)) h) λai h=>k .normal [a,b,c,ah,e,f,ad,i,j,l,m,n,o,p,q,r,s,t,u,v,w,x,ai,aa,ab,ac,d,af,ag,ah,ai,H] h) (k (.exit 2) [a,b,c,d,e,f,g,i,j,l,m,n,o,p,q,r,s,t,u,v,w,x,y,aa,A,B,C,D,E,F,G,H] h):=by kernel_rfl
def R5:Code:=bU [1,1,0,1,0,0] (cE prog 9)
def R7:KV:=(dP 0 (dY prog O L (bU [1,1,1] (cE prog 9)) (eQ prog Tryz.f9)))
theorem aQB:R7 O L (.exit 0) [a,b,c,d,e,f,g,i,j,l,m,n,o,p,q,r,s,t,u,v,w,x,y,z,A,B,C,D,E,F,G,H] h=ob (O (.func 8) [a] h) λaa h=>ob (aF (cK aa) h) λab h=>L (aM prog O L R6) (R8 O L) [a,b,c,d,e,f,g,i,j,l,m,n,o,p,q,r,s,t,u,a,aa,ab,(.I 0),z,A,B,C,D,E,F,G,H] h:=by kernel_rfl
theorem aCu:aM prog O L R5 k [a,b,c,d,e,f,g,i,j,l,m,n,o,p,q,r,s,t,u,v,w,x,y,z,A,B,C,D,E,F,G,H] h=ob (aF (bin prog .lss 3 m l) h) λaa h=>aN aa (ob (O (.func 25) [a,m] h) λab h=>ob (aF (bin prog .add 3 d ab) h) λac h=>ob (aF (bin prog .add 3 m (.I 1)) h) λad h=>k .normal [a,b,c,ac,m,f,g,i,j,l,ad,aa,m,d,a,m,ab,ac,ad,v,w,x,y,z,A,B,C,D,E,F,G,H] h) (k (.exit 0) [a,b,c,d,e,f,g,i,j,l,m,aa,o,p,q,r,s,t,u,v,w,x,y,z,A,B,C,D,E,F,G,H] h):=by kernel_rfl
theorem aQD:cL prog O L 9 [N] h=ob (O (.func 24) [N] h) λaa h=>ob (aF (rI 0 aa) h) λab h=>L (aM prog O L R5) (R7 O L) [N,undef,(.I 0),(.I 0),undef,undef,undef,N,aa,ab,(.I 0),undef,undef,undef,undef,undef,undef,undef,undef,undef,undef,undef,undef,undef,undef,undef,undef,undef,undef,undef,undef,undef] h:=by kernel_rfl
theorem aQx:cL prog O L 4 [] h=ob (dR 5 1 1 [(.int .u8 0)] [(0,(.int .u8 0))] h) λaa h=>ob (O (.func 5) [aa,(.int .u8 1),(.int .u8 0),(.int .u16 0)] h) λab h=>ob (O (.func 6) [ab] h) λac h=>ob (aF (ext 0 ac) h) λad h=>ob (aF (ext 1 ac) h) λae h=>ob (aF (bin prog .neq 33 ae (.int .u16 0)) h) λaf h=>ob (gd af false (c9 ad) h) λag h=>ob (gd af false (aF (bin prog .eql 32 ag (.pointer none))) h) λah h=>ob (aF (dO af (.bool true) ah) h) λai h=>ob (gd ai false (c9 ad) h) λaj h=>ob (gd ai false (O (.func 10) [aj,(.I 0)]) h) λak h=>ob (gd ai false (aF (bin prog .eql 46 ak (.pointer none))) h) λal h=>ob (aF (dO ai (.bool true) al) h) λam h=>aN am (some (aL [(.bool false)],h)) (ob (aF (bld prog 39 [(0,(.I 0)),(1,(.I 1)),(3,(.int .u32 7))]) h) λan h=>ob (O (.func 7) [ad,an] h) λao h=>ob (O (.func 11) [ad] h) λap h=>ob (O (.func 12) [ad,(.I 0),(.I 0)] h) λaq h=>ob (aF (ext 0 aq) h) λar h=>ob (aF (ext 1 aq) h) λau h=>ob (dD 43 [(.I 0),(.I 0),(.I 0),(.I 0),(.I 0)] .fix h) λav h=>ob (stN 5 av ar h) λaw h=>ob (O (.func 12) [ad,(.I 2),(.I 0)] h) λax h=>ob (aF (ext 0 ax) h) λay h=>ob (aF (ext 1 ax) h) λaz h=>ob (dD 43 [(.I 0),(.I 0),(.I 0),(.I 0),(.I 0)] .fix h) λba h=>ob (stN 5 ba ay h) λbb h=>ob (gd au true (c9 az) h) λbc h=>ob (gd au true (aF (un prog .not bc)) h) λbd h=>ob (aF (dO au bd (.bool false)) h) λbe h=>ob (gd be true (ldN 5 av) h) λbf h=>ob (gd be true (aF (bld prog 43 [(0,(.I 1)),(2,(.I 1))])) h) λbg h=>ob (gd be true (aF (bin prog .eql 43 bf bg)) h) λbh h=>ob (aF (dO be bh (.bool false)) h) λbi h=>ob (gd bi true (c9 ad) h) λbj h=>ob (gd bi true (O (.func 9) [bj]) h) λbk h=>ob (gd bi true (aF (bin prog .eql 3 bk (.I 1))) h) λbl h=>ob (aF (dO bi bl (.bool false)) h) λbm h=>ob (gd bm true (c9 ad) h) λbn h=>ob (gd bm true (O (.func 8) [bn]) h) λbo h=>ob (gd bm true (aF (cK bo)) h) λbp h=>ob (gd bm true (aF (bin prog .eql 3 bp (.I 2))) h) λbq h=>ob (aF (dO bm bq (.bool false)) h) λbr h=>some (aL [br],h)):=by kernel_rfl
theorem aCl:cL prog O L 12 [N,P,Q] h=ob (dD 43 [(.I 0),(.I 0),(.I 0),(.I 0),(.I 0)] .fix h) λaa h0=>ob (O (.func 24) [N] h0) λab h1=>ob (dD 30 [(.I 0),(.slice none 0 0),(.I 0),(.I 0),(.I 0),(.I 0),(.I 0),(.I 0),(.slice none 0 0),(.int .u16 0),(.slice none 0 0)] .fix h1) λac h2=>ob (stN 11 ac ab h2) λad h3=>ob (O (.func 10) [N,P] h3) λae h4=>ob (aF (bin prog .eql 46 ae (.pointer none)) h4) λaf h5=>ob (gd af false (c9 Q) h5) λag h6=>ob (gd af false (aF (bin prog .lss 3 ag (.I 0))) h6) λah h7=>ob (aF (dO af (.bool true) ah) h7) λai h8=>ob (gd ai false (c9 Q) h8) λaj h9=>ob (gd ai false (aF (aJ 2 ac)) h9) λak h10=>ob (gd ai false (ld1 ak) h10) λal h11=>ob (gd ai false (aF (bin prog .geq 3 aj al)) h11) λam h12=>ob (aF (dO ai (.bool true) am) h12) λan h13=>aN an (ob (aF (bld prog 43 []) h13) λao h14=>ob (stN 5 aa ao h14) λap h15=>ob (ldN 5 aa h15) λw16 _=>some (aL [w16,(.bool false)],h15)) (ob (O (.func 23) [N] h13) λaq h17=>ob (aF (bS 2 aq P) h17) λar h18=>ob (ldN 2 ar h18) λau h19=>ob (dD 65 [(.I 0),(.I 0)] .fix h19) λav h20=>ob (stN 2 av au h20) λaw h21=>ob (aF (aJ 0 av) h21) λax h22=>ob (ld1 ax h22) λay h23=>ifB (true) (ob (O (.func 21) [N,ay] h23) λaz h24=>ifB (true) (ob (ldN 11 ac h24) λba h25=>ifB (chk ((ldN 11 ac) h23) ba&&(true)) (ob (aF (aJ 0 av) h25) λbb h26=>ob (ld1 bb h26) λbc h27=>ifB (chk ((ld1 bb) h23) bc&&(true)) (ob (aF (aJ 1 av) h27) λbd h28=>ob (ld1 bd h28) λbe h29=>ifB (chk ((ld1 bd) h23) be&&(true)) (ob (O (.func 29) [ba,bc,be] h29) λbf h30=>ifB (true) (ob (O (.func 28) [az,bf,Q] h30) λbg h31=>ifB (true) (ob (aF (aJ 1 av) h31) λbh h32=>ob (ld1 bh h32) λbi h33=>ifB (true) (ob (O (.func 21) [N,bi] h33) λbj h34=>ifB (true) (ob (ldN 11 ac h34) λbk h35=>ifB (chk ((ldN 11 ac) h33) bk&&(true)) (ob (aF (aJ 1 av) h35) λbl h36=>ob (ld1 bl h36) λbm h37=>ifB (chk ((ld1 bl) h33) bm&&(true)) (ob (aF (aJ 0 av) h37) λbn h38=>ob (ld1 bn h38) λbo h39=>ifB (chk ((ld1 bn) h33) bo&&(true)) (ob (O (.func 29) [bk,bm,bo] h39) λbp h40=>ifB (true) (ob (O (.func 30) [bj,bp,Q] h40) λbq h41=>ifB (true) (ob (O (.func 31) [bg] h41) λbr h42=>ob (O (.func 32) [bq] h42) λbs h43=>ob (O (.func 33) [bg] h43) λbt h44=>ob (aF (bin prog .sub 82 bs bt) h44) λbu h45=>ob (eI prog 82 3 bu h45) λbv h46=>ob (O (.func 34) [bq] h46) λbw h47=>ob (aF (bld prog 43 [(0,br),(1,bv),(3,bw)]) h47) λbx h48=>ob (dD 43 [(.I 0),(.I 0),(.I 0),(.I 0),(.I 0)] .fix h48) λbz h49=>ob (stN 5 bz bx h49) λca h50=>ob (O (.func 36) [ae] h50) λcb h51=>ob (O (.func 37) [bq] h51) λcc h52=>ob (O (.func 38) [bg] h52) λcd h53=>ob (O (.func 35) [cb,Q,cc,cd] h53) λce h54=>ob (aF (aJ 2 bz) h54) λcf h55=>ob (stN 1 cf ce h55) λcg h56=>ob (O (.func 38) [bg] h56) λch h57=>ifB (true) (ob (O (.func 37) [bq] h57) λci h58=>ifB (true) (ob (aF (bin prog .sub 82 ch ci) h58) λcj h59=>ob (eI prog 82 3 cj h59) λck h60=>ob (aF (aJ 2 bz) h60) λcl h61=>ob (ld1 cl h61) λcm h62=>ifB (chk ((ld1 cl) h57) cm&&(chk ((ld1 cl) h56) cm&&(true))) (ob (aF (bin prog .sub 3 ck cm) h62) λcn h63=>ob (aF (aJ 4 bz) h63) λco h64=>ob (stN 1 co cn h64) λcp h65=>ifB (true) (ob (ldN 5 bz h65) λcq h66=>ob (stN 5 aa cq h66) λcr h67=>ob (ldN 5 aa h67) λw68 _=>some (aL [w68,(.bool true)],h67)))))))))))))))))))):=by kernel_rfl
def Rh:Code:=bU [1,1,1,1,0,1,0,0,1,1,0,0,1,1,1,0,0,1,1,0,0,1,1,0,0] (cE prog 25)
def Rm:KV:=(dP 4 (dP 3 (dY prog O L (bU [1,1,1,1,0,1,0,0,1,1,0,0,1,1,1,0,0,1,1,1] (cE prog 25)) k)))
def Rj (O:aG)(L:LV) (k:KV) (a b c d e f g i j l m n o p q r s t u v w x y z A B C D E F G H I J zz zy zx zw zv zu zt zs zr zq zp zo zn zm zl zk zj zi:Value) (h:aE):OV:=ob (aF (bin prog .add 3 J (.I 1)) h) λaa h=>k .normal [a,b,c,d,e,f,g,i,j,l,m,n,o,p,q,r,s,t,u,v,w,x,y,z,A,B,C,D,E,F,G,H,I,aa,zz,zy,zx,zw,zv,zu,zt,zs,zr,zq,zp,zo,zn,zm,zl,aa,zj,zi] h
theorem aQq:Rm O L k (.exit 4) [a,b,c,d,e,f,g,i,j,l,m,n,o,p,q,r,s,t,u,v,w,x,y,z,A,B,C,D,E,F,G,H,I,J,zz,zy,zx,zw,zv,zu,zt,zs,zr,zq,zp,zo,zn,zm,zl,zk,zj,zi] h=Rj O L k a b c d e f g i j l m n o p q r s t u v w x y z A B C D E F G H I J zz zy zx zw zv zu zt zs zr zq zp zo zn zm zl zk zj zi h:=by kernel_rfl
theorem aCo:aM prog O L Rh k [a,b,c,d,e,f,g,i,j,l,m,n,o,p,q,r,s,t,u,v,w,x,y,z,A,B,C,D,E,F,G,H,I,J,zz,zy,zx,zw,zv,zu,zt,zs,zr,zq,zp,zo,zn,zm,zl,zk,zj,zi] h=ob (aF (bin prog .lss 3 zw zx) h) λaa h=>aN aa (ob (O (.func 61) [f] h) λab h=>ob (O (.func 62) [ab,l,zw,j] h) λac h=>ob (aF (bin prog .add 3 g ac) h) λad h=>ob (aF (bin prog .add 3 zw (.I 1)) h) λae h=>k .normal [a,b,c,d,e,f,ad,i,j,l,zw,n,o,p,q,r,s,t,u,v,w,x,y,z,A,B,C,D,E,F,G,H,I,J,zz,zy,zx,ae,aa,zw,g,f,ab,l,zw,j,ac,ad,ae,zk,zj,zi] h) (k (.exit 4) [a,b,c,d,e,f,g,i,j,l,m,n,o,p,q,r,s,t,u,v,w,x,y,z,A,B,C,D,E,F,G,H,I,J,zz,zy,zx,zw,aa,zu,zt,zs,zr,zq,zp,zo,zn,zm,zl,zk,zj,zi] h):=by kernel_rfl
def Rf:Code:=bU [1,1,1,1,0,1,0,0,1,1,0,0,1,1,1,0,0] (cE prog 25)
def Rl:KV:=(dP 2 (dP 1 (dY prog O L (bU [1,1,1,1,0,1,0,0,1,1,1] (cE prog 25)) k)))
def Ri (O:aG)(L:LV) (k:KV) (a b c d e f g i j l m n o p q r s t u v w x y z A B C D E F G H I J zz zy zx zw zv zu zt zs zr zq zp zo zn zm zl zk zj zi:Value) (h:aE):OV:=ob (aF (bin prog .add 3 z (.I 1)) h) λaa h=>k .normal [a,b,c,d,e,f,g,i,j,l,m,n,o,p,q,r,s,t,u,v,w,x,y,aa,A,B,C,D,E,F,G,H,I,J,zz,zy,zx,zw,zv,zu,zt,zs,zr,zq,zp,zo,zn,zm,zl,zk,aa,zi] h
theorem aQp:Rl O L k (.exit 2) [a,b,c,d,e,f,g,i,j,l,m,n,o,p,q,r,s,t,u,v,w,x,y,z,A,B,C,D,E,F,G,H,I,J,zz,zy,zx,zw,zv,zu,zt,zs,zr,zq,zp,zo,zn,zm,zl,zk,zj,zi] h=Ri O L k a b c d e f g i j l m n o p q r s t u v w x y z A B C D E F G H I J zz zy zx zw zv zu zt zs zr zq zp zo zn zm zl zk zj zi h:=by kernel_rfl
theorem aCn:aM prog O L Rf k [a,b,c,d,e,f,g,i,j,l,m,n,o,p,q,r,s,t,u,v,w,x,y,z,A,B,C,D,E,F,G,H,I,J,zz,zy,zx,zw,zv,zu,zt,zs,zr,zq,zp,zo,zn,zm,zl,zk,zj,zi] h=ob (aF (bin prog .lss 3 J I) h) λaa h=>aN aa (L (aM prog O L Rh) (Rm O L k) [a,b,c,d,e,f,g,i,j,J,m,n,o,p,q,r,s,t,u,v,w,x,y,z,A,B,C,D,E,F,G,H,I,J,aa,J,i,(.I 0),zv,zu,zt,zs,zr,zq,zp,zo,zn,zm,zl,zk,zj,zi] h) (k (.exit 2) [a,b,c,d,e,f,g,i,j,l,m,n,o,p,q,r,s,t,u,v,w,x,y,z,A,B,C,D,E,F,G,H,I,J,aa,zy,zx,zw,zv,zu,zt,zs,zr,zq,zp,zo,zn,zm,zl,zk,zj,zi] h):=by kernel_rfl
def Re:Code:=bU [1,1,1,1,0,1,0,0] (cE prog 25)
def Rk:KV:=(dP 0 (dY prog O L (bU [1,1,1,1,1] (cE prog 25)) (eQ prog Tryz.f25)))
theorem aQo:Rk O L (.exit 0) [a,b,c,d,e,f,g,i,j,l,m,n,o,p,q,r,s,t,u,v,w,x,y,z,A,B,C,D,E,F,G,H,I,J,zz,zy,zx,zw,zv,zu,zt,zs,zr,zq,zp,zo,zn,zm,zl,zk,zj,zi] h=some (aL [g],h):=by kernel_rfl
theorem aCm:aM prog O L Re k [a,b,c,d,e,f,g,i,j,l,m,n,o,p,q,r,s,t,u,v,w,x,y,z,A,B,C,D,E,F,G,H,I,J,zz,zy,zx,zw,zv,zu,zt,zs,zr,zq,zp,zo,zn,zm,zl,zk,zj,zi] h=ob (aF (bin prog .lss 3 z y) h) λaa h=>aN aa (ob (O (.func 59) [f] h) λab h=>ob (O (.func 60) [ab,z] h) λac h=>ob (aF (bin prog .add 3 g ac) h) λad h=>L (aM prog O L Rf) (Rl O L k) [a,b,c,d,e,f,ad,i,z,l,m,n,o,p,q,r,s,t,u,v,w,x,y,z,aa,z,g,f,ab,z,ac,ad,i,(.I 0),zz,zy,zx,zw,zv,zu,zt,zs,zr,zq,zp,zo,zn,zm,zl,zk,zj,zi] h) (k (.exit 0) [a,b,c,d,e,f,g,i,j,l,m,n,o,p,q,r,s,t,u,v,w,x,y,z,aa,B,C,D,E,F,G,H,I,J,zz,zy,zx,zw,zv,zu,zt,zs,zr,zq,zp,zo,zn,zm,zl,zk,zj,zi] h):=by kernel_rfl
theorem aQr:cL prog O L 25 [N,P] h=ob (O (.func 21) [N,P] h) λaa h=>ob (O (.func 24) [N] h) λab h=>ob (O (.func 48) [ab,P] h) λac h=>ob (aF (cK ac) h) λad h=>ob (aF (bin prog .add 3 ad (.I 1)) h) λae h=>ob (O (.func 24) [N] h) λaf h=>ob (aF (rI 2 af) h) λag h=>L (aM prog O L Re) (Rk O L) [N,P,undef,undef,(.I 0),aa,(.I 0),ae,undef,undef,undef,N,P,aa,N,ab,P,ac,ad,ae,N,af,ag,(.I 0),undef,undef,undef,undef,undef,undef,undef,undef,undef,undef,undef,undef,undef,undef,undef,undef,undef,undef,undef,undef,undef,undef,undef,undef,undef,undef,undef,undef] h:=by kernel_rfl
def Rn:Code:=bU [1,1,0,1,0,0] (cE prog 35)
def Ro:KV:=(dP 0 (dY prog O L (bU [1,1,1] (cE prog 35)) (eQ prog Tryz.f35)))
theorem aQs:Ro O L (.exit 0) [a,b,c,d,e,f,g,i,j,l,m,n,o,p,q,r,s,t,u,v,w,x,y,z,A,B,C,D,E,F,G,H,I,J,zz,zy,zx,zw,zv,zu,zt,zs,zr,zq,zp,zo,zn,zm,zl,zk,zj,zi,zh,zg,zf,ze,zd,zc,zb,za] h=ob (qL l h) λaa h=>some (aL [aa],h):=by kernel_rfl
theorem aCp:aM prog O L Rn k [a,b,c,d,e,f,g,i,j,l,m,n,o,p,q,r,s,t,u,v,w,x,y,z,A,B,C,D,E,F,G,H,I,J,zz,zy,zx,zw,zv,zu,zt,zs,zr,zq,zp,zo,zn,zm,zl,zk,zj,zi,zh,zg,zf,ze,zd,zc,zb,za] h=ob (aF (bin prog .lss 3 u t) h) λaa h=>aN aa (ob (aF (bS 1 s u) h) λab h=>ob (ld1 ab h) λac h=>ob (O (.func 74) [ac] h) λad h=>ob (aF (ext 0 ad) h) λae h=>ob (aF (ext 1 ad) h) λaf h=>ob (dD 130 [(.int .u8 0),(.int .u8 0),(.int .u16 0),(.int .u8 0),(.int .u8 0),(.int .u32 0)] .fix h) λag h=>ob (stN 6 ag ae h) λah h=>ob (aF (bin prog .neq 33 af (.int .u16 0)) h) λai h=>ob (gd ai false (aF (aJ 0 ag)) h) λaj h=>ob (gd ai false (ld1 aj) h) λak h=>ob (gd ai false (aF (bin prog .neq 5 ak (.int .u8 1))) h) λal h=>ob (aF (dO ai (.bool true) al) h) λam h=>ob (gd am false (aF (aJ 1 ag)) h) λan h=>ob (gd am false (ld1 an) h) λao h=>ob (gd am false (eI prog 5 3 ao) h) λap h=>ob (gd am false (c9 b) h) λaq h=>ob (gd am false (aF (bin prog .neq 3 ap aq)) h) λar h=>ob (aF (dO am (.bool true) ar) h) λau h=>aN au (ob (aF (bin prog .add 3 u (.I 1)) h) λav h=>k .normal [a,b,c,d,e,f,g,i,j,l,u,ac,ag,af,q,r,s,t,av,aa,u,ab,ac,ad,ac,ad,ae,af,af,ai,ai,aj,ak,al,am,am,an,ao,ap,aq,ar,au,zr,zq,zp,zo,zn,zm,zl,zk,zj,zi,zh,zg,zf,ze,zd,av,zb,za] h) (ob (aF (aJ 2 ag) h) λaw h=>ob (ld1 aw h) λax h=>ob (O (.func 75) [c,ax] h) λay h=>ob (aF (bin prog .geq 82 ay c) h) λaz h=>ob (gd az true (c9 ay) h) λba h=>ob (gd az true (c9 d) h) λbb h=>ob (gd az true (aF (bin prog .lss 82 ba bb)) h) λbc h=>ob (aF (dO az bc (.bool false)) h) λbd h=>aN bd (ob (nU .num l ay u h) λbe h=>ob (aF (bin prog .add 3 u (.I 1)) h) λbf h=>k .normal [a,b,c,d,e,f,g,i,j,l,u,ac,ag,af,ay,r,s,t,bf,aa,u,ab,ac,ad,ac,ad,ae,af,af,ai,ai,aj,ak,al,am,am,an,ao,ap,aq,ar,au,c,aw,ax,ay,ay,c,az,az,ba,bb,bc,bd,l,ay,u,bf,zb,za] h) (ob (aF (bin prog .add 3 u (.I 1)) h) λbg h=>k .normal [a,b,c,d,e,f,g,i,j,l,u,ac,ag,af,ay,r,s,t,bg,aa,u,ab,ac,ad,ac,ad,ae,af,af,ai,ai,aj,ak,al,am,am,an,ao,ap,aq,ar,au,c,aw,ax,ay,ay,c,az,az,ba,bb,bc,bd,zf,ze,zd,bg,zb,za] h))) (k (.exit 0) [a,b,c,d,e,f,g,i,j,l,m,n,o,p,q,r,s,t,u,aa,w,x,y,z,A,B,C,D,E,F,G,H,I,J,zz,zy,zx,zw,zv,zu,zt,zs,zr,zq,zp,zo,zn,zm,zl,zk,zj,zi,zh,zg,zf,ze,zd,zc,zb,za] h):=by kernel_rfl
theorem aQt:cL prog O L 35 [N,P,Q,R] h=ob (oK h) λaa h=>ob (aF (cK N) h) λab h=>L (aM prog O L Rn) (Ro O L) [N,P,Q,R,undef,undef,undef,undef,(.I 0),aa,undef,undef,undef,undef,undef,aa,N,ab,(.I 0),undef,undef,undef,undef,undef,undef,undef,undef,undef,undef,undef,undef,undef,undef,undef,undef,undef,undef,undef,undef,undef,undef,undef,undef,undef,undef,undef,undef,undef,undef,undef,undef,undef,undef,undef,undef,undef,undef,undef,undef,undef] h:=by kernel_rfl
end Go.Proofs.YtndnnndnhnlkdaaGreatDoor
end
namespace Go.Proofs.YtndnnndnhnlkdaaGreatDoor
open Go.Proofs.Tryz
open Go.Abs Go.Abs.M
open Classical
section
variable {H0 H H' : aE} {O : FP → Nat → Prop} {a : FL} {F : Nat → Part → Nat → Prop} {p : PlanD} {ev wv nv : Value} {t : Nat} {s : FS} {m : Nat}
theorem aQG:KeyC .num y7:=⟨λx y=>by
 simp only[kS,y7];simp[Bool.beq_eq_decide_eq];omega⟩
theorem aQF {Hs:aE}{u:Value}{l:List (List UInt8)}{G:Nat->Prop}(hr:Lk.uN Hs u l G)(hsm:l.length<=64)(lane fr to:Nat)(hfr:fr<9223372036854775808)(hm:1000<m){mb:Nat}(hmb:Hs.length<=mb):
  ∀(q i lp:Nat)(H:aE),l.length-i=q->i<=l.length->q<lp->Ext Hs H->IsKeys H mb ((l.take i).foldl (λks b=>sQ ks (nF lane fr to b)) [])-> ∀(x0 x4 x5 x6 x7 x8 bQ cG aS aP aQ aO bJ bM bT bN bP aU aV aW aX aY aZ bA bH bO bV cH cJ bX cC bY b9 cA cD cF cM cN cO cQ cW cX cY cS cT cZ dA dE dB dC dF dL dM:Value),
  ∃H2,aK lp (aM prog (lvl prog pkN m) (aK m) Rn) (Ro (lvl prog pkN m) (aK m)) [x0,(.I (lane:Nat)),(.int .u64 (fr:Nat)),(.int .u64 (to:Nat)),x4,x5,x6,x7,x8,(.map (some mb)),bQ,cG,aS,aP,aQ,aO,u,(.I (l.length:Nat)),(.I (i:Nat)),bJ,bM,bT,bN,bP,aU,aV,aW,aX,aY,aZ,bA,bH,bO,bV,cH,cJ,bX,cC,bY,b9,cA,cD,cF,cM,cN,cO,cQ,cW,cX,cY,cS,cT,cZ,dA,dE,dB,dC,dF,dL,dM] H=some (.I ((y6 lane fr to l).length:Nat),H2)/\Ext Hs H2:=by
 intro q;induction q with
 |zero=>
  intro i lp H hq hi hl he hk;intros;obtain⟨lp,rfl⟩:=aB lp U
  obtain rfl:i=l.length:=U
  have e:decide ((l.length:Int)<(l.length:Nat))=false:=by simp
  rw[List.take_length] at hk;have hlen:=hk.aQf;refine⟨H,?_,he⟩;rw[dG,aCp];simp only[gsR,e];rw[aQs];simp only[gsR,hlen];rfl
 |succ q ih=>
  intro i lp H hq hi hl he hk;intros;obtain⟨lp,rfl⟩:=aB lp U
  have e:decide ((i:Int)<(l.length:Nat))=true:=aRU U
  have e3:=aA (i:=i) U
  obtain⟨bs,hb⟩: ∃bs,l[i]? =some bs:=⟨_,aRc U⟩
  obtain⟨v,pp,g1,g2,g3,g4,g5⟩:=hr.Vf hb .i64;have hld:=g3 H (he.2 pp (hr.wB pp g2) id);have hub:=(g4.E2 λb hl=>he.2 b (hr.wB b (g5 b hl)) id:Bo 5 H v bs)
  obtain⟨H3,d1,x3⟩:=aLQ (m:=m) U (Bo.rs' hub)
  have hfold:(l.take (i+1)).foldl (λks b=>sQ ks (nF lane fr to b)) []=sQ ((l.take i).foldl (λks b=>sQ ks (nF lane fr to b)) []) (nF lane fr to bs):=by
   rw[List.take_add_one,hb,List.foldl_append];rfl
  have kk: ∀{K:aE},Ext H K->IsKeys K mb ((l.take i).foldl (λks b=>sQ ks (nF lane fr to b)) []):=λhx=>hk.aQe (by
   obtain⟨es,c,hh,_⟩:=hk;exact hx.2 _ (dT hh) id)
  rw[dG,aCp];cases hdec:qB bs with
  |none=>
   rw[aN4 hdec] at d1;have c2:((30:Int)!=0)=true:=rfl;have hn:nF lane fr to bs=none:=by unfold nF;rw[hdec]
   rw[hn] at hfold;have x4:Ext H3 (H3++[frB Frm.pB]):=Fr.app _ _ _;simp only[gsR,e,g1,hld,d1,pS,As,Au,c2,cU,e3];exact ih (i+1) lp _ U U U (he.tr (x3.tr x4)) (by rw[hfold];exact kk (x3.tr x4)) ..
  |some f=>
   have hok:=aN0 hdec;have fl:=hok.lane;have fk:=hok.kind;have fs:=hok.seq;rw[aN5 hdec] at d1;have c2:((0:Int)!=0)=false:=rfl;obtain⟨H4,hH4⟩:=aD (H3++[frB f]);have x4:Ext H3 H4:=by rw[hH4];exact Fr.app _ _ _
   have b4:H4[H3.length]? =some (frB f):=by rw[hH4];exact eC _ _
   obtain⟨l40,l41,l42,_⟩:=qG b4;have cl:=λG=>cvU G f.lane fl
   have xx:=he.tr (x3.tr x4);have k4:=kk (x3.tr x4);by_cases h1:f.kind=1
   ·have d1':((f.kind:Int)!=1)=false:=by rw[h1];rfl
    by_cases h2:f.lane=lane
    ·have d2:((f.lane:Int)!=(lane:Int))=false:=by rw[h2];simp
     have gw:=aLz (H:=H4) (m:=m) U fr f.seq U fs
     obtain⟨H5,gw,x5⟩: ∃H5,lvl prog pkN m (.func 75) [.int .u64 fr,.int .u16 f.seq] H4=some (.int .u64 (qC fr f.seq:Nat),H5)/\Ext H4 H5:=⟨_,gw,by first|exact Fr.gR _ _|exact Fr.app _ _ _⟩
     by_cases h3:fr<=qC fr f.seq
     ·have d3:decide ((fr:Int)<=(qC fr f.seq:Nat))=true:=aRU U
      by_cases h4:qC fr f.seq<to
      ·have d4:decide (((qC fr f.seq:Nat):Int)<(to:Nat))=true:=aRU U
       have hn:nF lane fr to bs=some (qC fr f.seq):=by unfold nF;rw[hdec];simp only;rw[if_pos ⟨h1,h2,h3,h4⟩]
       rw[hn] at hfold;obtain⟨X,gs,ks⟩:=(kk ((x3.tr x4).tr x5)).aQh aQG (qC fr f.seq) (.I (i:Nat));have gs:nU .num (.map (some mb)) (.int .u64 (qC fr f.seq:Nat)) (.I (i:Nat)) H5=some (undef,H5.set mb X):=gs;simp only[gsR,e,g1,hld,d1,pS,As,Au,c2,<-hH4,l40,d1',l41,cl,d2,l42,gw,d3,d4,gs,cU,e3];exact ih (i+1) lp _ U U U (nM (xx.tr x5) hmb) (by rw[hfold];exact ks) ..
      ·have d4:decide (((qC fr f.seq:Nat):Int)<(to:Nat))=false:=aRV U
       have hn:nF lane fr to bs=none:=by unfold nF;rw[hdec];simp only;rw[if_neg λh=>h4 h.2.2.2]
       rw[hn] at hfold;simp only[gsR,e,g1,hld,d1,pS,As,Au,c2,<-hH4,l40,d1',l41,cl,d2,l42,gw,d3,d4,cU,e3];exact ih (i+1) lp _ U U U (xx.tr x5) (by rw[hfold];exact kk ((x3.tr x4).tr x5)) ..
     ·have d3:decide ((fr:Int)<=(qC fr f.seq:Nat))=false:=aRV U
      have hn:nF lane fr to bs=none:=by unfold nF;rw[hdec];simp only;rw[if_neg λh=>h3 h.2.2.1]
      rw[hn] at hfold;simp only[gsR,e,g1,hld,d1,pS,As,Au,c2,<-hH4,l40,d1',l41,cl,d2,l42,gw,d3,cU,e3];exact ih (i+1) lp _ U U U (xx.tr x5) (by rw[hfold];exact kk ((x3.tr x4).tr x5)) ..
    ·have d2:((f.lane:Int)!=(lane:Int))=true:=by rw[bne_iff_ne];omega
     have hn:nF lane fr to bs=none:=by unfold nF;rw[hdec];simp only;rw[if_neg λh=>h2 h.2.1]
     rw[hn] at hfold;simp only[gsR,e,g1,hld,d1,pS,As,Au,c2,<-hH4,l40,d1',l41,cl,d2,cU,e3];exact ih (i+1) lp _ U U U xx (by rw[hfold];exact k4) ..
   ·have d1':((f.kind:Int)!=1)=true:=by rw[bne_iff_ne];omega
    have hn:nF lane fr to bs=none:=by unfold nF;rw[hdec];simp only;rw[if_neg λh=>h1 h.1]
    rw[hn] at hfold;simp only[gsR,e,g1,hld,d1,pS,As,Au,c2,<-hH4,l40,d1',cU,e3];exact ih (i+1) lp _ U U U xx (by rw[hfold];exact k4) ..
theorem aQE {u:Value}{l:List (List UInt8)}{G:Nat->Prop}(hr:Lk.uN H u l G)(hsm:l.length<=64)(lane fr to:Nat)(hfr:fr<9223372036854775808)(hm:1100<m):
  ∃H2,lvl prog pkN m (.func 35) [u,.I (lane:Nat),.int .u64 (fr:Nat),.int .u64 (to:Nat)] H=some (.I ((y6 lane fr to l).length:Nat),H2)/\Ext H H2:=by
 have hlen:=hr.Ku;obtain⟨H1,hH1⟩:=aD (H++[Blk.map [] 0]);have nm:oK H=some (.map (some H.length),H1):=by rw[hH1];rfl
 have x1:Ext H H1:=by rw[hH1];exact Fr.app _ _ _
 have hk:IsKeys H1 H.length []:=by rw[hH1];exact IsKeys.aQg H
 refine mF (cV rfl) U ?_
 rw[aQt];simp only[gsR,nm,hlen];exact aQF hr hsm lane fr to hfr (m:=m-1) U (aRf _) l.length 0 (m-1) H1 U U U x1 hk ..
end
section
variable {H0 H H' : aE} {O : FP → Nat → Prop} {a : FL} {F : Nat → Part → Nat → Prop} {p : PlanD} {ev wv nv : Value} {t : Nat} {s : FS} {m : Nat}
def acB (x:Acc):Blk:= .cells x.nE 43 .fix
def acV (x:Acc):Value:= .agg ⟨x.nE⟩
def ac0:Acc:=⟨0,0,0,0,0⟩
theorem A7 (x y:Acc){G:aE}{b:Nat}(hb:G[b]? =some (acB x)):stN 5 (.Q b 0) (acV y) G=some (undef,G.set b (acB y)):=by
 rw[uG (n:=5) (vs:=y.nE) hb aC rfl rfl (aRf 5) rfl]
 rfl
theorem aCw (x y:Acc){G:aE}{b j:Nat}{z:Int}(hb:G[b]? =some (acB x))(hj:j<5)(hy:x.nE.set j (.I z)=y.nE):stN 1 (.Q b j) (.I z) G=some (undef,G.set b (acB y)):=by
 rw[mZ hb aC (by show j<5;exact hj),hy]
 rfl
theorem aQI (e:Ed)(G:aE):stN 2 (.pointer (some ⟨G.length,0,none⟩)) (edV e) (G++[Blk.cells [Value.int .i64 0,.int .i64 0] 65 .fix])=some (undef,G++[Blk.cells (edC e) 65 .fix]):=by
 rw[uG (n:=2) (vs:=edC e) (eC G _) aC rfl rfl (aRf 2) (yA e),lO]
 rfl
theorem aQH (h:fU H0 H O a F p ev wv nv t s)(hm:10000<m)(k lane:Int)(hk:k<0∨(dK p).length<=k): ∃H',lvl prog pkN m (.func 12) [pt a.fb,.I k,.I lane] H=some (.tuple #[acV ac0,.bool false],H')/\Ext H H':=by
 obtain⟨H1,hH1⟩:=aD (H++[acB ac0]);have e1:H++[Blk.cells [Value.int .i64 0,.int .i64 0,.int .i64 0,.int .i64 0,.int .i64 0] 43 .fix]=H1:=by rw[hH1];rfl
 have x1:Ext H H1:=by rw[hH1];exact Fr.app _ _ _
 have b1:H1[H.length]? =some (acB ac0):=by rw[hH1];exact eY _ _
 have h1:=h.fQ x1;obtain⟨H2,e',w',n',g2,c2⟩:=A6 h1 (m:=m-1) U
 have cp:=F8 c2.pv H2;obtain⟨H3,hH3⟩:=aD (H2++[plB p e' w' n']);rw[<-hH3] at cp;have x3:Ext H2 H3:=by rw[hH3];exact Fr.app _ _ _
 have h3:=(h1.fQ c2.ext).fQ x3;have g4:=Q9 h3 (m:=m-1) U k
 have hv:y5 p a k= .pointer none:=if_neg U
 rw[hv] at g4;have n3:=(Di 46 ⟨0,0,none⟩ (by kernel_rfl)).2
 have eb:bld prog 43 []=some (acV ac0):=rfl;have b3:H3[H.length]? =some (acB ac0):=eU (eU b1 c2.ext) x3;have st:=A7 ac0 ac0 b3;have hs:H3.set H.length (acB ac0)=H3:=by
  refine aRL λj=> ?_
  by_cases hj:H.length=j
  ·subst hj
   rw[aRg (dT b3),b3]
  ·rw[aRb hj]
 rw[hs] at st;have ld:ldN 5 (.Q H.length 0) H3=some (acV ac0,H3):=qA b3 (aRf 5);refine⟨H3,dH (cV rfl) U ?_,(x1.tr c2.ext).tr x3⟩
 rw[aCl];simp only[gsR,e1,g2,yE,cp,g4,n3,eb,st,ld]
theorem aCx (h:fU H0 H O a F p ev wv nv t s)(ht:t<1000000)(hm:10000<m)(hm2:m<=72057594037927936){k lane:Nat}(hk:k<(dK p).length)(hl:lane<p.lanes.toNat):
    ∃H',lvl prog pkN m (.func 12) [pt a.fb,.I (k:Nat),.I (lane:Nat)] H=some (.tuple #[acV (kH p s k lane),.bool true],H')/\Ext H H':=by
  obtain⟨N,hN,hNe⟩:=h.rE;have hn:=hN.hn;have hE15:=hN.e15;have he:(dK p)[k]? =some ((dK p)[k]'hk):=aRc _;have hmem:=aRk he;obtain⟨v,w,hvw,hv1,hw1⟩:=aP4 h.ok he;rw[hvw] at he hmem;have hgd:(dK p).getD k (0,0)=((v:Int),(w:Int)):=by rw[aRe,he];rfl
  obtain⟨p1,p2,p3,hback⟩:=aCj hN hmem;obtain⟨q1,q2,q3,_⟩:=aCj hN hback;obtain⟨iv,hiv⟩:=aD (uR p v w);obtain⟨iw,hiw⟩:=aD (uR p w v);rw[<-hiv] at p1 p2 p3;rw[<-hiw] at q1 q2 q3;obtain⟨xs,hxs⟩:=aD ((s.n v).snd iv lane);obtain⟨yr,hyr⟩:=aD ((s.n w).rcv iw lane)
  -- a place for the answer, the plan
  obtain⟨H1,hH1⟩:=aD (H++[acB ac0]);have e0: ∀G:aE,G++[Blk.cells [Value.int .i64 0,.int .i64 0,.int .i64 0,.int .i64 0,.int .i64 0] 43 .fix]=G++[acB ac0]:=λ_=>rfl
  have x1:Ext H H1:=by rw[hH1];exact Fr.app _ _ _
  have b1:H1[H.length]? =some (acB ac0):=by rw[hH1];exact eY _ _
  have h1:=h.fQ x1;obtain⟨H2,e',w',n',g2,c2⟩:=A6 h1 (m:=m-1) U
  have cp:=F8 c2.pv H2;obtain⟨H3,hH3⟩:=aD (H2++[plB p e' w' n']);rw[<-hH3] at cp;have x3:Ext H2 H3:=by rw[hH3];exact Fr.app _ _ _
  have b3:H3[H2.length]? =some (plB p e' w' n'):=by rw[hH3];exact eY _ _
  have h3:=(h1.fQ c2.ext).fQ x3;have pv3:=c2.pv.ext x3;have g4:=Q9 h3 (m:=m-1) U (k:Int)
  have hlv:y5 p a (k:Int)=pt (a.lb k):=by
    unfold y5;rw[if_pos U,aRC]
  rw[hlv] at g4;have n3:=λb=>(Di 46 b (by kernel_rfl)).1
  have l2:=eP b3 2 (.I p.lanes) rfl;have d1:decide ((lane:Int)<0)=false:=aRV U
  have d2:decide (p.lanes<=(lane:Int))=false:=aRV U
  -- the hop
  obtain⟨hv,H5,g5,x5,hw5,_⟩:=aCe h3 (m:=m-1) U
  obtain⟨bh,oh,i1,_,i3⟩:=hw5.rs.fV p8 he .i64;have i4:ldN 2 (.pointer (some ⟨bh,oh,none⟩)) H5=some (edV ((v:Int),(w:Int)),H5):=(i3 H5 rfl).1;have hs:=aQI ((v:Int),(w:Int)) H5;obtain⟨H6,hH6⟩:=aD (H5++[Blk.cells (edC ((v:Int),(w:Int))) 65 .fix]);rw[<-hH6] at hs;have x6:Ext H5 H6:=by rw[hH6];exact Fr.app _ _ _
  have b6:H6[H5.length]? =some (.cells (edC ((v:Int),(w:Int))) 65 .fix):=by rw[hH6];exact eY _ _
  have h6:=(h3.fQ x5).fQ x6;have ldv: ∀{G:aE},Ext H6 G->ld1 (.pointer (some ⟨H5.length,0,none⟩)) G=some (.int .i64 (v:Nat),G):=λhG=>dI (eU b6 hG) rfl
  have ldw: ∀{G:aE},Ext H6 G->ld1 (.pointer (some ⟨H5.length,1,none⟩)) G=some (.int .i64 (w:Nat),G):=λhG=>dI (eU b6 hG) rfl
  have bX:=x5.tr x6;have ldp: ∀{G:aE},Ext H6 G->ldN 11 (.pointer (some ⟨H2.length,0,none⟩)) G=some (plV p e' w' n',G):=λhG=>kE (eU b3 (bX.tr hG))
  have v6:=ldv (Fr.gR _ H6);have w6:=ldw (Fr.gR _ H6);have pl6:=ldp (Fr.gR _ H6);have pchk:=pv3.chk
  -- the sender
  have gv:=It h6 (m:=m-1) U (v:Int)
  have nv1:tG p a (v:Int)=pt (a.y v).nb:=by unfold tG;rw[if_pos U,aRC]
  rw[nv1] at gv;obtain⟨H7,g7,x7⟩:=Xi (pv3.ext bX) (m:=m-1) U U (v:Int) (w:Int)
  rw[p1] at g7;have h7:=h6.fQ x7;obtain⟨H8,g8,x8⟩:=aNU (h7.node v hv1) (m:=m-1) U p2 p3 (k:=lane) hl
  have h8:=h7.fQ x8;have eK:=x7.tr x8;have w8:=ldw eK;have v8:=ldv eK;have pl8:=ldp eK;have gw:=It h8 (m:=m-1) U (w:Int)
  have nw1:tG p a (w:Int)=pt (a.y w).nb:=by unfold tG;rw[if_pos U,aRC]
  rw[nw1] at gw;obtain⟨H9,g9,x9⟩:=Xi ((pv3.ext bX).ext eK) (m:=m-1) U U (w:Int) (v:Int)
  rw[q1] at g9;have h9:=h8.fQ x9;obtain⟨HA,gA,xA⟩:=aNS (h9.node w hw1) (m:=m-1) U q2 q3 (k:=lane) hl
  have hA:=h9.fQ xA
  -- what they say
  have sb: ∀{G:aE},Ext HA G->G[(a.y v).sb iv lane]? =some (nB xs):=λhG=>by rw[hxs];exact((hA.fQ hG).node v hv1).If p2 p3 hl
  have rb: ∀{G:aE},Ext HA G->G[(a.y w).rb iw lane]? =some (nA yr (eW p w).room):=λhG=>by rw[hyr];exact((hA.fQ hG).node w hw1).P5 q2 q3 hl
  have hso:SndOk xs:=by rw[hxs];exact(hA.node v hv1).P7 U iv lane
  have hro:RcvOk yr (eW p w).room:=by rw[hyr];exact(hA.node w hw1).P6 U iw lane
  have gu:=Z7 (m:=m-1) U (sb (Fr.gR _ HA)) hso
  obtain⟨HB,gu,xB⟩: ∃HB,lvl prog pkN (m-1) (.func 31) [.Q ((a.y v).sb iv lane) 0] HA=some (.I xs.mH,HB)/\Ext HA HB:=⟨_,gu,Fr.app _ _ _⟩;have gl:=Z5 (m:=m-1) U (rb xB) hro
  have gs:=aLD (m:=m-1) U (sb xB)
  have gh:=aLB (m:=m-1) U (rb xB)
  have u1:prog.underlying 3=some (.int .i64):=by kernel_rfl
  have u3:prog.underlying 82=some (.int .u64):=by kernel_rfl
  have cv: ∀(z:Int)(G:aE),eI prog 82 3 (.int .u64 (IntKind.u64.wrap z)) G=some (.I (cI z),G):=λz G=>hZ _ _ u3 u1 _ _
  have hroom:(eW p w).room=p.room.toNat:=rfl;obtain⟨la,hla⟩: ∃la:Int,la=cI ((yr.sA p.room.toNat:Int)-xs.l):=⟨_,rfl⟩;rw[hroom] at gl;have eb:bld prog 43 [(0,.I xs.mH),(1,.I la),(3,.I yr.h)]=some (acV ⟨xs.mH,la,0,yr.h,0⟩):=rfl;obtain⟨A1,hA1⟩: ∃A1:Acc,A1=⟨xs.mH,la,0,yr.h,0⟩:=⟨_,rfl⟩;rw[<-hA1] at eb;have sB:stN 5 (.Q HB.length 0) (acV A1) (HB++[acB ac0])=some (undef,HB++[acB A1]):=by rw[A7 ac0 A1 (eC HB _),lO]
  obtain⟨HC,hHC⟩:=aD (HB++[acB A1]);rw[<-hHC] at sB;have xC:Ext HB HC:=by rw[hHC];exact Fr.app _ _ _
  have bC:HC[HB.length]? =some (acB A1):=by rw[hHC];exact eY _ _
  -- what flies
  have hC:=(hA.fQ xB).fQ xC;obtain⟨lv,HD,gD,xD,rD⟩:=Lk.aPV (pr:=pkN) (cV rfl) (cV rfl) (hC.link k hk) (m:=m-1) U
  have xBD:=(xB.tr xC).tr xD;have gex:=Z4 (m:=m-1) U (rb xBD)
  have gse:=Oz (m:=m-1) U (sb xBD)
  have hfew:=(hC.link k hk).few;have hyb:=hro;obtain⟨HE,gE,xE⟩:=aQE rD U lane yr.n xs.s (by have:=((hA.node w hw1).inv.rcv iw lane).big;rw[<-hyr] at this;omega) (m:=m-1) U
  obtain⟨fl,hfl⟩:=aD ((y6 lane yr.n xs.s (s.l k)).length);rw[<-hfl] at gE;have bE:HE[HB.length]? =some (acB A1):=eU (eU bC xD) xE;obtain⟨A2,hA2⟩: ∃A2:Acc,A2=⟨xs.mH,la,(fl:Int),yr.h,0⟩:=⟨_,rfl⟩;have sE:=aCw A1 A2 (j:=2) (z:=(fl:Int)) bE U (by rw[hA1,hA2];rfl)
  obtain⟨HF,hHF⟩:=aD (HE.set HB.length (acB A2));rw[<-hHF] at sE;have bF:HF[HB.length]? =some (acB A2):=by rw[hHF];exact fS bE
  have xBF:Ext HB HF:=by rw[hHF];exact nM ((xC.tr xD).tr xE) (aRf _)
  have gse2:=Oz (m:=m-1) U (sb (xB.tr xBF))
  have gex2:=Z4 (m:=m-1) U (rb (xB.tr xBF))
  have lF:ld1 (.Q HB.length 2) HF=some (.I (fl:Nat),HF):=by rw[dI bF (show A2.nE[2]? =some (.I (fl:Int)) from by rw[hA2];rfl)]
  have ckI': ∀(z:Int)(G:aE),chk (some (Value.I z,G)) (.I z)=true:=λz G=>by simp[chk,veq]
  have ckI1: ∀(z:Int)(G:aE),chk (some (Value.I z,G)) (.I z)=true:=ckI';obtain⟨lo,hlo⟩: ∃lo:Int,lo=IntKind.i64.wrap (cI ((xs.s:Int)-yr.n)-fl):=⟨_,rfl⟩;obtain⟨A3,hA3⟩: ∃A3:Acc,A3=⟨xs.mH,la,(fl:Int),yr.h,lo⟩:=⟨_,rfl⟩;have sF:=aCw A2 A3 (j:=4) (z:=lo) bF U (by rw[hA2,hA3];rfl)
  obtain⟨HG,hHG⟩:=aD (HF.set HB.length (acB A3));rw[<-hHG] at sF;have bG:HG[HB.length]? =some (acB A3):=by rw[hHG];exact fS bF
  have lG:ldN 5 (.Q HB.length 0) HG=some (acV A3,HG):=qA bG (aRf 5);have xBG:Ext HB HG:=by rw[hHG];exact nM xBF (aRf _)
  -- the answer
  have xHB:Ext H1 HB:=((((((c2.ext.tr x3).tr bX).tr eK).tr x9).tr xA).tr xB);have bR:HG[H.length]? =some (acB ac0):=eU b1 (xHB.tr xBG);have sG:=A7 ac0 A3 bR;obtain⟨HK,hHK⟩:=aD (HG.set H.length (acB A3));rw[<-hHK] at sG;have bK:HK[H.length]? =some (acB A3):=by rw[hHK];exact fS bR
  have lK:ldN 5 (.Q H.length 0) HK=some (acV A3,HK):=qA bK (aRf 5);have hacc:kH p s k lane=A3:=by
    unfold kH Iy;simp only[hgd,aRC,<-hiv,<-hiw,<-hxs,<-hyr];rw[<-hfl,hA3,hla,hlo]
  refine⟨HK,?_,by rw[hHK];exact nM (x1.tr (xHB.tr xBG)) (aRf _)⟩
  rw[hacc];refine dH (cV rfl) U ?_
  rw[aCl];simp only[gsR,e0,<-hH1,g2,yE,cp,g4,n3,d1,l2,d2,g5,i1,i4,hs,v6,gv,pl6,pchk,ckI',w6,g7,g8,w8,gw,pl8,v8,g9,gA,gu,gl,gs,j8,cv,<-hla,gh,eb,sB,gD,gex,gse,gE,sE,gse2,gex2,lF,<-hlo,sF,lG,sG,lK]
end
section
variable {H0 Hs H H' : aE} {O : FP → Nat → Prop} {a : FL} {F : Nat → Part → Nat → Prop} {p : PlanD} {ev wv nv : Value} {t : Nat} {s : FS} {m : Nat}
theorem aQJ (x:Acc)(H:aE):dR 43 5 1 [.I 0,.I 0,.I 0,.I 0,.I 0] [(0,acV x)] H=some (.slice (some ⟨H.length,0,none⟩) 1 1,H++[.cells x.nE 43 .row]):=rfl
theorem Dm (hok:gS p=true):1<=p.lanes/\p.lanes<=3:=by
 unfold gS qW wi at hok;simp only[aRi,decide_eq_true_eq] at hok;omega
theorem aQK (h:fU H0 Hs O a F p ev wv nv t s)(ht:t<1000000)(hm:20000<m)(hm2:m<=72057594037927936){k:Nat}(hk:k<(dK p).length){bQ:Value}{xs:List Acc}(hxl:xs.length<=200){K:Ex->K (Value×aE)}{Q:aE->Value->Prop}
  (hK: ∀(H':aE)(v':Value),Ext Hs H'->Rw Acc.nE 43 5 H' v' (xs++(List.range p.lanes.toNat).map (kH p s k))->New Hs v'-> ∀(x1 x2 x4 x5 x6 x7 x8 x9 aS aP aQ aO bB bI aR bJ bM bT bN bP aU aV aW aX aY aZ bA bH bO bV:Value),∃H2 u2,R0 (lvl prog pkN m) (aK m) K (pt a.fb) x1 x2 v' x4 x5 x6 x7 x8 x9 bQ (.I (k:Nat)) aS aP aQ aO bB bI aR bJ bM bT bN bP aU aV aW aX aY aZ bA bH bO bV H'=some (u2,H2)/\Q H2 u2):
  ∀(q i l:Nat)(H:aE)(v:Value),p.lanes.toNat-i=q->i<=p.lanes.toNat->q<l->Ext Hs H->Rw Acc.nE 43 5 H v (xs++(List.range i).map (kH p s k))->New Hs v-> ∀(x1 x2 x5 x6 x7 x8 x9 aS aP aQ aO aR bJ bM bT bN bP aU aV aW aX aY aZ bA bH bO bV:Value),
  ∃H2 u2,aK l (aM prog (lvl prog pkN m) (aK m) Rz) (R4 (lvl prog pkN m) (aK m) K) [(pt a.fb),x1,x2,v,(.I (k:Nat)),x5,x6,x7,x8,x9,bQ,(.I (k:Nat)),aS,aP,aQ,aO,(.I (p.lanes.toNat:Nat)),(.I (i:Nat)),aR,bJ,bM,bT,bN,bP,aU,aV,aW,aX,aY,aZ,bA,bH,bO,bV] H=some (u2,H2)/\Q H2 u2:=by
 have h3:=Dm h.ok;intro q;induction q with
 |zero=>
  intro i l H v hq hi hl he hr hn;intros;obtain⟨l,rfl⟩:=aB l U
  obtain rfl:i=p.lanes.toNat:=U
  have e:decide ((p.lanes.toNat:Int)<(p.lanes.toNat:Nat))=false:=by simp
  rw[dG,aCt];simp only[gsR,e];rw[aQz];exact hK H v he hr hn ..
 |succ q ih=>
  intro i l H v hq hi hl he hr hn;intros;obtain⟨l,rfl⟩:=aB l U
  have e:decide ((i:Int)<(p.lanes.toNat:Nat))=true:=aRU U
  have e3:=aA (i:=i) U
  obtain⟨H1,g1,x1⟩:=aCx (h.fQ he) ht (m:=m) U hm2 hk (lane:=i) U
  have E0:ext 0 (.tuple #[acV (kH p s k i),.bool true])=some (acV (kH p s k i)):=rfl;have E1:ext 1 (.tuple #[acV (kH p s k i),.bool true])=some (.bool true):=rfl;have ez: ∀G:aE,G++[Blk.cells [Value.int .i64 0,.int .i64 0,.int .i64 0,.int .i64 0,.int .i64 0] 43 .fix]=G++[acB ac0]:=λ_=>rfl
  have st:stN 5 (.Q H1.length 0) (acV (kH p s k i)) (H1++[acB ac0])=some (undef,H1++[acB (kH p s k i)]):=by rw[A7 ac0 _ (eC H1 _),lO]
  obtain⟨H2,hH2⟩:=aD (H1++[acB (kH p s k i)]);rw[<-hH2] at st;have x2:Ext H1 H2:=by rw[hH2];exact Fr.app _ _ _
  have b2:H2[H1.length]? =some (acB (kH p s k i)):=by rw[hH2];exact eY _ _
  have ld:ldN 5 (.Q H1.length 0) H2=some (acV (kH p s k i),H2):=qA b2 (aRf 5);have hr2:=pF (pF hr x1) x2;obtain⟨v',H3,g3,r3,n3,x3⟩:=hr2.rU (by':=40) Rc aQi aC (kH p s k i) hn (he.tr (x1.tr x2)) (gX (n:=1000) aC (by rw[aRm,aRo,aRE];omega))
  have hs:xs++(List.range i).map (kH p s k)++[kH p s k i]=xs++(List.range (i+1)).map (kH p s k):=by rw[aRJ,List.map_append,aRh];rfl
  rw[hs] at r3;rw[dG,aCt];simp only[gsR,e,g1,E0,E1,ez,st,ld,aQJ,g3,cU,e3];exact ih (i+1) l H3 v' U U U x3 r3 n3 ..
theorem aQL (h:fU H0 Hs O a F p ev wv nv t s)(ht:t<1000000)(hm:30000<m)(hm2:m<=72057594037927936){n:Nat}(hn:(dK p).length=n):
  ∀(q k l:Nat)(H:aE)(v:Value),n-k=q->k<=n->q<l->Ext Hs H->Rw Acc.nE 43 5 H v ((List.range k).flatMap λk=>(List.range p.lanes.toNat).map (kH p s k))->New Hs v-> ∀(x1 x2 x4 x5 x6 x7 x8 x9 aS aP aQ aO bB bI aR bJ bM bT bN bP aU aV aW aX aY aZ bA bH bO bV:Value),
  ∃H2 u2,aK l (aM prog (lvl prog pkN m) (aK m) Ry) (R3 (lvl prog pkN m) (aK m)) [(pt a.fb),x1,x2,v,x4,x5,x6,x7,x8,x9,(.I (n:Nat)),(.I (k:Nat)),aS,aP,aQ,aO,bB,bI,aR,bJ,bM,bT,bN,bP,aU,aV,aW,aX,aY,aZ,bA,bH,bO,bV] H=some (u2,H2)/\Ext Hs H2/\Rw Acc.nE 43 5 H2 u2 (gL p s)/\New Hs u2:=by
 have h36:=uC p;have h3:=Dm h.ok;have hll: ∀k,((List.range k).flatMap λk=>(List.range p.lanes.toNat).map (kH p s k)).length=k*p.lanes.toNat:=λk=>Ay λi _=>by rw[aRo,aRE]
 intro q;induction q with
 |zero=>
  intro k l H v hq hk hl he hr hnw;intros;obtain⟨l,rfl⟩:=aB l U
  obtain rfl:k=n:=U
  have e:decide ((k:Int)<(k:Nat))=false:=by simp
  refine⟨H,v,?_,he,by unfold gL;rw[hn];exact hr,hnw⟩
  rw[dG,aCs];simp only[gsR,e];rw[aQy]
  first|done|rfl
 |succ q ih=>
  intro k l H v hq hk hl he hr hnw;intros;obtain⟨l,rfl⟩:=aB l U
  have e:decide ((k:Int)<(n:Nat))=true:=aRU U
  have e3:=aA (i:=k) U
  obtain⟨H1,e',w',n',g1,c1⟩:=A6 (h.fQ he) (m:=m) U
  have p1:rI 2 (plV p e' w' n')=some (.I (p.lanes.toNat:Nat)):=by
   have:rI 2 (plV p e' w' n')=some (.I p.lanes):=rfl;rw[this,show((p.lanes.toNat:Nat):Int)=p.lanes from U]
  have hle:=hll k;have hmul:k*p.lanes.toNat<=36*3:=Nat.mul_le_mul U U
  rw[dG,aCs];simp only[gsR,e,g1,p1];refine aQK h ht (m:=m) U hm2 (k:=k) (bQ:= .I (n:Nat)) (xs:=(List.range k).flatMap λk=>(List.range p.lanes.toNat).map (kH p s k)) (Q:=λH2 u2=>Ext Hs H2/\Rw Acc.nE 43 5 H2 u2 (gL p s)/\New Hs u2) U U ?_ p.lanes.toNat 0 m H1 v U U U (he.tr c1.ext) (by simpa using pF hr c1.ext) hnw ..
  intro H2 v2 x2 r2 n2;intros;have hs:((List.range k).flatMap λk=>(List.range p.lanes.toNat).map (kH p s k))++(List.range p.lanes.toNat).map (kH p s k)=(List.range (k+1)).flatMap λk=>(List.range p.lanes.toNat).map (kH p s k):=by rw[aRJ,List.flatMap_append];simp
  rw[hs] at r2;unfold R0;simp only[gsR,cU,e3];exact ih (k+1) l H2 v2 U U U x2 r2 n2 ..
theorem R9 (h:fU H0 H O a F p ev wv nv t s)(ht:t<1000000)(hm:40000<m)(hm2:m<=72057594037927936): ∃H2 u2,lvl prog pkN m (.func 8) [pt a.fb] H=some (u2,H2)/\Ext H H2/\Rw Acc.nE 43 5 H2 u2 (gL p s)/\New H u2:=by
 obtain⟨v,H1,g1,x1,r1,n1⟩:=aCe h (m:=m-1) U
 have hlen:=r1.qT;have h36:=uC p;refine iB (cV rfl) U ?_
 rw[aQA];simp only[gsR,g1,hlen];exact aQL h ht (m:=m-1) U U rfl (dK p).length 0 (m-1) H1 _ U U U x1 Rw.kL (New.mN _) ..
end
theorem aQV (L:List (Go.Abs.fW×Pkt))(i o k:Nat):mJ L i o k<=L.length:=by
 unfold mJ oR;rw[aRo];exact List.length_filter_le _ _
theorem aQQ (ks:List Nat)(b:Option Nat):(sQ ks b).length<=ks.length+1:=by
 unfold sQ;split
 ·omega
 ·split
  ·omega
  ·simp
theorem aQO (lane fr to:Nat)(l:List (List UInt8)):(y6 lane fr to l).length<=l.length:=by
 unfold y6;have: ∀(l:List (List UInt8))(ks:List Nat),(l.foldl (λks b=>sQ ks (nF lane fr to b)) ks).length<=ks.length+l.length:=by
  intro l;induction l with
  |nil=>intro ks;simp
  |cons b l ih=>
   intro ks;rw[List.foldl_cons];have:=ih (sQ ks (nF lane fr to b));have:=aQQ ks (nF lane fr to b);simp only[aRw];omega
 simpa using this l []
def qK (s:NS)(i k j:Nat):Nat:=((List.range j).map λo=>mJ s.rL i o k).sum
def oU (s:NS)(P k i:Nat):Nat:=((List.range i).map λi=>qK s i k P).sum
def pV (s:NS)(P k:Nat):Nat:=((List.range k).map λk:Nat=>(eV s.hL k).length+oU s P k P).sum
section
variable {H0 Hs H H' : aE} {O : FP → Nat → Prop} {a : FL} {F : Nat → Part → Nat → Prop} {p : PlanD} {ev wv nv : Value} {t : Nat} {s : FS} {m : Nat}
variable {Fn : Part → Nat → Prop} {y : Lay} {c : Cfg} {sv : NS}
theorem Iz (h:NodeAt H0 H Fn y p ev wv nv c t sv):(∀i k j,j<=c.aI->qK sv i k j<=1000)/\(∀k i,i<=c.aI->oU sv c.aI k i<=6000)/\ ∀k,k<=c.lanes->pV sv c.aI k<=20000:=by
 have h5:=h.ok.by';have h3:=h.ok.lanes;have h8:=h.ok.room;have hq:=h.ok.queue;have hp:c.aI<=6:=by unfold Cfg.aI;omega
 have hr:sv.rL.length<=144:=by
  have h1:=h.inv.rN;have h2:c.aI*c.lanes<=6*3:=Nat.mul_le_mul hp h3.2;have h3:c.aI*c.lanes*c.room<=18*8:=Nat.mul_le_mul h2 h8.2;omega
 have a1: ∀i k j,j<=c.aI->qK sv i k j<=1000:=λi k j hj=>by
  have:=Dk (B:=144) j λo _=>aRq (aQV sv.rL i o k) hr
  unfold qK;omega
 have a2: ∀k i,i<=c.aI->oU sv c.aI k i<=6000:=λk i hi=>by
  have:=Dk (B:=1000) (f:=λi=>qK sv i k c.aI) i λo _=>a1 o k c.aI (aRf _)
  unfold oU;omega
 refine⟨a1,a2,λk hk=> ?_⟩
 have:=Dk (B:=6008) (f:=λk:Nat=>(eV sv.hL k).length+oU sv c.aI k c.aI) k λo _=>by
  have:=h.inv.hQ o;have:=a2 o c.aI (aRf _);omega
 unfold pV;omega
theorem aQT (h:NodeAt H0 H Fn y p ev wv nv c t sv)(hm:1000<m){i k M:Nat}(hM:M<=50000){bN bP:Value}{K:Ex->K (Value×aE)}{Q:aE->Value->Prop}
  (hK: ∀(x0 x1 x2 x3 x4 x9 bQ cG aS aP aQ aO bB bI aR bJ bM bT aU aV aW aX aY aZ bA bH cH cJ bX cC bY b9 cA cD cF cM cN cO cQ cW cX cY cS cT:Value),∃H2 u2,Rj (lvl prog pkN m) (aK m) K x0 x1 x2 x3 x4 (pt y.nb) (.I (M+qK sv i k c.aI:Nat)) (.I (c.aI:Nat)) (.I (k:Nat)) x9 bQ cG aS aP aQ aO bB bI aR bJ bM bT bN bP aU aV aW aX aY aZ bA bH (.I (c.aI:Nat)) (.I (i:Nat)) cH cJ bX cC bY b9 cA cD cF cM cN cO cQ cW cX cY cS cT H=some (u2,H2)/\Q H2 u2):
  ∀(q j l:Nat),c.aI-j=q->j<=c.aI->q<l-> ∀(x0 x1 x2 x3 x4 bQ cG aS aP aQ aO bB bI aR bJ bM bT aU aV aW aX aY aZ bA bH cH cJ bY b9 cA cD cF cM cN cO cQ cW cX cY cS cT:Value),
  ∃H2 u2,aK l (aM prog (lvl prog pkN m) (aK m) Rh) (Rm (lvl prog pkN m) (aK m) K) [x0,x1,x2,x3,x4,(pt y.nb),(.I (M+qK sv i k j:Nat)),(.I (c.aI:Nat)),(.I (k:Nat)),(.I (i:Nat)),bQ,cG,aS,aP,aQ,aO,bB,bI,aR,bJ,bM,bT,bN,bP,aU,aV,aW,aX,aY,aZ,bA,bH,(.I (c.aI:Nat)),(.I (i:Nat)),cH,cJ,(.I (c.aI:Nat)),(.I (j:Nat)),bY,b9,cA,cD,cF,cM,cN,cO,cQ,cW,cX,cY,cS,cT] H=some (u2,H2)/\Q H2 u2:=by
 have h6:c.aI<=6:=by have:=h.ok.by';unfold Cfg.aI;omega
 obtain⟨a1,_,_⟩:=Iz h;intro q;induction q with
 |zero=>
  intro j l hq hj hl;intros;obtain⟨l,rfl⟩:=aB l U
  obtain rfl:j=c.aI:=U
  have e:decide ((c.aI:Int)<(c.aI:Nat))=false:=by simp
  rw[dG,aCo];simp only[gsR,e];rw[aQq];exact hK ..
 |succ q ih=>
  intro j l hq hj hl;intros;obtain⟨l,rfl⟩:=aB l U
  have e:decide ((j:Int)<(c.aI:Nat))=true:=aRU U
  have e3:=aA (i:=j) U
  have g1:=aNT h (m:=m) U
  have g2:=P9 h (m:=m) U i j k
  have hs:qK sv i k (j+1)=qK sv i k j+mJ sv.rL i j k:=uP _ _;have hb:=a1 i k (j+1) U
  have ea:IntKind.i64.wrap (((M+qK sv i k j:Nat):Int)+(mJ sv.rL i j k:Nat))=((M+qK sv i k (j+1):Nat):Int):=by rw[dJ U U];omega
  rw[dG,aCo];simp only[gsR,e,g1,g2,cU,ea,e3];exact ih (j+1) l U U U ..
theorem aQS (h:NodeAt H0 H Fn y p ev wv nv c t sv)(hm:1000<m){k M:Nat}(hM:M<=40000){bN:Value}{K:Ex->K (Value×aE)}{Q:aE->Value->Prop}
  (hK: ∀(x0 x1 x2 x3 x4 x8 x9 bQ cG aS aP aQ aO bB bI aR bJ bM bT aU aV aW aX aY aZ bA bH bO bV cH cJ bX cC bY b9 cA cD cF cM cN cO cQ cW cX cY cS cT:Value),∃H2 u2,Ri (lvl prog pkN m) (aK m) K x0 x1 x2 x3 x4 (pt y.nb) (.I (M+oU sv c.aI k c.aI:Nat)) (.I (c.aI:Nat)) x8 x9 bQ cG aS aP aQ aO bB bI aR bJ bM bT bN (.I (k:Nat)) aU aV aW aX aY aZ bA bH bO bV cH cJ bX cC bY b9 cA cD cF cM cN cO cQ cW cX cY cS cT H=some (u2,H2)/\Q H2 u2):
  ∀(q i l:Nat),c.aI-i=q->i<=c.aI->q<l-> ∀(x0 x1 x2 x3 x4 x9 bQ cG aS aP aQ aO bB bI aR bJ bM bT aU aV aW aX aY aZ bA bH cH cJ bX cC bY b9 cA cD cF cM cN cO cQ cW cX cY cS cT:Value),
  ∃H2 u2,aK l (aM prog (lvl prog pkN m) (aK m) Rf) (Rl (lvl prog pkN m) (aK m) K) [x0,x1,x2,x3,x4,(pt y.nb),(.I (M+oU sv c.aI k i:Nat)),(.I (c.aI:Nat)),(.I (k:Nat)),x9,bQ,cG,aS,aP,aQ,aO,bB,bI,aR,bJ,bM,bT,bN,(.I (k:Nat)),aU,aV,aW,aX,aY,aZ,bA,bH,(.I (c.aI:Nat)),(.I (i:Nat)),cH,cJ,bX,cC,bY,b9,cA,cD,cF,cM,cN,cO,cQ,cW,cX,cY,cS,cT] H=some (u2,H2)/\Q H2 u2:=by
 have h6:c.aI<=6:=by have:=h.ok.by';unfold Cfg.aI;omega
 obtain⟨_,a2,_⟩:=Iz h;intro q;induction q with
 |zero=>
  intro i l hq hi hl;intros;obtain⟨l,rfl⟩:=aB l U
  obtain rfl:i=c.aI:=U
  have e:decide ((c.aI:Int)<(c.aI:Nat))=false:=by simp
  rw[dG,aCn];simp only[gsR,e];rw[aQp];exact hK ..
 |succ q ih=>
  intro i l hq hi hl;intros;obtain⟨l,rfl⟩:=aB l U
  have e:decide ((i:Int)<(c.aI:Nat))=true:=aRU U
  have e3:=aA (i:=i) U
  have hb:=a2 k i U
  have hs:oU sv c.aI k (i+1)=oU sv c.aI k i+qK sv i k c.aI:=uP _ _;have hz:M+oU sv c.aI k i=M+oU sv c.aI k i+qK sv i k 0:=rfl;rw[dG,aCn];simp only[gsR,e];rw[hz];refine aQT h hm (i:=i) (k:=k) (M:=M+oU sv c.aI k i) U (bN:=bN) (bP:= .I (k:Nat)) (Q:=Q) ?_ c.aI 0 m U U U ..
  intros;have hs':M+oU sv c.aI k i+qK sv i k c.aI=M+oU sv c.aI k (i+1):=U
  rw[hs'];unfold Rj;simp only[gsR,cU,e3];exact ih (i+1) l U U U ..
theorem aQR (h:NodeAt H0 H Fn y p ev wv nv c t sv)(hm:1000<m):
  ∀(q k l:Nat),c.lanes-k=q->k<=c.lanes->q<l-> ∀(x0 x1 x2 x3 x4 x8 x9 bQ cG aS aP aQ aO bB bI aR bJ bM bT aU aV aW aX aY aZ bA bH bO bV cH cJ bX cC bY b9 cA cD cF cM cN cO cQ cW cX cY cS cT:Value),
  ∃H2 u2,aK l (aM prog (lvl prog pkN m) (aK m) Re) (Rk (lvl prog pkN m) (aK m)) [x0,x1,x2,x3,x4,(pt y.nb),(.I (pV sv c.aI k:Nat)),(.I (c.aI:Nat)),x8,x9,bQ,cG,aS,aP,aQ,aO,bB,bI,aR,bJ,bM,bT,(.I (c.lanes:Nat)),(.I (k:Nat)),aU,aV,aW,aX,aY,aZ,bA,bH,bO,bV,cH,cJ,bX,cC,bY,b9,cA,cD,cF,cM,cN,cO,cQ,cW,cX,cY,cS,cT] H=some (u2,H2)/\u2= .I (pV sv c.aI c.lanes:Nat)/\H2=H:=by
 have h3:=h.ok.lanes;have h8:=h.ok.queue;have h6:c.aI<=6:=by have:=h.ok.by';unfold Cfg.aI;omega
 obtain⟨_,a2,a3⟩:=Iz h;intro q;induction q with
 |zero=>
  intro k l hq hk hl;intros;obtain⟨l,rfl⟩:=aB l U
  obtain rfl:k=c.lanes:=U
  have e:decide ((c.lanes:Int)<(c.lanes:Nat))=false:=by simp
  refine⟨H,_,?_,rfl,rfl⟩;rw[dG,aCm];simp only[gsR,e];rw[aQo]
  first|done|rfl
 |succ q ih=>
  intro k l hq hk hl;intros;obtain⟨l,rfl⟩:=aB l U
  have e:decide ((k:Int)<(c.lanes:Nat))=true:=aRU U
  have e3:=aA (i:=k) U
  have g1:=aNP h (m:=m) U
  obtain⟨w0,w1,w2,cv,hh⟩:=h.aN9;have g2:=Pa hh (m:=m) U k U
  have hs:pV sv c.aI (k+1)=pV sv c.aI k+((eV sv.hL k).length+oU sv c.aI k c.aI):=uP _ _;have hq8:=h.inv.hQ (k:Int);have hb:=a3 k U
  have hb2:=a3 (k+1) U
  have ea:IntKind.i64.wrap (((pV sv c.aI k:Nat):Int)+((eV sv.hL (k:Int)).length:Nat))=((pV sv c.aI k+(eV sv.hL k).length:Nat):Int):=by rw[dJ U U];omega
  have hz:pV sv c.aI k+(eV sv.hL k).length=pV sv c.aI k+(eV sv.hL k).length+oU sv c.aI k 0:=rfl;rw[dG,aCm];simp only[gsR,e,g1,g2,cU,ea];rw[hz];refine aQS h hm (k:=k) (M:=pV sv c.aI k+(eV sv.hL k).length) U (bN:= .I (c.lanes:Nat)) (Q:=λH2 u2=>u2= .I (pV sv c.aI c.lanes:Nat)/\H2=H) ?_ c.aI 0 m U U U ..
  intros;have hs':pV sv c.aI k+(eV sv.hL k).length+oU sv c.aI k c.aI=pV sv c.aI (k+1):=U
  rw[hs'];unfold Ri;simp only[gsR,cU,e3];exact ih (k+1) l U U U ..
theorem aQU (h:fU H0 H O a F p ev wv nv t s)(hm:20000<m)(hm2:m<=72057594037927936){v:Nat}(hv:v<p.nodes.toNat): ∃H',lvl prog pkN m (.func 25) [pt a.fb,.I (v:Nat)] H=some (.I (sR (eW p v) (s.n v):Nat),H')/\Ext H H':=by
 obtain⟨N,hN,hNe⟩:=h.rE;have hn:=hN.hn;have hE15:=hN.e15;have g1:=It h (m:=m-1) U (v:Int)
 have nv1:tG p a (v:Int)=pt (a.y v).nb:=by unfold tG;rw[if_pos U,aRC]
 rw[nv1] at g1;obtain⟨H1,e1,w1,n1,g2,c1⟩:=A6 h (m:=m-1) U
 obtain⟨H2,bv,g3,x3,r3,_⟩:=Cc c1.pv (m:=m-1) U U (v:Int)
 have hlen:=r3.qT;have hpo:(eW p v).aI=(bes p.edges v).length+1:=by
  show((bes p.edges v).map Int.toNat).length+1=_
  rw[aRo]
 have hbl:=Fu p.edges (v:Int);have ea:IntKind.i64.wrap (((bes p.edges v).length:Int)+1)=((eW p v).aI:Nat):=by rw[dJ U U];omega
 have h2:=(h.fQ c1.ext).fQ x3;obtain⟨H3,e3',w3,n3,g4,c4⟩:=A6 h2 (m:=m-1) U
 have h3:=h2.fQ c4.ext;have hl3:=Dm h.ok;have p1:rI 2 (plV p e3' w3 n3)=some (.I ((eW p v).lanes:Nat)):=by
  have:rI 2 (plV p e3' w3 n3)=some (.I p.lanes):=rfl;rw[this];show some (Value.I p.lanes)=some (.I ((p.lanes.toNat:Nat):Int))
  rw[show((p.lanes.toNat:Nat):Int)=p.lanes from U]
 have main: ∃H' u,lvl prog pkN m (.func 25) [pt a.fb,.I (v:Nat)] H=some (u,H')/\u= .I (pV (s.n v) (eW p v).aI (eW p v).lanes:Nat)/\H'=H3:=by
  refine iB (cV rfl) U ?_
  rw[aQr];simp only[gsR,g1,g2,g3,hlen,cU,ea,g4,p1];exact aQR (h3.node v hv) (m:=m-1) U (eW p v).lanes 0 (m-1) U U (by have:=(h3.node v hv).ok.lanes;omega) ..
 obtain⟨H',u,g5,rfl,rfl⟩:=main
 exact⟨_,g5,(c1.ext.tr x3).tr c4.ext⟩
def qJ (p:PlanD)(s:FS)(i:Nat):Int:=(((gL p s).take i).map (·.flying)).sum
def y8 (p:PlanD)(s:FS):Int:=(uQ p s:Int)+qJ p s (gL p s).length
theorem aCz (h:fU H0 H O a F p ev wv nv t s): ∀x∈gL p s,0<=x.flying/\x.flying<=64:=λx hx=>by
 unfold gL at hx;obtain⟨k,hk,hx⟩:=List.mem_flatMap.mp hx;obtain⟨l,_,rfl⟩:=aRN.mp hx;have hf:=(h.link k (aRO.mp hk)).few;unfold kH Iy;simp only;refine⟨by omega,?_⟩
 have:=aQO l ((s.n ((dK p).getD k (0,0)).2.toNat).rcv (uR p ((dK p).getD k (0,0)).2.toNat ((dK p).getD k (0,0)).1.toNat) l).n ((s.n ((dK p).getD k (0,0)).1.toNat).snd (uR p ((dK p).getD k (0,0)).1.toNat ((dK p).getD k (0,0)).2.toNat) l).s (s.l k);omega
theorem aQP (h:fU H0 H O a F p ev wv nv t s): ∀i,0<=qJ p s i/\qJ p s i<=64*i:=by
 have hb:=aCz h;intro i;unfold qJ;induction i with
 |zero=>simp
 |succ i ih=>
  rw[List.take_add_one,List.map_append,List.sum_append];cases hx:(gL p s)[i]? with
  |none=>simp only[Option.toList,List.map_nil,List.sum_nil];omega
  |some x=>
   have:=hb x (aRk hx);simp only[Option.toList,aRF,List.map_nil,List.sum_cons,List.sum_nil];omega
theorem aCA (h:fU H0 H O a F p ev wv nv t s): ∀i,i<=p.nodes.toNat->((List.range i).map λv=>sR (eW p v) (s.n v)).sum<=120000:=λi hi=>by
 obtain⟨N,hN,hNe⟩:=h.rE;have h6:=hN.h6;have:=Dk (B:=20000) (f:=λv=>sR (eW p v) (s.n v)) i λv hv=>(Iz (h.node v U)).2.2 _ (aRf _)
 omega
theorem aQM (h:fU H0 Hs O a F p ev wv nv t s){A:Value}(hA:Rw Acc.nE 43 5 Hs A (gL p s))(hm:1000<m)(hlen:(gL p s).length<=108):
  ∀(q i l:Nat)(H:aE),(gL p s).length-i=q->i<=(gL p s).length->q<l->Ext Hs H-> ∀(x0 x1 x2 x4 x5 x6 x7 x8 x9 bQ cG aS aP aQ aO bB bI aR bJ bP aU aV aW aX aY aZ bA bH:Value),
  ∃H2,aK l (aM prog (lvl prog pkN m) (aK m) R6) (R8 (lvl prog pkN m) (aK m)) [x0,x1,x2,(.I ((uQ p s:Int)+qJ p s i)),x4,x5,x6,x7,x8,x9,bQ,cG,aS,aP,aQ,aO,bB,bI,aR,bJ,A,(.I ((gL p s).length:Nat)),(.I (i:Nat)),bP,aU,aV,aW,aX,aY,aZ,bA,bH] H=some (.I (y8 p s),H2)/\Ext Hs H2:=by
 have hb:=aQP h;have hfb:=aCz h;have hi1:=aCA h p.nodes.toNat (aRf _);have hi2:uQ p s<=120000:=hi1;intro q;induction q with
 |zero=>
  intro i l H hq hi hl he;intros;obtain⟨l,rfl⟩:=aB l U
  obtain rfl:i=(gL p s).length:=U
  have e:decide (((gL p s).length:Int)<((gL p s).length:Nat))=false:=by simp
  refine⟨H,?_,he⟩;rw[dG,aCv];simp only[gsR,e];rw[aQC]
  first|done|rfl
 |succ q ih=>
  intro i l H hq hi hl he;intros;obtain⟨l,rfl⟩:=aB l U
  have e:decide ((i:Int)<((gL p s).length:Nat))=true:=aRU U
  have e3:=aA (i:=i) U
  obtain⟨x,hx⟩: ∃x,(gL p s)[i]? =some x:=⟨_,aRc U⟩
  obtain⟨b,o,g1,_,g3⟩:=(pF hA he).rs.fV Rc hx .i64;have g4:ldN 5 (.pointer (some ⟨b,o,none⟩)) H=some (acV x,H):=(g3 H rfl).1;have ez: ∀G:aE,G++[Blk.cells [Value.int .i64 0,.int .i64 0,.int .i64 0,.int .i64 0,.int .i64 0] 43 .fix]=G++[acB ac0]:=λ_=>rfl
  have st:stN 5 (.Q H.length 0) (acV x) (H++[acB ac0])=some (undef,H++[acB x]):=by rw[A7 ac0 _ (eC H _),lO]
  obtain⟨H2,hH2⟩:=aD (H++[acB x]);rw[<-hH2] at st;have x2:Ext H H2:=by rw[hH2];exact Fr.app _ _ _
  have b2:H2[H.length]? =some (acB x):=by rw[hH2];exact eY _ _
  have ld:ld1 (.Q H.length 2) H2=some (.I x.flying,H2):=dI b2 rfl;have hf:=hfb x (aRk hx);have hs:qJ p s (i+1)=qJ p s i+x.flying:=by
   unfold qJ;rw[List.take_add_one,hx,List.map_append,List.sum_append];simp
  have h1:=hb i;have ea:IntKind.i64.wrap ((uQ p s:Int)+qJ p s i+x.flying)=(uQ p s:Int)+qJ p s (i+1):=by rw[dJ U U];omega
  rw[dG,aCv];simp only[gsR,e,g1,g4,ez,st,ld,cU,ea,e3];exact ih (i+1) l H2 U U U (he.tr x2) ..
theorem aQN (h:fU H0 Hs O a F p ev wv nv t s)(ht:t<1000000)(hm:60000<m)(hm2:m<=72057594037927936):
  ∀(q v l:Nat)(H:aE),p.nodes.toNat-v=q->v<=p.nodes.toNat->q<l->Ext Hs H-> ∀(x1 x2 x4 x5 x6 x7 x8 cG aS aP aQ aO bB bI aR bJ bM bT bN bP aU aV aW aX aY aZ bA bH:Value),
  ∃H2,aK l (aM prog (lvl prog pkN m) (aK m) R5) (R7 (lvl prog pkN m) (aK m)) [(pt a.fb),x1,x2,(.I (((List.range v).map λv=>sR (eW p v) (s.n v)).sum:Nat)),x4,x5,x6,x7,x8,(.I (p.nodes.toNat:Nat)),(.I (v:Nat)),cG,aS,aP,aQ,aO,bB,bI,aR,bJ,bM,bT,bN,bP,aU,aV,aW,aX,aY,aZ,bA,bH] H=some (.I (y8 p s),H2)/\Ext Hs H2:=by
 have h3:=Dm h.ok;have h36:=uC p;obtain⟨N,hN,hNe⟩:=h.rE;have h6:=hN.h6;intro q;induction q with
 |zero=>
  intro v l H hq hv hl he;intros;obtain⟨l,rfl⟩:=aB l U
  obtain rfl:v=p.nodes.toNat:=U
  have e:decide ((p.nodes.toNat:Int)<(p.nodes.toNat:Nat))=false:=by simp
  have hh:=h.fQ he;obtain⟨H1,A,g1,x1,r1,_⟩:=R9 hh ht (m:=m) U hm2
  have hlen:=r1.rs.jX;have hal:(gL p s).length=(dK p).length*p.lanes.toNat:=Ay λi _=>by rw[aRo,aRE]
  have hmul:(dK p).length*p.lanes.toNat<=36*3:=Nat.mul_le_mul h36 U
  have z0:(uQ p s:Int)=(uQ p s:Int)+qJ p s 0:=by
   unfold qJ;simp
  rw[dG,aCu];simp only[gsR,e];rw[aQB];simp only[gsR,g1,hlen];have hz:(((List.range p.nodes.toNat).map λv=>sR (eW p v) (s.n v)).sum:Nat)=uQ p s:=rfl
  rw[hz,z0];obtain⟨H2,g2,x2⟩:=(aQM (hh.fQ x1) r1 (m:=m) U U (gL p s).length 0 m H1 U U U (Fr.gR _ _) ..)
  exact⟨H2,g2,(he.tr x1).tr x2⟩
 |succ q ih=>
  intro v l H hq hv hl he;intros;obtain⟨l,rfl⟩:=aB l U
  have e:decide ((v:Int)<(p.nodes.toNat:Nat))=true:=aRU U
  have e3:=aA (i:=v) U
  obtain⟨H1,g1,x1⟩:=aQU (h.fQ he) (m:=m) U hm2 (v:=v) U
  have hs:=uP (λv=>sR (eW p v) (s.n v)) v
  have hb:=aCA h (v+1) U
  have ea:IntKind.i64.wrap ((((List.range v).map λv=>sR (eW p v) (s.n v)).sum:Nat)+(sR (eW p v) (s.n v):Nat):Int)=(((List.range (v+1)).map λv=>sR (eW p v) (s.n v)).sum:Nat):=by rw[dJ U U];omega
  rw[dG,aCu];simp only[gsR,e,g1,cU,ea,e3];exact ih (v+1) l H1 U U U (he.tr x1) ..
theorem aCy (h:fU H0 H O a F p ev wv nv t s)(ht:t<1000000)(hm:70000<m)(hm2:m<=72057594037927936): ∃H',lvl prog pkN m (.func 9) [pt a.fb] H=some (.I (y8 p s),H')/\Ext H H':=by
 obtain⟨N,hN,hNe⟩:=h.rE;have hn:=hN.hn;have h6:=hN.h6;obtain⟨H1,e1,w1,n1,g1,c1⟩:=A6 h (m:=m-1) U
 have p1:rI 0 (plV p e1 w1 n1)=some (.I (p.nodes.toNat:Nat)):=by
  have:rI 0 (plV p e1 w1 n1)=some (.I p.nodes):=rfl;rw[this,show((p.nodes.toNat:Nat):Int)=p.nodes from U]
 refine mF (cV rfl) U ?_
 rw[aQD];simp only[gsR,g1,p1];exact aQN h ht (m:=m-1) U U p.nodes.toNat 0 (m-1) H1 U U U c1.ext ..
end
section
variable {H0 Hs H H' : aE} {O : FP → Nat → Prop} {a : FL} {F : Nat → Part → Nat → Prop} {p : PlanD} {ev wv nv : Value} {t : Nat} {s : FS} {m : Nat}
def kW:FS:=yZ (fG kq) kI.2
theorem aQY:kI.1=0/\kI.2.k=0/\(dK kq).length=2/\kq.lanes=1/\kH kq kW 0 0=⟨1,0,1,0,0⟩/\y8 kq kW=1/\(gL kq kW).length=2:=by decide+kernel
theorem aQ0 (x y:Acc):bin prog .neq 43 (acV x) (acV y)=some (.bool (!decide (x=y))):=by
 have k:rH prog 43=some [true,true,true,true,true]:=by kernel_rfl
 obtain⟨a1,a2,a3,a4,a5⟩:=x;obtain⟨b1,b2,b3,b4,b5⟩:=y;unfold acV;simp only[Acc.nE,Acc.mk.injEq];simp[bin,eD,nG,k,eqT,Bool.beq_eq_decide_eq,Bool.decide_and]
theorem aQZ (m:Nat)(hm:17592186045700<m)(hm2:m<=72057594037927936): ∃H',lvl prog pkN m (.func 4) [] H=some (.bool true,H')/\Ext H H':=by
 obtain⟨H1,hH1⟩:=aD (H++[Blk.cells [Value.int .u8 0] 5 .row]);have x1:Ext H H1:=by rw[hH1];exact Fr.app _ _ _
 have e1:dR 5 1 1 [.int .u8 0] [(0,.int .u8 0)] H=some (.slice (some ⟨H.length,0,none⟩) 1 1,H1):=by rw[hH1];rfl
 have hu:Us H1 (.slice (some ⟨H.length,0,none⟩) 1 1) [0]:= .inr ⟨H.length,0,1,rfl,aRf _,λ_=>⟨5,.row,[],[],rfl,λ_=>rfl,by rw[hH1,eC];rfl⟩⟩
 obtain⟨H2,ev,wv,nv,g2,x2,hp⟩:=aBN hu (by simp) (by simp) 1 0 0 U U U (m:=m-1) U U
 simp only[show((1:Nat):Int)=1 from rfl,show((0:Nat):Int)=0 from rfl] at g2
 have hok:=aBO [0] 1 0 0;have hst0:(vL [0] 1 0 0).start=0:=rfl;obtain⟨q,hq⟩:=aD kq;have hq':vL [0] 1 0 0=q:=hq.symm;rw[hq'] at g2 hp hok hst0;obtain⟨r1,r4,r6,r7,r8,r9,r10⟩:=aQY;obtain⟨H3,u,g3,Hb,O,a,F,e',w',n',rfl,xb,h3,_⟩:=aCh hp hok (by rw[hst0];omega) (m:=m-1) U U
 have hqh:(dK q).length=2:=by rw[hq];exact r6
 have hql:q.lanes=1:=by rw[hq];exact r7
 have E0:ext 0 (.tuple #[pt a.fb,.int .u16 0])=some (pt a.fb):=rfl;have E1:ext 1 (.tuple #[pt a.fb,.int .u16 0])=some (.int .u16 0):=rfl;have z0:((0:Int)!=0)=false:=rfl;have n2:=λa=>(Di 32 a (by kernel_rfl)).1
 have n3:=λa=>(Di 46 a (by kernel_rfl)).1
 have k2:=Q9 h3 (m:=m-1) U 0
 have v2:y5 q a 0=pt (a.lb 0):=by unfold y5;rw[if_pos U];rfl
 rw[v2] at k2;have bp:bld prog 39 [(0,.I 0),(1,.I 1),(3,.int .u32 7)]=some kx.dV:=rfl;obtain⟨H4,O4,F4,g4,h4,_⟩:=aCf h3 (m:=m-1) U kx aC
 have hI:uO q kx (FS.wV (fG q))=kI:=by rw[hq];rfl
 rw[hI] at g4 h4;obtain⟨H5,O5,F5,g5,h5⟩:=aP1 h4 U U (m:=m-1) U
 have hW:yZ (fG q) kI.2=kW:=by rw[hq];rfl
 rw[hW] at h5;obtain⟨H6,g6,x6⟩:=aCx h5 U (m:=m-1) U U (k:=0) (lane:=0) U (by rw[hql];decide)
 have ha0:kH q kW 0 0=⟨1,0,1,0,0⟩:=by rw[hq];exact r8
 rw[ha0] at g6;simp only[show((0:Nat):Int)=0 from rfl] at g6
 have A0:ext 0 (.tuple #[acV ⟨1,0,1,0,0⟩,.bool true])=some (acV ⟨1,0,1,0,0⟩):=rfl;have A1:ext 1 (.tuple #[acV ⟨1,0,1,0,0⟩,.bool true])=some (.bool true):=rfl;have B0:ext 0 (.tuple #[acV ac0,.bool false])=some (acV ac0):=rfl;have B1:ext 1 (.tuple #[acV ac0,.bool false])=some (.bool false):=rfl;have ez: ∀G:aE,G++[Blk.cells [Value.int .i64 0,.int .i64 0,.int .i64 0,.int .i64 0,.int .i64 0] 43 .fix]=G++[acB ac0]:=λ_=>rfl
 have st6: ∀(x:Acc)(G:aE),stN 5 (.pointer (some ⟨G.length,0,none⟩)) (acV x) (G++[acB ac0])=some (undef,G++[acB x]):=λx G=>by rw[A7 ac0 x (eC G _),lO]
 obtain⟨H7,hH7⟩:=aD (H6++[acB ⟨1,0,1,0,0⟩]);have x7:Ext H6 H7:=by rw[hH7];exact Fr.app _ _ _
 have b7:H7[H6.length]? =some (acB ⟨1,0,1,0,0⟩):=by rw[hH7];exact eY _ _
 have h7:=(h5.fQ x6).fQ x7;obtain⟨H8,g8,x8⟩:=aQH h7 (m:=m-1) U 2 0 (.inr U)
 obtain⟨H9,hH9⟩:=aD (H8++[acB ac0]);have x9:Ext H8 H9:=by rw[hH9];exact Fr.app _ _ _
 have h9:=(h7.fQ x8).fQ x9;have s9:stN 5 (.Q H8.length 0) (acV ac0) H9=some (undef,H9):=by rw[hH9];exact st6 ac0 H8
 have l9:ldN 5 (.Q H6.length 0) H9=some (acV ⟨1,0,1,0,0⟩,H9):=qA (eU (eU b7 x8) x9) (aRf 5);have ba:bld prog 43 [(0,.I 1),(2,.I 1)]=some (acV ⟨1,0,1,0,0⟩):=rfl;have qa:bin prog .eql 43 (acV ⟨1,0,1,0,0⟩) (acV ⟨1,0,1,0,0⟩)=some (.bool true):=by
  have:=aQj ⟨1,0,1,0,0⟩ ⟨1,0,1,0,0⟩;rw[aRU rfl] at this;exact this
 obtain⟨HA,gA,xA⟩:=aCy h9 U (m:=m-1) U U
 have hIn:y8 q kW=1:=by rw[hq];exact r9
 rw[hIn] at gA;obtain⟨HB,uB,gB,xB,rB,_⟩:=R9 (h9.fQ xA) U (m:=m-1) U U
 have hal:(gL q kW).length=2:=by rw[hq];exact r10
 have lenB:=rB.rs.jX;rw[hal] at lenB;have z1:((1:Int)==1)=true:=rfl;have z22:(((2:Nat):Int)==2)=true:=rfl;have xx:Ext H HB:=(x1.tr x2).tr (xb.tr ((h9.fQ xA).fQ xB).own.ext);refine mF (cV rfl) U ⟨HB,?_,xx⟩
 rw[aQx];simp only[gsR,e1,g2,g3,E0,E1,z0,n2,k2,n3,bp,g4,g5,g6,A0,A1,ez,st6,<-hH7,g8,B0,B1,<-hH9,s9,l9,ba,qa,gA,z1,gB,lenB,z22]
theorem aQW {pb:Nat}{n:Nat}(h:fU H0 Hs O a F p ev wv nv t s)(ht:t<1000000)(hi:InjI p s n){ev0 wv0 nv0:Value}(bp:H0[pb]? =some (plB p ev0 wv0 nv0)){A:Value}(hA:Rw Acc.nE 43 5 Hs A (gL p s))(hm:100000<m)(hm2:m<=72057594037927936)(hlen:(gL p s).length<=108):
  ∀(q i l:Nat)(H:aE),(gL p s).length-i=q->i<=(gL p s).length->q<l->Ext Hs H-> ∀(x0 x1 x2 x3 x4 x5 x6 x7 x8 x9 aP aO aR bJ bM bT bN bP aU aV aW aX aY aZ bA bH bO bV cH cJ bX cC bY b9 cA cD cF cM cN cO cQ cW cX cY cS cT cZ dA dE dB dC dF dL dM dN dQ dZ eA eE eF eG eH eK eN eO eZ fA fB fC fD fE:Value),
  ∃H2,aK l (aM prog (lvl prog pkN m) (aK m) Ru) (Rx (lvl prog pkN m) (aK m)) [x0,x1,x2,x3,x4,x5,x6,x7,x8,x9,(.bool false),(.Q pb 0),(pt a.fb),aP,(.I (n:Nat)),aO,A,(.I (i:Nat)),aR,bJ,bM,bT,bN,bP,aU,aV,aW,aX,aY,aZ,bA,bH,bO,bV,cH,cJ,bX,cC,bY,b9,cA,cD,cF,cM,cN,cO,cQ,cW,cX,cY,cS,cT,cZ,dA,dE,dB,dC,dF,dL,dM,dN,dQ,dZ,eA,eE,eF,eG,eH,eK,eN,eO,eZ,fA,fB,fC,fD,fE] H=some (.bool true,H2):=by
 have hroom:1<=p.room/\p.room<=8:=by
  have:=h.ok;unfold gS qW wi at this;simp only[aRi,decide_eq_true_eq] at this;omega
 have hall: ∀x∈gL p s,x=⟨p.room,0,0,0,0⟩:=λx hx=>by
  unfold gL at hx;obtain⟨k,_,hx⟩:=List.mem_flatMap.mp hx;obtain⟨l,_,rfl⟩:=aRN.mp hx;rw[hi.acc]
  congr 1
  omega
 have hfly:qJ p s (gL p s).length=0:=by
  unfold qJ;rw[List.take_length];have: ∀l:List Acc,(∀x∈l,x=⟨p.room,0,0,0,0⟩)->(l.map (·.flying)).sum=0:=by
   intro l;induction l with
   |nil=>intro _;rfl
   |cons x l ih=>
    intro hl;rw[aRF,List.sum_cons,ih λy hy=>hl y (aRr _ hy),hl x (aRj ..)]
    rfl
  exact this _ hall
 have hins:y8 p s=n:=by
  unfold y8;rw[hfly,hi.aQl λv hv=>(h.node v hv).inv]
  omega
 intro q;induction q with
 |zero=>
  intro i l H hq hi' hl he;intros;obtain⟨l,rfl⟩:=aB l U
  obtain rfl:i=(gL p s).length:=U
  have e:decide (((gL p s).length:Int)<((gL p s).length:Nat))=false:=by simp
  have hlA:=hA.rs.jX;obtain⟨H2,g2,_⟩:=aCy (h.fQ he) ht (m:=m) U hm2
  rw[hins] at g2;have z:((n:Int)==(n:Int))=true:=by simp
  refine⟨H2,?_⟩;rw[dG,aCr];simp only[gsR,hlA,e];rw[aQv];simp only[gsR,g2,z]
 |succ q ih=>
  intro i l H hq hi' hl he;intros;obtain⟨l,rfl⟩:=aB l U
  have e:decide ((i:Int)<((gL p s).length:Nat))=true:=aRU U
  have e3:=aA (i:=i) U
  have hlA:=hA.rs.jX;obtain⟨x,hx⟩: ∃x,(gL p s)[i]? =some x:=⟨_,aRc U⟩
  obtain⟨b,o,g1,_,g3⟩:=(pF hA he).rs.fV Rc hx .i64;have g4:ldN 5 (.Q b o) H=some (acV x,H):=(g3 H rfl).1;have l3:=eP (eU bp (h.fQ he).own.ext) 3 (.I p.room) rfl;have eb:bld prog 43 [(0,.I p.room)]=some (acV ⟨p.room,0,0,0,0⟩):=rfl;have hne:=aQ0 x ⟨p.room,0,0,0,0⟩;rw[aRU (hall x (aRk hx)),Bool.not_true] at hne;rw[dG,aCr];simp only[gsR,hlA,e,g1,g4,l3,eb,hne,cU,e3];exact ih (i+1) l H U U U he ..
theorem aQX {pb:Nat}{ev0 wv0 nv0:Value}(bp:H0[pb]? =some (plB p ev0 wv0 nv0)){xv:Value}{xs:List Pkt}(hx0:Rs Pkt.pA 39 H0 xv xs)(hxb: ∀x∈xs,0<=x.body/\x.body<4294967296)(hxl:xs.length<=30)(hm:100000<m)(hm2:m<=72057594037927936):
  ∀(q i l n:Nat)(H:aE)(O:FP->Nat->Prop)(F:Nat->Part->Nat->Prop)(s:FS),xs.length-i=q->i<=xs.length->q<l->n<=i->fU H0 H O a F p ev wv nv 0 s->InjI p s n-> ∀(x0 x1 x2 x3 x5 x6 x7 x8 x9 aP bB bI aR bJ bM bT bN bP aU aV aW aX aY aZ bA bH bO bV cH cJ bX cC bY b9 cA cD cF cM cN cO cQ cW cX cY cS cT cZ dA dE dB dC dF dL dM dN dQ dZ eA eE eF eG eH eK eN eO eZ fA fB fC fD fE:Value),
  ∃H2,aK l (aM prog (lvl prog pkN m) (aK m) Rt) (Rv (lvl prog pkN m) (aK m)) [x0,x1,x2,x3,xv,x5,x6,x7,x8,x9,(.bool false),(.Q pb 0),(pt a.fb),aP,(.I (n:Nat)),(.I (i:Nat)),bB,bI,aR,bJ,bM,bT,bN,bP,aU,aV,aW,aX,aY,aZ,bA,bH,bO,bV,cH,cJ,bX,cC,bY,b9,cA,cD,cF,cM,cN,cO,cQ,cW,cX,cY,cS,cT,cZ,dA,dE,dB,dC,dF,dL,dM,dN,dQ,dZ,eA,eE,eF,eG,eH,eK,eN,eO,eZ,fA,fB,fC,fD,fE] H=some (.bool true,H2):=by
 have h36:=uC p;have hlx:=hx0.jX;intro q;induction q with
 |zero=>
  intro i l n H O F s hq hi hl hn h hI;intros;obtain⟨l,rfl⟩:=aB l U
  obtain rfl:i=xs.length:=U
  have e:decide ((xs.length:Int)<(xs.length:Nat))=false:=by simp
  obtain⟨H1,A,g1,x1,r1,_⟩:=R9 h U (m:=m) U hm2
  have h3:=Dm h.ok;have hal:(gL p s).length=(dK p).length*p.lanes.toNat:=Ay λi _=>by rw[aRo,aRE]
  have hmul:(dK p).length*p.lanes.toNat<=36*3:=Nat.mul_le_mul h36 U
  rw[dG,aCq];simp only[gsR,hlx,e];rw[aQu];simp only[gsR,g1];exact aQW (h.fQ x1) U hI bp r1 hm hm2 U (gL p s).length 0 m H1 U U U (Fr.gR _ _) ..
 |succ q ih=>
  intro i l n H O F s hq hi hl hn h hI;intros;obtain⟨l,rfl⟩:=aB l U
  have e:decide ((i:Int)<(xs.length:Nat))=true:=aRU U
  have e3:=aA (i:=i) U
  have en:=aA (i:=n) U
  obtain⟨x,hx⟩: ∃x,xs[i]? =some x:=⟨_,aRc U⟩
  obtain⟨b,o,g1,_,g3⟩:=(hx0.ext h.own.ext).fV C3 hx .i64;have g4:ldN 4 (.Q b o) H=some (x.dV,H):=(g3 H rfl).1;obtain⟨H1,O1,F1,g5,h1,_⟩:=aCf h (m:=m) U x (hxb x (aRk hx))
  have hI1:=hI.aQk x;rw[dG,aCq];by_cases h0:(uO p x s).1=0
  ·rw[if_pos h0] at hI1
   rw[h0] at g5;have z:(((0:Nat):Int)==0)=true:=rfl;simp only[gsR,hlx,e,g1,g4,g5,z,cU,en,e3];exact ih (i+1) l (n+1) H1 O1 F1 _ U U U U h1 hI1 ..
  ·rw[if_neg h0] at hI1
   have z:((((uO p x s).1:Nat):Int)==0)=false:=by rw[beq_eq_false_iff_ne];omega
   simp only[gsR,hlx,e,g1,g4,g5,z,cU,e3];exact ih (i+1) l n H1 O1 F1 _ U U U U h1 hI1 ..
theorem aQ1 {cv:Value}{c:List Nat}(hc:Us H cv c)(hu8: ∀x∈c,x<256)(hl:c.length<=72057594037927936)(room more start:Nat)(h2:room<256)(h3:more<256)(h4:start<65536){xv:Value}{xs:List Pkt}(hx0:Rs Pkt.pA 39 H xv xs)(hxb: ∀x∈xs,0<=x.body/\x.body<4294967296):
  ∃H',lvl prog cR 18014398509481984 (.func 3) [cv,.int .u8 room,.int .u8 more,.int .u16 start,xv] H=some (.bool true,H')/\True:=by
 have hlx:=hx0.jX;obtain⟨Hk,gk,xk⟩:=aQZ (H:=H) (18014398509481984-1) U U
 refine mF (cV rfl) U ?_
 rw[aQw];by_cases h30:30<xs.length
 ·have d1:decide ((30:Int)<(xs.length:Nat))=true:=aRU U
  simp only[gsR,hlx,d1,gk]
  exact⟨_,rfl,trivial⟩
 ·have d1:decide ((30:Int)<(xs.length:Nat))=false:=aRV U
  obtain⟨H1,ev,wv,nv,g1,x1,hp⟩:=aBN (hc.ext xk) hu8 hl room more start h2 h3 h4 (m:=18014398509481984-1) U U
  have hok:=aBO c room more start;have hst0:(vL c room more start).start=start:=rfl;obtain⟨q,hq⟩:=aD (vL c room more start);rw[<-hq] at g1 hp hok hst0;have cp:=F8 hp H1;obtain⟨H2,hH2⟩:=aD (H1++[plB q ev wv nv]);rw[<-hH2] at cp;have x2:Ext H1 H2:=by rw[hH2];exact Fr.app _ _ _
  have b2:H2[H1.length]? =some (plB q ev wv nv):=by rw[hH2];exact eY _ _
  have l2:=kE b2;obtain⟨H3,u,g3,H0,O,a,F,e',w',n',rfl,xb,k3,_⟩:=aCh (hp.ext x2) hok (by rw[hst0];omega) (m:=18014398509481984-1) U U
  have E0:ext 0 (.tuple #[pt a.fb,.int .u16 0])=some (pt a.fb):=rfl;have E1:ext 1 (.tuple #[pt a.fb,.int .u16 0])=some (.int .u16 0):=rfl;have z0:((0:Int)!=0)=false:=rfl;have n2:=λa=>(Di 32 a (by kernel_rfl)).1
  simp only[gsR,hlx,d1,gk,aPg,g1,yE,cp,l2,g3,E0,E1,z0,n2];obtain⟨H4,g4⟩:=(aQX (m:=18014398509481984-1) (a:=a) (eU b2 xb) ((((hx0.ext xk).ext x1).ext x2).ext xb) hxb U U U xs.length 0 (18014398509481984-1) 0 H3 O F (FS.wV (fG q)) U U U U k3 (InjI.aQm q) ..)
  exact⟨H4,g4,trivial⟩
end
theorem Pkt.aQ2 (x:Pkt):x.pA.length=4:=rfl
theorem Ps.aQ3 {G:aE}{n:Nat}{u:Value}(h:Rp prog G n 24 [u]): ∃xs,Rs Pkt.pA 39 G u xs/\ ∀x∈xs,x.ok:=by
 obtain⟨m,u',b,rows,h1,h2,h3,h4,h5⟩:=h.Uk (e:=39) (by kernel_rfl)
 cases h1;have hc:prog.cellsOf 39=4:=by kernel_rfl
 rw[hc] at h2;have hr: ∀rows:List (List Value),(∀r∈rows,r.length=prog.cellsOf 39/\Rp prog G m 39 r)-> ∃xs:List Pkt,xs.map Pkt.pA=rows/\ ∀x∈xs,x.ok:=by
  intro rows;induction rows with
  |nil=>intro _;exact⟨[],rfl,by simp⟩
  |cons r rs ih=>
   intro hr;obtain⟨xs,e,ho⟩:=ih λr' h'=>hr r' (aRr _ h')
   obtain⟨x,ex,ox⟩:=aPh (hr r (aRj ..)).2;refine⟨x::xs,?_,λy hy=> ?_⟩
   ·rw[aRF,e]
    injection ex with ex;injection ex with ex;rw[ex]
   ·rcases aRt.mp hy with rfl|hy
    ·exact ox
    ·exact ho y hy
 obtain⟨xs,hm,ho⟩:=hr rows h5;refine⟨xs,?_,ho⟩;have hlen:xs.length=rows.length:=by rw[<-hm,aRo]
 rw[<-hm] at h2;rcases h4 with rfl|⟨c,rfl⟩
 ·have h0:rows=[]:=by
   have:=h2.len;have hl:cK (Value.slice none 0 0)=some (.I 0):=rfl;rw[hl,hm] at this;simp at this;exact aRs.mp U
  subst h0
  obtain rfl:xs=[]:=aRs.mp (by rw[hlen];rfl)
  exact .inl ⟨rfl,rfl⟩
 ·rw[<-hlen] at h2⊢
  exact h2.rs Pkt.aQ2 (c:=c) (.inr rfl)
end Go.Proofs.YtndnnndnhnlkdaaGreatDoor
