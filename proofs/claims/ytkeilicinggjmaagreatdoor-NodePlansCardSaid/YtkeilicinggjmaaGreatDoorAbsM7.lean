/-
  PARTS OF THIS CLAIM'S PROOF, laid together by a program of mine.
-/
import Derived.Test.YtkeilicinggjmaaGreatDoorAbsM6
set_option linter.unusedVariables false
set_option linter.unusedSimpArgs false
set_option linter.unusedSectionVars false
set_option maxRecDepth 100000
namespace Go.Proofs.YtkeilicinggjmaaGreatDoor
open Go.Proofs.Tryz
open Go.Abs Go.Abs.M
open Classical
section
variable {H0 H : aE} {F : Part → Nat → Prop} {y : Lay} {p : PlanD} {ev wv nv : Value} {c : Cfg} {t : Nat} {s : NS} {m : Nat}
def xL (z:Int):Blk:= .cells [.int .i64 z] 3 .fix
theorem aA6 (h:NodeAt H0 H F y p ev wv nv c t s)(hm:40<m)(d:Nat)(hd:d<c.nodes): ∃H',lvl prog pkN m (.func 99) [pt y.nb,.I d] H=some (.I (c.port d:Nat),H')/\Ext H H':=by
 have hport:c.port d=if d=c.me then 0 else match c.by'.findIdx? λw:Nat=>decide ((w:Int)=nx p c.me d) with
   |some j=>j+1
   |none=>0:=by
  have:=congrArg Cfg.port h.hc;have h2:=congrArg Cfg.by' h.hc;rw[this,h2];rfl
 refine jQ (cT rfl) U ?_
 rw[aLg];have l12:=h.ld 12 (.I c.me) rfl;by_cases hme:d=c.me
 ·have c1:((d:Int)==(c.me:Int))=true:=by rw[hme];simp
  rw[if_pos hme] at hport;rw[hport];simp -implicitDefEqProofs only[gsR,l12,c1]
  exact⟨_,rfl,Fr.iQ _ _⟩
 ·have c1:((d:Int)==(c.me:Int))=false:=by rw[beq_eq_false_iff_ne];omega
  rw[if_neg hme] at hport;obtain⟨n,hn⟩:=h.hp;have hnn:c.nodes=n:=by
   have:=congrArg Cfg.nodes h.hc;rw[this];show p.nodes.toNat=n
   rw[hn.hn];simp
  have hmen:c.me<n:=by rw[<-hnn];exact h.ok.me
  obtain⟨row,hrow⟩: ∃row,p.next[c.me]? =some row:=⟨_,aPP (by rw[hn.nl];exact hmen)⟩
  have l11:=h.ld 11 nv rfl;obtain⟨pp,u,r1,r2,r3⟩:=(h.plan.ext h.ext).n.wS hrow .i64;have hrl:row.length=n:=hn.rl _ (aPX hrow);have hx:row[d]? =some (nx p c.me d):=by
   unfold nx;rw[aQf,aQf,aPR,aPR,hrow,aQg];rw[aPP (by rw[hrl];omega)]
   rfl
  obtain⟨b,o,i1,_,i3⟩:=r3.fZ fA hx .i64;have i3:=(i3 H rfl).2.1 0 _ rfl;have i3:ld1 (.pointer (some ⟨b,o,none⟩)) H=some (.int .i64 (nx p c.me d),H):=i3;have e0: ∀H:aE,H++[Blk.cells [Value.int .i64 0] 3 .fix]=H++[xL 0]:=λ_=>rfl
  have st:stN 1 (.Q H.length 0) (.I (nx p c.me d)) (H++[xL 0])=some (undef,H++[xL (nx p c.me d)]):=by
   rw[lW (dS H (xL 0)) aC (by simp),nL]
   rfl
  obtain⟨H1,hH1⟩:=aD (H++[xL (nx p c.me d)]);have x1:Ext H H1:=by rw[hH1];exact Fr.app _ _ _
  have h1:=h.iT x1;have l13:=h1.ld 13 (iX y c) rfl;obtain⟨v,t1,t2⟩:=h1.aA2;obtain⟨H2,g1,g2⟩:=aA4 (m:=m-1) (fid:=144) (cb:=H.length) (z:=nx p c.me d) U (λG i hG=>aN0 U i hG) h.ok.by' t2 (by rw[hH1];exact dS _ _)
  have e1:IntKind.i64.wrap (fiI c.by' (nx p c.me d)+1)=(c.port d:Nat):=by
   rw[hport];unfold fiI;cases hf:c.by'.findIdx? λw:Nat=>decide ((w:Int)=nx p c.me d) with
   |none=>rfl
   |some j=>
    have:=(List.findIdx?_eq_some_iff_getElem.mp hf).1;have:=h.ok.by';exact oK j U
  simp -implicitDefEqProofs only[gsR,l12,c1,l11,r1,r2,i1,i3,e0,st,<-hH1,l13,t1,g1,cO,e1]
  exact⟨_,rfl,x1.tr g2⟩
theorem aN2 (x:Pkt):(sD c x s).2={s with hL:=(sD c x s).2.hL}:=by
 unfold sD;split
 ·rfl
 ·split<;>rfl
theorem aN1 {D:aE}{hb:Nat}(hm:2<m)(x:Pkt)(hq: ∀k:Int,(iK s.hL k).length<=c.queue)(h8:c.queue<=8)(h:HostAt D hb s.hL s.hG c.lanes c.queue):
  ∃r D',lvl prog pkN m (.func 63) [pt hb,x.dR] D=some (r,D')/\(r= .int .u16 (sD c x s).1/\HostAt D' hb (sD c x s).2.hL s.hG c.lanes c.queue):=by
 obtain⟨w0,w1,w2,cv,h⟩:=h;unfold sD;by_cases h1:0<=x.lane/\x.lane<c.lanes
 ·rw[if_neg (not_not_intro h1)]
  by_cases h2:(iK s.hL x.lane).length=c.queue
  ·rw[if_pos h2]
   exact⟨_,_,aLU h hm x h1 h2,rfl,HostAt.ext ⟨w0,w1,w2,cv,h⟩ (Fr.app _ _ _)⟩
  ·rw[if_neg h2]
   obtain⟨H',g1,g2⟩:=aLW h hm x h1 h2 (fV (n:=1000) aC (by have:=hq x.lane;omega))
   exact⟨_,_,g1,rfl,g2⟩
 ·rw[if_pos h1]
  exact⟨_,_,aLV h hm x h1,rfl,HostAt.ext ⟨w0,w1,w2,cv,h⟩ (Fr.app _ _ _)⟩
theorem NodeAt.Gr {H':aE}{F':Nat->Prop}{t':Nat}{L G:List Pkt}(h:NodeAt H0 H F y p ev wv nv c t s)(hB:Has (λD=>HostAt D y.hb L G c.lanes c.queue) F' H')(hm:Mv (F .host) F' H H')(hi:NInv c t' {s with hL:=L,hG:=G}):
  NodeAt H0 H' (updI F .host F') y p ev wv nv c t' {s with hL:=L,hG:=G}/\Mv (Un F) (Un (updI F .host F')) H H':=
 h.aAV .host hB hm hi (λD hD=>hD) λj hj D hD=>by
  cases j with
  |host=>exact absurd rfl hj
  |_=>exact hD
theorem NodeAt.P3 {H':aE}{F':Nat->Prop}{t':Nat}{L:List (Go.Abs.iJ×Pkt)}(h:NodeAt H0 H F y p ev wv nv c t s)(hB:Has (λD=>RingsN D y.rg L (c.aL*c.lanes*c.room) c.aL c.lanes) F' H')(hm:Mv (F .rings) F' H H')(hi:NInv c t' {s with rL:=L}):
  NodeAt H0 H' (updI F .rings F') y p ev wv nv c t' {s with rL:=L}/\Mv (Un F) (Un (updI F .rings F')) H H':=
 h.aAV .rings hB hm hi (λD hD=>hD) λj hj D hD=>by
  cases j with
  |rings=>exact absurd rfl hj
  |_=>exact hD
theorem Has.vR {A B:aE->Prop}{F:Nat->Prop}{H:aE}(h:Has A F H)(hAB: ∀D,A D->B D):Has B F H:=⟨hAB _ h.at_,h.lt⟩
theorem aA5 (h:NodeAt H0 H F y p ev wv nv c t s)(hm:10<m)(x:Pkt)(hb:0<=x.body/\x.body<4294967296): ∃H' F',lvl prog pkN m (.func 18) [pt y.nb,x.dR] H=some (.int .u16 (pQ c x s).1,H')/\NodeAt H0 H' F' y p ev wv nv c t (pQ c x s).2/\Mv (Un F) (Un F') H H':=by
 have hinv:=h.inv.aL2 h.ok hb;obtain⟨H1,hH1⟩:=aD (H++[eJ x]);have x1:Ext H H1:=by rw[hH1];exact Fr.app _ _ _
 have h1:=h.iT x1;have b1:H1[H.length]? =some (eJ x):=by rw[hH1];exact dS _ _
 have e0:H++[Blk.cells (Value.cells x.dR).toList 54 .fix]=H1:=by rw[hH1];rfl
 have l0:ld1 (.Q H.length 0) H1=some (.I x.src,H1):=dC b1 rfl;have l1:ld1 (.Q H.length 1) H1=some (.I x.dst,H1):=dC b1 rfl;have l4:=(pT b1).2;have n1:=h1.ld 1 (.I c.nodes) rfl;have n12:=h1.ld 12 (.I c.me) rfl;have n14:=h1.ld 14 (pt y.hb) rfl;have mvx:Mv (Un F) (Un F) H H1:=Mv.pI x1 _;by_cases hno:x.src≠c.me∨x.dst<0∨(c.nodes:Int)<=x.dst∨x.dst=c.me
 ·have hr:pQ c x s=(1,s):=by unfold pQ;rw[if_pos hno]
  rw[hr];refine⟨H1,F,dI (cT rfl) U ?_,h1,mvx⟩
  rw[Ys];by_cases c1:x.src=c.me
  ·have c1':(x.src !=(c.me:Int))=false:=by simp[c1]
   by_cases c2:x.dst<0
   ·simp -implicitDefEqProofs only[gsR,e0,l0,n12,c1',l1,aQw c2]
    rfl
   ·by_cases c3:(c.nodes:Int)<=x.dst
    ·simp -implicitDefEqProofs only[gsR,e0,l0,n12,c1',l1,aQx c2,n1,aQw c3]
     rfl
    ·have c4:x.dst=c.me:=by
      rcases hno with h|h|h|h
      ·exact absurd c1 h
      ·exact absurd h c2
      ·exact absurd h c3
      ·exact h
     have c4':(x.dst==(c.me:Int))=true:=by simp[c4]
     simp -implicitDefEqProofs only[gsR,e0,l0,n12,c1',l1,aQx c2,n1,aQx c3,c4'];rfl
  ·have c1':(x.src !=(c.me:Int))=true:=by simpa using c1
   simp -implicitDefEqProofs only[gsR,e0,l0,n12,c1'];rfl
 ·have hr:pQ c x s=sD c x s:=by unfold pQ;rw[if_neg hno]
  rw[hr] at hinv⊢;rw[aN2] at hinv⊢;obtain⟨r,H2,F',g1,g2,g3⟩:=(h1.sep.own .host).yL sA (n:=m-1) (λD hD=>aN1 (m:=m-1) U x h1.inv.hQ h.ok.queue.2 hD)
  obtain⟨hrv,_⟩:=g2.at_;obtain⟨k1,k2⟩:=h1.Gr (Has.vR g2 λD hD=>hD.2) g3 hinv
  have c1:(x.src !=(c.me:Int))=false:=by
   simp only[bne_eq_false_iff_eq];exact Classical.byContradiction λhh=>hno (.inl hh)
  have c2:decide (x.dst<0)=false:=by rw[decide_eq_false_iff_not];exact λhh=>hno (.inr (.inl hh))
  have c3:decide ((c.nodes:Int)<=x.dst)=false:=by rw[decide_eq_false_iff_not];exact λhh=>hno (.inr (.inr (.inl hh)))
  have c4:(x.dst==(c.me:Int))=false:=by rw[beq_eq_false_iff_ne];exact λhh=>hno (.inr (.inr (.inr hh)))
  refine⟨H2,_,dI (cT rfl) U ?_,k1,mvx.pJ k2⟩
  rw[Ys];have g1:lvl prog pkN (m-1) (.func 63) [pt y.hb,x.dR] H1=some (.int .u16 (sD c x s).1,H2):=by rw[<-hrv];exact g1
  simp -implicitDefEqProofs only[gsR,e0,l0,n12,c1,l1,c2,n1,c3,c4,n14,l4,g1]
end
theorem aN8 (a b c d:UInt8):iS [a,b,c,d]<4294967296:=Oz 4 _ rfl
theorem aA7 (a b:UInt8):iS [a,b]<65536:=Oz 2 _ rfl
theorem aN7 {bs:List UInt8}{f:Frm}(h:pN bs=some f):f.ok:=by
 have h1:(nA bs).ok:=⟨UInt8.toNat_lt _,UInt8.toNat_lt _,aA7 _ _,by show 0<256;decide,by show 0<256;decide,by show 0<4294967296;decide⟩
 have h2:(rD bs).ok:=⟨UInt8.toNat_lt _,UInt8.toNat_lt _,aA7 _ _,UInt8.toNat_lt _,UInt8.toNat_lt _,aN8 _ _ _ _⟩;unfold pN y6 at h
 split at h
 ·split at h
  ·cases h;exact h1
  ·cases h
 ·split at h
  ·split at h
   ·cases h;exact h2
   ·cases h
  ·cases h
theorem aN9 {α:Type}(f:Nat->Nat->α)(i k:Nat):up2 f i k (f i k)=f:=by
 funext j l
 unfold up2;split
 ·rename_i h
  rw[h.1,h.2]
 ·rfl
theorem vS (b:Nat)(H':aE):chk (some (pt b,H')) (pt b)=true:=by simp[chk,veq]
theorem aA9 (x:Pkt)(H':aE):chk (some (x.dR,H')) x.dR=true:=by simp[chk,veq,tN,Pkt.dR,Pkt.oT]
theorem aA8 {n:Nat}(h:n≠0):((n:Int)!=0)=true:=by
 rw[bne_iff_ne];omega
theorem aN3 {room:Nat}{x:Rcv}{s:Nat}:(x.kP room s).1≠0->(x.kP room s).2=x:=by
 unfold Rcv.kP
 generalize dX x.n s=w
 by_cases c1:w<x.n
 ·simp only[if_pos c1]
  exact λ_=>trivial
 ·by_cases c2:x.mC room<=w
  ·simp only[if_neg c1,if_pos c2]
   exact λ_=>trivial
  ·simp only[if_neg c1,if_neg c2]
   exact λh=>absurd rfl h
theorem aN5 {c:Cfg}{s:NS}{i:Nat}{f:Frm}(hn: ¬c.nodes<=max f.src f.dst)(h0:((s.rcv i f.lane).kP c.room f.seq).1=0):
  rF c i f s=(0,{s with rcv:=up2 s.rcv i f.lane ((s.rcv i f.lane).kP c.room f.seq).2,rL:=tH c s.rL ((i:Int),(c.port f.dst:Int),(f.lane:Int)) ⟨f.src,f.dst,f.lane,f.body⟩}):=by
 unfold rF;rw[if_neg hn]
 generalize (s.rcv i f.lane).kP c.room f.seq=q at*
 obtain⟨e,r⟩:=q;simp only at h0;subst h0;rfl
theorem aN4 {c:Cfg}{s:NS}{i:Nat}{f:Frm}(hn: ¬c.nodes<=max f.src f.dst)(h0:((s.rcv i f.lane).kP c.room f.seq).1≠0):
  rF c i f s=(((s.rcv i f.lane).kP c.room f.seq).1,s):=by
 unfold rF;rw[if_neg hn]
 generalize (s.rcv i f.lane).kP c.room f.seq=q at*
 obtain⟨e,r⟩:=q;cases e with
 |zero=>exact absurd rfl h0
 |succ e=>rfl
section
variable {H0 H : aE} {F : Part → Nat → Prop} {y : Lay} {p : PlanD} {ev wv nv : Value} {c : Cfg} {t : Nat} {s : NS} {m : Nat}
theorem aN6 (h:NodeAt H0 H F y p ev wv nv c t s)(ht:t<1000000000)(hm:200<m){i:Nat}{f:Frm}(h1:1<=i)(h2:i<c.aL)(hl:f.lane<c.lanes)(hf:f.ok):
  ∃H' F',lvl prog pkN m (.func 90) [pt y.nb,.I i,.agg #[pt (y.sb i f.lane),pt (y.rb i f.lane)],frV f] H=some (.int .u16 (rF c i f s).1,H')/\NodeAt H0 H' F' y p ev wv nv c (t+1) (rF c i f s).2/\Mv (Un F) (Un F') H H':=by
 have hinv:=h.inv.aL0 h.ok i f hl hf.body;have hm0:0<m:=U
 have fs:=hf.src;have fd:=hf.dst;have fl:=hf.lane;have fq:=hf.seq;obtain⟨H1,hH1⟩:=aD (H++[fM (pt (y.sb i f.lane)) (pt (y.rb i f.lane))]);obtain⟨H2,hH2⟩:=aD (H1++[frB f]);have x1:Ext H H1:=by rw[hH1];exact Fr.app _ _ _
 have x2:Ext H1 H2:=by rw[hH2];exact Fr.app _ _ _
 have g2:=(h.iT x1).iT x2;have mv2:Mv (Un F) (Un F) H H2:=Mv.pI (x1.tr x2) _;have e1:H++[Blk.cells (Value.cells (.agg #[pt (y.sb i f.lane),pt (y.rb i f.lane)])).toList 100 .fix]=H1:=by rw[hH1];rfl
 have e2:H1++[Blk.cells (Value.cells (frV f)).toList 39 .fix]=H2:=by rw[hH2];rfl
 have bl:H2[H.length]? =some (fM (pt (y.sb i f.lane)) (pt (y.rb i f.lane))):=by
  have:H1[H.length]? =some (fM (pt (y.sb i f.lane)) (pt (y.rb i f.lane))):=by rw[hH1];exact dS _ _
  rw[x2.2 _ (dK this) id,this]
 have bf:H2[H1.length]? =some (frB f):=by rw[hH2];exact dS _ _
 obtain⟨l0,l1,l2,l3,l4,l5,l6⟩:=oJ bf;have n1:=g2.ld 1 (.I c.nodes) rfl;have ec:IntKind.i64.wrap (max (f.src:Int) (f.dst:Int))=max (f.src:Int) (f.dst:Int):=cZ U U
 by_cases c1:c.nodes<=max f.src f.dst
 ·have hr:rF c i f s=(30,s):=by unfold rF;rw[if_pos c1]
  rw[hr];have c1':decide ((c.nodes:Int)<=max (f.src:Int) (f.dst:Int))=true:=by rw[decide_eq_true_eq];omega
  refine⟨H2,F,dI (cT rfl) U ?_,{g2 with inv:=g2.inv.sE (Nat.le_succ t)},mv2⟩
  rw[Oj];simp -implicitDefEqProofs only[gsR,e1,e2,l3,l4,xA,fI _ _ u8U iU,ec,n1,c1'];rfl
 ·have c1':decide ((c.nodes:Int)<=max (f.src:Int) (f.dst:Int))=false:=by rw[decide_eq_false_iff_not];omega
  have lr:=(uG bl).2.2;obtain⟨H3,r1,r2⟩:=aLv (m:=m-1) U (g2.Gk h1 h2 hl) (g2.Gl ht i f.lane) f.seq fq
  have hri:NInv c (t+1) {s with rcv:=up2 s.rcv i f.lane ((s.rcv i f.lane).kP c.room f.seq).2}:=
   {g2.inv.sE (t':=t+1) U with rcv:=zC (g2.inv.sE (t':=t+1) U).rcv ((g2.inv.rcv i f.lane).Z1 h.ok.room.2 f.seq)}
  obtain⟨g3,mv3⟩:=g2.Py h1 h2 hl r2 hri;by_cases c2:((s.rcv i f.lane).kP c.room f.seq).1=0
  ·have c2':((((s.rcv i f.lane).kP c.room f.seq).1:Int)!=0)=false:=by rw[c2];rfl
   have hr:=aN5 (c:=c) (s:=s) (i:=i) c1 c2;rw[hr] at hinv⊢;obtain⟨x,hx⟩: ∃x:Pkt,x=⟨f.src,f.dst,f.lane,f.body⟩:=⟨_,rfl⟩;obtain⟨H4,hH4⟩:=aD (H3++[eJ x]);have x4:Ext H3 H4:=by rw[hH4];exact Fr.app _ _ _
   have g4:=g3.iT x4;have b4:H4[H3.length]? =some (eJ x):=by rw[hH4];exact dS _ _
   have bf3:H3[H1.length]? =some (frB f):=by
    rw[mv3.keep _ (dK bf) (λhu=> ?_),bf]
    have h3:=h.sep.qB _ hu;have:=x1.1;omega
   obtain⟨k0,k1,k2,k3,k4,k5,k6⟩:=oJ bf3;have eb:bld prog 54 [(0,.I f.src),(1,.I f.dst),(2,.I f.lane),(3,.int .u32 f.body)]=some x.dR:=by rw[hx];rfl
   have ez: ∀H:aE,H++[Blk.cells [Value.int .i64 0,.int .i64 0,.int .i64 0,.int .u32 0] 54 .fix]=H++[eJ pk0]:=λ_=>rfl
   have st:stN 4 (.Q H3.length 0) x.dR (H3++[eJ pk0])=some (undef,H4):=by rw[Gd x (dS _ _),nL,hH4]
   have q1:ld1 (.Q H3.length 1) H4=some (.I f.dst,H4):=dC b4 (by rw[hx];rfl)
   have n15:=g4.ld 15 (pt y.rg) rfl;have hdn:f.dst<c.nodes:=U
   obtain⟨H5,t1,x5⟩:=aA6 g4 (m:=m-1) U f.dst hdn
   have g5:=g4.iT x5;have n15':=g5.ld 15 (pt y.rg) rfl;have b5:H5[H3.length]? =some (eJ x):=by rw[x5.2 _ (dK b4) id,b4]
   have q2:ld1 (.Q H3.length 2) H5=some (.I f.lane,H5):=dC b5 (by rw[hx];rfl)
   have q2':ld1 (.Q H3.length 2) H4=some (.I f.lane,H4):=dC b4 (by rw[hx];rfl)
   have q3:=(pT b5).2;have q3':=(pT b4).2;obtain⟨r,H6,F',p1,p2,p3⟩:=(g5.sep.own .rings).yL sA (n:=m-1) (λD hD=>aAy (m:=m-1) hD U ((i:Int),(c.port f.dst:Int),(f.lane:Int)) x)
   have hpw:(if Bd ((i:Int),(c.port f.dst:Int),(f.lane:Int)) c.aL c.lanes=true/\s.rL.length<c.aL*c.lanes*c.room then s.rL++[(((i:Int),(c.port f.dst:Int),(f.lane:Int)),x)] else s.rL)=tH c s.rL ((i:Int),(c.port f.dst:Int),(f.lane:Int)) ⟨f.src,f.dst,f.lane,f.body⟩:=by
    rw[hx];rfl
   obtain⟨k1',k2'⟩:=g5.P3 (Has.vR p2 λD hD=>by rw[<-hpw];exact hD) p3 hinv
   refine⟨H6,_,dI (cT rfl) U ?_,k1',((mv2.pJ mv3).pJ (Mv.pI (x4.tr x5) _)).pJ k2'⟩
   rw[Oj];have es:IntKind.i64.wrap (f.src:Int)=f.src:=yY _ U
   have ed:IntKind.i64.wrap (f.dst:Int)=f.dst:=yY _ U
   have el:IntKind.i64.wrap (f.lane:Int)=f.lane:=yY _ U
   have p1:lvl prog pkN (m-1) (.func 98) [pt y.rg,.I i,.I (c.port f.dst:Nat),.I f.lane,x.dR] H5=some (r,H6):=p1;simp -implicitDefEqProofs only[gsR,e1,e2,l3,l4,xA,fI _ _ u8U iU,ec,n1,c1',lr,l2,r1,c2',k3,k4,k1,k5,es,ed,el,eb,ez,st,n15,q1,t1,n15',vS,q2,q2',Bq,q3,q3',aA9,p1];rfl
  ·have hsame:=aN3 c2
   have hr:=aN4 (c:=c) (s:=s) (i:=i) c1 c2;obtain⟨e,he⟩:=aD (((s.rcv i f.lane).kP c.room f.seq).1);rw[<-he] at hr r1 c2;have c2':=aA8 c2;rw[hr];rw[hsame,aN9] at g3;refine⟨H3,F,dI (cT rfl) hm0 ?_,g3,mv2.pJ mv3⟩;rw[Oj];simp -implicitDefEqProofs only[gsR,e1,e2,l3,l4,xA,fI _ _ u8U iU,ec,n1,c1',lr,l2,r1,c2']
end
section
variable {H0 H : aE} {F : Part → Nat → Prop} {y : Lay} {p : PlanD} {ev wv nv : Value} {c : Cfg} {t : Nat} {s : NS} {m : Nat}
theorem Bw (H:aE):H++[Blk.cells [Value.int .u8 0,.int .u8 0,.int .u16 0,.int .u8 0,.int .u8 0,.int .u32 0] 39 .fix]=H++[zfB]:=rfl
theorem Bx (H:aE):H++[Blk.cells [Value.pointer none,.pointer none] 100 .fix]=H++[fM (.pointer none) (.pointer none)]:=rfl
theorem Bz (H:aE)(f:Frm):stN 6 (.Q H.length 0) (frV f) (H++[zfB])=some (undef,H++[frB f]):=by
 rw[Ft f (dS H zfB),nL]
theorem P4 (H:aE)(a b:Value)(ha:dV [a,b]=true):stN 2 (.Q H.length 0) (.agg #[a,b]) (H++[fM (.pointer none) (.pointer none)])=some (undef,H++[fM a b]):=by
 rw[zJ a b (dS _ _) ha,nL]
theorem aOb {bs:List UInt8}{f:Frm}(h:pN bs=some f):nM bs= .tuple #[frV f,.int .u16 0]:=by
 unfold nM;rw[h]
theorem aOa {bs:List UInt8}(h:pN bs=none):nM bs= .tuple #[frV Frm.oE,.int .u16 30]:=by
 unfold nM;rw[h]
theorem aOc (h:NodeAt H0 H F y p ev wv nv c t s)(ht:t<1000000000)(hm:400<m)(fr:Int){u:Value}{bs:List UInt8}(hu:Bs H u bs):
  ∃H' F',lvl prog pkN m (.func 45) [pt y.nb,.I fr,u] H=some (.int .u16 (oI c fr bs s).1,H')/\NodeAt H0 H' F' y p ev wv nv c (t+1) (oI c fr bs s).2/\Mv (Un F) (Un F') H H':=by
 have hm0:0<m:=U
 have hmono:=h.inv.sE (Nat.le_succ t);obtain⟨H1,hH1⟩:=aD (H++[xL fr]);have x1:Ext H H1:=by rw[hH1];exact Fr.app _ _ _
 have g1:=h.iT x1;have b1:H1[H.length]? =some (xL fr):=by rw[hH1];exact dS _ _
 have e0:H++[Blk.cells (Value.cells (.int .i64 fr)).toList 3 .fix]=H1:=by rw[hH1];rfl
 have l13:=g1.ld 13 (iX y c) rfl;obtain⟨v,t1,t2⟩:=g1.aA2;obtain⟨H2,i1,x2⟩:=aA4 (m:=m-1) (fid:=86) (cb:=H.length) (z:=fr) U (λG i hG=>aNZ U i hG) h.ok.by' t2 b1
 have g2:=g1.iT x2;cases hfi:c.by'.findIdx? λw:Nat=>decide ((w:Int)=fr) with
 |none=>
  have hr:oI c fr bs s=(1,s):=by unfold oI;rw[hfi]
  have hf:fiI c.by' fr= -1:=by unfold fiI;rw[hfi]
  have e1:IntKind.i64.wrap ((-1:Int)+1)=0:=rfl;have c1:((0:Int)==0)=true:=rfl;rw[hf] at i1;rw[hr];refine⟨H2,F,dI (cT rfl) hm0 ?_,{g2 with inv:=hmono},Mv.pI (x1.tr x2) _⟩;rw[yW];simp -implicitDefEqProofs only[gsR,e0,l13,t1,i1,cO,e1,c1];rfl
 |some j=>
  have hjl:=(List.findIdx?_eq_some_iff_getElem.mp hfi).1;have hf:fiI c.by' fr=(j:Int):=by unfold fiI;rw[hfi]
  have h5:=h.ok.by';have e1:IntKind.i64.wrap ((j:Int)+1)=((j+1:Nat):Int):=oK j U
  have c1:(((j+1:Nat):Int)==0)=false:=by rw[beq_eq_false_iff_ne];omega
  have hp1:1<=j+1:=U
  have hp2:j+1<c.aL:=by unfold Cfg.aL;omega
  rw[hf] at i1;obtain⟨H3,d1,x3⟩:=aLP (m:=m-1) U (hu.ext (x1.tr x2))
  have g3:=g2.iT x3;cases hdec:pN bs with
  |none=>
   have hr:oI c fr bs s=(30,s):=by unfold oI;rw[hfi];simp only;rw[hdec]
   rw[aOa hdec] at d1;have c2:((30:Int)!=0)=true:=rfl;rw[hr];have x4:Ext H3 (H3++[frB Frm.oE]):=Fr.app _ _ _;refine⟨H3++[frB Frm.oE],F,dI (cT rfl) hm0 ?_,{g3.iT x4 with inv:=hmono},Mv.pI (((x1.tr x2).tr x3).tr x4) _⟩;rw[yW];simp -implicitDefEqProofs only[gsR,e0,l13,t1,i1,cO,e1,c1,d1,pC,Bw,Bz,c2];rfl
  |some f=>
   have hok:=aN7 hdec;have fl:=hok.lane;rw[aOb hdec] at d1;have c2:((0:Int)!=0)=false:=rfl;obtain⟨H4,hH4⟩:=aD (H3++[frB f]);have x4:Ext H3 H4:=by rw[hH4];exact Fr.app _ _ _
   have g4:=g3.iT x4;have b4:H4[H3.length]? =some (frB f):=by rw[hH4];exact dS _ _
   have l4:=(oJ b4).2.1;have el:IntKind.i64.wrap (f.lane:Int)=f.lane:=yY _ U
   by_cases hl:c.lanes<=f.lane
   ·have hr:oI c fr bs s=(30,s):=by unfold oI;rw[hfi];simp only;rw[hdec];simp only;rw[if_pos hl]
    obtain⟨H5,n1,x5⟩:=aA3 g4 (m:=m-1) U ((j+1:Nat):Int) (f.lane:Int) U
    have x6:Ext H5 (H5++[fM (.pointer none) (.pointer none)]):=Fr.app _ _ _;rw[hr];refine⟨H5++[fM (.pointer none) (.pointer none)],F,dI (cT rfl) hm0 ?_,{(g4.iT x5).iT x6 with inv:=hmono},Mv.pI (((((x1.tr x2).tr x3).tr x4).tr x5).tr x6) _⟩;rw[yW];have st:=P4 H5 (.pointer none) (.pointer none) rfl;simp -implicitDefEqProofs only[gsR,e0,l13,t1,i1,cO,e1,c1,d1,pC,Bw,Bz,c2,<-hH4,l4,fI _ _ u8U iU,el,n1,Bx,vQ,st];rfl
   ·have hlt:f.lane<c.lanes:=U
    obtain⟨H5,n1,x5⟩:=P1 g4 (m:=m-1) U hp1 hp2 hlt
    obtain⟨H6,hH6⟩:=aD (H5++[fM (pt (y.sb (j+1) f.lane)) (pt (y.rb (j+1) f.lane))]);have x6:Ext H5 H6:=by rw[hH6];exact Fr.app _ _ _
    have g6:=(g4.iT x5).iT x6;have b6:H6[H5.length]? =some (fM (pt (y.sb (j+1) f.lane)) (pt (y.rb (j+1) f.lane))):=by rw[hH6];exact dS _ _
    obtain⟨q0,q1,q2⟩:=uG b6;have b46:H6[H3.length]? =some (frB f):=by rw[(x5.tr x6).2 _ (dK b4) id,b4]
    obtain⟨k0,k1,k2,k3,k4,k5,k6⟩:=oJ b46;have st:=P4 H5 (pt (y.sb (j+1) f.lane)) (pt (y.rb (j+1) f.lane)) rfl;have mv6:Mv (Un F) (Un F) H H6:=Mv.pI (((((x1.tr x2).tr x3).tr x4).tr x5).tr x6) _;by_cases hk2:f.kind=2
    ·have hr:oI c fr bs s=(0,{s with snd:=up2 s.snd (j+1) f.lane ((s.snd (j+1) f.lane).rE f.seq)}):=by unfold oI;rw[hfi];simp only;rw[hdec];simp only;rw[if_neg hl,if_pos hk2]
     have c3:((f.kind:Int)==2)=true:=by rw[hk2];rfl
     obtain⟨H7,w,s1,s2⟩:=aLA (m:=m-1) U (g6.Gm hp1 hp2 hlt) (g6.Pz ht _ _) f.seq hok.seq
     have hri:NInv c (t+1) {s with snd:=up2 s.snd (j+1) f.lane ((s.snd (j+1) f.lane).rE f.seq)}:=
      {hmono with snd:=zC hmono.snd (((h.inv.snd _ _).aL7 _).O5 (Nat.le_succ t))}
     obtain⟨g7,mv7⟩:=g6.aAX hp1 hp2 hlt s2 hri;rw[hr];refine⟨H7,F,dI (cT rfl) hm0 ?_,g7,mv6.pJ mv7⟩;rw[yW];simp -implicitDefEqProofs only[gsR,e0,l13,t1,i1,cO,e1,c1,d1,pC,Bw,Bz,c2,<-hH4,l4,fI _ _ u8U iU,el,n1,Bx,st,<-hH6,k0,c3,q1,k2,s1];rfl
    ·have c3:((f.kind:Int)==2)=false:=by rw[beq_eq_false_iff_ne];omega
     by_cases hk3:f.kind=3
     ·have hr:oI c fr bs s=(0,{s with rcv:=up2 s.rcv (j+1) f.lane ((s.rcv (j+1) f.lane).pO c.room f.seq)}):=by unfold oI;rw[hfi];simp only;rw[hdec];simp only;rw[if_neg hl,if_neg hk2,if_pos hk3]
      have c4:((f.kind:Int)==3)=true:=by rw[hk3];rfl
      obtain⟨H7,w,s1,s2⟩:=aLx (m:=m-1) U (g6.Gk hp1 hp2 hlt) (g6.Gl ht _ _) f.seq hok.seq
      have hri:NInv c (t+1) {s with rcv:=up2 s.rcv (j+1) f.lane ((s.rcv (j+1) f.lane).pO c.room f.seq)}:=
       {hmono with rcv:=zC hmono.rcv ((h.inv.rcv _ _).aL6 h.ok.room.2 _)}
      obtain⟨g7,mv7⟩:=g6.Py hp1 hp2 hlt s2 hri;rw[hr];refine⟨H7,F,dI (cT rfl) hm0 ?_,g7,mv6.pJ mv7⟩;rw[yW];simp -implicitDefEqProofs only[gsR,e0,l13,t1,i1,cO,e1,c1,d1,pC,Bw,Bz,c2,<-hH4,l4,fI _ _ u8U iU,el,n1,Bx,st,<-hH6,k0,c3,c4,q2,k2,s1];rfl
     ·have c4:((f.kind:Int)==3)=false:=by rw[beq_eq_false_iff_ne];omega
      have hr:oI c fr bs s=rF c (j+1) f s:=by unfold oI;rw[hfi];simp only;rw[hdec];simp only;rw[if_neg hl,if_neg hk2,if_neg hk3]
      obtain⟨H7,F',s1,g7,mv7⟩:=aN6 g6 ht (m:=m-1) U hp1 hp2 hlt hok
      rw[hr];refine⟨H7,F',dI (cT rfl) hm0 ?_,g7,mv6.pJ mv7⟩;rw[yW];simp -implicitDefEqProofs only[gsR,e0,l13,t1,i1,cO,e1,c1,d1,pC,Bw,Bz,c2,<-hH4,l4,fI _ _ u8U iU,el,n1,Bx,st,<-hH6,k0,c3,c4,q0,k6,s1]
end
theorem aOk {H H':aE}{a n ports lanes p s mb:Nat}{L:List Rg.En}{l:List Rg.jY}{top free:Int}{fl:List Nat}{f:Rg.kQ->Option Value}(h:Rg.RI H a L n ports lanes p s mb l top free fl f)(hk: ∀(b:Nat)(x:Blk),H[b]? =some x->x≠ .dead->H'[b]? =some x):Rg.RI H' a L n ports lanes p s mb l top free fl f:=by
 refine⟨hk _ _ h.hd (λhd=>by cases hd),⟨⟨hk _ _ h.pool.pool.hp (λhd=>by cases hd),hk _ _ h.pool.pool.hs (λhd=>by cases hd),λi q x d hi=>hk _ _ (h.pool.pool.hq i q x d hi) (λhd=>by cases hd)⟩,h.pool.chain,h.pool.nodup,h.pool.full,h.pool.cnt,h.pool.len⟩,
  h.len,h.cnt,h.nd,h.full,?_,h.no,λw v hv=>⟨?_,(h.yes w v hv).2⟩,h.sep,h.b1,h.b2⟩
 ·obtain⟨es,c,h1,h2⟩:=h.mp
  exact⟨es,c,hk _ _ h1 (λhd=>by cases hd),h2⟩
 ·refine(h.yes w v hv).1.sZ λb hb=> ?_
  obtain⟨xs,hx⟩:=(h.yes w v hv).1.blk hb;rw[hx];exact hk _ _ hx (λhd=>by cases hd)
theorem RingsN.aOh {D H:aE}{a cap ports lanes:Nat}{L:List (Go.Abs.iJ×Pkt)}(hs:Sub D H)(h:RingsN D a L cap ports lanes):RingsN H a L cap ports lanes:=by
 obtain⟨Le,⟨p,s,mb,l,top,free,fl,f,hi⟩,h2⟩:=h
 exact⟨Le,⟨p,s,mb,l,top,free,fl,f,aOk hi hs.2⟩,h2⟩
theorem HostAt.aOd {D H:aE}{a lanes queue:Nat}{L G:List Pkt}(hs:Sub D H)(h:HostAt D a L G lanes queue):HostAt H a L G lanes queue:=by
 obtain⟨w0,w1,w2,cv,h⟩:=h;have key: ∀w (xs:List Pkt),Pq D w xs->Pq H w xs:=λw xs hw=>hw.xC λb hb=>by
  obtain⟨cs,hc⟩:=hw.blk hb;rw[hc];exact hs.2 b _ hc (λhd=>by cases hd)
 exact⟨w0,w1,w2,cv,hs.2 a _ h.blk (λhd=>by cases hd),h.lanes,h.queue,λk hk=>key _ _ (h.q k hk),key _ _ h.came,h.apart,h.apartC⟩
section
variable {H0 H : aE} {F : Part → Nat → Prop} {y : Lay} {p : PlanD} {ev wv nv : Value} {c : Cfg} {t : Nat} {s : NS} {m : Nat}
theorem NodeAt.aOg (h:NodeAt H0 H F y p ev wv nv c t s):RingsN H y.rg s.rL (c.aL*c.lanes*c.room) c.aL c.lanes:=RingsN.aOh (C7 _ _) (h.sep.own .rings).at_
theorem NodeAt.aOe (h:NodeAt H0 H F y p ev wv nv c t s):HostAt H y.hb s.hL s.hG c.lanes c.queue:=HostAt.aOd (C7 _ _) (h.sep.own .host).at_
theorem aBa (h:NodeAt H0 H F y p ev wv nv c t s)(hm:0<m)(i o k:Nat):lvl prog pkN m (.func 96) [pt y.rg,.I i,.I o,.I k] H=some (.I (pR s.rL i o k),H):=aM1 h.aOg hm i o k
theorem aOj {i o:Nat}(hi:i<c.aL)(ho:o<c.aL)(h3:c.lanes<=3)(ht:t<1000000000)(hm:10<m): ∀(q k l:Nat)(H:aE),c.lanes-k=q->k<=c.lanes->q<l->NodeAt H0 H F y p ev wv nv c t s-> ∀(x3 x4 x5 x6 x8 x9 bG b9 aS aO aT aU aR bA bK bX bJ bE aV aW aX aY aZ bB bC bH bI bM bN bO bP bQ bR bS bT bU bY cA cD cE cI cJ cN cP:Value),
  ∃H2,aJ l (aM prog (lvl prog pkN m) (aJ m) Nc) (Nd (lvl prog pkN m) (aJ m)) [(pt y.nb),(.I (i:Nat)),(.I (o:Nat)),x3,x4,x5,x6,(.int .u16 (dJ (jH c s i o) k:Nat)),x8,x9,bG,b9,aS,(.I c.lanes),(.I (k:Nat)),aO,aT,aU,aR,bA,bK,bX,bJ,bE,aV,aW,aX,aY,aZ,bB,bC,bH,bI,bM,bN,bO,bP,bQ,bR,bS,bT,bU,bY,cA,cD,cE,cI,cJ,cN,cP] H=some (.int .u16 (dJ (jH c s i o) c.lanes:Nat),H2)/\Ext H H2:=by
 intro q;induction q with
 |zero=>
  intro k l H hq hk hl h;intros;obtain⟨l,rfl⟩: ∃l',l=l'+1:=⟨l-1,by omega⟩
  have hke:k=c.lanes:=U
  have c1:decide ((k:Int)<(c.lanes:Int))=false:=by rw[decide_eq_false_iff_not];omega
  rw[aJ,Yk];simp -implicitDefEqProofs only[gsR,c1];rw[aKg];simp -implicitDefEqProofs only[gsR]
  exact⟨_,by rw[hke],Fr.iQ _ _⟩
 |succ q ih=>
  intro k l H hq hk hl h;intros;obtain⟨l,rfl⟩: ∃l',l=l'+1:=⟨l-1,by omega⟩
  have hkl:k<c.lanes:=U
  have c1:decide ((k:Int)<(c.lanes:Int))=true:=by rw[decide_eq_true_eq];omega
  have l15:=h.ld 15 (pt y.rg) rfl;have r1:=aBa h (m:=m) U i o k
  have e9:=oK k U
  rw[aJ,Yk];by_cases hz:pR s.rL i o k=0
  ·have c2:(((pR s.rL i o k:Nat):Int)==0)=true:=by rw[hz];rfl
   have hno:jH c s i o k=false:=by unfold jH;rw[hz];simp
   simp -implicitDefEqProofs only[gsR,c1,l15,r1,c2,cO,e9];rw[<-Gg hno];exact ih (k+1) l H U U U h ..
  ·have c2:(((pR s.rL i o k:Nat):Int)==0)=false:=by rw[beq_eq_false_iff_ne];omega
   obtain⟨s1,s2⟩:=vO (a:=dJ (jH c s i o) k) (i:=k) (rI _ U) U
   by_cases ho0:o=0
   ·have c3:((o:Int)==0)=true:=by rw[ho0];rfl
    have hyes:jH c s i o k=true:=by unfold jH;simp[hkl,ho0];rw[<-ho0];omega
    simp -implicitDefEqProofs only[gsR,c1,l15,r1,c2,c3,s1,s2,cO,e9];rw[<-Gh hyes];exact ih (k+1) l H U U U h ..
   ·have c3:((o:Int)==0)=false:=by rw[beq_eq_false_iff_ne];omega
    have l13:=h.ld 13 (iX y c) rfl;obtain⟨b,oo,a1,a2⟩:=h.xI ho;obtain⟨_,_,a3,_⟩:=a2 _ (.inl h);obtain⟨b',o',a4,_,a5,_⟩:=h.Bu U ho hkl
    have u1:=aLE (m:=m) U (h.Gm U ho hkl) (h.Pz ht o k)
    obtain⟨H1,hH1⟩:=aD (H++[Blk.cells [.int .u64 (s.snd o k).s,.int .u64 (s.snd o k).l] 141 .fix]);rw[<-hH1] at u1;have x1:Ext H H1:=by rw[hH1];exact Fr.app _ _ _
    by_cases hu:0<(s.snd o k).pP
    ·have c4:decide (0<((s.snd o k).pP:Int))=true:=by rw[decide_eq_true_eq];omega
     have hyes:jH c s i o k=true:=by unfold jH;simp[hkl,hu];omega
     simp -implicitDefEqProofs only[gsR,Nat.add_zero,c1,l15,r1,c2,c3,l13,a1,a3,a4,a5,u1,c4,s1,s2,cO,e9];rw[<-Gh hyes];obtain⟨H2,k1,k2⟩:=ih (k+1) l H1 U U U (h.iT x1) ..
     exact⟨H2,k1,x1.tr k2⟩
    ·have c4:decide (0<((s.snd o k).pP:Int))=false:=by rw[decide_eq_false_iff_not];omega
     have hno:jH c s i o k=false:=by unfold jH;simp[hkl,hu,ho0]
     simp -implicitDefEqProofs only[gsR,Nat.add_zero,c1,l15,r1,c2,c3,l13,a1,a3,a4,a5,u1,c4,cO,e9];rw[<-Gg hno];obtain⟨H2,k1,k2⟩:=ih (k+1) l H1 U U U (h.iT x1) ..
     exact⟨H2,k1,x1.tr k2⟩
theorem aBb (h:NodeAt H0 H F y p ev wv nv c t s)(ht:t<1000000000)(hm:20<m){i o:Nat}(hi:i<c.aL)(ho:o<c.aL): ∃H2,lvl prog pkN m (.func 104) [pt y.nb,.I i,.I o] H=some (.int .u16 (dJ (jH c s i o) c.lanes:Nat),H2)/\Ext H H2:=by
 refine jQ (cT rfl) U ?_
 rw[aKh];have l3:=h.ld 3 (.I c.lanes) rfl;simp -implicitDefEqProofs only[gsR,l3];exact aOj hi ho h.ok.lanes.2 ht U c.lanes 0 (m-1) H U U (by have:=h.ok.lanes;omega) h ..
theorem NodeAt.aOf (h:NodeAt H0 H F y p ev wv nv c t s){b:Nat}(hb: ¬Un F b)(hb0:H0.length<=b)(x:Blk):NodeAt H0 (H.set b x) F y p ev wv nv c t s:=by
 have hm:Mv (λa=>a=b) (λa=>a=b) H (H.set b x):=⟨by simp,λ_ h=> .inl h,λa _ ha=>aPO λhh=>ha hh.symm⟩
 refine {h with ext:=⟨by simp;exact h.ext.1,λa ha _=> ?_⟩,sep:=h.sep.wP (zI _ _ _ _ _ _ _) hm λa ha hh=>hb (by rw[<-hh];exact ha)}
 rw[aPO U,h.ext.2 a ha id]
def kR (c:Cfg)(s:NS)(i o:Nat):List Nat:=(List.range c.aL).map λj=>if j<i then dJ (oG c s j) c.aL else if j=i then dJ (oG c s i) o else 0
theorem uH (c:Cfg)(s:NS)(i o:Nat):(kR c s i o).length=c.aL:=by simp[kR]
theorem xM {c:Cfg}{s:NS}{i o j:Nat}(hj:j<c.aL):(kR c s i o)[j]? =some (if j<i then dJ (oG c s j) c.aL else if j=i then dJ (oG c s i) o else 0):=by simp[kR,hj]
theorem aOl (c:Cfg)(s:NS)(i:Nat):kR c s i c.aL=kR c s (i+1) 0:=by
 unfold kR;refine List.map_congr_left λj hj=> ?_
 by_cases h1:j<i
 ·rw[if_pos h1,if_pos U]
 ·by_cases h2:j=i
  ·rw[if_neg h1,if_pos h2,if_pos U,h2]
  ·rw[if_neg h1,if_neg h2,if_neg U]
   split<;>rfl
theorem aOm (c:Cfg)(s:NS):kR c s 0 0=List.replicate c.aL 0:=by
 apply aQo;intro j;by_cases hj:j<c.aL
 ·rw[xM hj,List.getElem?_replicate_of_lt hj,if_neg U]
  split<;>rfl
 ·rw[aPY (by rw[uH];omega),aPY (by simp;omega)]
theorem aBc {c:Cfg}{s:NS}{i o v:Nat}(hi:i<c.aL)(hv:dJ (oG c s i) (o+1)=v):kR c s i (o+1)=(kR c s i o).set i v:=by
 apply aQo;intro j;by_cases hj:j<c.aL
 ·by_cases hij:i=j
  ·subst hij
   rw[aPT (by rw[uH];exact hi),xM hj,if_neg U,if_pos rfl,hv]
  ·rw[aPO hij,xM hj,xM hj,if_neg (show¬j=i by omega),if_neg (show¬j=i by omega)]
 ·rw[aPY (by rw[uH];omega),aPY (by rw[List.length_set,uH];omega)]
theorem aOo (c:Cfg)(s:NS):kK (kR c s c.aL 0)=oG c s:=by
 funext i k
 unfold kK;by_cases hi:i<c.aL
 ·rw[aPR,xM hi,if_pos hi,aQg,kY]
  unfold oG;cases decide (k<c.aL)<;>simp
 ·rw[aPR,aPY (by rw[uH];omega)]
  unfold oG;simp[hi]
theorem aOn {c:Cfg}{s:NS}(h6:c.aL<=16): ∀z∈kR c s c.aL 0,z<65536:=λz hz=>by
 unfold kR at hz;obtain⟨j,hj,rfl⟩:=aQq.mp hz;rw[if_pos (aQr.mp hj)];exact rI _ h6
theorem aOi {c:Cfg}{s:NS}{i o:Nat}(hi:i<c.aL)(ho:o<c.aL):oG c s i o=oB (jH c s i o) c.lanes:=by
 unfold oG oB;simp[hi,ho]
end
section
variable {H0 H : aE} {F : Part → Nat → Prop} {y : Lay} {p : PlanD} {ev wv nv : Value} {c : Cfg} {t : Nat} {s : NS} {m : Nat}
theorem aOq {Ha:aE}{i:Nat}(hi:i<c.aL)(hun: ¬Un F Ha.length)(hb0:H0.length<=Ha.length)(ht:t<1000000000)(hm:30<m)(h6:c.aL<=6){K:Ex->K (Value×aE)}{Q:aE->Value->Prop}
  (hK: ∀H',NodeAt H0 H' F y p ev wv nv c t s->H'[Ha.length]? =some (iM (kR c s i c.aL))->Ext Ha H'-> ∀(x1 x2 x4 x5 x6 x7 x8 x9 bG b9 aS aP aQ aO aR bA bK bX bJ bE aV aW aX aY aZ bB bC bH bI bM bN bO bP bQ bR bS bT bU bY cA:Value),∃H2 r,N8 (lvl prog pkN m) (aJ m) K (pt y.nb) x1 x2 (eH Ha.length c.aL) x4 x5 x6 x7 x8 x9 bG b9 aS aP aQ aO (.I c.aL) (.I (i:Nat)) aR bA bK bX bJ bE aV aW aX aY aZ bB bC bH bI bM bN bO bP bQ bR bS bT bU bY cA H'=some (r,H2)/\Q H2 r):
  ∀(q o k:Nat)(H:aE),c.aL-o=q->o<=c.aL->q<k->NodeAt H0 H F y p ev wv nv c t s->H[Ha.length]? =some (iM (kR c s i o))->Ext Ha H-> ∀(x1 x2 x5 x6 x7 x8 x9 bG b9 aS aP aQ aO aR bA bK bX bJ bE aX aY aZ bB bC bH bI bM bN bO bP bQ bR bS bT bU bY cA:Value),
  ∃H2 r,aJ k (aM prog (lvl prog pkN m) (aJ m) N7) (Oa (lvl prog pkN m) (aJ m) K) [(pt y.nb),x1,x2,(eH Ha.length c.aL),(.I (i:Nat)),x5,x6,x7,x8,x9,bG,b9,aS,aP,aQ,aO,(.I c.aL),(.I (i:Nat)),aR,bA,bK,bX,bJ,bE,(.I c.aL),(.I (o:Nat)),aX,aY,aZ,bB,bC,bH,bI,bM,bN,bO,bP,bQ,bR,bS,bT,bU,bY,cA] H=some (r,H2)/\Q H2 r:=by
 intro q;induction q with
 |zero=>
  intro o k H hq ho hk h hb he;intros;obtain⟨k,rfl⟩: ∃k',k=k'+1:=⟨k-1,by omega⟩
  have hoe:o=c.aL:=U
  subst hoe;have c1:decide ((c.aL:Int)<(c.aL:Int))=false:=by simp
  rw[aJ,Y0];simp -implicitDefEqProofs only[gsR,c1];rw[aK1];exact hK H h hb he ..
 |succ q ih=>
  intro o k H hq ho hk h hb he;intros;obtain⟨k,rfl⟩: ∃k',k=k'+1:=⟨k-1,by omega⟩
  have hol:o<c.aL:=U
  have c1:decide ((o:Int)<(c.aL:Int))=true:=by rw[decide_eq_true_eq];omega
  obtain⟨H1,m1,x1⟩:=aBb h ht (m:=m) U hi hol
  have h1:=h.iT x1;have b1:H1[Ha.length]? =some (iM (kR c s i o)):=by rw[x1.2 _ (dK hb) id,hb]
  have e9:=oK o U
  have hask:=aOi (c:=c) (s:=s) hi hol;rw[aJ,Y0];by_cases hz:dJ (jH c s i o) c.lanes=0
  ·have c2:(((dJ (jH c s i o) c.lanes:Nat):Int)!=0)=false:=by rw[hz];rfl
   have hno:oG c s i o=false:=by rw[hask];exact(zF _ _).mp hz
   have hr:kR c s i (o+1)=kR c s i o:=by
    rw[aBc hi (Gg hno)];apply aQo;intro j;by_cases hij:i=j
    ·subst hij
     rw[aPT (by rw[uH];exact hi),xM hi,if_neg U,if_pos rfl]
    ·rw[aPO hij]
   simp -implicitDefEqProofs only[gsR,c1,m1,c2,cO,e9];exact ih (o+1) k H1 U U U h1 (by rw[hr];exact b1) (he.tr x1) ..
  ·have c2:(((dJ (jH c s i o) c.lanes:Nat):Int)!=0)=true:=aA8 hz
   have hyes:oG c s i o=true:=by
    rw[hask];cases hw:oB (jH c s i o) c.lanes with
    |true=>rfl
    |false=>exact absurd ((zF _ _).mpr hw) hz
   obtain⟨a1,a2⟩:=Gj (c:=c.aL) b1 (uH _ _ _ _) hi;have a1:cB 1 (eH Ha.length c.aL) (.I (i:Int))=some (.Q Ha.length i):=a1;have hv:(kR c s i o).getD i 0=dJ (oG c s i) o:=by rw[aPR,xM hi,if_neg U,if_pos rfl];rfl
   rw[hv] at a2;obtain⟨s1,s2⟩:=vO (a:=dJ (oG c s i) o) (i:=o) (rI _ U) U
   have st:=aAQ (dJ (oG c s i) o|||2 ^ o) b1 (i:=i) (by rw[uH];exact hi)
   rw[<-aBc hi (Gh hyes)] at st;simp -implicitDefEqProofs only[gsR,c1,m1,c2,a1,a2,s1,s2,st,cO,e9];refine ih (o+1) k _ U U U (h1.aOf hun hb0 _) (iR b1) ?_ ..
   have he1:=he.tr x1
   exact⟨by simp;exact he1.1,λb hb hn=>by rw[aPO U,he1.2 b hb id]⟩
theorem aOs {Ha:aE}(hun: ¬Un F Ha.length)(hb0:H0.length<=Ha.length)(ht:t<1000000000)(hm:40<m)(h6:c.aL<=6):
  ∀(q i k:Nat)(H:aE),c.aL-i=q->i<=c.aL->q<k->NodeAt H0 H F y p ev wv nv c t s->H[Ha.length]? =some (iM (kR c s i 0))->Ext Ha H-> ∀(x1 x2 x4 x5 x6 x7 x8 x9 bG b9 aS aP aQ aO aR bA bK bX bJ bE aV aW aX aY aZ bB bC bH bI bM bN bO bP bQ bR bS bT bU bY cA:Value),
  ∃H2 r,aJ k (aM prog (lvl prog pkN m) (aJ m) N6) (N9 (lvl prog pkN m) (aJ m)) [(pt y.nb),x1,x2,(eH Ha.length c.aL),x4,x5,x6,x7,x8,x9,bG,b9,aS,aP,aQ,aO,(.I c.aL),(.I (i:Nat)),aR,bA,bK,bX,bJ,bE,aV,aW,aX,aY,aZ,bB,bC,bH,bI,bM,bN,bO,bP,bQ,bR,bS,bT,bU,bY,cA] H=some (r,H2)/\(r=eH Ha.length c.aL/\H2[Ha.length]? =some (iM (kR c s c.aL 0))/\Ext Ha H2/\NodeAt H0 H2 F y p ev wv nv c t s):=by
 intro q;induction q with
 |zero=>
  intro i k H hq hi hk h hb he;intros;obtain⟨k,rfl⟩: ∃k',k=k'+1:=⟨k-1,by omega⟩
  have hie:i=c.aL:=U
  subst hie;have c1:decide ((c.aL:Int)<(c.aL:Int))=false:=by simp
  rw[aJ,Yz];simp -implicitDefEqProofs only[gsR,c1];rw[aK0];simp -implicitDefEqProofs only[gsR]
  exact⟨_,_,rfl,rfl,hb,he,h⟩
 |succ q ih=>
  intro i k H hq hi hk h hb he;intros;obtain⟨k,rfl⟩: ∃k',k=k'+1:=⟨k-1,by omega⟩
  have hil:i<c.aL:=U
  have c1:decide ((i:Int)<(c.aL:Int))=true:=by rw[decide_eq_true_eq];omega
  have l13:=h.ld 13 (iX y c) rfl;have e1:cH (iX y c)=some (.I c.aL):=rfl;rw[aJ,Yz];simp -implicitDefEqProofs only[gsR,c1,l13,e1];refine aOq hil hun hb0 ht U h6 ?_ c.aL 0 m H U U U h hb he ..
  intro H' h' hb' he';intros;have e9:=oK i U
  unfold N8;simp -implicitDefEqProofs only[gsR,cO,e9];rw[aOl] at hb';exact ih (i+1) k H' U U U h' hb' he' ..
theorem aOr (h:NodeAt H0 H F y p ev wv nv c t s)(ht:t<1000000000)(hm:50<m): ∃H2,lvl prog pkN m (.func 51) [pt y.nb] H=some (eH H.length c.aL,H2)/\H2[H.length]? =some (iM (kR c s c.aL 0))/\Ext H H2:=by
 have h6:c.aL<=6:=by have:=h.ok.by';unfold Cfg.aL;omega
 have main: ∃H2 r,lvl prog pkN m (.func 51) [pt y.nb] H=some (r,H2)/\(r=eH H.length c.aL/\H2[H.length]? =some (iM (kR c s c.aL 0))/\Ext H H2/\NodeAt H0 H2 F y p ev wv nv c t s):=by
  refine fJ (cT rfl) U ?_
  rw[aK2];have l13:=h.ld 13 (iX y c) rfl;have e1:cH (iX y c)=some (.I c.aL):=rfl;have mk:=sT (H:=H) 23 1 2 [.int .u16 0] .i64 .i64 (c.aL:Int) U U U rfl
  have hz:H++[Blk.cells (List.replicate (c.aL:Int).toNat [Value.int .u16 0]).flatten 23 .row]=H++[iM (kR c s 0 0)]:=by
   have: ∀n,(List.replicate n [Value.int .u16 0]).flatten=List.replicate n (.int .u16 0):=by
    intro n;induction n with
    |zero=>rfl
    |succ n ih=>rw[List.replicate_succ,aQn,ih];rfl
   rw[aQf,this,aOm,iM,List.map_replicate];rfl
  rw[hz,aQf] at mk;have x1:Ext H (H++[iM (kR c s 0 0)]):=Fr.app _ _ _;have h1:=h.iT x1;have l13':=h1.ld 13 (iX y c) rfl;simp -implicitDefEqProofs only[gsR,l13,e1,mk,l13'];exact aOs (λhu=>by have:=h.sep.qB _ hu;omega) h.ext.1 ht U h6 c.aL 0 (m-1) _ U U U h1 (dS _ _) x1 ..
 obtain⟨H2,r,g1,rfl,g2,g3,_⟩:=main
 exact⟨H2,g1,g2,g3⟩
theorem aBf (L:List (Go.Abs.iJ×Pkt))(i o k:Nat):pR L i o k<=L.length:=by
 unfold pR pA;rw[aP1];exact List.length_filter_le _ _
def uI (L:List (Go.Abs.iJ×Pkt))(k o:Nat):Nat:=((List.range o).map λo=>pR L 0 o k).sum
theorem aBe (L:List (Go.Abs.iJ×Pkt))(k o:Nat):uI L k (o+1)=uI L k o+pR L 0 o k:=by
 unfold uI;rw[aQm,List.map_append,List.sum_append];simp
theorem aBd (L:List (Go.Abs.iJ×Pkt))(k:Nat): ∀o,uI L k o<=o*L.length
 |0=>by simp[uI]
 |o+1=>by
  have:=aBd L k o;have:=aBf L 0 o k;rw[aBe,Nat.succ_mul];omega
theorem aBg (h:c.ok):c.aL*c.lanes*c.room<=144:=by
 have h1:c.aL<=6:=by have:=h.by';unfold Cfg.aL;omega
 have h2:=h.lanes.2;have h3:=h.room.2
 calc c.aL*c.lanes*c.room<=6*3*8:=Nat.mul_le_mul (Nat.mul_le_mul h1 h2) h3
  _=144:=rfl
theorem aOt {kk:Nat}(hm:30<m){K:Ex->K (Value×aE)}{Q:aE->Value->Prop}(h:NodeAt H0 H F y p ev wv nv c t s)
  (hK: ∀(x1 x4 x5 x6 x7 x8 x9 bG aP aQ aO aT aU aR bA bK bX bJ bE aV aW aX aY aZ bB bC bH bI bM bN bO bP bQ bR bS bT bU bY cA cD cE cI cJ cN cP cK cQ cR cW dA cX cY dD dF dL dH dM:Value),∃H2 r,Fj (lvl prog pkN m) (aJ m) K (pt y.nb) x1 (.I (kk:Nat)) (.I (y7 c s.rL kk:Nat)) x4 x5 x6 x7 x8 x9 bG (.I c.lanes) (.I (kk:Nat)) aP aQ aO aT aU aR bA bK bX bJ bE aV aW aX aY aZ bB bC bH bI bM bN bO bP bQ bR bS bT bU bY cA cD cE cI cJ cN cP cK cQ cR cW dA cX cY dD dF dL dH dM H=some (r,H2)/\Q H2 r):
  ∀(q o k:Nat),c.aL-o=q->o<=c.aL->q<k-> ∀(x1 x4 x5 x6 x7 x8 x9 bG aP aQ aO aT aU aR bX bJ bE aV aW aX aY aZ bB bC bH bI bM bN bO bP bQ bR bS bT bU bY cA cD cE cI cJ cN cP cK cQ cR cW dA cX cY dD dF dL dH dM:Value),
  ∃H2 r,aJ k (aM prog (lvl prog pkN m) (aJ m) Nu) (Nx (lvl prog pkN m) (aJ m) K) [(pt y.nb),x1,(.I (kk:Nat)),(.I (uI s.rL kk o:Nat)),x4,x5,x6,x7,x8,x9,bG,(.I c.lanes),(.I (kk:Nat)),aP,aQ,aO,aT,aU,aR,(.I c.aL),(.I (o:Nat)),bX,bJ,bE,aV,aW,aX,aY,aZ,bB,bC,bH,bI,bM,bN,bO,bP,bQ,bR,bS,bT,bU,bY,cA,cD,cE,cI,cJ,cN,cP,cK,cQ,cR,cW,dA,cX,cY,dD,dF,dL,dH,dM] H=some (r,H2)/\Q H2 r:=by
 intro q;induction q with
 |zero=>
  intro o k hq ho hk;intros;obtain⟨k,rfl⟩: ∃k',k=k'+1:=⟨k-1,by omega⟩
  have hoe:o=c.aL:=U
  subst hoe;have c1:decide ((c.aL:Int)<(c.aL:Int))=false:=by simp
  rw[aJ,Yv];simp -implicitDefEqProofs only[gsR,c1];rw[aKW];exact hK ..
 |succ q ih=>
  intro o k hq ho hk;intros;obtain⟨k,rfl⟩: ∃k',k=k'+1:=⟨k-1,by omega⟩
  have h6:c.aL<=6:=by have:=h.ok.by';unfold Cfg.aL;omega
  have c1:decide ((o:Int)<(c.aL:Int))=true:=by rw[decide_eq_true_eq];omega
  have l15:=h.ld 15 (pt y.rg) rfl;have r1:=aBa h (m:=m) U 0 o kk
  have e9:=oK o U
  have hrl:=aP3 h.inv.rN (aBg h.ok);have hb1:uI s.rL kk o<=6*144:=aP3 (aBd _ _ _) (Nat.mul_le_mul U hrl)
  have hb2:=aBf s.rL 0 o kk;have e8:IntKind.i64.wrap ((uI s.rL kk o:Nat)+((pR s.rL 0 o kk:Nat):Int))=(uI s.rL kk (o+1):Nat):=by
   rw[aBe,cZ U U]
   omega
  have r1:lvl prog pkN m (.func 96) [pt y.rg,.I 0,.I o,.I kk] H=some (.I (pR s.rL 0 o kk),H):=r1;rw[aJ,Yv];simp -implicitDefEqProofs only[gsR,c1,l15,r1,cO,e8,e9];exact ih (o+1) k U U U ..
def aOv (w:List Pkt):Value:=match w with
 |[]=> .tuple #[pk0.dR,.bool false]
 |x::_=> .tuple #[x.dR,.bool true]
def xN (L:List Pkt)(k:Nat):List Pkt:=if iK L k=[] then L else rG L k
theorem aOu {D:aE}{hb:Nat}(hm:3<m){k:Nat}(hk:k<c.lanes)(h:HostAt D hb s.hL s.hG c.lanes c.queue):
  ∃r D',lvl prog pkN m (.func 97) [pt hb,.I k] D=some (r,D')/\(r=aOv (iK s.hL k)/\HostAt D' hb (xN s.hL k) s.hG c.lanes c.queue):=by
 obtain⟨w0,w1,w2,cv,h⟩:=h;cases hw:iK s.hL k with
 |nil=>
  obtain⟨H',g1,g2⟩:=aM8 h hm k hk hw
  exact⟨_,_,g1,rfl,by unfold xN;rw[if_pos hw];exact g2⟩
 |cons x xs=>
  obtain⟨H',g1,g2⟩:=aM9 h hm k hk hw
  exact⟨_,_,g1,rfl,by unfold xN;rw[if_neg (by rw[hw];simp)];exact g2⟩
end
theorem zK (H:aE):H++[Blk.cells [Value.int .i64 0,.int .i64 0,.int .i64 0,.int .u32 0] 54 .fix]=H++[eJ pk0]:=rfl
theorem P5 (H:aE)(x:Pkt):stN 4 (.Q H.length 0) x.dR (H++[eJ pk0])=some (undef,H++[eJ x]):=by rw[Gd x (dS _ _),nL]
theorem aOz {c:Cfg}{t:Nat}{s:NS}(h:NInv c t s)(k:Int):NInv c t {s with hL:=rG s.hL k}:=by
 refine {h with hL:=λx hx=>h.hL x (Z2 hx),hQ:=λj=> ?_}
 have e:=Fy s.hL k j
 show(iK (rG s.hL k) j).length<=c.queue
 rw[e];by_cases hj:j=k
 ·rw[if_pos hj,List.length_tail]
  have:=h.hQ k;omega
 ·rw[if_neg hj]
  exact h.hQ j
section
variable {H0 H : aE} {F : Part → Nat → Prop} {y : Lay} {p : PlanD} {ev wv nv : Value} {c : Cfg} {t : Nat} {s : NS} {m : Nat}
theorem aOx {K:Ex->K (Value×aE)}{Q:aE->Value->Prop}{k:Nat}(hk:k<c.lanes)(hm:200<m)(h:NodeAt H0 H F y p ev wv nv c t s)
  (hK: ∀H' F',NodeAt H0 H' F' y p ev wv nv c t (oH c s k)->Mv (Un F) (Un F') H H'-> ∀(x1 x2 x3 x4 x5 x6 x7 x8 x9 bG aP aQ aO aT aU aR bA bK bX bJ bE aV aW aX aY aZ bB bC bH bI bM bN bO bP bQ bR bS bT bU bY cA cD cE cI cJ cN cP cK cQ cR cW dA cX cY dD dF dL dH dM:Value),∃H2 r,K .normal [(pt y.nb),x1,x2,x3,x4,x5,x6,x7,x8,x9,bG,(.I c.lanes),(.I (k+1:Nat)),aP,aQ,aO,aT,aU,aR,bA,bK,bX,bJ,bE,aV,aW,aX,aY,aZ,bB,bC,bH,bI,bM,bN,bO,bP,bQ,bR,bS,bT,bU,bY,cA,cD,cE,cI,cJ,cN,cP,cK,cQ,cR,cW,dA,cX,cY,dD,dF,dL,dH,dM] H'=some (r,H2)/\Q H2 r):
  ∀(x1 x4 x5 x6 x7 x8 x9 bG aP aQ aO aT aU aR bA bK bX bJ bE aV aW aX aY aZ bB bC bH bI bM bN bO bP bQ bR bS bT bU bY cA cD cE cI cJ cN cP cK cQ cR cW dA cX cY dD dF dL dH dM:Value),∃H2 r,Fj (lvl prog pkN m) (aJ m) K (pt y.nb) x1 (.I (k:Nat)) (.I (y7 c s.rL k:Nat)) x4 x5 x6 x7 x8 x9 bG (.I c.lanes) (.I (k:Nat)) aP aQ aO aT aU aR bA bK bX bJ bE aV aW aX aY aZ bB bC bH bI bM bN bO bP bQ bR bS bT bU bY cA cD cE cI cJ cN cP cK cQ cR cW dA cX cY dD dF dL dH dM H=some (r,H2)/\Q H2 r:=by
 intros;have h3:=h.ok.lanes.2;have e9:=oK k U
 have l4:=h.ld 4 (.I c.room) rfl;unfold Fj;by_cases c1:c.room<=y7 c s.rL k
 ·have c1':decide ((c.room:Int)<=(y7 c s.rL k:Nat))=true:=by rw[decide_eq_true_eq];omega
  have hr:oH c s k=s:=by unfold oH;rw[if_pos c1]
  rw[hr] at hK;simp -implicitDefEqProofs only[gsR,l4,c1',cO,e9];exact hK H F h (Mv.Tx _ _) ..
 ·have c1':decide ((c.room:Int)<=(y7 c s.rL k:Nat))=false:=by rw[decide_eq_false_iff_not];omega
  have l14:=h.ld 14 (pt y.hb) rfl;obtain⟨r,H1,F1,n1,n2,n3⟩:=(h.sep.own .host).yL sA (n:=m) (λD hD=>aOu (m:=m) U hk hD)
  obtain⟨hrv,_⟩:=n2.at_;rw[hrv] at n1;cases hw:iK s.hL k with
  |nil=>
   have hr:oH c s k=s:=by unfold oH;rw[if_neg c1,hw]
   rw[hr] at hK;have hnl:xN s.hL k=s.hL:=by unfold xN;rw[if_pos hw]
   obtain⟨g1,mv1⟩:=h.Gr (L:=s.hL) (G:=s.hG) (Has.vR n2 λD hD=>by rw[<-hnl];exact hD.2) n3 h.inv
   rw[hw] at n1;have n1:lvl prog pkN m (.func 97) [pt y.hb,.I k] H=some (.tuple #[pk0.dR,.bool false],H1):=n1;have x2:Ext H1 (H1++[eJ pk0]):=Fr.app _ _ _;simp -implicitDefEqProofs only[gsR,l4,c1',l14,n1,pC,zK,P5,cO,e9];exact hK (H1++[eJ pk0]) _ (g1.iT x2) (mv1.pJ (Mv.pI x2 _)) ..
  |cons x xs=>
   have hr:oH c s k={s with hL:=rG s.hL k,rL:=tH c s.rL (0,(c.port x.dst.toNat:Int),k) x}:=by unfold oH;rw[if_neg c1,hw]
   have hinv:=h.inv.aL1 h.ok k;rw[hr] at hK hinv;have hnl:xN s.hL k=rG s.hL k:=by unfold xN;rw[if_neg (by rw[hw];simp)]
   obtain⟨g1,mv1⟩:=h.Gr (L:=rG s.hL k) (G:=s.hG) (Has.vR n2 λD hD=>by rw[<-hnl];exact hD.2) n3 (aOz h.inv k)
   rw[hw] at n1;have n1:lvl prog pkN m (.func 97) [pt y.hb,.I k] H=some (.tuple #[x.dR,.bool true],H1):=n1;obtain⟨H2,hH2⟩:=aD (H1++[eJ x]);have x2:Ext H1 H2:=by rw[hH2];exact Fr.app _ _ _
   have g2:=g1.iT x2;have b2:H2[H1.length]? =some (eJ x):=by rw[hH2];exact dS _ _
   have hxm:x∈s.hL:=by
    have:x∈iK s.hL k:=by rw[hw];exact aPW ..
    exact(List.mem_filter.mp this).1
   have hxd:=(h.inv.hL x hxm).dst;obtain⟨d,hd⟩: ∃d:Nat,x.dst=d:=⟨x.dst.toNat,by omega⟩
   have hdt:x.dst.toNat=d:=U
   rw[hdt] at hK hinv;have q1:ld1 (.Q H1.length 1) H2=some (.I d,H2):=dC b2 (by rw[<-hd];rfl)
   have l15:=g2.ld 15 (pt y.rg) rfl;obtain⟨H3,t1,x3⟩:=aA6 g2 (m:=m) U d U
   have g3:=g2.iT x3;have l15':=g3.ld 15 (pt y.rg) rfl;have b3:H3[H1.length]? =some (eJ x):=by rw[x3.2 _ (dK b2) id,b2]
   have q3:=(pT b3).2;have q3':=(pT b2).2;obtain⟨r',H4,F4,p1,p2,p3⟩:=(g3.sep.own .rings).yL sA (n:=m) (λD hD=>aAy (m:=m) hD U (0,(c.port d:Int),(k:Int)) x)
   obtain⟨g4,mv4⟩:=g3.P3 (L:=tH c s.rL (0,(c.port d:Int),k) x) p2 p3 hinv;have p1:lvl prog pkN m (.func 98) [pt y.rg,.I 0,.I (c.port d:Nat),.I k,x.dR] H3=some (r',H4):=p1;simp -implicitDefEqProofs only[gsR,l4,c1',l14,n1,pC,zK,P5,<-hH2,l15,q1,t1,l15',vS,q3,q3',aA9,p1,cO,e9];exact hK H4 _ g4 ((mv1.pJ (Mv.pI (x2.tr x3) _)).pJ mv4) ..
theorem aOy {Hs:aE}{Fs:Part->Nat->Prop}{s0:NS}(h3:c.lanes<=3)(hm:300<m)(h6:c.aL<=6):
  ∀(q k l:Nat)(H:aE)(F:Part->Nat->Prop),c.lanes-k=q->k<=c.lanes->q<l->NodeAt H0 H F y p ev wv nv c t ((List.range k).foldl (oH c) s0)->Mv (Un Fs) (Un F) Hs H-> ∀(x1 x2 x3 x4 x5 x6 x7 x8 x9 bG aP aQ aO aT aU aR bA bK bX bJ bE aV aW aX aY aZ bB bC bH bI bM bN bO bP bQ bR bS bT bU bY cA cD cE cI cJ cN cP cK cQ cR cW dA cX cY dD dF dL dH dM:Value),
  ∃H2 r,aJ l (aM prog (lvl prog pkN m) (aJ m) Nt) (Nv (lvl prog pkN m) (aJ m)) [(pt y.nb),x1,x2,x3,x4,x5,x6,x7,x8,x9,bG,(.I c.lanes),(.I (k:Nat)),aP,aQ,aO,aT,aU,aR,bA,bK,bX,bJ,bE,aV,aW,aX,aY,aZ,bB,bC,bH,bI,bM,bN,bO,bP,bQ,bR,bS,bT,bU,bY,cA,cD,cE,cI,cJ,cN,cP,cK,cQ,cR,cW,dA,cX,cY,dD,dF,dL,dH,dM] H=some (r,H2)/\(r=aK []/\ ∃F2,NodeAt H0 H2 F2 y p ev wv nv c t (w7 c s0)/\Mv (Un Fs) (Un F2) Hs H2):=by
 intro q;induction q with
 |zero=>
  intro k l H F hq hk hl h hmv;intros;obtain⟨l,rfl⟩: ∃l',l=l'+1:=⟨l-1,by omega⟩
  have hke:k=c.lanes:=U
  have c1:decide ((k:Int)<(c.lanes:Int))=false:=by rw[decide_eq_false_iff_not];omega
  rw[aJ,Yu];simp -implicitDefEqProofs only[gsR,c1];rw[aKV];rw[hke] at h
  exact⟨_,_,rfl,rfl,F,h,hmv⟩
 |succ q ih=>
  intro k l H F hq hk hl h hmv;intros;obtain⟨l,rfl⟩: ∃l',l=l'+1:=⟨l-1,by omega⟩
  have hkl:k<c.lanes:=U
  have c1:decide ((k:Int)<(c.lanes:Int))=true:=by rw[decide_eq_true_eq];omega
  have l13:=h.ld 13 (iX y c) rfl;have e1:cH (iX y c)=some (.I c.aL):=rfl;rw[aJ,Yu];simp -implicitDefEqProofs only[gsR,c1,l13,e1];refine aOt (kk:=k) U h ?_ c.aL 0 m U U U ..
  refine aOx hkl U h ?_
  intro H' F' h' hmv';intros;have hn:(List.range (k+1)).foldl (oH c) s0=oH c ((List.range k).foldl (oH c) s0) k:=by rw[aQm,List.foldl_append];rfl
  rw[<-hn] at h';exact ih (k+1) l H' F' U U U h' (hmv.pJ hmv') ..
theorem aOw (h:NodeAt H0 H F y p ev wv nv c t s)(hm:400<m): ∃H2 F2,lvl prog pkN m (.func 49) [pt y.nb] H=some (aK [],H2)/\NodeAt H0 H2 F2 y p ev wv nv c t (w7 c s)/\Mv (Un F) (Un F2) H H2:=by
 have h6:c.aL<=6:=by have:=h.ok.by';unfold Cfg.aL;omega
 have main: ∃H2 r,lvl prog pkN m (.func 49) [pt y.nb] H=some (r,H2)/\(r=aK []/\ ∃F2,NodeAt H0 H2 F2 y p ev wv nv c t (w7 c s)/\Mv (Un F) (Un F2) H H2):=by
  refine fJ (cT rfl) U ?_
  rw[aKX];have l3:=h.ld 3 (.I c.lanes) rfl;simp -implicitDefEqProofs only[gsR,l3];exact aOy h.ok.lanes.2 U h6 c.lanes 0 (m-1) H F U U (by have:=h.ok.lanes;omega) h (Mv.Tx _ _) ..
 obtain⟨H2,r,g1,rfl,F2,g2,g3⟩:=main
 exact⟨H2,F2,g1,g2,g3⟩
end
def slV (v:Value):Value:=if dV [v]=true then v else .slice none 0 0
theorem aOI (v:Value):dV [slV v]=true:=by
 unfold slV;split
 ·assumption
 ·rfl
def tI (u:Nat×Value):List Value:=[.I u.1,slV u.2]
theorem aBh (u:Nat×Value):(tI u).length=2:=rfl
theorem aOF (u:Nat×Value):dV (tI u)=true:=by
 have:=aOI u.2;unfold dV tI at*;simp only[List.all_cons,List.all_nil,Bool.and_true] at*;rw[this];rfl
theorem aOE {H:aE}{v:Value}{bs:List UInt8}(h:By H v bs):slV v=v/\dG 43 2 1 [.int .i64 0,.slice none 0 0] [(0,.agg #[.int .i64 0,v])] []=some (.slice (some ⟨0,0,none⟩) 1 1,[Blk.cells [.int .i64 0,v] 43 .row]):=by
 obtain⟨_,⟨rfl,_⟩|⟨c,cap,rest,rfl,_⟩⟩:=h<;>exact⟨rfl,rfl⟩
theorem aOC {H:aE}{v:Value}{bs:List UInt8}(h:By H v bs)(to:Nat)(G:aE):dG 43 2 1 [.I 0,.slice none 0 0] [(0,.agg #[.I to,v])] G=some (.slice (some ⟨G.length,0,none⟩) 1 1,G++[.cells (tI (to,v)) 43 .row]):=by
 obtain⟨_,⟨rfl,_⟩|⟨c,cap,rest,rfl,_⟩⟩:=h<;>rfl
theorem aOD {H:aE}{v:Value}{bs:List UInt8}(h:By H v bs)(to:Nat):bld prog 43 [(0,.I to),(1,v)]=some (.agg #[.I to,v]):=by
 obtain⟨_,⟨rfl,_⟩|⟨c,cap,rest,rfl,_⟩⟩:=h<;>rfl
theorem Gs {α:Type}{el:α->List Value}{e:TypeId}{sz:Nat}{H:aE}{v:Value}{xs:List α}(h:Rw el e sz H v xs):v.cells.toList=[v]/\dV [v]=true:=by
 obtain⟨_,⟨rfl,_⟩|⟨c,cap,rest,rfl,_⟩⟩:=h<;>exact⟨rfl,rfl⟩
theorem aOH {α:Type}{el:α->List Value}{e:TypeId}{sz:Nat}{H:aE}{v:Value}{xs:List α}(h:Rw el e sz H v xs)(H':aE):chk (some (v,H')) v=true:=by
 obtain⟨_,⟨rfl,_⟩|⟨c,cap,rest,rfl,_⟩⟩:=h<;>simp[chk,veq]
def vT (v:Value):Blk:= .cells [v] 35 .fix
def pnB (nb:Nat):Blk:= .cells [pt nb] 30 .fix
def sH (vb cb:Nat):Value:= .func (.func 47) #[] #[pt vb,pt cb]
structure OutR (H:aE)(A:Nat->Prop)(v:Value)(us:List (Nat×Value))(outs:lG):Prop where
 rw_:Rw tI 43 2 H v us
 home: ∀b,cV v b->A b
 len:us.length=outs.length
 at_: ∀(i:Nat)(u:Nat×Value)(o:Nat×List UInt8),us[i]? =some u->outs[i]? =some o->u.1=o.1/\By H u.2 o.2/\ ∀b,Go.Abs.cV u.2 b->A b
structure TickS (H0 Hs H:aE)(Fs F:Part->Nat->Prop)(y:Lay)(p:PlanD)(ev wv nv:Value)(c:Cfg)(t:Nat)(s:NS)(vb cb:Nat)(outs:lG):Prop where
 node:NodeAt H0 H F y p ev wv nv c t s
 mv:Mv (Un Fs) (Un F) Hs H
 h0:H0.length<=Hs.length
 cell:H[cb]? =some (pnB y.nb)
 cbF: ¬Un F cb
 vbF: ¬Un F vb
 vb0:Hs.length<=vb
 rows: ∃v us,H[vb]? =some (vT v)/\OutR H (λb=>Hs.length<=b/\ ¬Un F b) v us outs
theorem OutR.aOB {H H':aE}{A A':Nat->Prop}{v:Value}{us:List (Nat×Value)}{outs:lG}(h:OutR H A v us outs)(hk: ∀b,b<H.length->A b->H'[b]? =H[b]? /\A' b):OutR H' A' v us outs where
 rw_:=h.rw_.fG λb hb=>(hk b (h.rw_.fY hb) (h.home b hb)).1
 home:=λb hb=>(hk b (h.rw_.fY hb) (h.home b hb)).2
 len:=h.len
 at_:=λi u o hu ho=>by
  obtain⟨g1,g2,g3⟩:=h.at_ i u o hu ho
  exact⟨g1,g2.fG λb hb=>(hk b (g2.fY hb) (g3 b hb)).1,λb hb=>(hk b (g2.fY hb) (g3 b hb)).2⟩
section
variable {H0 Hs H : aE} {Fs F : Part → Nat → Prop} {y : Lay} {p : PlanD} {ev wv nv : Value} {c : Cfg} {t : Nat} {s : NS} {m : Nat} {vb cb : Nat} {outs : lG}
theorem TickS.uJ {H':aE}{F':Part->Nat->Prop}{t':Nat}{s':NS}(h:TickS H0 Hs H Fs F y p ev wv nv c t s vb cb outs)(hn:NodeAt H0 H' F' y p ev wv nv c t' s')(hm:Mv (Un F) (Un F') H H'):TickS H0 Hs H' Fs F' y p ev wv nv c t' s' vb cb outs:=by
 have key: ∀b,b<H.length-> ¬Un F b->H'[b]? =H[b]? /\ ¬Un F' b:=λb hb hF=>⟨hm.keep b hb hF,λhF'=>(hm.own b hF').elim hF λhl=>by omega⟩
 obtain⟨v,us,r1,r2⟩:=h.rows
 exact⟨hn,h.mv.pJ hm,h.h0,by rw[(key cb (dK h.cell) h.cbF).1,h.cell],(key cb (dK h.cell) h.cbF).2,(key vb (dK r1) h.vbF).2,h.vb0,v,us,by rw[(key vb (dK r1) h.vbF).1,r1],
  r2.aOB λb hb hA=>⟨(key b hb hA.2).1,hA.1,(key b hb hA.2).2⟩⟩
theorem TickS.ext {H':aE}(h:TickS H0 Hs H Fs F y p ev wv nv c t s vb cb outs)(he:Ext H H'):TickS H0 Hs H' Fs F y p ev wv nv c t s vb cb outs:=h.uJ (h.node.iT he) (Mv.pI he _)
theorem NodeAt.aOA {H':aE}{N:Nat->Prop}(h:NodeAt H0 H F y p ev wv nv c t s)(hf:Fr N H H')(hN: ∀b,N b-> ¬Un F b/\H0.length<=b):NodeAt H0 H' F y p ev wv nv c t s:=by
 have hm:Mv N N H H':=⟨hf.1,λ_ h=> .inl h,λb hb hn=>hf.2 b hb hn⟩
 refine {h with ext:=⟨aP3 h.ext.1 hf.1,λa ha _=> ?_⟩,sep:=h.sep.wP (zI _ _ _ _ _ _ _) hm λa ha hh=>(hN a hh).1 ha}
 rw[hf.2 a (aP2 ha h.ext.1) (λhh=>by have:=(hN a hh).2;omega),h.ext.2 a ha id]
theorem aOG {n:Nat}(h:n<3000):j7 n 32=true:=fV (n:=3000) aC U
theorem P6 (h:TickS H0 Hs H Fs F y p ev wv nv c t s vb cb outs)(hm:200<m){o:Nat}(ho:o<c.aL){f:Frm}(hf:f.ok)(hl:outs.length<1000):
  ∃H',oA (lvl prog pkN m) (sH vb cb) [.I o,frV f] H=some (aK [],H')/\TickS H0 Hs H' Fs F y p ev wv nv c t s vb cb (outs++[(kL c o,tE f)])/\
   ∀(b:Nat)(cs:List Value)(e:TypeId)(k:Kind),H[b]? =some (.cells cs e k)->e≠43->b≠vb->H'[b]? =some (.cells cs e k):=by
 show∃H',lvl prog pkN m (.func 47) [.I o,frV f,pt vb,pt cb] H=_/\_
 obtain⟨H1,hH1⟩:=aD (H++[frB f]);have x1:Ext H H1:=by rw[hH1];exact Fr.app _ _ _
 have e0:H++[Blk.cells (Value.cells (frV f)).toList 39 .fix]=H1:=by rw[hH1];rfl
 have b1:H1[H.length]? =some (frB f):=by rw[hH1];exact dS _ _
 have l6:=(oJ b1).2.2.2.2.2.2;obtain⟨H2,w,n1,x2,n2,n3⟩:=aLG (H:=H1) (m:=m-1) U f hf
 have h2:=(h.ext x1).ext x2;obtain⟨v,us,r1,r2⟩:=h2.rows;have lv:ld1 (pt vb) H2=some (v,H2):=dC r1 rfl;have lc:ld1 (pt cb) H2=some (pt y.nb,H2):=dC h2.cell rfl;have l13:=h2.node.ld 13 (iX y c) rfl;obtain⟨b,oo,a1,a2⟩:=h2.node.xI ho;obtain⟨_,a3,_,_⟩:=a2 _ (.inl h2.node);have eb:=aOD n2 (kL c o);have es:=aOC n2 (kL c o) H2;have hw:Rr tI 43 (H2++[.cells (tI (kL c o,w)) 43 .row]) (.slice (some ⟨H2.length,0,none⟩) 1 1) [(kL c o,w)]:=wM (el:=tI) _ H2;obtain⟨H3,hH3⟩:=aD (H2++[Blk.cells (tI (kL c o,w)) 43 .row]);have hul:us.length<1000:=by have:=r2.len;omega
 obtain⟨v',H4,k1,k2,k3,k4,k5⟩:=(r2.rw_.tS [Blk.cells (tI (kL c o,w)) 43 .row]).wN aBh aOF aC (by':=32) hw.rs (aOG (by show us.length+1<3000;omega))
 rw[<-hH3] at k1 k3 k4 k5 es;have h3l:H3.length=H2.length+1:=by rw[hH3];simp
 have hvb:vb<H2.length:=dK r1;have hvh: ¬cV v vb:=λhh=>by
  obtain⟨cs,hc⟩:=r2.rw_.blk hh;rw[r1] at hc;injection hc with hc;injection hc with _ h2 _
  revert h2
  decide
 have r4:H4[vb]? =some (vT v):=by
  rw[k4 vb U hvh,hH3,aPQ hvb,r1]
 have sh:=Gs k2;have st:stN 1 (pt vb) v' H4=some (undef,H4.set vb (vT v')):=qH r4 aC (by simp) sh.1 sh.2
 refine jQ (cT rfl) U ⟨H4.set vb (vT v'),?_,?_,?_⟩
 ·rw[aKT]
  simp -implicitDefEqProofs only[gsR,Nat.add_zero,e0,l6,n1,pC,lv,lc,l13,a1,a3,eb,es,k1,st]
 ·have hfr:Fr (λb=>b=vb∨cV v b) H2 (H4.set vb (vT v')):=⟨by simp;omega,λb hb hn=>by
   rw[aPO (λhh=>hn (.inl hh.symm)),k4 b U (λhh=>hn (.inr hh)),hH3,aPQ hb]⟩
  have hN: ∀b,(b=vb∨cV v b)-> ¬Un F b/\Hs.length<=b:=λb hb=>by
   rcases hb with rfl|hb
   ·exact⟨h2.vbF,h2.vb0⟩
   ·exact⟨(r2.home b hb).2,(r2.home b hb).1⟩
  have hnF: ∀b,H2.length<=b-> ¬Un F b:=λb hb hu=>by have:=h2.node.sep.qB b hu;omega
  have hs2:=h2.mv.le;refine⟨h2.node.aOA hfr λb hb=>⟨(hN b hb).1,aP3 h2.h0 (hN b hb).2⟩,⟨aP3 hs2 hfr.1,h2.mv.own,λb hb hF=> ?_⟩,h2.h0,?_,h2.cbF,h2.vbF,h2.vb0,v',us++[(kL c o,w)],iR r4,?_⟩
  ·rw[hfr.2 b (aP2 hb hs2) (λhh=>by have:=(hN b hh).2;omega),h2.mv.keep b hb hF]
  ·rw[hfr.2 cb (dK h2.cell) (λhh=> ?_),h2.cell]
   rcases hh with hh|hh
   ·have:=h2.cell
    rw[hh,r1] at this;injection this with this;injection this with _ h2 _
    revert h2
    decide
   ·obtain⟨cs,hc⟩:=r2.rw_.blk hh
    rw[h2.cell] at hc;injection hc with hc;injection hc with _ h2 _
    revert h2
    decide
  ·have hv'vb: ¬cV v' vb:=λhh=>by
    rcases k5 vb hh with hh|hh
    ·exact hvh hh
    ·omega
   have keepB: ∀(bv:Value)(bs:List UInt8),By H2 bv bs->By (H4.set vb (vT v')) bv bs:=λbv bs hb=>hb.fG λb hhb=>hfr.2 b (hb.fY hhb) λhh=>by
    obtain⟨cs,hc⟩:=hb.blk hhb;rcases hh with rfl|hh
    ·rw[r1] at hc
     injection hc with hc;injection hc with _ h2 _
     revert h2
     decide
    ·obtain⟨cs',hc'⟩:=r2.rw_.blk hh
     rw[hc] at hc';injection hc' with hc';injection hc' with _ h2 _
     revert h2
     decide
   refine⟨k2.fG λb hb=>aPO λhh=>hv'vb (by rw[hh];exact hb),λb hb=> ?_,by simp[r2.len],λi u oo hu hoo=> ?_⟩
   ·rcases k5 b hb with hh|hh
    ·exact r2.home b hh
    ·exact⟨by omega,hnF b U⟩
   ·by_cases hi:i<us.length
    ·rw[aPQ hi] at hu
     rw[aPQ (by rw[<-r2.len];exact hi)] at hoo
     obtain⟨g1,g2,g3⟩:=r2.at_ i u oo hu hoo
     exact⟨g1,keepB _ _ g2,g3⟩
    ·have hi2:i=us.length:=by
      have:=(aPN.mp hu).1;simp at this;omega
     subst hi2;rw[aP7 (aPS _),Nat.sub_self] at hu;rw[aP7 (by rw[r2.len];exact aPS _),r2.len,Nat.sub_self] at hoo
     simp only[List.getElem?_cons_zero,aQe] at hu hoo;subst hu hoo;refine⟨rfl,keepB _ _ n2,λb hb=> ?_⟩
     have hbn:=n3 b hb;have hsb:Hs.length<=b:=by
      have:=h.mv.le;have:=x1.1;omega
     refine⟨hsb,λhu=> ?_⟩
     have:=h.node.sep.qB b hu;have:=x1.1;omega
 ·intro b cs e k hb hne hbv
  have hb2:H2[b]? =some (.cells cs e k):=by rw[(x1.tr x2).2 _ (dK hb) id,hb]
  rw[aPO (λhh=>hbv hh.symm),k4 b (by rw[h3l];have:=dK hb2;omega) (λhh=> ?_),hH3,aPQ (dK hb2),hb2]
  obtain⟨cs',hc'⟩:=r2.rw_.blk hh;rw[hb2] at hc';injection hc' with hc';injection hc' with _ h2 _;exact hne h2
end
theorem aON {W:List Int}{x w:Whl}{may:Nat->Bool}(h:kX W x may=(none,w)):w=x:=by
 unfold kX at h
 split at h
 ·split at h
  ·cases h
  ·cases h;rfl
 ·cases h;rfl
theorem aOM {α:Type}(f:Nat->α)(i:Nat):up1 f i (f i)=f:=by
 funext j
 unfold up1;split
 ·rename_i h
  rw[h]
 ·rfl
theorem B0 (y:Lay)(c:Cfg)(H':aE):chk (some (iX y c,H')) (iX y c)=true:=by simp[chk,veq,iX]
section
variable {H0 Hs H : aE} {Fs F : Part → Nat → Prop} {y : Lay} {p : PlanD} {ev wv nv : Value} {c : Cfg} {t : Nat} {s : NS} {m : Nat} {vb cb : Nat} {outs : lG}
theorem NodeAt.aOJ {H':aE}{t' o:Nat}{x':Whl}(h:NodeAt H0 H F y p ev wv nv c t s)(ho:o<c.aL)(hf:Fr (λb=>b=y.wh o∨b=y.wl o) H H')(hB:Blks (lI (y.wh o) (y.ww o) (y.wl o) (y.wc o) (y.lc o) (y.wr o) (y.lr o) c.weights x') H')(hi:NInv c t' {s with whl:=up1 s.whl o x'}):
  NodeAt H0 H' F y p ev wv nv c t' {s with whl:=up1 s.whl o x'}/\Mv (Un F) (Un F) H H':=by
 refine h.Bt (.whl o) (l:=lI (y.wh o) (y.ww o) (y.wl o) (y.wc o) (y.lc o) (y.wr o) (y.lr o) c.weights (s.whl o)) (l':=lI (y.wh o) (y.ww o) (y.wl o) (y.wc o) (y.lc o) (y.wr o) (y.lr o) c.weights x') (by simp only[lJ];rw[if_pos ho]) aA0 ?_ ?_ hB hi ?_ ?_
 ·intro q hq
  simp only[lI,aP6,aQd,or_false] at hq;rcases hq with rfl|rfl|rfl
  ·exact⟨_,aPW ..,rfl⟩
  ·exact⟨_,aP4 _ (aPW ..),rfl⟩
  ·exact⟨_,aP4 _ (aP4 _ (aPW ..)),rfl⟩
 ·refine hf.Ag λb hb=> ?_
  rcases hb with rfl|rfl
  ·exact⟨_,aPW ..,rfl⟩
  ·exact⟨_,aP4 _ (aP4 _ (aPW ..)),rfl⟩
 ·have e:up1 s.whl o x' o=x':=if_pos rfl
  simp only[lJ];rw[if_pos ho,e]
 ·intro j hj
  cases j with
  |whl i'=>
   have e:up1 s.whl o x' i'=s.whl i':=if_neg λhh=>hj (by rw[hh])
   simp only[lJ];rw[e]
  |_=>rfl
theorem aOO (h:NodeAt H0 H F y p ev wv nv c t s)(hm:30<m){i o:Nat}(ho:o<c.aL)(hi:NInv c (t+1) {s with whl:=up1 s.whl o (kX c.weights (s.whl o) (jH c s i o)).2}):
  ∃H',lvl prog pkN m (.func 105) [pt (y.wh o),.int .u16 (dJ (jH c s i o) c.lanes:Nat)] H=some (pB (kX c.weights (s.whl o) (jH c s i o)).1,H')/\NodeAt H0 H' F y p ev wv nv c (t+1) {s with whl:=up1 s.whl o (kX c.weights (s.whl o) (jH c s i o)).2}/\Mv (Un F) (Un F) H H':=by
 have hw:=h.ok.wlen;have hl:=h.ok.lanes;have hx:=h.inv.whl o;rw[<-hw] at hx;obtain⟨H',g1,g2,g3⟩:=aNE (m:=m) U (h.aNQ ho) (h.lay.ww o ho) hx (λy hy=>by have:=h.ok.wts y hy;omega) U U (dJ (jH c s i o) c.lanes) (rI _ U)
 have hc:kX c.weights (s.whl o) (λj=>(dJ (jH c s i o) c.lanes).testBit j)=kX c.weights (s.whl o) (jH c s i o):=aNA λj hj=>by
  rw[kY,aQw U,aQa]
 rw[hc] at g1 g3;obtain⟨k1,k2⟩:=h.aOJ ho g2 g3 hi
 exact⟨H',g1,k1,k2⟩
theorem aOL (h:NodeAt H0 H F y p ev wv nv c t s)(hm:100<m)(i o k:Nat)(hi:NInv c t {s with rL:=oU s.rL ((i:Int),(o:Int),(k:Int))}):
  ∃H' F',lvl prog pkN m (.func 106) [pt y.rg,.I i,.I o,.I k] H=some (Rg.uD (pA s.rL ((i:Int),(o:Int),(k:Int))),H')/\NodeAt H0 H' F' y p ev wv nv c t {s with rL:=oU s.rL ((i:Int),(o:Int),(k:Int))}/\Mv (Un F) (Un F') H H':=by
 obtain⟨r,H',F',p1,p2,p3⟩:=(h.sep.own .rings).yL sA (n:=m) (B:=λr D'=>r=Rg.uD (pA s.rL ((i:Int),(o:Int),(k:Int)))/\RingsN D' y.rg (oU s.rL ((i:Int),(o:Int),(k:Int))) (c.aL*c.lanes*c.room) c.aL c.lanes) (λD hD=>by
  obtain⟨D',g1,g2⟩:=aM3 (m:=m) hD U i o k
  exact⟨_,D',g1,rfl,g2⟩)
 obtain⟨hr,_⟩:=p2.at_;rw[hr] at p1;obtain⟨g4,mv4⟩:=h.P3 (Has.vR p2 λD hD=>hD.2) p3 hi
 exact⟨H',_,p1,g4,mv4⟩
theorem aOK (h:NodeAt H0 H F y p ev wv nv c t s)(hm:10<m)(x:Pkt)(hl:s.hG.length<1000000000)(hi:NInv c t {s with hG:=s.hG++[x]}):
  ∃H' F',lvl prog pkN m (.func 108) [pt y.hb,x.dR] H=some (aK [],H')/\NodeAt H0 H' F' y p ev wv nv c t {s with hG:=s.hG++[x]}/\Mv (Un F) (Un F') H H':=by
 obtain⟨r,H',F',p1,p2,p3⟩:=(h.sep.own .host).yL sA (n:=m) (B:=λr D'=>r=aK []/\HostAt D' y.hb s.hL (s.hG++[x]) c.lanes c.queue) (λD hD=>by
  obtain⟨w0,w1,w2,cv,hI⟩:=hD;obtain⟨D',g1,g2⟩:=aLY hI (m:=m) U x (fV (n:=1000000001) aC U)
  exact⟨_,D',g1,rfl,g2⟩)
 obtain⟨hr,_⟩:=p2.at_;rw[hr] at p1;obtain⟨g4,mv4⟩:=h.Gr (L:=s.hL) (Has.vR p2 λD hD=>hD.2) p3 hi
 exact⟨H',_,p1,g4,mv4⟩
end
section
variable {H0 Hs H : aE} {Fs F : Part → Nat → Prop} {y : Lay} {p : PlanD} {ev wv nv : Value} {c : Cfg} {t : Nat} {s : NS} {m : Nat} {vb cb : Nat} {outs : lG}
def P7 (s:NS)(o k:Nat)(x:Pkt):Frm:=⟨1,k,(s.snd o k).oF.1%65536,(x.src%256).toNat,(x.dst%256).toNat,x.body.toNat⟩
theorem aOR (s:NS)(o k:Nat)(x:Pkt)(hk:k<3)(hb:0<=x.body/\x.body<4294967296):(P7 s o k x).ok where
 kind:=by show 1<256;decide
 lane:=by show k<256;omega
 seq:=Nat.mod_lt _ aC
 src:=by show(x.src%256).toNat<256;omega
 dst:=by show(x.dst%256).toNat<256;omega
 body:=by show x.body.toNat<4294967296;omega
theorem aOQ (s:NS)(o k:Nat)(x:Pkt)(hb:0<=x.body)(hk:k<3):
  bld prog 39 [(0,.int .u8 1),(1,.int .u8 k),(2,.int .u16 ((s.snd o k).oF.1%65536:Nat)),(3,.int .u8 (x.src%256)),(4,.int .u8 (x.dst%256)),(5,.int .u32 x.body)]=some (frV (P7 s o k x)):=by
 have e1:(((x.src%256).toNat:Nat):Int)=x.src%256:=Int.toNat_of_nonneg (Int.emod_nonneg _ aC)
 have e2:(((x.dst%256).toNat:Nat):Int)=x.dst%256:=Int.toNat_of_nonneg (Int.emod_nonneg _ aC)
 have e3:((x.body.toNat:Nat):Int)=x.body:=Int.toNat_of_nonneg hb;rw[<-e1,<-e2,<-e3];rfl
theorem TickS.b15 {H':aE}{F':Part->Nat->Prop}{b:Nat}{x:Blk}(hm:Mv (Un F) (Un F') H H')(hb:H[b]? =some x)(hF: ¬Un F b):H'[b]? =some x/\ ¬Un F' b:=
 ⟨by rw[hm.keep b (dK hb) hF,hb],λhF'=>(hm.own b hF').elim hF λhl=>by have:=dK hb;omega⟩
def aOP (H0 Hs:aE)(Fs:Part->Nat->Prop)(y:Lay)(p:PlanD)(ev wv nv:Value)(c:Cfg)(t:Nat)(vb cb:Nat)(outs:lG)(r:NS×lG)(mb:Nat)(X:Blk)(H':aE)(v:Value):Prop:=
 v=aK []/\H'[mb]? =some X/\ ∃F',TickS H0 Hs H' Fs F' y p ev wv nv c (t+1) r.1 vb cb (outs++r.2)/\ ¬Un F' mb
theorem aOS (h:TickS H0 Hs H Fs F y p ev wv nv c t s vb cb outs)(ht:t<100000000)(hm:300<m){i o:Nat}(hi:i<c.aL)(ho:o<c.aL)(hl:outs.length<1000){mb:Nat}{zs:List Int}(hmb:H[mb]? =some (fE zs []))(hmF: ¬Un F mb)(hmv:mb≠vb):
    ∃H' v,lvl prog pkN m (.func 52) [pt y.nb,.I i,.I o,sH vb cb] H=some (v,H')/\aOP H0 Hs Fs y p ev wv nv c t vb cb outs (qI c s i o) mb (fE zs []) H' v:=by
  have hm0:0<m:=U
  have hn:=h.node;have hlanes:=hn.ok.lanes;have hmono:=hn.inv.sE (Nat.le_succ t);have l13:=hn.ld 13 (iX y c) rfl;obtain⟨b,oo,a1,a2⟩:=hn.xI ho;obtain⟨_,_,_,a3⟩:=a2 _ (.inl hn);obtain⟨H1,m1,x1⟩:=aBb hn U (m:=m-1) U hi ho
  have h1:=h.ext x1;obtain⟨_,_,_,a4⟩:=a2 _ (.inl h1.node);have l13':=h1.node.ld 13 (iX y c) rfl;have hwi:NInv c (t+1) {s with whl:=up1 s.whl o (kX c.weights (s.whl o) (jH c s i o)).2}:={hmono with whl:=aMf hmono.whl (aMh hn.ok (hmono.whl o) _)};obtain⟨H2,w1,g2,mv2⟩:=aOO h1.node (m:=m-1) U ho hwi
  have h2:=h1.uJ g2 mv2;have hb2:=TickS.b15 ((Mv.pI x1 (Un F)).pJ mv2) hmb hmF;cases hpk:(kX c.weights (s.whl o) (jH c s i o)).1 with
  |none=>
    obtain⟨w',hw'⟩: ∃w',kX c.weights (s.whl o) (jH c s i o)=(none,w'):=⟨_,Prod.ext hpk rfl⟩;have hr:qI c s i o=(s,[]):=by unfold qI;rw[hw']
    have hww:=aON hw';rw[hw'] at h2 w1;simp only at h2 w1;rw[hww,aOM] at h2;have c1:decide ((-1:Int)<0)=true:=rfl;refine⟨H2,_,dI (cT rfl) hm0 ?_,rfl,hb2.1,F,?_,hb2.2⟩
    · rw[Ob]
      simp -implicitDefEqProofs only[gsR,l13,a1,a3,m1,a4,vS,l13',B0,w1,pB,c1]
    · rw[hr]
      rw[List.append_nil];exact h2
  |some k=>
    obtain⟨w',hw'⟩: ∃w',kX c.weights (s.whl o) (jH c s i o)=(some k,w'):=⟨_,Prod.ext hpk rfl⟩;rw[hw'] at h2 w1 hwi;simp only at h2 w1 hwi;obtain⟨hkl,hmk⟩:=aMg hw';rw[hn.ok.wlen] at hkl;have c1:decide ((k:Int)<0)=false:=by rw[decide_eq_false_iff_not];omega
    -- the queue has one
    have hq0:0<pR s.rL i o k:=by
      unfold jH at hmk;rw[aPV,aPV,decide_eq_true_eq,decide_eq_true_eq] at hmk;exact hmk.1.2
    obtain⟨x,xs,hq⟩: ∃x xs,pA s.rL ((i:Int),(o:Int),(k:Int))=x::xs:=by
      unfold pR at hq0;cases hh:pA s.rL ((i:Int),(o:Int),(k:Int)) with
      |nil=>rw[hh] at hq0;simp at hq0
      |cons x xs=>exact⟨x,xs,rfl⟩
    have hxm:x∈pA s.rL ((i:Int),(o:Int),(k:Int)):=by rw[hq];exact aPW ..
    obtain⟨e,he1,he2,_⟩:=aMe hxm;have hpk0:=hn.inv.rL e he1;rw[he2] at hpk0;have hr:qI c s i o=if o=0 then({s with whl:=up1 s.whl o w',rL:=oU s.rL ((i:Int),(o:Int),(k:Int)),rcv:=tG s i k,hG:=s.hG++[x]},[])
        else({s with whl:=up1 s.whl o w',rL:=oU s.rL ((i:Int),(o:Int),(k:Int)),rcv:=tG s i k,snd:=up2 s.snd o k (s.snd o k).oF.2},[(kL c o,tE (P7 s o k x))]):=by
      unfold qI;rw[hw'];simp only;rw[hq];by_cases h0:o=0
      · rw[if_pos h0,if_pos h0]
        rfl
      · rw[if_neg h0,if_neg h0]
        unfold w8 kL;rw[if_neg h0];rfl
    have hi3:NInv c (t+1) {s with whl:=up1 s.whl o w',rL:=oU s.rL ((i:Int),(o:Int),(k:Int))}:={hwi with rL:=λe he=>hwi.rL e (aMd he),rN:=aP3 (aMc _ _) hwi.rN}
    obtain⟨H3,F3,p1,g3,mv3⟩:=aOL h2.node (m:=m-1) U i o k hi3
    have h3:=h2.uJ g3 mv3;have hb3:=TickS.b15 mv3 hb2.1 hb2.2;have p1:lvl prog pkN (m-1) (.func 106) [pt y.rg,.I i,.I o,.I k] H2=some (.tuple #[x.dR,.bool true],H3):=by
      rw[p1];show some (Rg.uD (pA s.rL ((i:Int),(o:Int),(k:Int))),H3)=_
      rw[hq];rfl
    obtain⟨H4,hH4⟩:=aD (H3++[eJ x]);have x4:Ext H3 H4:=by rw[hH4];exact Fr.app _ _ _
    have h4:=h3.ext x4;have q4:H4[H3.length]? =some (eJ x):=by rw[hH4];exact dS _ _
    have qF4: ¬Un F3 H3.length:=λhu=>by have:=h3.node.sep.qB _ hu;omega
    have hb4:=TickS.b15 (Mv.pI x4 (Un F3)) hb3.1 hb3.2;have l15:=h2.node.ld 15 (pt y.rg) rfl
    -- behind the pop: the lane of the input is free
    have free: ∃H5,TickS H0 Hs H5 Fs F3 y p ev wv nv c (t+1) {s with whl:=up1 s.whl o w',rL:=oU s.rL ((i:Int),(o:Int),(k:Int)),rcv:=tG s i k} vb cb outs/\H5[H3.length]? =some (eJ x)/\H5[mb]? =some (fE zs [])/\
        ((i=0/\H5=H4)∨(0<i/\ ∃u,lvl prog pkN (m-1) (.func 107) [pt (y.rb i k)] H4=some (u,H5))):=by
      by_cases hi0:i=0
      · refine⟨H4,?_,q4,hb4.1,.inl ⟨hi0,rfl⟩⟩
        have:tG s i k=s.rcv:=by unfold tG;rw[if_pos hi0]
        rw[this];exact h4
      · obtain⟨H5,u,r1,r2⟩:=aLw (m:=m-1) U (h4.node.Gk U hi hkl) (h4.node.Gl U i k)
        have hfr:tG s i k=up2 s.rcv i k (s.rcv i k).uA:=by unfold tG;rw[if_neg hi0]
        have hi5:NInv c (t+1) {s with whl:=up1 s.whl o w',rL:=oU s.rL ((i:Int),(o:Int),(k:Int)),rcv:=up2 s.rcv i k (s.rcv i k).uA}:={hi3 with rcv:=zC hi3.rcv (hi3.rcv i k).aL5};obtain⟨g5,mv5⟩:=h4.node.Py U hi hkl r2 hi5
        refine⟨H5,?_,(TickS.b15 mv5 q4 qF4).1,(TickS.b15 mv5 hb4.1 hb4.2).1,.inr ⟨by omega,u,r1⟩⟩
        rw[hfr];exact h4.uJ g5 mv5
    obtain⟨H5,h5,q5,hb5,hfree⟩:=free
    -- behind that: it is at the host, or on its way
    have hi5:=h5.node.inv;obtain⟨l0,l1,l2,l3,l4⟩:ld1 (.pointer (some ⟨H3.length,0,none⟩)) H5=some (.int .i64 x.src,H5)/\ld1 (.pointer (some ⟨H3.length,1,none⟩)) H5=some (.int .i64 x.dst,H5)/\ld1 (.pointer (some ⟨H3.length,2,none⟩)) H5=some (.int .i64 x.lane,H5)/\ld1 (.pointer (some ⟨H3.length,3,none⟩)) H5=some (.int .u32 x.body,H5)/\ldN 4 (.pointer (some ⟨H3.length,0,none⟩)) H5=some (x.dR,H5):=⟨dC q5 rfl,dC q5 rfl,dC q5 rfl,dC q5 rfl,(pT q5).2⟩;have hst:=P5 H3 x;rw[<-hH4] at hst;have ifree:0<i-> ∃bi oi bj oj,cB 3 (iX y c) (.int .i64 (i:Int))=some (.pointer (some ⟨bi,oi,none⟩))/\ld1 (.pointer (some ⟨bi,oi+1,none⟩)) H4=some (mR y c i,H4)/\cB 2 (mR y c i) (.int .i64 (k:Int))=some (.pointer (some ⟨bj,oj,none⟩))/\ld1 (.pointer (some ⟨bj,oj+1,none⟩)) H4=some (pt (y.rb i k),H4):=λhpos=>by
      obtain⟨bi,oi,j1,j2⟩:=h4.node.xI hi;obtain⟨_,_,j3,_⟩:=j2 _ (.inl h4.node);obtain⟨bj,oj,j4,_,_,j5⟩:=h4.node.Bu U hi hkl
      exact⟨bi,oi,bj,oj,j1,j3,j4,j5⟩
    have l13'':=h4.node.ld 13 (iX y c) rfl;by_cases ho0:o=0
    · rw[if_pos ho0] at hr
      have c3:((o:Int)==0)=true:=by rw[ho0];rfl
      have hgl:s.hG.length<=t:=hn.inv.hG;have hi6:NInv c (t+1) {s with whl:=up1 s.whl o w',rL:=oU s.rL ((i:Int),(o:Int),(k:Int)),rcv:=tG s i k,hG:=s.hG++[x]}:={hi5 with hG:=by simp;omega}
      obtain⟨H6,F6,k1,g6,mv6⟩:=aOK h5.node (m:=m-1) U x (by show s.hG.length<_;omega) hi6
      have h6:=h5.uJ g6 mv6;have hb6:=TickS.b15 mv6 hb5 hb4.2;have l14:=h5.node.ld 14 (pt y.hb) rfl;refine⟨H6,aK [],dI (cT rfl) hm0 ?_,rfl,hb6.1,F6,by rw[hr,List.append_nil];exact h6,hb6.2⟩
      rw[Ob];rcases hfree with⟨hi0,hH5⟩|⟨hpos,u,r1⟩
      · have c2:decide ((0:Int)<(i:Int))=false:=by rw[decide_eq_false_iff_not];omega
        rw[hH5] at l14 l4 k1;simp -implicitDefEqProofs only[gsR,l13,a1,a3,m1,a4,vS,l13',B0,w1,pB,c1,l15,p1,pC,zK,hst,<-hH4,c2,c3,l14,l4,k1]
      · have c2:decide ((0:Int)<(i:Int))=true:=by rw[decide_eq_true_eq];omega
        obtain⟨bi,oi,bj,oj,j1,j2,j3,j4⟩:=ifree hpos;simp -implicitDefEqProofs only[gsR,l13,a1,a3,m1,a4,vS,l13',B0,w1,pB,c1,l15,p1,pC,zK,hst,<-hH4,c2,l13'',j1,j2,j3,j4,r1,c3,l14,l4,k1]
    · rw[if_neg ho0] at hr
      have c3:((o:Int)==0)=false:=by rw[beq_eq_false_iff_ne];omega
      obtain⟨H6,r6,p6⟩:=aLC (m:=m-1) U (h5.node.Gm U ho hkl) (h5.node.Pz U o k)
      have hi6:NInv c (t+1) {s with whl:=up1 s.whl o w',rL:=oU s.rL ((i:Int),(o:Int),(k:Int)),rcv:=tG s i k,snd:=up2 s.snd o k (s.snd o k).oF.2}:={hi5 with snd:=zC hi5.snd (hn.inv.snd o k).aL8};obtain⟨g6,mv6⟩:=h5.node.aAX U ho hkl p6 hi6
      have h6:=h5.uJ g6 mv6;have q6:=(TickS.b15 mv6 q5 qF4).1;have hb6:=TickS.b15 mv6 hb5 hb4.2;obtain⟨n0,n1,n3⟩:ld1 (.Q H3.length 0) H6=some (.I x.src,H6)/\ld1 (.Q H3.length 1) H6=some (.I x.dst,H6)/\ld1 (.Q H3.length 3) H6=some (.int .u32 x.body,H6):=⟨dC q6 rfl,dC q6 rfl,dC q6 rfl⟩;obtain⟨H7,s7,h7,hk7⟩:=P6 h6 (m:=m-1) U ho (aOR s o k x U hpk0.body) hl
      have hb7:=hk7 mb _ _ _ hb6.1 aC hmv
      obtain⟨bi',oi',i1,i2⟩:=h5.node.xI ho;obtain⟨_,_,i3,_⟩:=i2 _ (.inl h5.node);obtain⟨rfl,rfl⟩:bi'=b/\oi'=oo:=by
        have:=i1.symm.trans a1;simpa using this
      obtain⟨bj',oj',i4,_,i5,_⟩:=h5.node.Bu U ho hkl
      have l13c:=h5.node.ld 13 (iX y c) rfl;have ek:IntKind.u8.wrap (k:Int)=(k:Int):=by rw[Ak];omega
      have eq:IntKind.u16.wrap ((s.snd o k).oF.1:Int)=(((s.snd o k).oF.1%65536:Nat):Int):=Ba _;have ebl:=aOQ s o k x hpk0.body.1 U
      have r6:lvl prog pkN (m-1) (.func 109) [pt (y.sb o k)] H5=some (.tuple #[.int .u64 (s.snd o k).oF.1,.bool (decide ((s.snd o k).l≠(s.snd o k).s))],H6):=r6;refine⟨H7,aK [],dI (cT rfl) hm0 ?_,rfl,hb7,F3,by rw[hr];exact h7,hb6.2⟩
      rw[Ob];rcases hfree with⟨hi0,hH5⟩|⟨hpos,u,r1⟩
      · have c2:decide ((0:Int)<(i:Int))=false:=by rw[decide_eq_false_iff_not];omega
        rw[hH5] at l13c i3 i5 r6;simp -implicitDefEqProofs only[gsR,Nat.add_zero,l13,a1,a3,m1,a4,vS,l13',B0,w1,pB,c1,l15,p1,pC,zK,hst,<-hH4,c2,c3,l13c,i1,i3,i4,i5,r6,fI _ _ iU u8U,fI _ _ qJ nB,ek,eq,n0,n1,n3,Ak,ebl,s7]
      · have c2:decide ((0:Int)<(i:Int))=true:=by rw[decide_eq_true_eq];omega
        obtain⟨bi,oi,bj,oj,j1,j2,j3,j4⟩:=ifree hpos;simp -implicitDefEqProofs only[gsR,Nat.add_zero,l13,a1,a3,m1,a4,vS,l13',B0,w1,pB,c1,l15,p1,pC,zK,hst,<-hH4,c2,l13'',j1,j2,j3,j4,r1,c3,l13c,i1,i3,i4,i5,r6,fI _ _ iU u8U,fI _ _ qJ nB,ek,eq,n0,n1,n3,Ak,ebl,s7]
end
def exF (s:NS)(c:Cfg)(i k:Nat):lG:=[w8 c i ⟨3,k,(s.snd i k).s%65536,0,0,0⟩,w8 c i ⟨2,k,(s.rcv i k).mC c.room%65536,0,0,0⟩]
def sI (s:NS)(c:Cfg)(i k:Nat):lG:=(List.range k).flatMap (exF s c i)
def exP (s:NS)(c:Cfg)(i:Nat):lG:=if i=0 then [] else sI s c i c.lanes
def pU (s:NS)(c:Cfg)(i:Nat):lG:=(List.range i).flatMap (exP s c)
theorem aBi (s:NS)(c:Cfg)(i k:Nat):sI s c i (k+1)=sI s c i k++exF s c i k:=by
 unfold sI;rw[aQm,List.flatMap_append];simp
theorem P9 (s:NS)(c:Cfg)(i:Nat):pU s c (i+1)=pU s c i++exP s c i:=by
 unfold pU;rw[aQm,List.flatMap_append];simp
theorem P8 (s:NS)(c:Cfg)(i:Nat): ∀k,(sI s c i k).length=2*k
 |0=>rfl
 |k+1=>by
  rw[aBi,aPZ,P8 s c i k];simp[exF];omega
theorem aBj (s:NS)(c:Cfg)(h3:c.lanes<=3): ∀i,(pU s c i).length<=6*i
 |0=>by simp[pU]
 |i+1=>by
  rw[P9,aPZ];have:=aBj s c h3 i;have:(exP s c i).length<=6:=by
   unfold exP;split
   ·simp
   ·rw[P8]
    omega
  omega
theorem aOV (s:NS)(c:Cfg):tF c s=pU s c c.aL:=by
 unfold tF pU Cfg.aL;rw[List.range_succ_eq_map,List.flatMap_cons,List.flatMap_map];have:exP s c 0=[]:=rfl;rw[this,List.nil_append];rfl
section
variable {H0 Hs H : aE} {Fs F : Part → Nat → Prop} {y : Lay} {p : PlanD} {ev wv nv : Value} {c : Cfg} {t : Nat} {s : NS} {m : Nat} {vb cb : Nat} {outs : lG}
theorem aOU (k q:Nat):bld prog 39 [(0,.int .u8 3),(1,.int .u8 k),(2,.int .u16 q)]=some (frV ⟨3,k,q,0,0,0⟩):=rfl
theorem aOT (k q:Nat):bld prog 39 [(0,.int .u8 2),(1,.int .u8 k),(2,.int .u16 q)]=some (frV ⟨2,k,q,0,0,0⟩):=rfl
theorem aBk (a k q:Nat)(ha:a<256)(hk:k<256):(⟨a,k,q%65536,0,0,0⟩:Frm).ok:=⟨ha,hk,Nat.mod_lt _ aC,by show 0<256;decide,by show 0<256;decide,by show 0<4294967296;decide⟩
theorem aOW {i:Nat}(h1:1<=i)(hi:i<c.aL)(h3:c.lanes<=3)(ht:t<100000000)(hol:outs.length<900)(hm:220<m){K:Ex->K (Value×aE)}{Q:aE->Value->Prop}
  (hK: ∀H',TickS H0 Hs H' Fs F y p ev wv nv c t s vb cb (outs++sI s c i c.lanes)-> ∀(x2 x3 x4 x5 x6 x7 x8 x9 bG aQ aO aT aU aR bA bK bX bJ bE aV aW aX aY aZ bB bC bH bI bM bN bO bP bQ bR bS bT bU bY cA cD cE cI cJ:Value),∃H2 r,Fk (lvl prog pkN m) (aJ m) K (pt y.nb) (sH vb cb) x2 x3 x4 x5 x6 x7 x8 x9 bG (iX y c) (.I c.aL) (.I (i:Nat)) aQ aO aT aU aR bA bK bX bJ bE aV aW aX aY aZ bB bC bH bI bM bN bO bP bQ bR bS bT bU bY cA cD cE cI cJ H'=some (r,H2)/\Q H2 r):
  ∀(q k l:Nat)(H:aE),c.lanes-k=q->k<=c.lanes->q<l->TickS H0 Hs H Fs F y p ev wv nv c t s vb cb (outs++sI s c i k)-> ∀(x2 x3 x5 x6 x7 x8 x9 bG aQ aO aT aU aR bJ bE aV aW aX aY aZ bB bC bH bI bM bN bO bP bQ bR bS bT bU bY cA cD cE cI cJ:Value),
  ∃H2 r,aJ l (aM prog (lvl prog pkN m) (aJ m) Oe) (Og (lvl prog pkN m) (aJ m) K) [(pt y.nb),(sH vb cb),x2,x3,(.I (i:Nat)),x5,x6,x7,x8,x9,bG,(iX y c),(.I c.aL),(.I (i:Nat)),aQ,aO,aT,aU,aR,(mR y c i),(.I c.lanes),(.I (k:Nat)),bJ,bE,aV,aW,aX,aY,aZ,bB,bC,bH,bI,bM,bN,bO,bP,bQ,bR,bS,bT,bU,bY,cA,cD,cE,cI,cJ] H=some (r,H2)/\Q H2 r:=by
 intro q;induction q with
 |zero=>
  intro k l H hq hk hl h;intros;obtain⟨l,rfl⟩: ∃l',l=l'+1:=⟨l-1,by omega⟩
  have hke:k=c.lanes:=U
  subst hke;have c1:decide ((c.lanes:Int)<(c.lanes:Int))=false:=by simp
  rw[aJ,Oc];simp -implicitDefEqProofs only[gsR,c1];rw[Y2];exact hK H h ..
 |succ q ih=>
  intro k l H hq hk hl h;intros;obtain⟨l,rfl⟩: ∃l',l=l'+1:=⟨l-1,by omega⟩
  have hkl:k<c.lanes:=U
  have c1:decide ((k:Int)<(c.lanes:Int))=true:=by rw[decide_eq_true_eq];omega
  have hil:=P8 s c i k;obtain⟨b,o,a1,a2,_,_⟩:=h.node.Bu h1 hi hkl;have a2:ldN 2 (.Q b o) H=some (.agg #[pt (y.sb i k),pt (y.rb i k)],H):=a2;obtain⟨H1,hH1⟩:=aD (H++[fM (pt (y.sb i k)) (pt (y.rb i k))]);have x1:Ext H H1:=by rw[hH1];exact Fr.app _ _ _
  have g1:=h.ext x1;have st:=P4 H (pt (y.sb i k)) (pt (y.rb i k)) rfl;rw[<-hH1] at st;have b1:H1[H.length]? =some (fM (pt (y.sb i k)) (pt (y.rb i k))):=by rw[hH1];exact dS _ _
  have l0:=(uG b1).2.1;have s1:=aLD (m:=m) U (g1.node.Gm h1 hi hkl)
  have ek:IntKind.u8.wrap (k:Int)=(k:Int):=by rw[Ak];omega
  have e1:IntKind.u16.wrap ((s.snd i k).s:Int)=(((s.snd i k).s%65536:Nat):Int):=Ba _;obtain⟨H2,r1,g2,k2⟩:=P6 g1 (m:=m) U hi (aBk 3 k (s.snd i k).s aC U) (by rw[aPZ];omega)
  have hvb:H.length≠vb:=λhh=>by
   obtain⟨v,us,r,_⟩:=h.rows;have:=dK r;omega
  have b2:H2[H.length]? =some (fM (pt (y.sb i k)) (pt (y.rb i k))):=k2 _ _ _ _ b1 aC hvb
  have l1:=(uG b2).2.2;have s2:=aLy (m:=m) U (g2.node.Gk h1 hi hkl) (g2.node.Gl U i k)
  have e2:IntKind.u16.wrap (((s.rcv i k).mC c.room:Nat):Int)=(((s.rcv i k).mC c.room%65536:Nat):Int):=Ba _;obtain⟨H3,r2,g3,_⟩:=P6 g2 (m:=m) U hi (aBk 2 k ((s.rcv i k).mC c.room) aC U) (by simp only[aPZ,aP9,List.length_nil];omega)
  have e9:=oK k U
  have hto:kL c i=c.by'.getD (i-1) 0:=by unfold kL;rw[if_neg U]
  have hnext:outs++sI s c i k++[(kL c i,tE ⟨3,k,(s.snd i k).s%65536,0,0,0⟩)]++[(kL c i,tE ⟨2,k,(s.rcv i k).mC c.room%65536,0,0,0⟩)]=outs++sI s c i (k+1):=by
   rw[aBi,hto];simp[exF,w8]
  rw[hnext] at g3;rw[aJ,Oc];simp -implicitDefEqProofs only[gsR,c1,a1,a2,Bx,st,fI _ _ iU u8U,ek,l0,s1,fI _ _ qJ nB,e1,aOU,r1,l1,s2,e2,aOT,r2,cO,e9];exact ih (k+1) l H3 U U U g3 ..
theorem aOY (h3:c.lanes<=3)(h6:c.aL<=6)(ht:t<100000000)(hol:outs.length<800)(hm:300<m):
  ∀(q i l:Nat)(H:aE),c.aL-i=q->i<=c.aL->q<l->TickS H0 Hs H Fs F y p ev wv nv c t s vb cb (outs++pU s c i)-> ∀(x2 x3 x4 x5 x6 x7 x8 x9 bG aQ aO aT aU aR bA bK bX bJ bE aV aW aX aY aZ bB bC bH bI bM bN bO bP bQ bR bS bT bU bY cA cD cE cI cJ:Value),
  ∃H2 r,aJ l (aM prog (lvl prog pkN m) (aJ m) Od) (Of (lvl prog pkN m) (aJ m)) [(pt y.nb),(sH vb cb),x2,x3,x4,x5,x6,x7,x8,x9,bG,(iX y c),(.I c.aL),(.I (i:Nat)),aQ,aO,aT,aU,aR,bA,bK,bX,bJ,bE,aV,aW,aX,aY,aZ,bB,bC,bH,bI,bM,bN,bO,bP,bQ,bR,bS,bT,bU,bY,cA,cD,cE,cI,cJ] H=some (r,H2)/\(r=aK []/\TickS H0 Hs H2 Fs F y p ev wv nv c t s vb cb (outs++tF c s)):=by
 intro q;induction q with
 |zero=>
  intro i l H hq hi hl h;intros;obtain⟨l,rfl⟩: ∃l',l=l'+1:=⟨l-1,by omega⟩
  have hie:i=c.aL:=U
  subst hie;have c1:decide ((c.aL:Int)<(c.aL:Int))=false:=by simp
  rw[aJ,Y1];simp -implicitDefEqProofs only[gsR,c1];rw[aK3];rw[aOV]
  exact⟨_,_,rfl,rfl,h⟩
 |succ q ih=>
  intro i l H hq hi hl h;intros;obtain⟨l,rfl⟩: ∃l',l=l'+1:=⟨l-1,by omega⟩
  have hil:i<c.aL:=U
  have c1:decide ((i:Int)<(c.aL:Int))=true:=by rw[decide_eq_true_eq];omega
  have hul:=aBj s c h3 i;obtain⟨b,o,a1,a2⟩:=h.node.xI hil;obtain⟨a3,_,_,_⟩:=a2 _ (.inl h.node);obtain⟨H1,hH1⟩:=aD (H++[nO y c i]);have x1:Ext H H1:=by rw[hH1];exact Fr.app _ _ _
  have g1:=h.ext x1;have hlv:dV [mR y c i]=true:=by unfold mR;split<;>rfl
  have st:stN 3 (.pointer (some ⟨H.length,0,none⟩)) (.agg ⟨fX y c i⟩) (H++[Blk.cells [Value.int .i64 0,.slice none 0 0,.pointer none] 94 .fix])=some (undef,H1):=by
   rw[yZ (n:=3) (vs:=fX y c i) (dS H _) aC rfl rfl (aPS 3) (by unfold fX mR;split<;>rfl),nL,hH1]
   rfl
  have b1:H1[H.length]? =some (nO y c i):=by rw[hH1];exact dS _ _
  have l1:ld1 (.Q H.length 1) H1=some (mR y c i,H1):=dC b1 rfl;have e9:=oK i U
  rw[aJ,Y1];by_cases hi0:i=0
  ·have e1:cH (mR y c i)=some (.I 0):=by unfold mR;rw[if_pos hi0];rfl
   simp -implicitDefEqProofs only[gsR,c1,a1,a3,st,l1,e1];have hx:outs++pU s c (i+1)=outs++pU s c i:=by rw[P9];unfold exP;rw[if_pos hi0,List.append_nil]
   obtain⟨m',hm'⟩: ∃m',m=m'+1:=⟨m-1,by omega⟩
   have c2:decide ((0:Int)<0)=false:=rfl;rw[show aJ m=aJ (m'+1) by rw[hm'],aJ,<-hm',Oc]
   simp -implicitDefEqProofs only[gsR,c2];rw[Y2];unfold Fk;simp -implicitDefEqProofs only[gsR,cO,e9];exact ih (i+1) l H1 U U U (by rw[hx];exact g1) ..
  ·have e1:cH (mR y c i)=some (.I c.lanes):=by unfold mR;rw[if_neg hi0];rfl
   simp -implicitDefEqProofs only[gsR,c1,a1,a3,st,l1,e1];refine aOW (outs:=outs++pU s c i) U hil h3 ht (by rw[aPZ];omega) U ?_ c.lanes 0 m H1 U U U (by unfold sI;simpa using g1) ..
   intro H' h';intros;unfold Fk;simp -implicitDefEqProofs only[gsR,cO,e9];have hx:outs++pU s c (i+1)=outs++pU s c i++sI s c i c.lanes:=by rw[P9];unfold exP;rw[if_neg hi0,aPU]
   exact ih (i+1) l H' U U U (by rw[hx];exact h') ..
theorem aOX (h:TickS H0 Hs H Fs F y p ev wv nv c t s vb cb outs)(ht:t<100000000)(hol:outs.length<800)(hm:400<m):
  ∃H2,lvl prog pkN m (.func 53) [pt y.nb,sH vb cb] H=some (aK [],H2)/\TickS H0 Hs H2 Fs F y p ev wv nv c t s vb cb (outs++tF c s):=by
 have h6:c.aL<=6:=by have:=h.node.ok.by';unfold Cfg.aL;omega
 have main: ∃H2 r,lvl prog pkN m (.func 53) [pt y.nb,sH vb cb] H=some (r,H2)/\(r=aK []/\TickS H0 Hs H2 Fs F y p ev wv nv c t s vb cb (outs++tF c s)):=by
  refine fJ (cT rfl) U ?_
  rw[aK4];have l13:=h.node.ld 13 (iX y c) rfl;have e1:cH (iX y c)=some (.I c.aL):=rfl;simp -implicitDefEqProofs only[gsR,l13,e1];exact aOY h.node.ok.lanes.2 h6 ht hol U c.aL 0 (m-1) H U U U (by unfold pU;simpa using h) ..
 obtain⟨H2,r,g1,rfl,g2⟩:=main
 exact⟨H2,g1,g2⟩
end
theorem aBl (c:Cfg)(m:List Int): ∀(l1 l2:List Nat)(s:NS×lG),uB c m (l1++l2) s=uB c m l2 (uB c m l1 s)
 |[],_,_=>rfl
 |i::l1,l2,s=>by rw[List.cons_append,uB,uB,aBl c m l1 l2]
def iO (c:Cfg)(m:List Int)(s:NS)(i:Nat):NS×lG:=uB c m (List.range i) (s,[])
theorem Qc (c:Cfg)(m:List Int)(s:NS)(i:Nat):iO c m s (i+1)=if 0<=m.getD i 0 then((qI c (iO c m s i).1 i (m.getD i 0).toNat).1,(iO c m s i).2++(qI c (iO c m s i).1 i (m.getD i 0).toNat).2) else iO c m s i:=by
 unfold iO;rw[aQm,aBl];rfl
theorem aO3 (c:Cfg)(s:NS)(i o:Nat):(qI c s i o).2.length<=1:=by
 unfold qI;split
 ·simp
 ·simp only
  split<;>simp
theorem aO4 (c:Cfg)(s:NS)(i o:Nat):(qI c s i o).1.ticks=s.ticks:=by
 unfold qI;split
 ·rfl
 ·simp only
  split<;>rfl
theorem Qb (c:Cfg)(m:List Int)(s:NS): ∀i,(iO c m s i).2.length<=i
 |0=>by simp[iO,uB]
 |i+1=>by
  have:=Qb c m s i;have:=aO3 c (iO c m s i).1 i (m.getD i 0).toNat;rw[Qc];split
  ·simp only[aPZ]
   omega
  ·omega
theorem Qd (c:Cfg)(m:List Int)(s:NS): ∀i,(iO c m s i).1.ticks=s.ticks
 |0=>rfl
 |i+1=>by
  rw[Qc];split
  ·simp only
   rw[aO4,Qd c m s i]
  ·exact Qd c m s i
theorem aO1 (c:Cfg)(s:NS)(k:Nat):(oH c s k).ticks=s.ticks:=by
 unfold oH;split
 ·rfl
 ·split<;>rfl
theorem aO2 (c:Cfg)(s:NS):(w7 c s).ticks=s.ticks:=by
 unfold w7;have: ∀(l:List Nat)(s:NS),(l.foldl (oH c) s).ticks=s.ticks:=by
  intro l;induction l with
  |nil=>intro s;rfl
  |cons k l ih=>intro s;rw[List.foldl_cons,ih,aO1]
 exact this _ _
theorem aO0 (i:Nat)(hi:i<1000000000):IntKind.i64.wrap ((i:Int)+1)=((i+1:Nat):Int):=by rw[cZ U U];omega
section
variable {H0 Hs H : aE} {Fs F : Part → Nat → Prop} {y : Lay} {p : PlanD} {ev wv nv : Value} {c : Cfg} {t : Nat} {s : NS} {m : Nat} {vb cb : Nat} {outs : lG}
def Qa (H0 Hs:aE)(Fs:Part->Nat->Prop)(y:Lay)(p:PlanD)(ev wv nv:Value)(c:Cfg)(t:Nat)(s':NS)(vb cb:Nat)(outs:lG)(H':aE)(v:Value):Prop:=
 ∃F' us,TickS H0 Hs H' Fs F' y p ev wv nv c t s' vb cb outs/\OutR H' (λb=>Hs.length<=b/\ ¬Un F' b) v us outs
theorem NodeAt.aOZ (h:NodeAt H0 H F y p ev wv nv c t s)(hi:NInv c t {s with ticks:=s.ticks+1}):
  NodeAt H0 (H.set y.nb (vP p.bag ev wv nv y c (s.ticks+1))) F y p ev wv nv c t {s with ticks:=s.ticks+1}/\Mv (Un F) (Un F) H (H.set y.nb (vP p.bag ev wv nv y c (s.ticks+1))):=by
 have hB:=h.sep.see .node rfl xJ;refine h.Bt .node (l:=mG p.bag ev wv nv y c s.ticks) (l':=mG p.bag ev wv nv y c (s.ticks+1)) rfl xJ ?_ ?_ ?_ hi rfl ?_
 ·intro q hq
  simp only[mG,aP6,aQq] at hq;rcases hq with rfl|rfl|⟨j,hj,rfl⟩
  ·exact⟨_,aPW ..,rfl⟩
  ·exact⟨_,aP4 _ (aPW ..),rfl⟩
  ·exact⟨(y.lb (j+1),oM y c (j+1)),by simp only[mG,aP6,aQq];exact .inr (.inr ⟨j,hj,rfl⟩),rfl⟩
 ·exact⟨by simp,λb hb hn=>aPO λhh=>hn ⟨_,aPW ..,hh⟩⟩
 ·intro q hq
  have hnb:=h.nbB;simp only[mG,aP6,aQq] at hq;rcases hq with rfl|rfl|⟨j,hj,rfl⟩
  ·exact iR hnb
  ·have h2:H[y.pb]? =some (xK y c):=hB (y.pb,xK y c) (by simp[mG])
   simp only;rw[aPO (λhh=> ?_),h2]
   rw[<-hh,hnb] at h2;injection h2 with h2;injection h2 with _ h2 _
   revert h2
   decide
  ·have h2:H[y.lb (j+1)]? =some (oM y c (j+1)):=hB (y.lb (j+1),oM y c (j+1)) (by simp only[mG,aP6,aQq];exact .inr (.inr ⟨j,hj,rfl⟩))
   simp only;rw[aPO (λhh=> ?_),h2]
   rw[<-hh,hnb] at h2;injection h2 with h2;injection h2 with _ h2 _
   revert h2
   decide
 ·intro j hj
  cases j with
  |node=>exact absurd rfl hj
  |_=>rfl
theorem aO5 (h:TickS H0 Hs H Fs F y p ev wv nv c t s vb cb outs)(ht:t<10000000)(hol:outs.length<700)(hm:500<m)(htk:s.ticks+1<=t+1):
  ∀(x0 x2 x5 x6 x7 x8 x9 bG b9 aS aP aQ aO aT aU aR bA bK bX bJ bE aV aW aX aY aZ bB bC bH bI bM bN bO bP bQ bR bS bT bU bY cA cD cE cI cJ cN cP cK cQ cR cW dA cX cY dD:Value),∃H2 r,Fi (lvl prog pkN m) (aJ m) x0 (pt cb) x2 (pt vb) (sH vb cb) x5 x6 x7 x8 x9 bG b9 aS aP aQ aO aT aU aR bA bK bX bJ bE aV aW aX aY aZ bB bC bH bI bM bN bO bP bQ bR bS bT bU bY cA cD cE cI cJ cN cP cK cQ cR cW dA cX cY dD H=some (r,H2)/\
   Qa H0 Hs Fs y p ev wv nv c (t+1) {s with ticks:=s.ticks+1} vb cb (if(s.ticks+1)%c.every=0 then outs++tF c s else outs) H2 r:=by
 intros;have lc:ld1 (pt cb) H=some (pt y.nb,H):=dC h.cell rfl;have l16:=h.node.ld 16 (.I s.ticks) rfl;have e1:=aO0 s.ticks U
 have hi:NInv c (t+1) {s with ticks:=s.ticks+1}:={h.node.inv.sE (Nat.le_succ t) with ticks:=htk};have hn:NodeAt H0 H F y p ev wv nv c (t+1) s:={h.node with inv:=h.node.inv.sE (Nat.le_succ t)};obtain⟨H1,hH1⟩:=aD (H.set y.nb (vP p.bag ev wv nv y c (s.ticks+1)));have st:stN 1 (.Q y.nb 16) (.I ((s.ticks+1:Nat):Int)) H=some (undef,H1):=by rw[hH1];exact lW h.node.nbB aC (by simp[P0])
 obtain⟨g1,mv1⟩:=hn.aOZ hi;rw[<-hH1] at g1 mv1;have h1:=h.uJ g1 mv1;have lc1:ld1 (pt cb) H1=some (pt y.nb,H1):=dC h1.cell rfl;have l16':=h1.node.ld 16 (.I (s.ticks+1:Nat)) rfl;have l7:=h1.node.ld 7 (.I c.every) rfl;have hev:=h.node.ok.every;have r1:bin prog .rem 3 (.I ((s.ticks+1:Nat):Int)) (.I c.every)=some (.I (((s.ticks+1)%c.every:Nat):Int)):=wT (s.ticks+1) c.every _ rfl U
 unfold Fi;by_cases hz:(s.ticks+1)%c.every=0
 ·have c1:((((s.ticks+1)%c.every:Nat):Int)==0)=true:=by rw[hz];rfl
  obtain⟨H2,x1,h2⟩:=aOX h1 (m:=m) U U U
  obtain⟨v,us,r,hr⟩:=h2.rows;have lv:ld1 (pt vb) H2=some (v,H2):=dC r rfl;simp -implicitDefEqProofs only[gsR,lc,l16,cO,e1,st,lc1,l16',l7,r1,c1,x1,lv];refine⟨_,_,rfl,F,us,?_,?_⟩
  ·rw[if_pos hz]
   exact h2
  ·rw[if_pos hz]
   exact hr
 ·have c1:((((s.ticks+1)%c.every:Nat):Int)==0)=false:=by rw[beq_eq_false_iff_ne];omega
  obtain⟨v,us,r,hr⟩:=h1.rows;have lv:ld1 (pt vb) H1=some (v,H1):=dC r rfl;simp -implicitDefEqProofs only[gsR,lc,l16,cO,e1,st,lc1,l16',l7,r1,c1,lv];refine⟨_,_,rfl,F,us,?_,?_⟩
  ·rw[if_neg hz]
   exact h1
  ·rw[if_neg hz]
   exact hr
theorem aO6 {mt:List Int}{mb:Nat}{Q:aE->Value->Prop}(hml:mt.length=c.aL)(hmr: ∀z∈mt,z= -1∨0<=z/\z<(c.aL:Int))(ht:t<9000000)(h6:c.aL<=6)(hmv:mb≠vb)(hm:500<m)
  (hK: ∀(H':aE)(F':Part->Nat->Prop),TickS H0 Hs H' Fs F' y p ev wv nv c (t+c.aL) (iO c mt s c.aL).1 vb cb (iO c mt s c.aL).2-> ∀(x0 x2 x5 x6 x7 x8 x9 bG b9 aS aP aQ aO aT aU aR bA bK bX bJ bE aV aW aX aY aZ bB bC bH bI bM bN bO bP bQ bR bS bT bU bY cA cD cE cI cJ cN cP cK cQ cR cW dA cX cY dD:Value),∃H2 r,Fi (lvl prog pkN m) (aJ m) x0 (pt cb) x2 (pt vb) (sH vb cb) x5 x6 x7 x8 x9 bG b9 aS aP aQ aO aT aU aR bA bK bX bJ bE aV aW aX aY aZ bB bC bH bI bM bN bO bP bQ bR bS bT bU bY cA cD cE cI cJ cN cP cK cQ cR cW dA cX cY dD H'=some (r,H2)/\Q H2 r):
  ∀(q i l:Nat)(H:aE)(F:Part->Nat->Prop),c.aL-i=q->i<=c.aL->q<l->TickS H0 Hs H Fs F y p ev wv nv c (t+i) (iO c mt s i).1 vb cb (iO c mt s i).2->H[mb]? =some (fE mt [])-> ¬Un F mb-> ∀(x0 x2 x5 x6 x7 x8 x9 bG b9 aS aP aQ aO aT aU aR bA bK aV aW aX aY aZ bB bC bH bI bM bN bO bP bQ bR bS bT bU bY cA cD cE cI cJ cN cP cK cQ cR cW dA cX cY dD:Value),
  ∃H2 r,aJ l (aM prog (lvl prog pkN m) (aJ m) Nn) (No (lvl prog pkN m) (aJ m)) [x0,(pt cb),x2,(pt vb),(sH vb cb),x5,x6,x7,x8,x9,bG,b9,aS,aP,aQ,aO,aT,aU,aR,bA,bK,(eH mb c.aL),(.I c.aL),(.I (i:Nat)),aV,aW,aX,aY,aZ,bB,bC,bH,bI,bM,bN,bO,bP,bQ,bR,bS,bT,bU,bY,cA,cD,cE,cI,cJ,cN,cP,cK,cQ,cR,cW,dA,cX,cY,dD] H=some (r,H2)/\Q H2 r:=by
 intro q;induction q with
 |zero=>
  intro i l H F hq hi hl h hmb hmF;intros;obtain⟨l,rfl⟩: ∃l',l=l'+1:=⟨l-1,by omega⟩
  have hie:i=c.aL:=U
  subst hie;have c1:decide ((c.aL:Int)<(c.aL:Int))=false:=by simp
  rw[aJ,Yp];simp -implicitDefEqProofs only[gsR,c1];rw[aKv];exact hK H F h ..
 |succ q ih=>
  intro i l H F hq hi hl h hmb hmF;intros;obtain⟨l,rfl⟩: ∃l',l=l'+1:=⟨l-1,by omega⟩
  have hil:i<c.aL:=U
  have c1:decide ((i:Int)<(c.aL:Int))=true:=by rw[decide_eq_true_eq];omega
  obtain⟨a1,a2⟩:=zG (c:=c.aL) hmb hml hil;have a1:cB 1 (eH mb c.aL) (.I (i:Int))=some (.Q mb i):=a1;have lc:ld1 (pt cb) H=some (pt y.nb,H):=dC h.cell rfl;have e9:=oK i U
  have hup:=Qc c mt s i;have hul:=Qb c mt s i;have hz:mt.getD i 0= -1∨0<=mt.getD i 0/\mt.getD i 0<(c.aL:Int):=by
   rw[aPR,aPP U,aQg]
   exact hmr _ (List.getElem_mem _)
  rw[aJ,Yp];by_cases hneg:0<=mt.getD i 0
  ·obtain⟨o,ho⟩: ∃o:Nat,mt.getD i 0=o:=⟨(mt.getD i 0).toNat,by omega⟩
   have c2:decide ((0:Int)<=(o:Int))=true:=by rw[decide_eq_true_eq];omega
   rw[if_pos hneg,ho,aQf] at hup;rw[ho] at a2 hz;obtain⟨H1,v,g1,rfl,g2,F1,g3,g4⟩:=aOS h (m:=m) (i:=i) (o:=o) U U hil U U hmb hmF hmv
   simp -implicitDefEqProofs only[gsR,c1,a1,a2,c2,lc,g1,cO,e9];refine ih (i+1) l H1 F1 U U U ?_ g2 g4 ..
   rw[hup];exact g3
  ·have c2:decide ((0:Int)<=mt.getD i 0)=false:=aQx hneg
   rw[if_neg hneg] at hup;simp -implicitDefEqProofs only[gsR,c1,a1,a2,c2,cO,e9];refine ih (i+1) l H F U U U ?_ hmb hmF ..
   rw[hup];exact {h with node:={h.node with inv:=h.node.inv.sE U}}
end
section
variable {H0 Hs H : aE} {Fs F : Part → Nat → Prop} {y : Lay} {p : PlanD} {ev wv nv : Value} {c : Cfg} {t : Nat} {s : NS} {m : Nat}
theorem NodeAt.aO7 {H':aE}{g' a':List Nat}(h:NodeAt H0 H F y p ev wv nv c t s)(hg:g'.length=s.g.length)(hf:Fr (λb=>b=y.ga∨b=y.aa) H H')(hB:Blks (jI y.ab y.ga y.aa g' a') H')(hi:NInv c t {s with g:=g',a:=a'}):
  NodeAt H0 H' F y p ev wv nv c t {s with g:=g',a:=a'}/\Mv (Un F) (Un F) H H':=by
 refine h.Bt .arb (l:=jI y.ab y.ga y.aa s.g s.a) (l':=jI y.ab y.ga y.aa g' a') rfl aAZ ?_ ?_ hB hi rfl ?_
 ·intro q hq
  simp only[jI,aP6,aQd,or_false] at hq;rcases hq with rfl|rfl|rfl
  ·exact⟨_,aPW ..,rfl⟩
  ·exact⟨_,aP4 _ (aPW ..),rfl⟩
  ·exact⟨_,aP4 _ (aP4 _ (aPW ..)),rfl⟩
 ·refine hf.Ag λb hb=> ?_
  rcases hb with rfl|rfl
  ·exact⟨_,aP4 _ (aPW ..),rfl⟩
  ·exact⟨_,aP4 _ (aP4 _ (aPW ..)),rfl⟩
 ·intro j hj
  cases j with
  |arb=>exact absurd rfl hj
  |_=>rfl
theorem aBm (h:NodeAt H0 H F y p ev wv nv c t s)(ht:t<8000000)(hm:600<m):
  ∃H' F' v us,lvl prog pkN m (.func 13) [pt y.nb] H=some (v,H')/\NodeAt H0 H' F' y p ev wv nv c (t+7) (vH c s).1/\Mv (Un F) (Un F') H H'/\OutR H' (λb=>H.length<=b/\ ¬Un F' b) v us (vH c s).2:=by
 have h6:c.aL<=6:=by have:=h.ok.by';unfold Cfg.aL;omega
 have hp1:1<=c.aL:=by unfold Cfg.aL;omega
 obtain⟨H1,hH1⟩:=aD (H++[pnB y.nb]);obtain⟨H2,hH2⟩:=aD (H1++[vT (.slice none 0 0)]);have e1:H++[Blk.cells (Value.cells (pt y.nb)).toList 30 .fix]=H1:=by rw[hH1];rfl
 have e2:H1++[Blk.cells [Value.slice none 0 0] 35 .fix]=H2:=by rw[hH2];rfl
 have x1:Ext H H1:=by rw[hH1];exact Fr.app _ _ _
 have x2:Ext H1 H2:=by rw[hH2];exact Fr.app _ _ _
 have h1l:H1.length=H.length+1:=by rw[hH1];simp
 have bc:H2[H.length]? =some (pnB y.nb):=by
  have:H1[H.length]? =some (pnB y.nb):=by rw[hH1];exact dS _ _
  rw[x2.2 _ (dK this) id,this]
 have bv:H2[H1.length]? =some (vT (.slice none 0 0)):=by rw[hH2];exact dS _ _
 have hnew: ∀b,H.length<=b-> ¬Un F b:=λb hb hu=>by have:=h.sep.qB b hu;omega
 have g2:=(h.iT x1).iT x2;have T2:TickS H0 H H2 F F y p ev wv nv c t s H1.length H.length []:=
  ⟨g2,Mv.pI (x1.tr x2) _,h.ext.1,bc,hnew _ (aPS _),hnew _ U,by omega,.slice none 0 0,[],bv,⟨Rw.fW,λb ⟨_,_,_,hh⟩=>(by cases hh),rfl,λi u o hu _=>(by cases hu)⟩⟩
 have lc2:ld1 (pt H.length) H2=some (pt y.nb,H2):=dC T2.cell rfl;obtain⟨H3,F3,f1,f2,f3⟩:=aOw g2 (m:=m-1) U
 have T3:=T2.uJ f2 f3;obtain⟨s1,hs1⟩:=aD (w7 c s);rw[<-hs1] at T3;have lc3:ld1 (pt H.length) H3=some (pt y.nb,H3):=dC T3.cell rfl;have n0:=T3.node.ld 0 (pt y.ab) rfl;obtain⟨H4,k1,k2,x4⟩:=aOr T3.node (m:=m-1) U U
 have T4:=T3.ext x4;have lc4:ld1 (pt H.length) H4=some (pt y.nb,H4):=dC T4.cell rfl;have n0':=T4.node.ld 0 (pt y.ab) rfl;have n6:=T4.node.ld 6 (.I c.rounds) rfl;have n6':=T3.node.ld 6 (.I c.rounds) rfl;have hI:=T4.node.inv;have hr:=T4.node.ok.rounds;obtain⟨H5,mb,r1,r2,r3,r4,r5⟩:=aNN (m:=m-1) (H:=H4) (ab:=y.ab) (ga:=y.ga) (aa:=y.aa) (g:=s1.g) (a:=s1.a) (n:=c.aL) (rows:=kR c s1 c.aL 0) (qb:=H3.length) (rounds:=c.rounds)
  (T4.node.sep.see .arb rfl aAZ) h.lay.ga hI.gl hI.al hI.g hI.a hp1 U k2 (uH _ _ _ _) (aOn U) hr.1 U U
 rw[aOo] at r2 r5;obtain⟨mt,hmt⟩:=aD (rZ (oG c s1) c.aL c.rounds s1.g s1.a);rw[<-hmt] at r2 r5;have hM:MatI c.aL mt:=by rw[hmt];exact MatI.aLZ U hI.gl hI.al hI.g hI.a
 have hi5:NInv c t {s1 with g:=mt.g,a:=mt.a}:={hI with gl:=hM.gl,al:=hM.al,g:=hM.g,a:=hM.a};obtain⟨g5,mv5⟩:=T4.node.aO7 (hM.gl.trans hI.gl.symm) r4 r5 hi5;have T5:=T4.uJ g5 mv5;obtain⟨s2,hs2⟩: ∃s2:NS,s2={s1 with g:=mt.g,a:=mt.a}:=⟨_,rfl⟩;rw[<-hs2] at T5;have hmbF: ¬Un F3 mb:=λhu=>by have:=T4.node.sep.qB mb hu;omega
 have hmbv:mb≠H1.length:=λhh=>by
  obtain⟨v,us,r,_⟩:=T4.rows;have:=dK r;omega
 have e5:cH (eH mb c.aL)=some (.I c.aL):=rfl;have hut:=Qd c mt.m s2 c.aL;have hst:s2.ticks=s.ticks:=by rw[hs2];show s1.ticks=_;rw[hs1,aO2]
 have hres:vH c s=({(iO c mt.m s2 c.aL).1 with ticks:=(iO c mt.m s2 c.aL).1.ticks+1},if((iO c mt.m s2 c.aL).1.ticks+1)%c.every=0 then(iO c mt.m s2 c.aL).2++tF c (iO c mt.m s2 c.aL).1 else(iO c mt.m s2 c.aL).2):=by
  rw[hut,hst];unfold vH iO;simp only;rw[hs2,hmt,hs1]
 have main: ∃H' v,lvl prog pkN m (.func 13) [pt y.nb] H=some (v,H')/\
   Qa H0 H F y p ev wv nv c (t+c.aL+1) {(iO c mt.m s2 c.aL).1 with ticks:=(iO c mt.m s2 c.aL).1.ticks+1} H1.length H.length (if((iO c mt.m s2 c.aL).1.ticks+1)%c.every=0 then(iO c mt.m s2 c.aL).2++tF c (iO c mt.m s2 c.aL).1 else(iO c mt.m s2 c.aL).2) H' v:=by
  refine fJ (cT rfl) U ?_
  rw[aKw];have e4:(Value.func (.func _) #[] #[pt H1.length,pt H.length])=sH H1.length H.length:=rfl;simp -implicitDefEqProofs only[gsR,e1,e2,lc2,f1,lc3,n0,k1,n0',vS,lc4,n6,n6',Bq,r1,e5];have T5':TickS H0 H H5 F F3 y p ev wv nv c (t+0) (iO c mt.m s2 0).1 H1.length H.length (iO c mt.m s2 0).2:=T5;refine aO6 (Q:=λH' v=>Qa H0 H F y p ev wv nv c (t+c.aL+1) {(iO c mt.m s2 c.aL).1 with ticks:=(iO c mt.m s2 c.aL).1.ticks+1} H1.length H.length (if((iO c mt.m s2 c.aL).1.ticks+1)%c.every=0 then(iO c mt.m s2 c.aL).2++tF c (iO c mt.m s2 c.aL).1 else(iO c mt.m s2 c.aL).2) H' v)
   hM.ml hM.m U h6 hmbv U ?_ c.aL 0 (m-1) H5 F3 U U U T5' r2 hmbF ..
  intro H' F' h';intros;have hul:=Qb c mt.m s2 c.aL;refine aO5 h' U U U ?_ ..
  rw[hut,hst];have:=h.inv.ticks;omega
 obtain⟨H',v,q1,F',us,q2,q3⟩:=main;rw[hres];refine⟨H',F',v,us,q1,{q2.node with inv:=q2.node.inv.sE U},q2.mv,q3⟩
end
theorem aBn: ∀zs:List Int,(zs.map inC).flatten=zs.map λz:Int=>Value.I z
 |[]=>rfl
 |z::zs=>by
  rw[aQi,aQn,aBn zs];rfl
theorem aBo {H:aE}{u:Value}{zs:List Int}(h:Iw H u zs)(hne:zs≠[]): ∃b cap rest,u=kG b zs.length cap/\H[b]? =some (fE zs rest):=by
 obtain⟨_,⟨rfl,h0⟩|⟨c,cap,rest,rfl,h1,h2,h3⟩⟩:=h
 ·exact absurd (aP5.mp h0) hne
 ·refine⟨c,cap,rest,rfl,?_⟩
  rw[h3,aBn];rfl
section
variable {H : aE} {m : Nat}
theorem aBp {v:Value}{ws:List Int}(hw:Is H v ws)(hok:wOk ws=true)(hm:ws.length+100<m)(hm2:m<=72057594037927936):
  ∃H' wh ww wl wc lc wr lr,lvl prog pkN m (.func 36) [v] H=some (pt wh,H')/\Ext H H'/\Blks (lI wh ww wl wc lc wr lr ws ⟨ws,0⟩) H'/\ww≠wl/\H.length<=wh/\H.length<=ww/\H.length<=wl:=by
 have hlen:=hw.fD;have hcf:lvl prog pkN (m-1) (.func 80) [v,.func (.func 79) #[] #[]] H=some (.bool (ws.any mY),H):=by
  have:=Vn (H:=H) (m:=m-1) (v:=v) (fv:= .func (.func 79) #[] #[]) (n:=ws.length) (λi=>(ws[i]?.map mY).getD false) hlen U U (λi hi=>by
   have hx:ws[i]? =some ws[i]:=aPP hi;obtain⟨b,o,g1,g2,g3⟩:=hw.fZ fA hx .i64;have l1:=(g3 H rfl).2.1 0 _ rfl;refine⟨_,_,g1,l1,?_⟩;have:=Vs (m:=m-1-1-1) U ws[i] H
   rw[hx];exact this)
  rw[this,As ws mY _ λi x h=>by rw[h];rfl]
 unfold wOk at hok;simp only[Bool.not_eq_true',Bool.or_eq_false_iff,decide_eq_false_iff_not] at hok;obtain⟨c1,c2,c3⟩:=hok;have e1:((ws.length:Int)==0)=false:=by simpa using c1
 rw[c3] at hcf;have hne:ws≠[]:=λh=>c1 (by rw[h];rfl)
 obtain⟨H1,u1,g1,g2,g3,g4⟩:=Dx (m:=m-1) hw hne U U
 obtain⟨H2,u2,q1,q2,q3,q4⟩:=Dx (m:=m-1) (hw.ext g2) hne U U
 obtain⟨ww,wc,wr,rfl,b1⟩:=aBo g3 hne;obtain⟨wl,lc,lr,rfl,b2⟩:=aBo q3 hne;have n1:=g4 ww ⟨_,_,_,rfl⟩;have n2:=q4 wl ⟨_,_,_,rfl⟩;have hb:bld prog 171 [(0,kG ww ws.length wc),(1,kG wl ws.length lc)]=some (.agg #[kG ww ws.length wc,kG wl ws.length lc,.int .i64 0]):=rfl;have e6:H2++[Blk.cells (Value.cells (.agg #[kG ww ws.length wc,kG wl ws.length lc,.int .i64 0])).toList 171 .fix]=H2++[rJ ww wl wc lc ws.length 0]:=rfl;have x3:Ext H2 (H2++[rJ ww wl wc lc ws.length 0]):=Fr.app _ _ _;have l1:=dK b1;have l2:=g2.1;have l3:=q2.1;refine⟨H2++[rJ ww wl wc lc ws.length 0],H2.length,ww,wl,wc,lc,wr,lr,dI (cT rfl) U ?_,(g2.tr q2).tr x3,λq hq=> ?_,by omega,by omega,n1,by omega⟩
 ·rw[Aq]
  simp -implicitDefEqProofs only[gsR,hlen,e1,c2,decide_false,hcf,g1,q1,hb,e6]
 ·simp only[lI,aP6,aQd,or_false] at hq
  rcases hq with rfl|rfl|rfl
  ·exact dS _ _
  ·simp only
   rw[x3.2 _ U id,q2.2 _ l1 id,b1]
  ·simp only
   rw[x3.2 _ (dK b2) id,b2]
end
theorem aBr (y:Lay)(c:Cfg)(i:Nat):dV (fX y c i)=true:=by unfold fX mR;split<;>rfl
theorem aO8 (y:Lay)(i k:Nat):dV (mF y i k)=true:=rfl
def DnB (c:Cfg)(n x i k:Nat):Prop:=(1<=i/\i<n/\k<c.lanes)∨(i=n/\k<x)
def mH (y:Lay)(c:Cfg)(n nw cs cr:Nat):Part->aE->Prop
 | .host=>λD=>HostAt D y.hb [] [] c.lanes c.queue
 | .whl i=>Blks (if i<nw then lI (y.wh i) (y.ww i) (y.wl i) (y.wc i) (y.lc i) (y.wr i) (y.lr i) c.weights ⟨c.weights,0⟩ else [])
 | .snd i k=>Blks (if DnB c n cs i k then [(y.sb i k,mE ⟨c.start,c.start+c.room⟩)] else [])
 | .rcv i k=>Blks (if DnB c n cr i k then [(y.rb i k,jK ⟨c.start,0⟩ c.room)] else [])
 |_=>Blks []
def rK (bag:Int)(ev wv nv:Value)(y:Lay)(c:Cfg)(pv:Value):Blk:=
 .cells [.pointer none,.I c.nodes,ev,.I c.lanes,.I c.room,.I c.queue,.I c.rounds,.I c.every,.I bag,wv,.int .u16 c.start,nv,.I c.me,pv,pt y.hb,.pointer none,.I 0] 89 .fix
structure BN (Hs H:aE)(F:Part->Nat->Prop)(bag:Int)(ev wv nv:Value)(y:Lay)(c:Cfg)(n nw cs cr:Nat)(pv:Value):Prop where
 ext:Ext Hs H
 sep:Sep (mH y c n nw cs cr) F H
 new: ∀b,Un F b->Hs.length<=b
 nb:H[y.nb]? =some (rK bag ev wv nv y c pv)
 nbF: ¬Un F y.nb
 nb0:Hs.length<=y.nb
 ports:Rw (fX y c) 94 3 H pv (List.range n)
 pvF: ∀b,cV pv b->Hs.length<=b/\ ¬Un F b
 lanes: ∀i,1<=i->i<n->H[y.lb i]? =some (oM y c i)/\Hs.length<=y.lb i/\ ¬Un F (y.lb i)/\c.lanes<=y.lcap i
 lne: ∀i j,1<=i->i<n->1<=j->j<n->y.lb i=y.lb j->i=j
 ww: ∀i,i<nw->y.ww i≠y.wl i
theorem B1 (y:Lay)(c:Cfg)(n nw cs cr:Nat)(i:Part):DX (mH y c n nw cs cr i):=by
 cases i with
 |host=>exact λD D' h he=>h.ext he
 |_=>exact Blks.dx _
theorem tJ {F:Part->Nat->Prop}{i:Part}{G:Nat->Prop}{b:Nat}(h:Un (updI F i G) b):Un F b∨G b:=by
 obtain⟨j,hj⟩:=h;by_cases hji:j=i
 ·rw[hji,nH] at hj
  exact .inr hj
 ·rw[fK _ _ hji] at hj
  exact .inl ⟨j,hj⟩
section
variable {Hs H : aE} {F : Part → Nat → Prop} {bag : Int} {ev wv nv : Value} {y : Lay} {c : Cfg} {n nw cs cr : Nat} {pv : Value}
theorem BN.aBq {H':aE}(h:BN Hs H F bag ev wv nv y c n nw cs cr pv)(he:Ext H H'):BN Hs H' F bag ev wv nv y c n nw cs cr pv:=by
 refine {h with ext:=h.ext.tr he,sep:=h.sep.ext (B1 _ _ _ _ _ _) he,nb:=by rw[he.2 _ (dK h.nb) id,h.nb],ports:=h.ports.fG λb hb=>he.2 b (h.ports.fY hb) id,lanes:=λi h1 h2=> ?_}
 obtain⟨q1,q2⟩:=h.lanes i h1 h2
 exact⟨by rw[he.2 _ (dK q1) id,q1],q2⟩
theorem BN.Qf {H':aE}{y':Lay}{nw' cs' cr':Nat}(h:BN Hs H F bag ev wv nv y c n nw cs cr pv)(i:Part){l:List (Nat×Blk)}(hB:Blks l H')(he:Ext H H')(hn: ∀q∈l,H.length<=q.1)(hi: ∀b,¬F i b)
  (hcon: ∀j D,updI (mH y c n nw cs cr) i (Blks l) j D->mH y' c n nw' cs' cr' j D)(e1:y'.nb=y.nb)(e2:y'.hb=y.hb)(e3: ∀i,i<n->fX y' c i=fX y c i)(e4:y'.lb=y.lb)(e5:y'.lcap=y.lcap)(e6: ∀i,1<=i->i<n->oM y' c i=oM y c i)(e7: ∀i,i<nw'->y'.ww i≠y'.wl i):
  BN Hs H' (updI F i (InB l)) bag ev wv nv y' c n nw' cs' cr' pv:=by
 have hlt: ∀b,InB l b->b<H'.length:=λb hb=>by
  obtain⟨q,hq,rfl⟩:=hb;exact dK (hB q hq)
 have hge: ∀b,InB l b->H.length<=b:=λb hb=>by
  obtain⟨q,hq,rfl⟩:=hb;exact hn q hq
 have hhas:Has (Blks l) (InB l) H':=Has.Ge hB (λq hq=>⟨q,hq,rfl⟩) hlt
 have hs:=h.sep.Gf i (B1 _ _ _ _ _ _) hi hhas he hge;have hun: ∀b,b<H.length-> ¬Un F b-> ¬Un (updI F i (InB l)) b:=λb hb hF hu=>(tJ hu).elim hF λhg=>by have:=hge b hg;omega
 refine⟨h.ext.tr he,hs.wO hcon,λb hb=> ?_,?_,?_,by rw[e1];exact h.nb0,?_,λb hb=>⟨(h.pvF b hb).1,hun b (h.ports.fY hb) (h.pvF b hb).2⟩,λj h1 h2=> ?_,λi j=>by rw[e4];exact h.lne i j,e7⟩
 ·rcases tJ hb with hb|hb
  ·exact h.new b hb
  ·exact aP3 h.ext.1 (hge b hb)
 ·rw[e1,he.2 _ (dK h.nb) id,h.nb]
  unfold rK;rw[e2]
 ·rw[e1]
  exact hun _ (dK h.nb) h.nbF
 ·have hk:=h.ports.fG (H':=H') λb hb=>he.2 b (h.ports.fY hb) id
  have em:(List.range n).map (fX y' c)=(List.range n).map (fX y c):=List.map_congr_left λi hi=>e3 i (aQr.mp hi)
  unfold Rw at hk⊢;rw[em];exact hk
 ·obtain⟨q1,q2,q3,q4⟩:=h.lanes j h1 h2
  rw[e4,e5,e6 j h1 h2]
  exact⟨by rw[he.2 _ (dK q1) id,q1],q2,hun _ (dK q1) q3,q4⟩
theorem nZ {α:Type}(f:Nat->α)(i:Nat)(x:α):up1 f i x i=x:=if_pos rfl
theorem nP {α:Type}(f:Nat->α){i j:Nat}(x:α)(h:j≠i):up1 f i x j=f j:=if_neg h
theorem Gt {α:Type}(f:Nat->Nat->α)(i k:Nat)(x:α):up2 f i k x i k=x:=if_pos ⟨rfl,rfl⟩
theorem zL {α:Type}(f:Nat->Nat->α){i k j l:Nat}(x:α)(h: ¬(j=i/\l=k)):up2 f i k x j l=f j l:=if_neg h
theorem BN.whl {H':aE}(h:BN Hs H F bag ev wv nv y c n n 0 0 pv)(hF: ∀i,n<=i-> ∀b,¬F (.whl i) b){wh ww wl wc lc:Nat}{wr lr:List Value}(hB:Blks (lI wh ww wl wc lc wr lr c.weights ⟨c.weights,0⟩) H')(he:Ext H H')(hne:ww≠wl)(h1:H.length<=wh)(h2:H.length<=ww)(h3:H.length<=wl):
  BN Hs H' (updI F (.whl n) (InB (lI wh ww wl wc lc wr lr c.weights ⟨c.weights,0⟩))) bag ev wv nv {y with wh:=up1 y.wh n wh,ww:=up1 y.ww n ww,wl:=up1 y.wl n wl,wc:=up1 y.wc n wc,lc:=up1 y.lc n lc,wr:=up1 y.wr n wr,lr:=up1 y.lr n lr} c n (n+1) 0 0 pv:=by
 refine h.Qf (.whl n) hB he (λq hq=> ?_) (hF n (aPS _)) (λj D hD=> ?_) rfl rfl (λi hi=> ?_) rfl rfl (λ_ _ _=>rfl) λi hi=> ?_
 ·simp only[lI,aP6,aQd,or_false] at hq
  rcases hq with rfl|rfl|rfl
  ·exact h1
  ·exact h2
  ·exact h3
 ·cases j with
  |whl i=>
   by_cases hi:i=n
   ·subst hi
    rw[nH] at hD;simp only[mH];rw[if_pos (Nat.lt_succ_self _),nZ,nZ,nZ,nZ,nZ,nZ,nZ];exact hD
   ·rw[fK _ _ (λhh=>hi (by injection hh))] at hD
    simp only[mH] at hD⊢;rw[nP _ _ hi,nP _ _ hi,nP _ _ hi,nP _ _ hi,nP _ _ hi,nP _ _ hi,nP _ _ hi];by_cases hin:i<n
    ·rw[if_pos hin] at hD
     rw[if_pos U]
     exact hD
    ·rw[if_neg hin] at hD
     rw[if_neg U]
     exact hD
  |_=>
   rw[fK _ _ (λhh=>by cases hh)] at hD
   exact hD
 ·unfold fX mR
  simp only;rw[nP _ _ U]
 ·simp only
  by_cases hin:i=n
  ·subst hin
   rw[nZ,nZ];exact hne
  ·rw[nP _ _ hin,nP _ _ hin]
   exact h.ww i U
theorem BN.snd {k b:Nat}(h:BN Hs H F bag ev wv nv y c n (n+1) k k pv)(hF: ∀b,¬F (.snd n k) b)(hb:b=H.length):
  BN Hs (H++[mE ⟨c.start,c.start+c.room⟩]) (updI F (.snd n k) (InB [(b,mE ⟨c.start,c.start+c.room⟩)])) bag ev wv nv {y with sb:=up2 y.sb n k b} c n (n+1) (k+1) k pv:=by
 subst hb;refine h.Qf (.snd n k) (λq hq=> ?_) (Fr.app _ _ _) (λq hq=> ?_) hF (λj D hD=> ?_) rfl rfl (λi hi=>rfl) rfl rfl (λi h1 h2=> ?_) h.ww
 ·simp only[aP6,aQd,or_false] at hq
  subst hq;exact dS _ _
 ·simp only[aP6,aQd,or_false] at hq
  subst hq;exact aPS _
 ·cases j with
  |snd i k'=>
   by_cases hi:i=n/\k'=k
   ·obtain⟨rfl,rfl⟩:=hi
    rw[nH] at hD;simp only[mH];rw[if_pos (.inr ⟨rfl,Nat.lt_succ_self _⟩),Gt];exact hD
   ·rw[fK _ _ (λhh=>hi (by injection hh with h1 h2;exact⟨h1,h2⟩))] at hD
    simp only[mH] at hD⊢;rw[zL _ _ hi];by_cases hd:DnB c n k i k'
    ·rw[if_pos hd] at hD
     rw[if_pos (by unfold DnB at hd ⊢; omega)]
     exact hD
    ·rw[if_neg hd] at hD
     rw[if_neg (by unfold DnB at hd ⊢; omega)]
     exact hD
  |_=>
   rw[fK _ _ (λhh=>by cases hh)] at hD
   exact hD
 ·have: ∀k',mF {y with sb:=up2 y.sb n k H.length} i k'=mF y i k':=λk'=>by
   unfold mF;simp only;rw[zL _ _ U]
  unfold oM;rw[List.map_congr_left λk' _=>this k']
theorem BN.rcv {k b:Nat}(h:BN Hs H F bag ev wv nv y c n (n+1) (k+1) k pv)(hF: ∀b,¬F (.rcv n k) b)(hb:b=H.length):
  BN Hs (H++[jK ⟨c.start,0⟩ c.room]) (updI F (.rcv n k) (InB [(b,jK ⟨c.start,0⟩ c.room)])) bag ev wv nv {y with rb:=up2 y.rb n k b} c n (n+1) (k+1) (k+1) pv:=by
 subst hb;refine h.Qf (.rcv n k) (λq hq=> ?_) (Fr.app _ _ _) (λq hq=> ?_) hF (λj D hD=> ?_) rfl rfl (λi hi=>rfl) rfl rfl (λi h1 h2=> ?_) h.ww
 ·simp only[aP6,aQd,or_false] at hq
  subst hq;exact dS _ _
 ·simp only[aP6,aQd,or_false] at hq
  subst hq;exact aPS _
 ·cases j with
  |rcv i k'=>
   by_cases hi:i=n/\k'=k
   ·obtain⟨rfl,rfl⟩:=hi
    rw[nH] at hD;simp only[mH];rw[if_pos (.inr ⟨rfl,Nat.lt_succ_self _⟩),Gt];exact hD
   ·rw[fK _ _ (λhh=>hi (by injection hh with h1 h2;exact⟨h1,h2⟩))] at hD
    simp only[mH] at hD⊢;rw[zL _ _ hi];by_cases hd:DnB c n k i k'
    ·rw[if_pos hd] at hD
     rw[if_pos (by unfold DnB at hd ⊢; omega)]
     exact hD
    ·rw[if_neg hd] at hD
     rw[if_neg (by unfold DnB at hd ⊢; omega)]
     exact hD
  |_=>
   rw[fK _ _ (λhh=>by cases hh)] at hD
   exact hD
 ·have: ∀k',mF {y with rb:=up2 y.rb n k H.length} i k'=mF y i k':=λk'=>by
   unfold mF;simp only;rw[zL _ _ U]
  unfold oM;rw[List.map_congr_left λk' _=>this k']
theorem BN.Qe {H':aE}{N:Nat->Prop}{pv':Value}{n':Nat}(h:BN Hs H F bag ev wv nv y c n nw cs cr pv)(hf:Fr N H H')(hN: ∀b,N b-> ¬Un F b/\Hs.length<=b):
  Ext Hs H'/\Sep (mH y c n nw cs cr) F H':=by
 have hm:Mv N N H H':=⟨hf.1,λ_ h=> .inl h,λb hb hn=>hf.2 b hb hn⟩
 refine⟨⟨aP3 h.ext.1 hf.1,λa ha _=> ?_⟩,h.sep.wP (B1 _ _ _ _ _ _) hm λa ha hh=>(hN a hh).1 ha⟩
 rw[hf.2 a (aP2 ha h.ext.1) (λhh=>by have:=(hN a hh).2;omega),h.ext.2 a ha id]
end
theorem aBt {α:Type}(f:α->Bool): ∀l:List α,l.length=(l.filter f).length+(l.filter λx=> !f x).length
 |[]=>rfl
 |x::l=>by
  have:=aBt f l;rw[List.filter_cons,List.filter_cons];cases f x
  ·simp
   omega
  ·simp
   omega
theorem aBs {p:PlanD}{me:Nat}(h:kM p=true)(hm:(me:Int)<p.nodes)(hs:0<=p.start/\p.start<65536):(jJ p me).ok/\p.nodes=((jJ p me).nodes:Int)/\p.lanes=((jJ p me).lanes:Int)/\p.room=((jJ p me).room:Int)/\p.queue=((jJ p me).queue:Int)/\p.rounds=((jJ p me).rounds:Int)/\p.every=((jJ p me).every:Int)/\p.start=((jJ p me).start:Int)/\
  (∀i,i<(bes p.edges me).length->(bes p.edges me)[i]? =some (((jJ p me).by'.getD i 0:Nat):Int))/\wOk p.weights=true:=by
 obtain⟨n,hok⟩:=vE h;have h':=h;unfold kM u7 tV u9 wi at h;simp only[aPV,decide_eq_true_eq,Bool.not_eq_true'] at h;obtain⟨⟨⟨a1,a2⟩,⟨b1,b2⟩,⟨c1,c2⟩,⟨d1,d2⟩,⟨e1,e2⟩,⟨f1,f2⟩,g1,g2⟩,⟨h3,h4⟩,hwl,hwo,h5,h6⟩:=h;have hw:=hwo;unfold wOk at hwo;simp only[Bool.not_eq_true',Bool.or_eq_false_iff,decide_eq_false_iff_not] at hwo;obtain⟨w1,w2,w3⟩:=hwo;rw[List.any_eq_false] at w3;have hmem: ∀w∈bes p.edges me,0<=w/\w<(n:Int)/\w≠me:=λw hw=>by
  rw[Wf] at hw;obtain⟨q1,q2⟩:=hw;rcases q2 with q2|q2
  ·have:=hok.ve.ok _ q2
   unfold okE at this;simp only at this;omega
  ·have:=hok.ve.ok _ q2
   unfold okE at this;simp only at this;omega
 have hn:=hok.hn;have hpw:=Av p.edges me;have hlen:(bes p.edges me).length<=5:=by
  have k1:=D8 ((bes p.edges me).filter λw=>decide (w<me)) 0 ((me:Int)-1) (hpw.sublist List.filter_sublist) (λx hx=>by
   obtain⟨y1,y2⟩:=List.mem_filter.mp hx;have:=hmem x y1;rw[decide_eq_true_eq] at y2;omega) U
  have k2:=D8 ((bes p.edges me).filter λw=> !decide (w<me)) ((me:Int)+1) ((n:Int)-1) (hpw.sublist List.filter_sublist) (λx hx=>by
   obtain⟨y1,y2⟩:=List.mem_filter.mp hx;have:=hmem x y1;simp only[Bool.not_eq_true',decide_eq_false_iff_not] at y2;omega) U
  have k3:=aBt (λw=>decide (w<(me:Int))) (bes p.edges me)
  have:=hok.h6;omega
 have hget: ∀i,i<(bes p.edges me).length->(bes p.edges me)[i]? =some (((jJ p me).by'.getD i 0:Nat):Int):=λi hi=>by
  have hx:=hmem _ (List.getElem_mem hi);show _=some (((((bes p.edges me).map Int.toNat).getD i 0:Nat)):Int)
  rw[aPR,aP0,aPP hi,Option.map_some,aQg,Int.toNat_of_nonneg hx.1]
 have hbl:(jJ p me).by'.length=(bes p.edges me).length:=by show((bes p.edges me).map Int.toNat).length=_;simp
 refine⟨⟨?_,?_,?_,?_,?_,?_,?_,?_,?_,?_,?_,?_,?_,?_⟩,?_,?_,?_,?_,?_,?_,?_,hget,hw⟩
 ·show 2<=p.nodes.toNat/\p.nodes.toNat<=6
  omega
 ·show 1<=p.lanes.toNat/\p.lanes.toNat<=3
  omega
 ·show 1<=p.room.toNat/\p.room.toNat<=8
  omega
 ·show 1<=p.queue.toNat/\p.queue.toNat<=8
  omega
 ·show 1<=p.rounds.toNat/\p.rounds.toNat<=4
  omega
 ·show 1<=p.every.toNat/\p.every.toNat<=8
  omega
 ·show p.weights.length=p.lanes.toNat
  omega
 ·intro x hx
  have:=w3 x hx;unfold mY at this;simp only[Bool.or_eq_true,decide_eq_true_eq,not_or] at this;omega
 ·show p.start.toNat<65536
  omega
 ·show me<p.nodes.toNat
  omega
 ·rw[hbl]
  exact hlen
 ·intro w hw
  obtain⟨z,hz,rfl⟩:=aQq.mp hw;have:=hmem z hz;show z.toNat<p.nodes.toNat/\z.toNat≠me
  omega
 ·show((bes p.edges me).map Int.toNat).Nodup
  unfold List.Nodup;rw[List.pairwise_map];refine List.Pairwise.imp_of_mem (λ{a b} ha hb hab=> ?_) hpw
  have h1:=hmem a ha;have h2:=hmem b hb;omega
 ·intro d hd
  show(if d=me then 0 else _)<(jJ p me).by'.length+1
  split
  ·omega
  ·split
   ·rename_i j hj
    have:=(List.findIdx?_eq_some_iff_getElem.mp hj).1;show j+1<((bes p.edges me).map Int.toNat).length+1
    omega
   ·omega
 ·show p.nodes=(p.nodes.toNat:Int)
  omega
 ·show p.lanes=(p.lanes.toNat:Int)
  omega
 ·show p.room=(p.room.toNat:Int)
  omega
 ·show p.queue=(p.queue.toNat:Int)
  omega
 ·show p.rounds=(p.rounds.toNat:Int)
  omega
 ·show p.every=(p.every.toNat:Int)
  omega
 ·show p.start=(p.start.toNat:Int)
  omega
def rM (c:Cfg)(n nw cs cr:Nat):Part->Prop
 | .host=>True
 | .whl i=>i<nw
 | .snd i k=>DnB c n cs i k
 | .rcv i k=>DnB c n cr i k
 |_=>False
def FE (F:Part->Nat->Prop)(c:Cfg)(n nw cs cr:Nat):Prop:= ∀j,¬rM c n nw cs cr j-> ∀b,¬F j b
theorem FE.Gu {F:Part->Nat->Prop}{c:Cfg}{n nw cs cr n' nw' cs' cr':Nat}{i:Part}{G:Nat->Prop}(h:FE F c n nw cs cr)(hi:rM c n' nw' cs' cr' i)(hm: ∀j,rM c n nw cs cr j->rM c n' nw' cs' cr' j):FE (updI F i G) c n' nw' cs' cr':=λj hj b hb=>by
 by_cases hji:j=i
 ·exact hj (by rw[hji];exact hi)
 ·rw[fK _ _ hji] at hb
  exact h j (λhd=>hj (hm j hd)) b hb
def Krow (H H':aE):Prop:= ∀(b:Nat)(cs:List Value),H[b]? =some (.cells cs 3 .row)->H'[b]? =some (.cells cs 3 .row)
theorem Krow.ext {H0 H H':aE}(h:Krow H0 H)(he:Ext H H'):Krow H0 H':=λb cs hb=>by
 have:=h b cs hb;rw[he.2 _ (dK this) id,this]
theorem Krow.iw {H H':aE}{v:Value}{zs:List Int}(h:Krow H H')(hv:Iw H v zs):Iw H' v zs:=hv.fG λb hb=>by
 obtain⟨cs,hc⟩:=hv.blk hb;rw[hc,h b cs hc]
section
variable {Hs H : aE} {F : Part → Nat → Prop} {bag : Int} {ev wv nv : Value} {y : Lay} {c : Cfg} {n nw cs cr : Nat} {pv : Value} {m : Nat}
theorem BN.aO9 {H':aE}{N:Nat->Prop}(h:BN Hs H F bag ev wv nv y c n nw cs cr pv)(hf:Fr N H H')(hN: ∀b,N b->b<H.length-> ¬Un F b/\Hs.length<=b/\b≠y.nb/\ ¬cV pv b/\ ∀i,1<=i->i<n->b≠y.lb i):BN Hs H' F bag ev wv nv y c n nw cs cr pv:=by
 have hf':Fr (λb=>N b/\b<H.length) H H':=⟨hf.1,λb hb hn=>hf.2 b hb λhh=>hn ⟨hh,hb⟩⟩
 obtain⟨x1,x2⟩:=h.Qe (pv':=pv) (n':=n) hf' λb hb=>⟨(hN b hb.1 hb.2).1,(hN b hb.1 hb.2).2.1⟩
 have hnb:=dK h.nb;refine {h with ext:=x1,sep:=x2,nb:= ?_,ports:=h.ports.fG λb hb=>hf.2 b (h.ports.fY hb) λhh=>(hN b hh (h.ports.fY hb)).2.2.2.1 hb,lanes:=λi h1 h2=> ?_}
 ·rw[hf.2 _ hnb (λhh=>(hN _ hh hnb).2.2.1 rfl),h.nb]
 ·obtain⟨q1,q2⟩:=h.lanes i h1 h2
  have hl:=dK q1
  exact⟨by rw[hf.2 _ hl (λhh=>(hN _ hh hl).2.2.2.2 i h1 h2 rfl),q1],q2⟩
structure XN (Hs H:aE)(F:Part->Nat->Prop)(y:Lay)(n k xb:Nat)(w:Nat)(lv:Value):Prop where
 blk:H[xb]? =some (.cells [.I w,lv,pt (y.wh n)] 94 .fix)
 xF: ¬Un F xb
 x0:Hs.length<=xb
 rows:Rw (mF y n) 100 2 H lv (List.range k)
 lvF: ∀b,cV lv b->Hs.length<=b/\ ¬Un F b/\ ∀i,1<=i->i<n->b≠y.lb i
theorem aPa {b:Nat}{a1 a2:Nat}(H:aE):bld prog 100 [(0,pt a1),(1,pt a2)]=some (.agg #[pt a1,pt a2])/\dG 100 2 1 [.pointer none,.pointer none] [(0,.agg #[pt a1,pt a2])] H=some (.slice (some ⟨H.length,0,none⟩) 1 1,H++[.cells [pt a1,pt a2] 100 .row]):=⟨rfl,rfl⟩
theorem aPb {p:PlanD}{pl i w xb len:Nat}{bv:Value}(hok:c.ok)(hpl:Hs[pl]? =some (plB p ev wv nv))(h1:1<=n)(e3:p.room=(c.room:Int))(e9:p.start=(c.start:Int))(hm:50<m){nb:Nat}{Hb:aE}{K:Ex->K (Value×aE)}{Q:aE->Value->Prop}
    (hK: ∀H' F' y' lv,y'.nb=nb->BN Hs H' F' bag ev wv nv y' c n (n+1) c.lanes c.lanes pv->FE F' c n (n+1) c.lanes c.lanes->XN Hs H' F' y' n c.lanes xb w lv->Krow Hb H'-> ∀(x0 x1 x3 x4 x6 x7 x9 bG b9 aS aP aQ aO aT aU aR bA bK bX bJ bE aV aW aX aY aZ bB bC bH bI bM bN bO bP bQ bR bS bT bU bY cA cD cE cI cK cQ cR cW dA cX cY dD dF dL dH dM dU dW dY dZ eA eC eD eE eF eM eN eO eP eQ eS eT eU eV eW eX eY fN fO fP fQ fR fS fT fU gC gD gE gF gG gH gI gJ gK gL gM gN gO gP gQ gR gS gT gU gV gW gX gY gZ hZ iA iB iC iD iE iF iG iH:Value),∃H2 r,Ni (lvl prog pkN m) (aJ m) K x0 x1 (pt pl) x3 x4 (pt nb) x6 x7 (pt xb) x9 bG b9 aS aP aQ aO aT aU aR bA bK bX bJ bE aV aW aX aY aZ bB bC bH bI bM bN bO bP bQ bR bS bT bU bY cA cD cE cI bv (.I len) (.I (i:Nat)) cK cQ cR cW dA cX cY dD dF dL dH dM dU dW dY dZ eA eC eD eE eF eM eN eO eP eQ eS eT eU eV eW eX eY fN fO fP fQ fR fS fT fU gC gD gE gF gG gH gI gJ gK gL gM gN gO gP gQ gR gS gT gU gV gW gX gY gZ hZ iA iB iC iD iE iF iG iH H'=some (r,H2)/\Q H2 r):
    ∀(q k l:Nat)(H:aE)(F:Part->Nat->Prop)(y:Lay)(lv:Value),c.lanes-k=q->k<=c.lanes->q<l->y.nb=nb->BN Hs H F bag ev wv nv y c n (n+1) k k pv->FE F c n (n+1) k k->XN Hs H F y n k xb w lv->Krow Hb H-> ∀(x0 x1 x3 x4 x6 x7 x9 bG b9 aS aP aQ aO aT aU aR bA bK bX bJ bE aV aW aX aY aZ bB bC bH bI bM bN bO bP bQ bR bS bT bU bY cA cD cE cI cK cQ cR cW dA cX cY dD dF dM dU dW dY dZ eA eC eD eE eF eM eN eO eP eQ eS eT eU eV eW eX eY fN fO fP fQ fR fS fT fU gC gD gE gF gG gH gI gJ gK gL gM gN gO gP gQ gR gS gT gU gV gW gX gY gZ hZ iA iB iC iD iE iF iG iH:Value),
    ∃H2 r,aJ l (aM prog (lvl prog pkN m) (aJ m) Ng) (Nk (lvl prog pkN m) (aJ m) K) [x0,x1,(pt pl),x3,x4,(pt nb),x6,x7,(pt xb),x9,bG,b9,aS,aP,aQ,aO,aT,aU,aR,bA,bK,bX,bJ,bE,aV,aW,aX,aY,aZ,bB,bC,bH,bI,bM,bN,bO,bP,bQ,bR,bS,bT,bU,bY,cA,cD,cE,cI,bv,(.I len),(.I (i:Nat)),cK,cQ,cR,cW,dA,cX,cY,dD,dF,(.I c.lanes),(.I (k:Nat)),dM,dU,dW,dY,dZ,eA,eC,eD,eE,eF,eM,eN,eO,eP,eQ,eS,eT,eU,eV,eW,eX,eY,fN,fO,fP,fQ,fR,fS,fT,fU,gC,gD,gE,gF,gG,gH,gI,gJ,gK,gL,gM,gN,gO,gP,gQ,gR,gS,gT,gU,gV,gW,gX,gY,gZ,hZ,iA,iB,iC,iD,iE,iF,iG,iH] H=some (r,H2)/\Q H2 r:=by
  intro q;induction q with
  |zero=>
    intro k l H F y lv hq hk hl hnb h hfe hx hkr;intros;obtain⟨l,rfl⟩: ∃l',l=l'+1:=⟨l-1,by omega⟩
    have hke:k=c.lanes:=U
    subst hke;have c1:decide ((c.lanes:Int)<(c.lanes:Int))=false:=by simp
    rw[aJ,Ym];simp -implicitDefEqProofs only[gsR,c1];rw[aKp];exact hK H F y lv hnb h hfe hx hkr ..
  |succ q ih=>
    intro k l H F y lv hq hk hl hnb h hfe hx hkr;intros;obtain⟨l,rfl⟩: ∃l',l=l'+1:=⟨l-1,by omega⟩
    have h3:=hok.lanes.2;have hst:=hok.start;have hrm:=hok.room;have hkl:k<c.lanes:=U
    have c1:decide ((k:Int)<(c.lanes:Int))=true:=by rw[decide_eq_true_eq];omega
    have hpH: ∀G:aE,Ext Hs G->G[pl]? =some (plB p ev wv nv):=λG hG=>by rw[hG.2 _ (dK hpl) id,hpl]
    -- the ends
    obtain⟨H1,hH1⟩:=aD (H++[mE ⟨c.start,c.start+c.room⟩]);obtain⟨H2,hH2⟩:=aD (H1++[jK ⟨c.start,0⟩ c.room]);have x1:Ext H H1:=by rw[hH1];exact Fr.app _ _ _
    have x2:Ext H1 H2:=by rw[hH2];exact Fr.app _ _ _
    have h1l:H1.length=H.length+1:=by rw[hH1];simp
    have h2l:H2.length=H.length+2:=by rw[hH2];simp;omega
    have g1:=h.snd (hfe (.snd n k) (by unfold rM DnB;omega)) (b:=H.length) rfl
    rw[<-hH1] at g1;have fe1:FE _ c n (n+1) (k+1) k:=hfe.Gu (i:= .snd n k) (G:=InB [(H.length,mE ⟨c.start,c.start+c.room⟩)]) (n':=n) (nw':=n+1) (cs':=k+1) (cr':=k) (show DnB c n (k+1) n k from .inr ⟨rfl,by omega⟩) (λj hj=>by
      cases j<;>simp only[rM] at hj⊢ <;>(try exact hj)<;>(unfold DnB at hj ⊢; omega))
    have g2:=g1.rcv (fe1 (.rcv n k) (by unfold rM DnB;omega)) (b:=H1.length) rfl
    rw[<-hH2] at g2;have fe2:FE _ c n (n+1) (k+1) (k+1):=fe1.Gu (i:= .rcv n k) (G:=InB [(H1.length,jK ⟨c.start,0⟩ c.room)]) (n':=n) (nw':=n+1) (cs':=k+1) (cr':=k+1) (show DnB c n (k+1) n k from .inr ⟨rfl,by omega⟩) (λj hj=>by
      cases j<;>simp only[rM] at hj⊢ <;>(try exact hj)<;>(unfold DnB at hj ⊢; omega))
    obtain⟨F2,hF2⟩:=aD (updI (updI F (.snd n k) (InB [(H.length,mE ⟨c.start,c.start+c.room⟩)])) (.rcv n k) (InB [(H1.length,jK ⟨c.start,0⟩ c.room)]));obtain⟨y2,hy2⟩: ∃y2:Lay,y2={y with sb:=up2 y.sb n k H.length,rb:=up2 y.rb n k H1.length}:=⟨_,rfl⟩;rw[<-hF2] at g2 fe2;have g2:BN Hs H2 F2 bag ev wv nv y2 c n (n+1) (k+1) (k+1) pv:=by rw[hy2];exact g2
    have hun2: ∀b,b<H.length-> ¬Un F b-> ¬Un F2 b:=λb hb hF hu=>by
      rw[hF2] at hu;rcases tJ hu with hu|⟨q,hq,rfl⟩
      · rcases tJ hu with hu|⟨q,hq,rfl⟩
        · exact hF hu
        · simp only[aP6,aQd,or_false] at hq
          subst hq;simp at hb
      · simp only[aP6,aQd,or_false] at hq
        subst hq;simp only at hb;omega
    -- the row of one
    obtain⟨eb,es⟩:=aPa (b:=0) (a1:=H.length) (a2:=H1.length) H2;have hl2:mF y2 n k=[pt H.length,pt H1.length]:=by
      rw[hy2];unfold mF;simp only;rw[Gt,Gt]
    have hrow:Rw (mF y2 n) 100 2 H2 lv (List.range k):=by
      have hk0:=hx.rows.fG (H':=H2) λb hb=>(x1.tr x2).2 b (hx.rows.fY hb) id
      have em:(List.range k).map (mF y2 n)=(List.range k).map (mF y n):=List.map_congr_left λj hj=>by
        have hj:=aQr.mp hj;rw[hy2];unfold mF;simp only;rw[zL _ _ U,zL _ _ U]
      unfold Rw at hk0⊢;rw[em];exact hk0
    have hw1:Rr (mF y2 n) 100 (H2++[.cells [pt H.length,pt H1.length] 100 .row]) (.slice (some ⟨H2.length,0,none⟩) 1 1) [k]:=by
      have:=wM (el:=mF y2 n) (e:=100) k H2;rw[hl2] at this;exact this
    obtain⟨H3,hH3⟩:=aD (H2++[Blk.cells [pt H.length,pt H1.length] 100 .row]);have h3l:H3.length=H2.length+1:=by rw[hH3];simp
    obtain⟨lv',H4,k1,k2,k3,k4,k5⟩:=(hrow.tS [Blk.cells [pt H.length,pt H1.length] 100 .row]).wN (aA1 y2 n) (aO8 y2 n) aC (by':=16) hw1.rs (fV (n:=1000) aC (by simp;omega))
    rw[<-hH3] at k1 k3 k4 k5 es;rw[<-aQm] at k2
    -- stored
    have hxl:=dK hx.blk;have hlvx: ¬cV lv xb:=λhh=>by
      obtain⟨cs',hc'⟩:=hx.rows.blk hh;rw[hx.blk] at hc';injection hc' with hc';injection hc' with _ _ h3;cases h3
    have bx2:H2[xb]? =some (.cells [.I w,lv,pt (y.wh n)] 94 .fix):=by rw[(x1.tr x2).2 _ hxl id,hx.blk]
    have bx1:H1[xb]? =some (.cells [.I w,lv,pt (y.wh n)] 94 .fix):=by rw[x1.2 _ hxl id,hx.blk]
    have bx4:H4[xb]? =some (.cells [.I w,lv,pt (y.wh n)] 94 .fix):=by rw[k4 xb U hlvx,hH3,aPQ U,bx2]
    have sh:=Gs k2;obtain⟨H5,hH5⟩:=aD (H4.set xb (.cells [.I w,lv',pt (y.wh n)] 94 .fix));have st:stN 1 (.Q xb 1) lv' H4=some (undef,H5):=by rw[hH5];exact qH bx4 aC (by simp) sh.1 sh.2
    have hfr:Fr (λb=>b=xb∨cV lv b) H2 H5:=⟨by rw[hH5];simp;omega,λb hb hn=>by
      rw[hH5,aPO (λhh=>hn (.inl hh.symm)),k4 b U (λhh=>hn (.inr hh)),hH3,aPQ hb]⟩
    have hnbx:xb≠y.nb:=λhh=>by
      have:=h.nb;rw[<-hh,hx.blk] at this;injection this with this;injection this with _ h2 _
      revert h2
      decide
    have hpvx: ¬cV pv xb:=λhh=>by
      obtain⟨cs',hc'⟩:=h.ports.blk hh;rw[hx.blk] at hc';injection hc' with hc';injection hc' with _ _ h3;cases h3
    have hlbx: ∀i,1<=i->i<n->xb≠y.lb i:=λi a b hh=>by
      have:=(h.lanes i a b).1;rw[<-hh,hx.blk] at this;injection this with this;injection this with _ _ h3;cases h3
    have g5:BN Hs H5 F2 bag ev wv nv y2 c n (n+1) (k+1) (k+1) pv:=by
      refine g2.aO9 hfr λb hb hbl=> ?_
      have e1:y2.nb=y.nb:=by rw[hy2]
      have e2:y2.lb=y.lb:=by rw[hy2]
      rw[e1,e2];rcases hb with rfl|hb
      · exact⟨hun2 _ hxl hx.xF,hx.x0,hnbx,hpvx,hlbx⟩
      · obtain⟨q1,q2,q3⟩:=hx.lvF b hb
        have hbH:=hx.rows.fY hb;refine⟨hun2 _ hbH q2,q1,λhh=> ?_,λhh=> ?_,q3⟩
        · obtain⟨cs',hc'⟩:=hx.rows.blk hb
          rw[hh,h.nb] at hc';injection hc' with hc';injection hc' with _ _ h3;cases h3
        · obtain⟨cs',hc'⟩:=hx.rows.blk hb
          obtain⟨cs2,hc2⟩:=h.ports.blk hh;rw[hc'] at hc2;injection hc2 with hc2;injection hc2 with _ h2 _
          revert h2
          decide
    have hwh:y2.wh=y.wh:=by rw[hy2]
    have hlv'x: ¬cV lv' xb:=λhh=>by
      rcases k5 xb hh with hh|hh
      · exact hlvx hh
      · omega
    have hx5:XN Hs H5 F2 y2 n (k+1) xb w lv':=by
      refine⟨by rw[hwh,hH5];exact iR bx4,hun2 _ hxl hx.xF,hx.x0,k2.fG λb hb=>by rw[hH5];exact aPO λhh=>hlv'x (by rw[hh];exact hb),λb hb=> ?_⟩
      have e2:y2.lb=y.lb:=by rw[hy2]
      rw[e2];have hsl:=h.ext.1;rcases k5 b hb with hb|hb
      · obtain⟨q1,q2,q3⟩:=hx.lvF b hb
        exact⟨q1,hun2 _ (hx.rows.fY hb) q2,q3⟩
      · refine⟨by omega,λhu=>by have:=g2.sep.qB b hu;omega,λi a b' hh=> ?_⟩
        have:=dK (h.lanes i a b').1;omega
    -- the walk
    have hp0:=hpH H h.ext;have hp1:=hpH H1 (h.ext.tr x1);have l9:ld1 (.Q pl 9) H=some (.int .u16 c.start,H):=by rw[dE hp0 9 (.int .u16 p.start) rfl,e9]
    have l3:ld1 (.Q pl 3) H=some (.I c.room,H):=by rw[dE hp0 3 (.I p.room) rfl,e3]
    have l9':ld1 (.Q pl 9) H1=some (.int .u16 c.start,H1):=by rw[dE hp1 9 (.int .u16 p.start) rfl,e9]
    have l3':ld1 (.Q pl 3) H1=some (.I c.room,H1):=by rw[dE hp1 3 (.I p.room) rfl,e3]
    have ecs:IntKind.u64.wrap (c.start:Int)=(c.start:Int):=yX _ U
    have s1:=aLB (H:=H) (m:=m) U c.start c.room hst hrm
    have s2:=aLz (H:=H1) (m:=m) U c.start c.room hst hrm
    rw[<-hH1] at s1;rw[<-hH2] at s2;have lx:ld1 (.pointer (some ⟨xb,1,none⟩)) H=some (lv,H):=dC hx.blk rfl;have lx1:ld1 (.pointer (some ⟨xb,1,none⟩)) H1=some (lv,H1):=dC bx1 rfl;have lx2:ld1 (.pointer (some ⟨xb,1,none⟩)) H2=some (lv,H2):=dC bx2 rfl;have lvc:=λG=>aOH hx.rows G
    have ek:=oK k U
    rw[aJ,Ym];simp -implicitDefEqProofs only[gsR,c1,lx,l9,l3,fI _ _ nB qJ,ecs,s1,lx1,lvc,l9',Bq,l3',s2,lx2,eb,es,k1,st,cO,ek];refine ih (k+1) l H5 F2 y2 lv' U U U (by rw[hy2];exact hnb) g5 fe2 hx5 (λb cs hb=> ?_) ..
    have hb2:=(hkr.ext (x1.tr x2)) b cs hb;rw[hfr.2 b (dK hb2) (λhh=> ?_),hb2]
    rcases hh with rfl|hh
    · rw[bx2] at hb2
      injection hb2 with hb2;injection hb2 with _ _ h3;cases h3
    · obtain⟨cs',hc'⟩:=hrow.blk hh
      rw[hb2] at hc';injection hc' with hc';injection hc' with _ h2 _
      revert h2
      decide
end
theorem Sep.aPd {ι:Type}{A:ι->aE->Prop}{F:ι->Nat->Prop}{H:aE}(h:Sep A F H)(i:ι)(hi: ∀b,¬F i b){B:aE->Prop}{G:Nat->Prop}(hB:Has B G H)(hd: ∀b,G b-> ¬Un F b):Sep (updI A i B) (updI F i G) H:=by
 refine⟨λj=> ?_,λj k b hj hk=> ?_⟩
 ·by_cases hji:j=i
  ·rw[hji,nH,nH]
   exact hB
  ·rw[fK _ _ hji,fK _ _ hji]
   exact h.own j
 ·by_cases hji:j=i
  ·by_cases hki:k=i
   ·rw[hji,hki]
   ·rw[hji,nH] at hj
    rw[fK _ _ hki] at hk;exact absurd ⟨k,hk⟩ (hd b hj)
  ·rw[fK _ _ hji] at hj
   by_cases hki:k=i
   ·rw[hki,nH] at hk
    exact absurd ⟨j,hj⟩ (hd b hk)
   ·rw[fK _ _ hki] at hk
    exact h.sep j k b hj hk
section
variable {Hs H : aE} {F : Part → Nat → Prop} {bag : Int} {ev wv nv : Value} {y : Lay} {c : Cfg} {n nw cs cr : Nat} {pv : Value} {m : Nat}
theorem B2 (hn:1<=n)(i k:Nat):DnB c n c.lanes i k↔DnB c (n+1) 0 i k:=by
 unfold DnB
 constructor<;>intro h<;>omega
theorem BN.aPc {w xb:Nat}{lv:Value}(h:BN Hs H F bag ev wv nv y c n (n+1) c.lanes c.lanes pv)(hfe:FE F c n (n+1) c.lanes c.lanes)(hx:XN Hs H F y n c.lanes xb w lv)(hn:1<=n)(hn6:n<=6)(hl:1<=c.lanes)(hw:w=kL c n):
  ∃y' pv' H3 H4 H',y'.nb=y.nb/\dG 94 3 1 [.I 0,.slice none 0 0,.pointer none] [(0,.agg #[.I w,lv,pt (y.wh n)])] H=some (.slice (some ⟨H.length,0,none⟩) 1 1,H3)/\Go.Abs.app 94 3 40 pv (.slice (some ⟨H.length,0,none⟩) 1 1) H3=some (pv',H4)/\
   stN 1 (.Q y.nb 13) pv' H4=some (undef,H')/\BN Hs H' F bag ev wv nv y' c (n+1) (n+1) 0 0 pv'/\FE F c (n+1) (n+1) 0 0/\Krow H H':=by
 obtain⟨b,cap,rest,hlv,hcap,hlb⟩: ∃b cap rest,lv= .slice (some ⟨b,0,none⟩) c.lanes cap/\c.lanes<=cap/\H[b]? =some (.cells (((List.range c.lanes).map (mF y n)).flatten++rest) 100 .row):=by
  obtain⟨_,⟨_,h0⟩|⟨c',cap,rest,h1,h2,_,h3⟩⟩:=hx.rows
  ·rw[aQh] at h0
   omega
  ·rw[aQh] at h1 h2
   exact⟨c',cap,rest,h1,h2,h3⟩
 obtain⟨y',hy'⟩: ∃y':Lay,y'={y with lb:=up1 y.lb n b,lcap:=up1 y.lcap n cap,lrest:=up1 y.lrest n rest}:=⟨_,rfl⟩;have hbF:=hx.lvF b (by rw[hlv];exact⟨_,_,_,rfl⟩)
 have hpo: ∀i,i<n->fX y' c i=fX y c i:=λi hi=>by
  rw[hy'];unfold fX mR;simp only;rw[nP _ _ U,nP _ _ U]
 have hpn:fX y' c n=[.I w,lv,pt (y.wh n)]:=by
  rw[hy',hw,hlv];unfold fX mR;simp only;rw[if_neg U,nZ,nZ]
 have hrw:Rw (fX y' c) 94 3 H pv (List.range n):=by
  have:=h.ports;unfold Rw at this⊢;rw[List.map_congr_left λi hi=>hpo i (aQr.mp hi)]
  exact this
 have eb:dG 94 3 1 [.I 0,.slice none 0 0,.pointer none] [(0,.agg #[.I w,lv,pt (y.wh n)])] H=some (.slice (some ⟨H.length,0,none⟩) 1 1,H++[.cells [.I w,lv,pt (y.wh n)] 94 .row]):=by
  rw[hlv];rfl
 have hw1:Rr (fX y' c) 94 (H++[.cells [.I w,lv,pt (y.wh n)] 94 .row]) (.slice (some ⟨H.length,0,none⟩) 1 1) [n]:=by
  have:=wM (el:=fX y' c) (e:=94) n H;rw[hpn] at this;exact this
 obtain⟨pv',H4,k1,k2,k3,k4,k5⟩:=(hrw.tS [Blk.cells [.int .i64 w,lv,pt (y.wh n)] 94 .row]).wN (Bv y' c) (aBr y' c) aC (by':=40) hw1.rs (fV (n:=1000) aC (by simp;omega))
 rw[<-aQm] at k2;have hlen:(H++[Blk.cells [.int .i64 w,lv,pt (y.wh n)] 94 .row]).length=H.length+1:=by simp
 rw[hlen] at k3 k4 k5;have hnl:=dK h.nb;have hnpv: ¬cV pv y.nb:=λhh=>by
  obtain⟨cs',hc'⟩:=h.ports.blk hh;rw[h.nb] at hc';injection hc' with hc';injection hc' with _ _ h3;cases h3
 have bn4:H4[y.nb]? =some (rK bag ev wv nv y c pv):=by rw[k4 _ U hnpv,aPQ hnl,h.nb]
 have sh:=Gs k2;have st:stN 1 (.Q y.nb 13) pv' H4=some (undef,H4.set y.nb (rK bag ev wv nv y c pv')):=qH bn4 aC (by simp) sh.1 sh.2
 have hfr:Fr (λb=>b=y.nb∨cV pv b) H (H4.set y.nb (rK bag ev wv nv y c pv')):=⟨by simp;omega,λb hb hn=>by
  rw[aPO (λhh=>hn (.inl hh.symm)),k4 b U (λhh=>hn (.inr hh)),aPQ hb]⟩
 have hNF: ∀b,(b=y.nb∨cV pv b)-> ¬Un F b/\Hs.length<=b:=λb hb=>by
  rcases hb with rfl|hb
  ·exact⟨h.nbF,h.nb0⟩
  ·exact⟨(h.pvF b hb).2,(h.pvF b hb).1⟩
 obtain⟨x1,x2⟩:=h.Qe (pv':=pv) (n':=n) hfr hNF;have hlkeep: ∀(a:Nat)(cs':List Value),H[a]? =some (.cells cs' 100 .row)->(H4.set y.nb (rK bag ev wv nv y c pv'))[a]? =some (.cells cs' 100 .row):=λa cs' ha=>by
  rw[hfr.2 a (dK ha) (λhh=> ?_),ha]
  rcases hh with rfl|hh
  ·rw[h.nb] at ha
   injection ha with ha;injection ha with _ _ h3;cases h3
  ·obtain⟨cs2,hc2⟩:=h.ports.blk hh
   rw[ha] at hc2;injection hc2 with hc2;injection hc2 with _ h2 _
   revert h2
   decide
 have hpvn: ¬cV pv' y.nb:=λhh=>by
  rcases k5 _ hh with hh|hh
  ·exact hnpv hh
  ·omega
 have hsl:=h.ext.1;refine⟨y',pv',_,H4,_,by rw[hy'],eb,k1,st,?_,λj hj=>hfe j λhd=>hj ?_,λb cs hb=> ?_⟩
 ·refine⟨x1,x2.wO λj D hD=> ?_,h.new,?_,by rw[hy'];exact h.nbF,by rw[hy'];exact h.nb0,k2.fG λb hb=>aPO λhh=>hpvn (by rw[hh];exact hb),λb hb=> ?_,λi h1 h2=> ?_,λi j a1 a2 a3 a4 he=> ?_,by rw[hy'];exact h.ww⟩
  ·rw[hy']
   cases j with
   |snd i k=>
    simp only[mH] at hD⊢;by_cases hd:DnB c n c.lanes i k
    ·rw[if_pos hd] at hD
     rw[if_pos ((B2 hn i k).mp hd)];exact hD
    ·rw[if_neg hd] at hD
     rw[if_neg (λhh=>hd ((B2 hn i k).mpr hh))]
     exact hD
   |rcv i k=>
    simp only[mH] at hD⊢;by_cases hd:DnB c n c.lanes i k
    ·rw[if_pos hd] at hD
     rw[if_pos ((B2 hn i k).mp hd)];exact hD
    ·rw[if_neg hd] at hD
     rw[if_neg (λhh=>hd ((B2 hn i k).mpr hh))]
     exact hD
   |_=>exact hD
  ·rw[hy']
   exact iR bn4
  ·rcases k5 b hb with hb|hb
   ·exact h.pvF b hb
   ·exact⟨by omega,λhu=>by have:=h.sep.qB b hu;omega⟩
  ·by_cases hin:i=n
   ·subst hin
    have e1:y'.lb i=b:=by rw[hy'];exact nZ _ _ _
    have e2:y'.lcap i=cap:=by rw[hy'];exact nZ _ _ _
    have e3:oM y' c i= .cells (((List.range c.lanes).map (mF y i)).flatten++rest) 100 .row:=by
     rw[hy'];unfold oM;simp only;rw[nZ];rfl
    rw[e1,e2,e3]
    exact⟨hlkeep _ _ hlb,hbF.1,hbF.2.1,hcap⟩
   ·obtain⟨q1,q2,q3,q4⟩:=h.lanes i h1 U
    have e1:y'.lb i=y.lb i:=by rw[hy'];exact nP _ _ hin
    have e2:y'.lcap i=y.lcap i:=by rw[hy'];exact nP _ _ hin
    have e3:oM y' c i=oM y c i:=by
     rw[hy'];unfold oM;simp only;rw[nP _ _ hin];rfl
    rw[e1,e2,e3]
    exact⟨hlkeep _ _ q1,q2,q3,q4⟩
  ·have e1: ∀i,y'.lb i=up1 y.lb n b i:=λi=>by rw[hy']
   rw[e1,e1] at he;by_cases hi:i=n
   ·by_cases hj:j=n
    ·rw[hi,hj]
    ·rw[hi,nZ,nP _ _ hj] at he
     exact absurd he (hbF.2.2 j a3 U)
   ·by_cases hj:j=n
    ·rw[hj,nZ,nP _ _ hi] at he
     exact absurd he.symm (hbF.2.2 i a1 U)
    ·rw[nP _ _ hi,nP _ _ hj] at he
     exact h.lne i j a1 U a3 U he
 ·cases j<;>simp only[rM] at hd⊢ <;>(try exact hd)<;>exact(B2 hn _ _).mp hd
 ·rw[hfr.2 b (dK hb) (λhh=> ?_),hb]
  rcases hh with rfl|hh
  ·rw[h.nb] at hb
   injection hb with hb;injection hb with _ _ h3;cases h3
  ·obtain⟨cs2,hc2⟩:=h.ports.blk hh
   rw[hb] at hc2;injection hc2 with hc2;injection hc2 with _ h2 _
   revert h2
   decide
end
section
variable {Hs H : aE} {F : Part → Nat → Prop} {ev wv nv : Value} {y : Lay} {c : Cfg} {p : PlanD} {m : Nat}
def Qg (Hs:aE)(p:PlanD)(ev wv nv:Value)(c:Cfg)(H':aE)(r:Value):Prop:= ∃F y,r=pt y.nb/\NodeAt Hs H' F y p ev wv nv c 0 (NS.k9 c)
theorem aBu (a b:Nat)(h:a*b<100000):IntKind.i64.wrap ((a:Int)*b)=((a*b:Nat):Int):=by
 have e:(a:Int)*b=((a*b:Nat):Int):=by push_cast;rfl
 rw[e];exact cZ U U
theorem aPe {pl:Nat}{pv:Value}(hok:c.ok)(hc:c=jJ p c.me)(hop: ∃n,OkP p n)(hPV:PV Hs p ev wv nv)(hpl:Hs[pl]? =some (plB p ev wv nv))(e2:p.lanes=(c.lanes:Int))(e3:p.room=(c.room:Int))(hm:400<m)
    (h:BN Hs H F p.bag ev wv nv y c c.aL c.aL 0 0 pv)(hfe:FE F c c.aL c.aL 0 0): ∀(x0 x1 x3 x4 x6 x7 x8 x9 bG b9 aS aP aQ aO aT aU aR bA bK bX bJ bE aV aW aX aY aZ bB bC bH bI bM bN bO bP bQ bR bS bT bU bY cA cD cE cI cJ cN cP cK cQ cR cW dA cX cY dD dF dL dH dM dU dW dY dZ eA eC eD eE eF eM eN eO eP eQ eS eT eU eV eW eX eY fN fO fP fQ fR fS fT fU gC gD gE gF gG gH gI gJ gK gL gM gN gO gP gQ gR gS gT gU gV gW gX gY gZ hZ iA iB iC iD iE iF iG iH:Value),
    ∃H2 r,Nh (lvl prog pkN m) (aJ m) x0 x1 (pt pl) x3 x4 (pt y.nb) x6 x7 x8 x9 bG b9 aS aP aQ aO aT aU aR bA bK bX bJ bE aV aW aX aY aZ bB bC bH bI bM bN bO bP bQ bR bS bT bU bY cA cD cE cI cJ cN cP cK cQ cR cW dA cX cY dD dF dL dH dM dU dW dY dZ eA eC eD eE eF eM eN eO eP eQ eS eT eU eV eW eX eY fN fO fP fQ fR fS fT fU gC gD gE gF gG gH gI gJ gK gL gM gN gO gP gQ gR gS gT gU gV gW gX gY gZ hZ iA iB iC iD iE iF iG iH H=some (r,H2)/\Qg Hs p ev wv nv c H2 r:=by
  intros;have h6:c.aL<=6:=by have:=hok.by';unfold Cfg.aL;omega
  have hp1:1<=c.aL:=by unfold Cfg.aL;omega
  have hlanes:=hok.lanes;have hroom:=hok.room
  -- the ports' slice
  obtain⟨pb,pcap,prest,hpv,hpc,hpb⟩: ∃b cap rest,pv= .slice (some ⟨b,0,none⟩) c.aL cap/\c.aL<=cap/\H[b]? =some (.cells (((List.range c.aL).map (fX y c)).flatten++rest) 94 .row):=by
    obtain⟨_,⟨_,h0⟩|⟨c',cap,rest,h1,h2,_,h3⟩⟩:=h.ports
    · rw[aQh] at h0
      omega
    · rw[aQh] at h1 h2
      exact⟨c',cap,rest,h1,h2,h3⟩
  have hpbF:=h.pvF pb (by rw[hpv];exact⟨_,_,_,rfl⟩)
  have n13:ld1 (.Q y.nb 13) H=some (pv,H):=dC h.nb rfl;have lpv:cH pv=some (.I c.aL):=by rw[hpv];rfl
  -- the arbiter
  obtain⟨ab,ga,aa,H1,a1,a2,a3,x1,a4,a5,a6⟩:=aNM (H:=H) (m:=m) (n:=c.aL) hp1 U U
  have hA1:Has (Blks (jI ab ga aa (List.replicate c.aL 0) (List.replicate c.aL 0))) (InB (jI ab ga aa (List.replicate c.aL 0) (List.replicate c.aL 0))) H1:=
    Has.Ge a2 (λq hq=>⟨q,hq,rfl⟩) λb ⟨q,hq,hb⟩=>by rw[<-hb];exact dK (a2 q hq)
  have hge1: ∀b,InB (jI ab ga aa (List.replicate c.aL 0) (List.replicate c.aL 0)) b->H.length<=b:=λb ⟨q,hq,hb⟩=>by
    rw[<-hb];simp only[jI,aP6,aQd,or_false] at hq;rcases hq with rfl|rfl|rfl
    · exact a4
    · exact a5
    · exact a6
  have sep1:=h.sep.Gf .arb (B1 _ _ _ _ _ _) (hfe .arb id) hA1 x1 hge1;obtain⟨F1,hF1⟩:=aD (updI F .arb (InB (jI ab ga aa (List.replicate c.aL 0) (List.replicate c.aL 0))));obtain⟨A1,hA1'⟩: ∃A1,A1=updI (mH y c c.aL c.aL 0 0) .arb (Blks (jI ab ga aa (List.replicate c.aL 0) (List.replicate c.aL 0))):=⟨_,rfl⟩;rw[<-hF1,<-hA1'] at sep1;have dx1: ∀j,DX (A1 j):=λj=>by
    rw[hA1'];unfold updI;split
    · exact Blks.dx _
    · exact B1 _ _ _ _ _ _ j
  have hun1: ∀b,b<H.length-> ¬Un F b-> ¬Un F1 b:=λb hb hF hu=>by
    rw[hF1] at hu
    exact(tJ hu).elim hF λhg=>by have:=hge1 b hg;omega
  have bn1:H1[y.nb]? =some (rK p.bag ev wv nv y c pv):=by rw[x1.2 _ (dK h.nb) id,h.nb]
  -- stored
  obtain⟨H2,hH2⟩:=aD (H1.set y.nb (.cells [pt ab,.I c.nodes,ev,.I c.lanes,.I c.room,.I c.queue,.I c.rounds,.I c.every,.I p.bag,wv,.int .u16 c.start,nv,.I c.me,pv,pt y.hb,.pointer none,.I 0] 89 .fix));have st1:stN 1 (.Q y.nb 0) (pt ab) H1=some (undef,H2):=by rw[hH2];exact qH bn1 aC (by simp) rfl rfl
  have bn2:H2[y.nb]? =some (.cells [pt ab,.I c.nodes,ev,.I c.lanes,.I c.room,.I c.queue,.I c.rounds,.I c.every,.I p.bag,wv,.int .u16 c.start,nv,.I c.me,pv,pt y.hb,.pointer none,.I 0] 89 .fix):=by rw[hH2];exact iR bn1
  have fr2:Fr (λb=>b=y.nb) H1 H2:=⟨by rw[hH2];simp,λb hb hn=>by rw[hH2,aPO (λhh=>hn hh.symm)]⟩
  have nbl:=dK h.nb;have nbF1:=hun1 _ nbl h.nbF;have mv2:Mv (λb=>b=y.nb) (λb=>b=y.nb) H1 H2:=⟨fr2.1,λ_ h=> .inl h,λb hb hn=>fr2.2 b hb hn⟩
  have sep2:=sep1.wP dx1 mv2 λb hb hh=>nbF1 (by rw[<-hh];exact hb)
  -- the rings
  have hroom2:=aBg hok;have hpos:1<=c.aL*c.lanes*c.room:=Nat.mul_pos (Nat.mul_pos U U) U
  obtain⟨r,H3,G3,r1,r2,x3,r3⟩:=Has.aAB (A:=λ_=>True) (H:=H2) sA (n:=m) (B:=λr D'=> ∃a,r=pt a/\RingsN D' a [] (c.aL*c.lanes*c.room) c.aL c.lanes) (λD _ _=>by
    obtain⟨a,D',g1,g2,_,_⟩:=aM2 (D:=D) (m:=m) U c.aL c.lanes (c.aL*c.lanes*c.room) ⟨hp1,by omega,hlanes.1,hlanes.2,hpos,by omega⟩
    exact⟨_,D',g1,a,rfl,g2⟩)
  obtain⟨rg,hrg,_⟩:=r2.at_;have r2':Has (λD=>RingsN D rg [] (c.aL*c.lanes*c.room) c.aL c.lanes) G3 H3:=Has.vR r2 λD ⟨a,ha,hD⟩=>by
    rw[hrg] at ha;injection ha with ha;injection ha with ha;injection ha with ha;rw[ha];exact hD
  have fr1: ∀b,¬F1 .rings b:=λb hb=>by
    rw[hF1,fK _ _ (λhh=>by cases hh)] at hb
    exact hfe .rings id b hb
  have sep3:=sep2.Gf .rings dx1 fr1 r2' x3 r3;obtain⟨F3,hF3⟩:=aD (updI F1 .rings G3);obtain⟨A3,hA3⟩:=aD (updI A1 .rings (λD=>RingsN D rg [] (c.aL*c.lanes*c.room) c.aL c.lanes))
  rw[<-hF3,<-hA3] at sep3;have dx3: ∀j,DX (A3 j):=λj=>by
    rw[hA3];unfold updI;split
    · exact λD D' h he=>h.ext he
    · exact dx1 j
  have hl12:=fr2.1;have hl01:=x1.1;have hun3: ∀b,b<H.length-> ¬Un F b-> ¬Un F3 b:=λb hb hF hu=>by
    rw[hF3] at hu
    exact(tJ hu).elim (hun1 b hb hF) λhg=>by have:=r3 b hg;omega
  have bn3:H3[y.nb]? =some (.cells [pt ab,.I c.nodes,ev,.I c.lanes,.I c.room,.I c.queue,.I c.rounds,.I c.every,.I p.bag,wv,.int .u16 c.start,nv,.I c.me,pv,pt y.hb,.pointer none,.I 0] 89 .fix):=by rw[x3.2 _ (dK bn2) id,bn2]
  -- stored
  obtain⟨y',hy'⟩: ∃y':Lay,y'={y with pb:=pb,pcap:=pcap,prest:=prest,ab:=ab,ga:=ga,aa:=aa,rg:=rg}:=⟨_,rfl⟩;have hnc:Blk.cells [pt ab,.int .i64 c.nodes,ev,.int .i64 c.lanes,.int .i64 c.room,.int .i64 c.queue,.int .i64 c.rounds,.int .i64 c.every,.int .i64 p.bag,wv,.int .u16 c.start,nv,.int .i64 c.me,pv,pt y.hb,pt rg,.int .i64 0] 89 .fix=vP p.bag ev wv nv y' c 0:=by
    rw[hy',hpv];rfl
  obtain⟨H4,hH4⟩:=aD (H3.set y.nb (vP p.bag ev wv nv y' c 0));have st2:stN 1 (.Q y.nb 15) (pt rg) H3=some (undef,H4):=by rw[hH4,<-hnc];exact qH bn3 aC (by simp) rfl rfl
  have fr4:Fr (λb=>b=y.nb) H3 H4:=⟨by rw[hH4];simp,λb hb hn=>by rw[hH4,aPO (λhh=>hn hh.symm)]⟩
  have mv4:Mv (λb=>b=y.nb) (λb=>b=y.nb) H3 H4:=⟨fr4.1,λ_ h=> .inl h,λb hb hn=>fr4.2 b hb hn⟩
  have nbF3:=hun3 _ nbl h.nbF;have sep4:=sep3.wP dx3 mv4 λb hb hh=>nbF3 (by rw[<-hh];exact hb)
  have keep: ∀b,b<H.length->b≠y.nb->H4[b]? =H[b]? :=λb hb hn=>by
    have hl23:=x3.1;rw[fr4.2 b U hn,x3.2 b U id,fr2.2 b U hn,x1.2 b hb id]
  have bn4:H4[y.nb]? =some (vP p.bag ev wv nv y' c 0):=by rw[hH4];exact iR bn3
  -- the node's own blocks
  have enb:y'.nb=y.nb:=by rw[hy']
  have hpbn:pb≠y.nb:=λhh=>by
    have:=h.nb;rw[<-hh,hpb] at this;injection this with this;injection this with _ _ h3;cases h3
  have hlbn: ∀i,1<=i->i<c.aL->y.lb i≠y.nb:=λi a b hh=>by
    have:=(h.lanes i a b).1;rw[hh,h.nb] at this;injection this with this;injection this with _ _ h3;cases h3
  have hnl:Blks (mG p.bag ev wv nv y' c 0) H4/\ ∀b,InB (mG p.bag ev wv nv y' c 0) b->b<H.length/\ ¬Un F b/\Hs.length<=b:=by
    have q0: ∀q∈mG p.bag ev wv nv y' c 0,H4[q.1]? =some q.2/\q.1<H.length/\ ¬Un F q.1/\Hs.length<=q.1:=λq hq=>by
      simp only[mG,aP6,aQq,aQr] at hq;rcases hq with rfl|rfl|⟨j,hj,rfl⟩
      · simp only
        rw[enb]
        exact⟨bn4,nbl,h.nbF,h.nb0⟩
      · have e:y'.pb=pb:=by rw[hy']
        have e2:xK y' c= .cells (((List.range c.aL).map (fX y c)).flatten++prest) 94 .row:=by rw[hy'];rfl
        simp only;rw[e,e2]
        exact⟨by rw[keep _ (dK hpb) hpbn,hpb],dK hpb,hpbF.2,hpbF.1⟩
      · have hjp:j+1<c.aL:=by unfold Cfg.aL;omega
        obtain⟨q1,q2,q3,q4⟩:=h.lanes (j+1) U hjp
        have e:y'.lb (j+1)=y.lb (j+1):=by rw[hy']
        have e2:oM y' c (j+1)=oM y c (j+1):=by rw[hy'];rfl
        simp only;rw[e,e2]
        exact⟨by rw[keep _ (dK q1) (hlbn _ U hjp),q1],dK q1,q3,q2⟩
    exact⟨λq hq=>(q0 q hq).1,λb ⟨q,hq,hb⟩=>by rw[<-hb];exact(q0 q hq).2⟩
  have hl4:H.length<=H4.length:=by
    have:=x3.1;have:=fr4.1;omega
  have fn3: ∀b,¬F3 .node b:=λb hb=>by
    rw[hF3,fK _ _ (λhh=>by cases hh),hF1,fK _ _ (λhh=>by cases hh)] at hb
    exact hfe .node id b hb
  have sep5:=Sep.aPd sep4 .node fn3 (B:=Blks (mG p.bag ev wv nv y' c 0)) (G:=InB (mG p.bag ev wv nv y' c 0)) (Has.Ge hnl.1 (λq hq=>⟨q,hq,rfl⟩) λb hb=>by have:=(hnl.2 b hb).1;omega) λb hb=>hun3 b (hnl.2 b hb).1 (hnl.2 b hb).2.1
  -- all of it
  have hx4:Ext Hs H4:=by
    have hsl:=h.ext.1;have hnb0:=h.nb0
    exact⟨by omega,λb hb _=>by rw[keep b U U,h.ext.2 b hb id]⟩
  have hnode:NodeAt Hs H4 (updI F3 .node (InB (mG p.bag ev wv nv y' c 0))) y' p ev wv nv c 0 (NS.k9 c):=by
    refine⟨hok,hc,hop,⟨?_,?_,?_,?_⟩,hx4,λb hb=> ?_,hPV,NInv.aL3 hok,sep5.wO λj D hD=> ?_⟩
    · rw[hy'];exact hpc
    · rw[hy'];exact λi h1 h2=>(h.lanes i h1 h2).2.2.2
    · rw[hy'];exact a3
    · rw[hy'];exact h.ww
    · have hsl:=h.ext.1
      rcases tJ hb with hb|hb
      · rw[hF3] at hb
        rcases tJ hb with hb|hb
        · rw[hF1] at hb
          rcases tJ hb with hb|hb
          · exact h.new b hb
          · have:=hge1 b hb;omega
        · have:=r3 b hb;omega
      · exact(hnl.2 b hb).2.2
    · cases j with
      |node=>
        rw[nH] at hD;exact hD
      |rings=>
        rw[fK _ _ (λhh=>by cases hh),hA3,nH] at hD
        rw[hy'];exact hD
      |arb=>
        rw[fK _ _ (λhh=>by cases hh),hA3,fK _ _ (λhh=>by cases hh),hA1',nH] at hD
        rw[hy'];exact hD
      |host=>
        rw[fK _ _ (λhh=>by cases hh),hA3,fK _ _ (λhh=>by cases hh),hA1',fK _ _ (λhh=>by cases hh)] at hD
        rw[hy'];exact hD
      |whl i=>
        rw[fK _ _ (λhh=>by cases hh),hA3,fK _ _ (λhh=>by cases hh),hA1',fK _ _ (λhh=>by cases hh)] at hD
        rw[hy'];exact hD
      |snd i k=>
        rw[fK _ _ (λhh=>by cases hh),hA3,fK _ _ (λhh=>by cases hh),hA1',fK _ _ (λhh=>by cases hh)] at hD
        rw[hy'];simp only[mH,lJ] at hD⊢;by_cases hd:1<=i/\i<c.aL/\k<c.lanes
        · rw[if_pos (.inl hd)] at hD
          rw[if_pos hd];exact hD
        · rw[if_neg (by unfold DnB;omega)] at hD
          rw[if_neg hd];exact hD
      |rcv i k=>
        rw[fK _ _ (λhh=>by cases hh),hA3,fK _ _ (λhh=>by cases hh),hA1',fK _ _ (λhh=>by cases hh)] at hD
        rw[hy'];simp only[mH,lJ] at hD⊢;by_cases hd:1<=i/\i<c.aL/\k<c.lanes
        · rw[if_pos (.inl hd)] at hD
          rw[if_pos hd];exact hD
        · rw[if_neg (by unfold DnB;omega)] at hD
          rw[if_neg hd];exact hD
  -- the walk
  have hp: ∀G:aE,Ext Hs G->G[pl]? =some (plB p ev wv nv):=λG hG=>by rw[hG.2 _ (dK hpl) id,hpl]
  have hx2:Ext Hs H2:=by
    have hsl:=h.ext.1;have hnb0:=h.nb0
    exact⟨by omega,λb hb _=>by rw[fr2.2 b U U,x1.2 b U id,h.ext.2 b hb id]⟩
  have l2:ld1 (.Q pl 2) H2=some (.I c.lanes,H2):=by rw[dE (hp H2 hx2) 2 (.I p.lanes) rfl,e2]
  have l3:ld1 (.Q pl 3) H2=some (.I c.room,H2):=by rw[dE (hp H2 hx2) 3 (.I p.room) rfl,e3]
  have n13':ld1 (.Q y.nb 13) H2=some (pv,H2):=dC bn2 rfl;have hpl18:c.aL*c.lanes<=18:=Nat.mul_le_mul h6 hlanes.2;have m1:=aBu c.aL c.lanes U
  have m2:=aBu (c.aL*c.lanes) c.room U
  rw[hrg] at r1;refine⟨H4,pt y.nb,?_,updI F3 .node (InB (mG p.bag ev wv nv y' c 0)),y',by rw[enb],hnode⟩
  unfold Nh;simp -implicitDefEqProofs only[gsR,n13,lpv,a1,st1,n13',l2,I2,m1,l3,m2,r1,st2]
end
theorem aPf (a b d e f g h i:Int)(ev wv nv:Value)(me:Int)(q:Nat):bld prog 89 [(1,.agg ⟨[.I a,ev,.I b,.I d,.I e,.I f,.I g,.I h,wv,.int .u16 i,nv]⟩),(2,.I me),(4,pt q)]=
  some (.agg ⟨[.pointer none]++[.I a,ev,.I b,.I d,.I e,.I f,.I g,.I h,wv,.int .u16 i,nv]++[.I me,.slice none 0 0,pt q,.pointer none,.I 0]⟩):=by kernel_rfl
section
variable {Hs H : aE} {F : Part → Nat → Prop} {ev wv nv : Value} {y : Lay} {c : Cfg} {p : PlanD} {m : Nat}
theorem aPg {pl:Nat}{bv:Value}(hok:c.ok)(hc:c=jJ p c.me)(hop: ∃n,OkP p n)(hPV:PV Hs p ev wv nv)(hpl:Hs[pl]? =some (plB p ev wv nv))(e2:p.lanes=(c.lanes:Int))(e3:p.room=(c.room:Int))(e9:p.start=(c.start:Int))(hwo:wOk p.weights=true)
  {Hb:aE}(hbv:Iw Hb bv (bes p.edges c.me))(hbl:(bes p.edges c.me).length=c.by'.length)(hbg: ∀i,i<c.by'.length->(bes p.edges c.me)[i]? =some ((c.by'.getD i 0:Nat):Int))(hm:500<m)(hm2:m<=72057594037927936){nb:Nat}:
  ∀(q i l:Nat)(H:aE)(F:Part->Nat->Prop)(y:Lay)(pv:Value),c.by'.length-i=q->i<=c.by'.length->q<l->y.nb=nb->BN Hs H F p.bag ev wv nv y c (i+1) (i+1) 0 0 pv->FE F c (i+1) (i+1) 0 0->Krow Hb H-> ∀(x0 x1 x3 x4 x6 x7 x8 x9 bG b9 aS aP aQ aO aT aU aR bA bK bX bJ bE aV aW aX aY aZ bB bC bH bI bM bN bO bP bQ bR bS bT bU bY cA cD cE cI cK cQ cR cW dA cX cY dD dF dL dH dM dU dW dY dZ eA eC eD eE eF eM eN eO eP eQ eS eT eU eV eW eX eY fN fO fP fQ fR fS fT fU gC gD gE gF gG gH gI gJ gK gL gM gN gO gP gQ gR gS gT gU gV gW gX gY gZ hZ iA iB iC iD iE iF iG iH:Value),
  ∃H2 r,aJ l (aM prog (lvl prog pkN m) (aJ m) Nf) (Nj (lvl prog pkN m) (aJ m)) [x0,x1,(pt pl),x3,x4,(pt nb),x6,x7,x8,x9,bG,b9,aS,aP,aQ,aO,aT,aU,aR,bA,bK,bX,bJ,bE,aV,aW,aX,aY,aZ,bB,bC,bH,bI,bM,bN,bO,bP,bQ,bR,bS,bT,bU,bY,cA,cD,cE,cI,bv,(.I c.by'.length),(.I (i:Nat)),cK,cQ,cR,cW,dA,cX,cY,dD,dF,dL,dH,dM,dU,dW,dY,dZ,eA,eC,eD,eE,eF,eM,eN,eO,eP,eQ,eS,eT,eU,eV,eW,eX,eY,fN,fO,fP,fQ,fR,fS,fT,fU,gC,gD,gE,gF,gG,gH,gI,gJ,gK,gL,gM,gN,gO,gP,gQ,gR,gS,gT,gU,gV,gW,gX,gY,gZ,hZ,iA,iB,iC,iD,iE,iF,iG,iH] H=some (r,H2)/\Qg Hs p ev wv nv c H2 r:=by
 intro q;induction q with
 |zero=>
  intro i l H F y pv hq hi hl hnb h hfe hkr;intros;obtain⟨l,rfl⟩: ∃l',l=l'+1:=⟨l-1,by omega⟩
  have hie:i+1=c.aL:=by unfold Cfg.aL;omega
  have c1:decide ((i:Int)<(c.by'.length:Int))=false:=by rw[decide_eq_false_iff_not];omega
  rw[aJ,Yl];simp -implicitDefEqProofs only[gsR,c1];rw[aKo];rw[hie] at h hfe;rw[<-hnb];exact aPe hok hc hop hPV hpl e2 e3 U h hfe ..
 |succ q ih=>
  intro i l H F y pv hq hi hl hnb h hfe hkr;intros;obtain⟨l,rfl⟩: ∃l',l=l'+1:=⟨l-1,by omega⟩
  have h5:=hok.by';have hil:i<c.by'.length:=U
  have c1:decide ((i:Int)<(c.by'.length:Int))=true:=by rw[decide_eq_true_eq];omega
  have hpH: ∀G:aE,Ext Hs G->G[pl]? =some (plB p ev wv nv):=λG hG=>by rw[hG.2 _ (dK hpl) id,hpl]
  obtain⟨b,o,a1,_,a3⟩:=(hkr.iw hbv).rs.fZ fA (hbg i hil) .i64;have a3:ld1 (.Q b o) H=some (.I (c.by'.getD i 0:Nat),H):=(a3 H rfl).2.1 0 _ rfl;have l8:ld1 (.Q pl 8) H=some (wv,H):=dE (hpH H h.ext) 8 wv rfl;have hcw:c.weights=p.weights:=by have:=congrArg Cfg.weights hc;rw[this];rfl
  have hwl:=hok.wlen;rw[hcw] at hwl;have hlanes:=hok.lanes;obtain⟨H1,wh,ww,wl,wc,lc,wr,lr,w1,x1,w2,w3,w4,w5,w6⟩:=aBp (m:=m) (hPV.w.ext h.ext) hwo U hm2
  rw[<-hcw] at w2;have g1:=h.whl (λj hj b hb=>hfe (.whl j) (by show¬j<i+1;omega) b hb) w2 x1 w3 w4 w5 w6
  have fe1:=hfe.Gu (i:= .whl (i+1)) (G:=InB (lI wh ww wl wc lc wr lr c.weights ⟨c.weights,0⟩)) (n':=i+1) (nw':=i+1+1) (cs':=0) (cr':=0) (show i+1<i+1+1 by omega) (λj hj=>by
   cases j<;>simp only[rM] at hj⊢ <;>(try exact hj);omega)
  obtain⟨y1,hy1⟩: ∃y1:Lay,y1={y with wh:=up1 y.wh (i+1) wh,ww:=up1 y.ww (i+1) ww,wl:=up1 y.wl (i+1) wl,wc:=up1 y.wc (i+1) wc,lc:=up1 y.lc (i+1) lc,wr:=up1 y.wr (i+1) wr,lr:=up1 y.lr (i+1) lr}:=⟨_,rfl⟩;obtain⟨F1,hF1⟩:=aD (updI F (.whl (i+1)) (InB (lI wh ww wl wc lc wr lr c.weights ⟨c.weights,0⟩)));rw[<-hF1] at g1 fe1;have g1:BN Hs H1 F1 p.bag ev wv nv y1 c (i+1) (i+1+1) 0 0 pv:=by rw[hy1];exact g1
  have hwh:y1.wh (i+1)=wh:=by rw[hy1];exact nZ _ _ _
  have eb:bld prog 94 [(0,.int .i64 (c.by'.getD i 0:Nat)),(2,pt wh)]=some (.agg #[.int .i64 (c.by'.getD i 0:Nat),.slice none 0 0,pt wh]):=rfl;obtain⟨H2,hH2⟩:=aD (H1++[Blk.cells [.int .i64 (c.by'.getD i 0:Nat),.slice none 0 0,pt wh] 94 .fix]);have x2:Ext H1 H2:=by rw[hH2];exact Fr.app _ _ _
  have st:stN 3 (.pointer (some ⟨H1.length,0,none⟩)) (.agg #[.int .i64 (c.by'.getD i 0:Nat),.slice none 0 0,pt wh]) (H1++[Blk.cells [Value.int .i64 0,.slice none 0 0,.pointer none] 94 .fix])=some (undef,H2):=by
   rw[yZ (n:=3) (vs:=[.I (c.by'.getD i 0:Nat),.slice none 0 0,pt wh]) (dS H1 _) aC rfl rfl (aPS 3) rfl,nL,hH2]
   rfl
  have g2:=g1.aBq x2;have hx2:XN Hs H2 F1 y1 (i+1) 0 H1.length (c.by'.getD i 0) (.slice none 0 0):=by
   have hs1:=g1.ext.1;refine⟨by rw[hwh,hH2];exact dS _ _,λhu=>by have:=g1.sep.qB _ hu;omega,hs1,Rw.fW,λb ⟨_,_,_,hh⟩=>(by cases hh)⟩
  have l2:ld1 (.Q pl 2) H2=some (.I c.lanes,H2):=by rw[dE (hpH H2 g2.ext) 2 (.I p.lanes) rfl,e2]
  rw[aJ,Yl];simp -implicitDefEqProofs only[gsR,c1,a1,a3,l8,w1,eb,st,l2];refine aPb (nb:=nb) (Hb:=Hb) (p:=p) (pl:=pl) (i:=i) (w:=c.by'.getD i 0) (xb:=H1.length) hok hpl U e3 e9 U ?_ c.lanes 0 m H2 F1 y1 (.slice none 0 0) U U U (by rw[hy1];exact hnb) g2 fe1 hx2 (hkr.ext (x1.tr x2)) ..
  intro H3 F3 y3 lv hnb3 g3 fe3 hx3 hkr3;intros;obtain⟨y',pv',H4,H5,H6,q1,q2,q3,q4,q5,q6,q7⟩:=g3.aPc fe3 hx3 U U hlanes.1 (by unfold kL;rw[if_neg U];rfl)
  have n13:ld1 (.Q nb 13) H3=some (pv,H3):=by rw[<-hnb3];exact dC g3.nb rfl
  have lx:ldN 3 (.Q H1.length 0) H3=some (.agg #[.I (c.by'.getD i 0:Nat),lv,pt (y3.wh (i+1))],H3):=Bb hx3.blk (aPS 3);have e1:=oK i U
  rw[hnb3] at q4;unfold Ni;simp -implicitDefEqProofs only[gsR,n13,lx,q2,q3,q4,cO,e1];exact ih (i+1) l H6 F3 y' pv' U U U (by rw[q1,hnb3]) q5 q6 (λb cs hb=>q7 b cs (hkr3 b cs hb)) ..
theorem Qh (hp:PV H p ev wv nv)(hck:jD p=0)(hst:0<=p.start/\p.start<65536)(hm:17592186045500<m)(hm2:m<=72057594037927936)(me:Nat)(hme:(me:Int)<p.nodes):
    ∃H' F y,lvl prog pkN m (.func 11) [plV p ev wv nv,.I me] H=some (pt y.nb,H')/\NodeAt H H' F y p ev wv nv (jJ p me) 0 (NS.k9 (jJ p me)):=by
  have hcheck:kM p=true:=by
    unfold jD at hck
    split at hck
    · assumption
    · omega
  obtain⟨hok,k1,k2,k3,k4,k5,k6,k7,hbg,hwo⟩:=aBs hcheck hme hst;obtain⟨c,hc⟩:=aD (jJ p me);rw[<-hc] at hok k1 k2 k3 k4 k5 k6 k7 hbg⊢;have hcme:c.me=me:=by rw[hc];rfl
  have hc':c=jJ p c.me:=by rw[hcme];exact hc
  have hlanes:=hok.lanes;have hqueue:=hok.queue;have hbl:(bes p.edges me).length=c.by'.length:=by rw[hc];show _=((bes p.edges me).map Int.toNat).length;simp
  have hop:=vE hcheck;have hel:p.edges.length<=15:=by
    obtain⟨n,hn⟩:=hop;exact hn.e15
  -- the plan in a block
  obtain⟨H1,hH1⟩:=aD (H++[plB p ev wv nv]);have x1:Ext H H1:=by rw[hH1];exact Fr.app _ _ _
  have b1:H1[H.length]? =some (plB p ev wv nv):=by rw[hH1];exact eL _ _
  have p1:=hp.ext x1;have l11:=fL b1;obtain⟨H2,g1,x2⟩:=X6 p1 (m:=m-1) U U
  rw[hck] at g1;have aS:=x1.tr x2;have b2:H2[H.length]? =some (plB p ev wv nv):=by rw[x2.2 _ (dK b1) id,b1]
  have l0:ld1 (.Q H.length 0) H2=some (.I c.nodes,H2):=by rw[dE b2 0 (.I p.nodes) rfl,k1]
  have l2:ld1 (.Q H.length 2) H2=some (.I c.lanes,H2):=by rw[dE b2 2 (.I p.lanes) rfl,k2]
  have l4:ld1 (.Q H.length 4) H2=some (.I c.queue,H2):=by rw[dE b2 4 (.I p.queue) rfl,k4]
  have l11':=fL b2;have hmn:=hok.me;rw[hcme] at hmn;have c1:decide ((me:Int)<0)=false:=by rw[decide_eq_false_iff_not];omega
  have c2:decide ((c.nodes:Int)<=(me:Int))=false:=by rw[decide_eq_false_iff_not];omega
  -- the host
  obtain⟨r,H3,G3,r1,r2,x3,r3⟩:=Has.aAB (A:=λ_=>True) (H:=H2) sA (n:=m-1) (B:=λr D'=> ∃a,r=pt a/\HostAt D' a [] [] c.lanes c.queue) (λD _ _=>by
    obtain⟨a,D',q1,q2,_,_⟩:=aLT (D:=D) (m:=m-1) U c.lanes c.queue hlanes hqueue
    exact⟨_,D',q1,a,rfl,q2⟩)
  obtain⟨hb,hrb,_⟩:=r2.at_;have r2':Has (λD=>HostAt D hb [] [] c.lanes c.queue) G3 H3:=Has.vR r2 λD ⟨a,ha,hD⟩=>by
    rw[hrb] at ha;injection ha with ha;injection ha with ha;injection ha with ha;rw[ha];exact hD
  rw[hrb] at r1;have b3:H3[H.length]? =some (plB p ev wv nv):=by rw[x3.2 _ (dK b2) id,b2]
  have l11c:=fL b3
  -- the node's block
  have eplc:plC p ev wv nv=[.I c.nodes,ev,.I c.lanes,.I c.room,.I c.queue,.I c.rounds,.I c.every,.I p.bag,wv,.int .u16 c.start,nv]:=by
    unfold plC;rw[k1,k2,k3,k4,k5,k6,k7]
  have ebn:bld prog 89 [(1,plV p ev wv nv),(2,.I me),(4,pt hb)]=some (.agg ⟨[.pointer none]++plC p ev wv nv++[.I me,.slice none 0 0,pt hb,.pointer none,.I 0]⟩):=by
    exact aPf ..
  obtain⟨y0,hy0⟩: ∃y0:Lay,y0=⟨H3.length,0,0,[],λ_=>0,λ_=>0,λ_=>[],λ_=>0,λ_=>0,λ_=>0,λ_=>0,λ_=>0,λ_=>[],λ_=>[],λ_ _=>0,λ_ _=>0,0,0,0,hb,0⟩:=⟨_,rfl⟩
  have y0n:y0.nb=H3.length:=by rw[hy0]
  have y0h:y0.hb=hb:=by rw[hy0]
  obtain⟨H4,hH4⟩:=aD (H3++[rK p.bag ev wv nv y0 c (.slice none 0 0)]);have e4:H3++[Blk.cells (Value.cells (.agg ⟨[.pointer none]++plC p ev wv nv++[.int .i64 me,.slice none 0 0,pt hb,.pointer none,.int .i64 0]⟩)).toList 89 .fix]=H4:=by
    rw[hH4,eplc];unfold rK;rw[hcme,y0h];rfl
  have x4:Ext H3 H4:=by rw[hH4];exact Fr.app _ _ _
  have bn4:H4[y0.nb]? =some (rK p.bag ev wv nv y0 c (.slice none 0 0)):=by rw[y0n,hH4];exact dS _ _
  obtain⟨F0,hF0⟩: ∃F0:Part->Nat->Prop,F0=updI (λ_ _=>False) .host G3:=⟨_,rfl⟩
  have sep0:Sep (mH y0 c 0 0 0 0) F0 H4:=by
    have s0:Sep (λ_:Part=>Blks []) (λ_ _=>False) H2:=⟨λi=>⟨λq hq=>(by cases hq),λb hb=>hb.elim⟩,λi j b hb=>hb.elim⟩
    have s1:=s0.Gf .host (λ_=>Blks.dx _) (λb hb=>hb) r2' x3 r3
    rw[<-hF0] at s1;have s2:=s1.ext (λj=>by
      unfold updI;split
      · exact λD D' h he=>h.ext he
      · exact Blks.dx _) x4
    refine s2.wO λj D hD=> ?_
    cases j with
    |host=>
      rw[nH] at hD;show HostAt D y0.hb [] [] c.lanes c.queue
      rw[y0h];exact hD
    |whl i=>
      rw[fK _ _ (λhh=>by cases hh)] at hD
      simp only[mH];rw[if_neg U]
      exact hD
    |snd i k=>
      rw[fK _ _ (λhh=>by cases hh)] at hD
      simp only[mH];rw[if_neg (by unfold DnB;omega)]
      exact hD
    |rcv i k=>
      rw[fK _ _ (λhh=>by cases hh)] at hD
      simp only[mH];rw[if_neg (by unfold DnB;omega)]
      exact hD
    |_=>
      rw[fK _ _ (λhh=>by cases hh)] at hD
      exact hD
  have unF0: ∀b,Un F0 b->G3 b:=λb hb=>by
    rw[hF0] at hb;rcases tJ hb with⟨_,hb⟩|hb
    · exact hb.elim
    · exact hb
  have hg3l: ∀b,G3 b->b<H3.length:=λb hb=>r2'.lt b hb
  have bnN:BN H2 H4 F0 p.bag ev wv nv y0 c 0 0 0 0 (.slice none 0 0):=
    ⟨x3.tr x4,sep0,λb hb=>r3 b (unF0 b hb),bn4,λhu=>by have:=hg3l _ (unF0 _ hu);omega,by rw[y0n];exact x3.1,Rw.fW,λb ⟨_,_,_,hh⟩=>(by cases hh),λi a b=>by omega,λi j a b=>by omega,λi hi=>by omega⟩
  have fe0:FE F0 c 0 0 0 0:=λj hj b hb=>by
    rw[hF0] at hb;cases j with
    |host=>exact hj trivial
    |_=>
      rw[fK _ _ (λhh=>by cases hh)] at hb
      exact hb
  -- the first wheel
  have hpH: ∀G:aE,Ext H2 G->G[H.length]? =some (plB p ev wv nv):=λG hG=>by rw[hG.2 _ (dK b2) id,b2]
  have n13:ld1 (.Q H3.length 13) H4=some (.slice none 0 0,H4):=by rw[<-y0n];exact dC bn4 rfl
  have l8:ld1 (.Q H.length 8) H4=some (wv,H4):=dE (hpH H4 bnN.ext) 8 wv rfl;have hcw:c.weights=p.weights:=by rw[hc];rfl
  have hwl:=hok.wlen;rw[hcw] at hwl;obtain⟨H5,wh,ww,wl,wc,lc,wr,lr,w1,x5,w2,w3,w4,w5,w6⟩:=aBp (m:=m-1) (hp.w.ext (aS.tr bnN.ext)) hwo U U
  rw[<-hcw] at w2;have g5:=bnN.whl (λj hj b hb=>fe0 (.whl j) (by show¬j<0;omega) b hb) w2 x5 w3 w4 w5 w6
  have fe5:=fe0.Gu (i:= .whl 0) (G:=InB (lI wh ww wl wc lc wr lr c.weights ⟨c.weights,0⟩)) (n':=0) (nw':=1) (cs':=0) (cr':=0) (show 0<1 by omega) (λj hj=>by
    cases j<;>simp only[rM] at hj⊢ <;>(try exact hj);omega)
  obtain⟨y1,hy1⟩: ∃y1:Lay,y1={y0 with wh:=up1 y0.wh 0 wh,ww:=up1 y0.ww 0 ww,wl:=up1 y0.wl 0 wl,wc:=up1 y0.wc 0 wc,lc:=up1 y0.lc 0 lc,wr:=up1 y0.wr 0 wr,lr:=up1 y0.lr 0 lr}:=⟨_,rfl⟩;obtain⟨F1,hF1⟩:=aD (updI F0 (.whl 0) (InB (lI wh ww wl wc lc wr lr c.weights ⟨c.weights,0⟩)));rw[<-hF1] at g5 fe5;have g5:BN H2 H5 F1 p.bag ev wv nv y1 c 0 1 0 0 (.slice none 0 0):=by rw[hy1];exact g5
  have y1n:y1.nb=H3.length:=by rw[hy1];exact y0n
  have n13':ld1 (.Q H3.length 13) H5=some (.slice none 0 0,H5):=by rw[<-y1n];exact dC g5.nb rfl
  have hpc0:fX y1 c 0=[.I me,.slice none 0 0,pt wh]:=by
    unfold fX kL mR;rw[if_pos rfl,if_pos rfl,hcme,hy1];simp only;rw[nZ]
  have eb:bld prog 94 [(0,.int .i64 me),(2,pt wh)]=some (.agg #[.int .i64 me,.slice none 0 0,pt wh]):=rfl;obtain⟨H6,hH6⟩:=aD (H5++[Blk.cells [.int .i64 me,.slice none 0 0,pt wh] 94 .row]);have es:dG 94 3 1 [.int .i64 0,.slice none 0 0,.pointer none] [(0,.agg #[.int .i64 me,.slice none 0 0,pt wh])] H5=some (.slice (some ⟨H5.length,0,none⟩) 1 1,H6):=by rw[hH6];rfl
  have hw1:Rr (fX y1 c) 94 H6 (.slice (some ⟨H5.length,0,none⟩) 1 1) [0]:=by
    have:=wM (el:=fX y1 c) (e:=94) 0 H5;rw[hpc0] at this;rw[hH6];exact this
  have hrw0:Rw (fX y1 c) 94 3 H6 (.slice none 0 0) []:=Rw.fW;obtain⟨pv,H7,k1',k2',k3',k4',k5'⟩:=hrw0.wN (Bv y1 c) (aBr y1 c) aC (by':=40) hw1.rs aC
  have hnh: ∀b,¬cV (.slice none 0 0) b:=λb ⟨_,_,_,hh⟩=>by cases hh
  have h6l:H6.length=H5.length+1:=by rw[hH6];simp
  have nbl:=dK g5.nb;have bn7:H7[y1.nb]? =some (rK p.bag ev wv nv y1 c (.slice none 0 0)):=by rw[k4' _ U (hnh _),hH6,aPQ nbl,g5.nb]
  have sh:=Gs k2';obtain⟨H8,hH8⟩:=aD (H7.set y1.nb (rK p.bag ev wv nv y1 c pv));have st:stN 1 (.Q H3.length 13) pv H7=some (undef,H8):=by rw[<-y1n,hH8];exact qH bn7 aC (by simp) sh.1 sh.2
  have hfr:Fr (λb=>b=y1.nb) H5 H8:=⟨by rw[hH8];simp;omega,λb hb hn=>by
    rw[hH8,aPO (λhh=>hn hh.symm),k4' b U (hnh _),hH6,aPQ hb]⟩
  obtain⟨x8,s8⟩:=g5.Qe (pv':=pv) (n':=0) hfr λb hb=>by rw[hb];exact⟨g5.nbF,g5.nb0⟩
  have hpvn: ¬cV pv y1.nb:=λhh=>by
    rcases k5' _ hh with hh|hh
    · exact hnh _ hh
    · omega
  have hsl:=g5.ext.1;have g8:BN H2 H8 F1 p.bag ev wv nv y1 c 1 1 0 0 pv:=by
    refine⟨x8,s8.wO λj D hD=> ?_,g5.new,by rw[hH8];exact iR bn7,g5.nbF,g5.nb0,?_,λb hb=> ?_,λi a b=>by omega,λi j a b=>by omega,g5.ww⟩
    · cases j with
      |snd i k=>
        simp only[mH] at hD⊢;rw[if_neg (by unfold DnB;omega)] at hD⊢
        exact hD
      |rcv i k=>
        simp only[mH] at hD⊢;rw[if_neg (by unfold DnB;omega)] at hD⊢
        exact hD
      |_=>exact hD
    · refine(show Rw (fX y1 c) 94 3 H7 pv (List.range 1) from k2').fG λb hb=> ?_
      rw[hH8];exact aPO λhh=>hpvn (by rw[hh];exact hb)
    · rcases k5' b hb with hb|hb
      · exact absurd hb (hnh b)
      · exact⟨by omega,λhu=>by have:=g5.sep.qB b hu;omega⟩
  have fe8:FE F1 c 1 1 0 0:=λj hj=>fe5 j λhd=>hj (by
    cases j<;>simp only[rM] at hd⊢ <;>(try exact hd)<;>(unfold DnB at hd ⊢; omega))
  -- who is beside
  have b8:=hpH H8 g8.ext;have l11d:=fL b8;obtain⟨H9,bv,q1,x9,q3,q4⟩:=K9 (hp.ext (aS.tr g8.ext)) (m:=m-1) U U (me:Int)
  have g9:=g8.aBq x9;have lbv:=q3.qZ;rw[hbl] at lbv;have main: ∃H' r,lvl prog pkN m (.func 11) [plV p ev wv nv,.I me] H=some (r,H')/\Qg H2 p ev wv nv c H' r:=by
    refine fJ (cT rfl) U ?_
    rw[Yn];have e1:H++[Blk.cells (Value.cells (plV p ev wv nv)).toList 28 .fix]=H1:=by rw[hH1];rfl
    have c3:((0:Int)!=0)=false:=rfl;have pchk:=λG=>(hp.chk G)
    have nchk: ∀G:aE,chk (some (Value.slice none 0 0,G)) (.slice none 0 0)=true:=λ_=>by simp[chk,veq]
    simp -implicitDefEqProofs only[gsR,e1,l11,g1,c3,c1,l0,c2,l11',l2,l4,r1,l11c,pchk,ebn,e4,n13,l8,w1,n13',nchk,eb,es,k1',st,l11d,q1,lbv];have y1n':y1.nb=H3.length:=y1n;exact aPg (pl:=H.length) (Hs:=H2) (Hb:=H9) hok hc' hop (hp.ext aS) b2 k2 k3 k7 hwo (by rw[hcme];exact q3) (by rw[hcme];exact hbl) (λi hi=>by rw[hcme];exact hbg i (by rw[hbl];exact hi)) U U c.by'.length 0 (m-1) H9 F1 y1 pv U U (by have:=hok.by';omega) y1n' g9 fe8 (λb cs hb=>hb) ..
  obtain⟨H',r,z1,F,y,rfl,z2⟩:=main;refine⟨H',F,y,z1,{z2 with ext:=aS.tr z2.ext,old:=λb hb=>aP3 aS.1 (z2.old b hb),plan:=hp}⟩
end
end Go.Proofs.YtkeilicinggjmaaGreatDoor
namespace Go.Proofs.YtkeilicinggjmaaGreatDoor
open Go.Proofs.Tryz
open Go.Abs Go.Abs.M
section
variable {H : aE} {m : Nat}
theorem aPh (c:List Nat):jE (ofT c)=true/\1<=(ofT c).length:=by
 unfold ofT;split
 ·exact⟨by decide+kernel,by simp⟩
 ·rename_i h
  have hl:(ofL c (min c.length 5)).length=min c.length 5:=by simp[ofL]
  refine⟨?_,by rw[hl];omega⟩
  unfold jE;rw[hl,aPV,aQs];refine⟨λi hi=> ?_,aQw U⟩
  have hi':=aQr.mp hi;have e:(ofL c (min c.length 5)).getD i 0=((c.getD i 0%(i+1):Nat):Int):=by
   unfold ofL;rw[aPR,aP0,aQu hi'];rfl
  have hm:c.getD i 0%(i+1)<i+1:=Nat.mod_lt _ U
  rw[e,aPV]
  exact⟨aQw U,aQw U⟩
def B3 (c:List Nat)(room more start:Nat):PlanD:=tX (mkP 0 room more start []) (ofT c)
theorem Qi {D H D' H':aE}(hs:Sub D H)(hf:Fs D H D' H')(he:Ext D D'):Ext H H':=by
 refine⟨by have:=hf.sub.1;have:=hs.1;have:=he.1;omega,λb hb _=> ?_⟩
 have hbD:b<D.length:=by rw[hs.1];exact hb
 by_cases hd:D[b]? =some .dead
 ·exact hf.keep b hd
 ·have hx:D[b]? =some D[b]:=aPP hbD
  have hn:D[b]≠ .dead:=λh=>hd (by rw[hx,h])
  rw[hs.2 b _ hx hn,hf.sub.2 b _ ((he.2 b hbD id).trans hx) hn]
theorem Gv {α:Type}{el:α->List Value}{e:TypeId}{D H:aE}{v:Value}{xs:List α}(h:Rs el e D v xs)(hk: ∀(b:Nat)(x:Blk),D[b]? =some x->x≠ .dead->H[b]? =some x):Rs el e H v xs:=by
 rcases h with h|⟨b,o,cap,h1,h2,h3⟩
 ·exact .inl h
 ·refine .inr ⟨b,o,cap,h1,h2,λhne=> ?_⟩
  obtain⟨e',k,pre,post,q1,q2,q3⟩:=h3 hne
  exact⟨e',k,pre,post,q1,q2,hk b _ q3 (λh=>by cases h)⟩
theorem aBv {D H:aE}{p:PlanD}{ev wv nv:Value}(h:PV D p ev wv nv)(hk: ∀(b:Nat)(x:Blk),D[b]? =some x->x≠ .dead->H[b]? =some x):PV H p ev wv nv:=by
 obtain⟨h1,h2,⟨us,h3,h4,h5⟩,h6,h7,h8⟩:=h
 exact⟨Gv h1 hk,Gv h2 hk,⟨us,Gv h3 hk,h4,λi u xs hu hx=>Gv (h5 i u xs hu hx) hk⟩,h6,h7,h8⟩
theorem aPi {cv:Value}{c:List Nat}(hc:Us H cv c)(hu8: ∀x∈c,x<256)(hl:c.length<=72057594037927936)(room more start:Nat)(h2:room<256)(h3:more<256)(h4:start<65536)(hm:700<m)(hm2:m<=72057594037927936):
  ∃H' ev wv nv,lvl prog bL m (.func 10) [cv,.int .u8 room,.int .u8 more,.int .u16 start] H=some (plV (B3 c room more start) ev wv nv,H')/\Ext H H'/\PV H' (B3 c room more start) ev wv nv:=by
 obtain⟨Ha,hHa⟩:=aD (H++[plZ]);obtain⟨Da,hDa⟩:=aD (H++[Blk.dead]);have xa:Ext H Ha:=by rw[hHa];exact Fr.app _ _ _
 have xd:Ext H Da:=by rw[hDa];exact Fr.app _ _ _
 have ba:Ha[H.length]? =some plZ:=by rw[hHa];exact eL _ _
 have bd:Da[H.length]? =some .dead:=by rw[hDa];exact eL _ _
 have sa:Sub Da Ha:=by
  rw[hHa,hDa];refine⟨by simp,λb x hb hx=> ?_⟩
  by_cases hlt:b<H.length
  ·rw[aPQ hlt] at hb⊢
   exact hb
  ·have h9:=dK hb
   simp at h9;have:b=H.length:=U
   subst this;rw[eL] at hb;cases hb;exact absurd rfl hx
 obtain⟨D2,u,d2,hmd⟩:=Wc (H:=Da) (m:=m-1) 0 room more start U h2 h3 h4 (aH0 Da) (by simp) (by simp) U
 obtain⟨H2,g2,f2⟩:=Af _ sA _ _ _ Da Ha sa _ _ d2;obtain⟨ev,wv,nv,rfl,y2,hp⟩:=hmd.pv;have x2:=Qi sa f2 y2;have hok:=aHW 0 room more start [];have hwl:(mkP 0 room more start []).weights.length<=1000:=by simp[mkP];omega
 obtain⟨p,hpp⟩:=aD (mkP 0 room more start []);have hq0:B3 c room more start=tX p (ofT c):=by rw[hpp];rfl
 rw[hq0];rw[<-hpp] at hp g2 hok hwl;have z0:((0:Nat):Int)=0:=rfl;simp only[z0] at g2;obtain⟨D1,tv,d1,y1,qt,_⟩:=aJK (hc.ext (xd.tr y2)) hu8 hl (m:=m-1) U
 obtain⟨H1,g1,f1⟩:=Af _ sA _ _ _ D2 H2 f2.sub _ _ d1;have x1:=Qi f2.sub f1 y1;obtain⟨hr,ht1⟩:=aPh c;obtain⟨D3,_,d3,ev3,wv3,nv3,rfl,y3,hp3⟩:=aJZ (hp.ext y1) hwl qt.rs hr ht1 (m:=m-1) U U
 obtain⟨H3,g3,f3⟩:=Af _ sA _ _ _ D1 H1 f1.sub _ _ d3;have x3:=Qi f1.sub f3 y3;have bD:D3[H.length]? =some .dead:=dT bd ((y2.tr y1).tr y3);obtain⟨q,hq⟩:=aD (tX p (ofT c));rw[<-hq] at hp3 g3⊢;have hp3H:PV H3 q ev3 wv3 nv3:=aBv hp3 f3.sub.2;have cp:=Lq hp3H H3;obtain⟨H4,hH4⟩:=aD (H3++[plB q ev3 wv3 nv3]);rw[<-hH4] at cp;have x4:Ext H3 H4:=by rw[hH4];exact Fr.app _ _ _
 have b4:H4[H3.length]? =some (plB q ev3 wv3 nv3):=by rw[hH4];exact eL _ _
 have l4:=fL b4;have xx:=((x2.tr x1).tr x3).tr x4;have bz:H4[H.length]? =some plZ:=dT ba xx;have e1:(plV q ev3 wv3 nv3).cells.toList=plC q ev3 wv3 nv3:=rfl;have st:stN 11 (.Q H.length 0) (plV q ev3 wv3 nv3) H4=some (undef,H4.set H.length (plB q ev3 wv3 nv3)):=by
  rw[mB 11 _ _ _ rfl,bz,e1];unfold plZ;rw[nG _ _ _ _ _ _ aC (by simp[plC]) hp3H.Lp]
  simp[eK,plC,plB]
 have hlt:H.length<H4.length:=dK bz;have x5:Ext H (H4.set H.length (plB q ev3 wv3 nv3)):=qE (xa.tr xx) (aPS _);have l5:ldN 11 (.Q H.length 0) (H4.set H.length (plB q ev3 wv3 nv3))=some (plV q ev3 wv3 nv3,H4.set H.length (plB q ev3 wv3 nv3)):=fL (by rw[aPT U])
 refine⟨H4.set H.length (plB q ev3 wv3 nv3),ev3,wv3,nv3,dI (cT rfl) U ?_,x5,?_⟩
 ·rw[aH4]
  simp -implicitDefEqProofs only[gsR,Eh,<-hHa,g2,g1,g3,cp,l4,st,l5]
  done
 ·refine aBv hp3 λb x hb hx=> ?_
  have hne:b≠H.length:=λh=>by rw[h,bD] at hb;cases hb;exact hx rfl
  rw[aPO (Ne.symm hne),x4.2 b (dK (f3.sub.2 b x hb hx)) id];exact f3.sub.2 b x hb hx
end
end Go.Proofs.YtkeilicinggjmaaGreatDoor
namespace Go.Proofs.YtkeilicinggjmaaGreatDoor
open Go.Proofs.Tryz
open Go.Abs Go.Abs.M
open Classical
theorem uK (t:TypeId)(a:Addr)(h:nF prog t (.pointer none)=true):bin prog .eql t (.pointer (some a)) (.pointer none)=some (.bool false)/\bin prog .eql t (.pointer none) (.pointer none)=some (.bool true):=by
 have h2:nF prog t (.pointer (some a))=true:=by
  rw[<-h];unfold nF;cases prog.underlying t with
  |none=>rfl
  |some d=>cases d<;>rfl
 constructor<;>simp[bin,eG,o5,h,h2,eqV]
section
variable {H00 H0 H H' : aE} {F : Part → Nat → Prop} {y : Lay} {p : PlanD} {ev wv nv : Value} {c : Cfg} {t : Nat} {s : NS} {N N' : Nat → Prop}
theorem NodeAt.aPj (h:NodeAt H0 H F y p ev wv nv c t s)(he:Ext H00 H0)(hp:PV H00 p ev wv nv):NodeAt H00 H F y p ev wv nv c t s:=
 {h with ext:=he.tr h.ext,old:=λb hb=>aP3 he.1 (h.old b hb),plan:=hp}
theorem NodeAt.Gw (h:NodeAt H0 H F y p ev wv nv c t s)(he:Ext H0 H')(hm:Mv N N' H H')(hd: ∀b,Un F b-> ¬N b):NodeAt H0 H' F y p ev wv nv c t s/\ ∀b,Un F b-> ¬N' b:=
 ⟨{h with ext:=he,sep:=h.sep.wP (zI _ _ _ _ _ _ _) hm hd},λb hb hn=>(hm.own b hn).elim (hd b hb) λhl=>by have:=h.sep.qB b hb;omega⟩
end
def ptC (a:Option Addr):List Value:=[.pointer a]
theorem Qk (a:Option Addr):(ptC a).length=1:=rfl
theorem Qj (a:Option Addr):dV (ptC a)=true:=rfl
theorem aBw (t:TypeId)(a:Option Addr)(H:aE):dG t 1 1 [.pointer none] [(0,.pointer a)] H=some (.slice (some ⟨H.length,0,none⟩) 1 1,H++[.cells (ptC a) t .row]):=rfl
theorem tK {α:Type}{el:α->List Value}{e:TypeId}{sz:Nat}{H H':aE}{v:Value}{xs:List α}(h:Rw el e sz H v xs)(he:Ext H H'):Rw el e sz H' v xs:=h.fG λb hb=>he.2 b (h.fY hb) id
theorem aBx {α β:Type}{el:α->List Value}{el':β->List Value}{e e':TypeId}{sz sz':Nat}{H H':aE}{u v:Value}{xs:List α}{ys:List β}(h:Rw el e sz H v xs)(hu:Rw el' e' sz' H u ys)(hne:e≠e')(hf:Fr (cV u) H H'):Rw el e sz H' v xs:=h.fG λb hb=>hf.2 b (h.fY hb) λhh=>by
 obtain⟨c1,h1⟩:=h.blk hb;obtain⟨c2,h2⟩:=hu.blk hh;rw[h1] at h2;cases h2;exact hne rfl
theorem aPk {x:Option (Value×aE)}{v:Value}{Q:aE->Prop}(h: ∃H2 u2,x=some (u2,H2)/\u2=v/\Q H2): ∃H2,x=some (v,H2)/\Q H2:=by
 obtain⟨H2,_,h1,rfl,h2⟩:=h
 exact⟨H2,h1,h2⟩
theorem aPl {x:Option (Value×aE)}{v:Value}{Q:aE->Prop}(h: ∃H2,x=some (v,H2)/\Q H2): ∃H2 u2,x=some (u2,H2)/\u2=v/\Q H2:=by
 obtain⟨H2,h1,h2⟩:=h
 exact⟨H2,_,h1,rfl,h2⟩
end Go.Proofs.YtkeilicinggjmaaGreatDoor
namespace Go.Proofs.YtkeilicinggjmaaGreatDoor
open Go.Proofs.Tryz
open Go.Abs Go.Abs.M
def kp:PlanD:={B3 [0] 1 0 0 with every:=8}
def kx:Pkt:=⟨0,1,0,7⟩
def kA:NS:=(pQ (jJ kp 0) kx (NS.k9 (jJ kp 0))).2
def kT:NS×lG:=vH (jJ kp 0) kA
def kB:Nat×NS:=oI (jJ kp 1) 0 (kT.2.getD 0 (0,[])).2 (NS.k9 (jJ kp 1))
def kU:NS×lG:=vH (jJ kp 1) kB.2
theorem aBy:jD kp=0:=by decide+kernel
theorem aPm:(pQ (jJ kp 0) kx (NS.k9 (jJ kp 0))).1=0/\kT.2.map (·.1)=[1]/\kB.1=0/\kU.1.hG=[kx]/\(pQ (jJ kp 0) ⟨1,0,0,0⟩ kT.1).1=1:=by decide+kernel
end Go.Proofs.YtkeilicinggjmaaGreatDoor
noncomputable section
namespace Go.Proofs.YtkeilicinggjmaaGreatDoor
open Go.Proofs.Tryz
open Go.Abs Go.Abs.M
variable (O:aG)(L:LV)(k:KV)(N P Q R S T U V W X Y Z a b c d e f g i j l m n o p q r s t u v w x y z A B C D E F G H I J zz zy zx zw zv zu zt zs zr zq zp zo zn zm zl zk zj zi zh zg zf ze zd zc zb za yz yy yx yw yv yu yt ys yr yq yp yo yn ym yl yk yj yi yh yg yf ye yd yc yb ya xz xy xx xw xv xu xt xs xr xq xp xo xn xm xl xk xj xi xh xg xf xe xd xc xb xa wz wy wx ww wv wu wt ws wr wq wp wo wn wm wl wk wj wi wh wg wf we wd wc wb wa vz:Value)(h:aE)
theorem aPo:cM prog O L 4 [N,P,Q,R,S,T,U] h=ob (cS 28 (Value.cells N).toList .fix h) λaa h0=>ob (ldN 11 aa h0) λab h1=>ob (O (.func 15) [ab] h1) λac h2=>ob (aF (bin prog .gtr 3 ac (.I 300)) h2) λad h3=>ob (gd ad false (O (.func 12) []) h3) λae h4=>ob (gd ad false (aF (un prog .not ae)) h4) λaf h5=>ob (aF (cL ad (.bool true) af) h5) λag h6=>aN ag (ob (O (.func 12) [] h6) λah h7=>some (aK [ah],h7)) (ob (O (.func 16) [P,Q,R,S,T] h6) λai h8=>ob (cS 28 [(.I 0),(.slice none 0 0),(.I 0),(.I 0),(.I 0),(.I 0),(.I 0),(.I 0),(.slice none 0 0),(.int .u16 0),(.slice none 0 0)] .fix h8) λaj h9=>ob (stN 11 aj ai h9) λak h10=>ob (ldN 11 aa h10) λal h11=>ifB (true) (ob (O (.func 11) [al,U] h11) λam h12=>ifB (true) (ob (aF (bin prog .eql 30 am (.pointer none)) h12) λan h13=>ob (ldN 11 aa h13) λao h14=>ifB (chk ((ldN 11 aa) h11) ao&&(true)) (ob (O (.func 17) [ao,U] h14) λap h15=>ifB (true) (ob (aF (bin prog .eql 47 ap (.pointer none)) h15) λaq h16=>ob (aF (bin prog .eql 4 an aq) h16) λar h17=>ob (gd ar true (ldN 11 aj) h17) λau h18=>ifB (true) (ob (gd ar true (cG U) h18) λav h19=>ob (gd ar true (O (.func 11) [au,av]) h19) λaw h20=>ifB (true) (ob (gd ar true (aF (bin prog .eql 30 aw (.pointer none))) h20) λax h21=>ob (gd ar true (ldN 11 aj) h21) λay h22=>ifB (chk ((gd ar true (ldN 11 aj)) h19) ay&&(true)) (ob (gd ar true (cG U) h22) λaz h23=>ob (gd ar true (O (.func 17) [ay,az]) h23) λba h24=>ifB (true) (ob (gd ar true (aF (bin prog .eql 47 ba (.pointer none))) h24) λbb h25=>ob (gd ar true (aF (bin prog .eql 4 ax bb)) h25) λbc h26=>ob (aF (cL ar bc (.bool false)) h26) λbd h27=>some (aK [bd],h27)))))))))):=by kernel_rfl
theorem aPn:cM prog O L 12 [] h=ob (dG 5 1 1 [(.int .u8 0)] [(0,(.int .u8 0))] h) λaa h=>ob (O (.func 10) [aa,(.int .u8 1),(.int .u8 0),(.int .u16 0)] h) λab h=>ob (cS 28 [(.I 0),(.slice none 0 0),(.I 0),(.I 0),(.I 0),(.I 0),(.I 0),(.I 0),(.slice none 0 0),(.int .u16 0),(.slice none 0 0)] .fix h) λac h=>ob (stN 11 ac ab h) λad h=>ob (aF (aI 6 ac) h) λae h=>ob (stN 1 ae (.I 8) h) λaf h=>ob (ldN 11 ac h) λag h=>ob (O (.func 11) [ag,(.I 0)] h) λah h=>ob (ldN 11 ac h) λai h=>ob (O (.func 11) [ai,(.I 1)] h) λaj h=>ob (aF (bin prog .eql 30 ah (.pointer none)) h) λak h=>ob (gd ak false (cG aj) h) λal h=>ob (gd ak false (aF (bin prog .eql 30 al (.pointer none))) h) λam h=>ob (aF (cL ak (.bool true) am) h) λan h=>ob (gd an false (cG ah) h) λao h=>ob (gd an false (O (.func 42) [ao]) h) λap h=>ob (gd an false (aF (bin prog .eql 83 ap (.pointer none))) h) λaq h=>ob (aF (cL an (.bool true) aq) h) λar h=>ob (gd ar false (cG aj) h) λau h=>ob (gd ar false (O (.func 42) [au]) h) λav h=>ob (gd ar false (aF (bin prog .eql 83 av (.pointer none))) h) λaw h=>ob (aF (cL ar (.bool true) aw) h) λax h=>ob (gd ax false (cG ah) h) λay h=>ob (gd ax false (O (.func 43) [ay]) h) λaz h=>ob (gd ax false (aF (bin prog .eql 87 az (.pointer none))) h) λba h=>ob (aF (cL ax (.bool true) ba) h) λbb h=>ob (gd bb false (cG ah) h) λbc h=>ob (gd bb false (O (.func 19) [bc,(.I 1),(.I 0)]) h) λbd h=>ob (gd bb false (aF (bin prog .eql 56 bd (.pointer none))) h) λbe h=>ob (aF (cL bb (.bool true) be) h) λbf h=>ob (gd bf false (cG ah) h) λbg h=>ob (gd bf false (O (.func 44) [bg,(.I 1),(.I 0)]) h) λbh h=>ob (gd bf false (aF (bin prog .eql 97 bh (.pointer none))) h) λbi h=>ob (aF (cL bf (.bool true) bi) h) λbj h=>aN bj (some (aK [(.bool false)],h)) (ob (aF (bld prog 54 [(0,(.I 0)),(1,(.I 1)),(3,(.int .u32 7))]) h) λbk h=>ob (O (.func 18) [ah,bk] h) λbl h=>ob (O (.func 13) [ah] h) λbm h=>ob (aF (cH bm) h) λbn h=>ob (aF (bin prog .neq 3 bn (.I 1)) h) λbo h=>ob (gd bo false (cG bm) h) λbp h=>ob (gd bo false (aF (cB 2 bp (.I 0))) h) λbq h=>ob (gd bo false (aF (aI 0 bq)) h) λbr h=>ob (gd bo false (ld1 br) h) λbs h=>ob (gd bo false (aF (bin prog .neq 3 bs (.I 1))) h) λbt h=>ob (aF (cL bo (.bool true) bt) h) λbu h=>aN bu (some (aK [(.bool false)],h)) (ob (aF (cB 2 bm (.I 0)) h) λbv h=>ob (aF (aI 1 bv) h) λbw h=>ob (ld1 bw h) λbx h=>ob (O (.func 45) [aj,(.I 0),bx] h) λbz h=>ob (O (.func 13) [aj] h) λca h=>ob (O (.func 42) [aj] h) λcb h=>ob (O (.func 46) [cb] h) λcc h=>ob (aF (bin prog .eql 51 bl (.int .u16 0)) h) λcd h=>ob (gd cd true (cG bz) h) λce h=>ob (gd cd true (aF (bin prog .eql 51 ce (.int .u16 0))) h) λcf h=>ob (aF (cL cd cf (.bool false)) h) λcg h=>ob (gd cg true (cG cc) h) λch h=>ob (gd cg true (aF (cH ch)) h) λci h=>ob (gd cg true (aF (bin prog .eql 3 ci (.I 1))) h) λcj h=>ob (aF (cL cg cj (.bool false)) h) λck h=>ob (gd ck true (cG cc) h) λcl h=>ob (gd ck true (aF (cB 4 cl (.I 0))) h) λcm h=>ob (gd ck true (aF (aI 3 cm)) h) λcn h=>ob (gd ck true (ld1 cn) h) λco h=>ob (gd ck true (aF (bin prog .eql 37 co (.int .u32 7))) h) λcp h=>ob (aF (cL ck cp (.bool false)) h) λcq h=>ob (gd cq true (ldN 11 ac) h) λcr h=>ob (gd cq true (O (.func 11) [cr,(.I 2)]) h) λcs h=>ob (gd cq true (aF (bin prog .eql 30 cs (.pointer none))) h) λct h=>ob (aF (cL cq ct (.bool false)) h) λcu h=>ob (gd cu true (cG ah) h) λcv h=>ob (gd cu true (aF (bld prog 54 [(0,(.I 1))])) h) λcw h=>ob (gd cu true (O (.func 18) [cv,cw]) h) λcx h=>ob (gd cu true (aF (bin prog .eql 51 cx (.int .u16 1))) h) λcy h=>ob (aF (cL cu cy (.bool false)) h) λcz h=>ob (gd cz true (cG ah) h) λda h=>ob (gd cz true (O (.func 19) [da,(.I 0),(.I 0)]) h) λdb h=>ob (gd cz true (aF (bin prog .eql 56 db (.pointer none))) h) λdc h=>ob (aF (cL cz dc (.bool false)) h) λdd h=>some (aK [dd],h))):=by kernel_rfl
end Go.Proofs.YtkeilicinggjmaaGreatDoor
end
namespace Go.Proofs.YtkeilicinggjmaaGreatDoor
open Go.Proofs.Tryz
open Go.Abs Go.Abs.M
open Classical
section
variable {H : aE} {m : Nat} {p : PlanD} {ev wv nv : Value}
theorem aBz (hp:PV H p ev wv nv)(hm:17592186045500<m)(hm2:m<=72057594037927936)(v:Int)(hno:jD p≠0∨v<0∨p.nodes<=v):
  ∃H',lvl prog pkN m (.func 11) [plV p ev wv nv,.I v] H=some (.pointer none,H')/\Ext H H':=by
 obtain⟨H1,hH1⟩:=aD (H++[plB p ev wv nv]);have x1:Ext H H1:=by rw[hH1];exact Fr.app _ _ _
 have b1:H1[H.length]? =some (plB p ev wv nv):=by rw[hH1];exact eL _ _
 have p1:=hp.ext x1;have l11:=fL b1;obtain⟨H2,g1,x2⟩:=X6 p1 (m:=m-1) U U
 have b2:H2[H.length]? =some (plB p ev wv nv):=by rw[x2.2 _ (dK b1) id,b1]
 have l0:ld1 (.pointer (some ⟨H.length,0,none⟩)) H2=some (.int .i64 p.nodes,H2):=dE b2 0 (.int .i64 p.nodes) rfl;have e1:H++[Blk.cells (plV p ev wv nv).cells.toList 28 .fix]=H1:=by rw[hH1];rfl
 refine jQ (cT rfl) U ⟨H2,?_,x1.tr x2⟩
 rw[Yn];by_cases c0:jD p=0
 ·have d0:((jD p:Int)!=0)=false:=by rw[c0];rfl
  by_cases c1:v<0
  ·have d1:decide (v<0)=true:=aQw c1
   simp -implicitDefEqProofs only[gsR,e1,l11,g1,d0,d1]
  ·have d1:decide (v<0)=false:=aQx c1
   have d2:decide (p.nodes<=v)=true:=aQw U
   simp -implicitDefEqProofs only[gsR,e1,l11,g1,d0,d1,l0,d2]
 ·have d0:((jD p:Int)!=0)=true:=by rw[bne_iff_ne];exact c0
  simp -implicitDefEqProofs only[gsR,e1,l11,g1,d0]
theorem aPp (m:Nat)(hm:17592186045600<m)(hm2:m<=72057594037927936): ∃H',lvl prog pkN m (.func 12) [] H=some (.bool true,H')/\Ext H H':=by
  obtain⟨H1,hH1⟩:=aD (H++[Blk.cells [Value.int .u8 0] 5 .row]);have x1:Ext H H1:=by rw[hH1];exact Fr.app _ _ _
  have e1:dG 5 1 1 [.int .u8 0] [(0,.int .u8 0)] H=some (.slice (some ⟨H.length,0,none⟩) 1 1,H1):=by rw[hH1];rfl
  have hu:Us H1 (.slice (some ⟨H.length,0,none⟩) 1 1) [0]:= .inr ⟨H.length,0,1,rfl,aPS _,λ_=>⟨5,.row,[],[],rfl,λ_=>rfl,by rw[hH1,dS];rfl⟩⟩
  obtain⟨H2,ev,wv,nv,g2,x2,hp⟩:=aPi hu (by simp) (by simp) 1 0 0 U U U (m:=m-1) U U
  simp only[show((1:Nat):Int)=1 from rfl,show((0:Nat):Int)=0 from rfl] at g2
  obtain⟨q,hq⟩:=aD (B3 [0] 1 0 0);have hqk:kp={q with every:=8}:=by rw[hq];rfl
  rw[<-hq] at g2 hp;have cp:=Lq hp H2;obtain⟨H3,hH3⟩:=aD (H2++[plB q ev wv nv]);rw[<-hH3] at cp;have b3:H3[H2.length]? =some (plB q ev wv nv):=by rw[hH3];exact eL _ _
  have x3:Ext H2 H3:=by rw[hH3];exact Fr.app _ _ _
  have st:stN 1 (.Q H2.length 6) (.I 8) H3=some (undef,H3.set H2.length (plB kp ev wv nv)):=Ei (q':=kp) (ev':=ev) (wv':=wv) (nv':=nv) b3 rfl rfl aC (by rw[hqk];rfl)
  obtain⟨H4,hH4⟩:=aD (H3.set H2.length (plB kp ev wv nv));rw[<-hH4] at st;have x4:Ext H2 H4:=by rw[hH4];exact qE x3 (aPS _)
  have b4:H4[H2.length]? =some (plB kp ev wv nv):=by rw[hH4,aPT (dK b3)]
  have p4:PV H4 kp ev wv nv:=by
    have:=hp.ext x4;rw[hqk]
    exact⟨this.e,this.w,this.n,this.be,this.bw,this.bn⟩
  have l4:=fL b4;have hnn:kp.nodes=2:=by decide+kernel
  -- both nodes
  obtain⟨H5,Fa,ya,g5,ha⟩:=Qh p4 aBy (by decide+kernel) (m:=m-1) U U 0 (by rw[hnn];decide)
  have b5:=dT b4 ha.ext;have l5:=fL b5;obtain⟨H6,Fb,yb,g6,hb⟩:=Qh (p4.ext ha.ext) aBy (by decide+kernel) (m:=m-1) U U 1 (by rw[hnn];decide)
  simp only[show((1:Nat):Int)=1 from rfl,show((0:Nat):Int)=0 from rfl] at g5 g6
  have dis: ∀b,Un Fb b-> ¬Un Fa b:=λb h1 h2=>by have:=hb.old b h1;have:=ha.sep.qB b h2;omega
  have ha6:=ha.iT hb.ext;have hb6:=hb.aPj ha.ext p4;obtain⟨ca,hca⟩:=aD (jJ kp 0);obtain⟨cb,hcb⟩:=aD (jJ kp 1);have hpa:ca.aL=2/\ca.lanes=1:=by rw[hca];decide+kernel
  rw[<-hca] at ha ha6;rw[<-hcb] at hb hb6;obtain⟨r1,r2,r3,r4,r5⟩:=aPm
  -- they are there
  have k1:=P2 ha6 (m:=m-1) U
  have k2:=P2 hb6 (m:=m-1) U
  have k3:=aNW ha6 (m:=m-1) U
  obtain⟨H7,k4,x7⟩:=aNX ha6 (m:=m-1) U (i:=1) (k:=0) U U U
  have ha7:=ha6.iT x7;have hb7:=hb6.iT x7;obtain⟨H8,k5,x8⟩:=aNV ha7 (m:=m-1) U (i:=1) (k:=0) U U U
  have ha8:=ha7.iT x8;have hb8:=hb7.iT x8;simp only[show((1:Nat):Int)=1 from rfl,show((0:Nat):Int)=0 from rfl] at k4 k5
  have n1:=λa=>(uK 30 a (by kernel_rfl)).1
  have n1':=(uK 30 ⟨0,0,none⟩ (by kernel_rfl)).2
  have n2:=λa=>(uK 83 a (by kernel_rfl)).1
  have n3:=λa=>(uK 87 a (by kernel_rfl)).1
  have n4:=λa=>(uK 56 a (by kernel_rfl)).1
  have n4':=(uK 56 ⟨0,0,none⟩ (by kernel_rfl)).2
  have n5:=λa=>(uK 97 a (by kernel_rfl)).1
  have bp:bld prog 54 [(0,.I 0),(1,.I 1),(3,.int .u32 7)]=some kx.dR:=rfl;have bp2:bld prog 54 [(0,.I 1)]=some (Pkt.dR ⟨1,0,0,0⟩):=rfl
  -- what is injected goes out
  obtain⟨H9,Fa9,g9,ha9,m9⟩:=aA5 ha8 (m:=m-1) U kx aC
  have hr1:(pQ ca kx (NS.k9 ca)).1=0:=by rw[hca];exact r1
  have hs9:(pQ ca kx (NS.k9 ca)).2=kA:=by rw[hca];rfl
  rw[hr1] at g9;rw[hs9] at ha9;obtain⟨hb9,dis9⟩:=hb8.Gw ha9.ext m9 dis;obtain⟨H10,Fa10,v10,us10,g10,ha10,m10,o10⟩:=aBm ha9 U (m:=m-1) U
  obtain⟨hb10,dis10⟩:=hb9.Gw ha10.ext m10 dis9;have hT:vH ca kA=kT:=by rw[hca];rfl
  rw[hT] at ha10 o10;have hlen:us10.length=1:=by
    rw[o10.len];have:=congrArg List.length r2;simpa using this
  obtain⟨u0,hu0⟩: ∃u0,us10=[u0]:=List.length_eq_one_iff.mp hlen;obtain⟨o0,ho0⟩: ∃o0,kT.2=[o0]:=List.length_eq_one_iff.mp (by rw[<-o10.len,hlen])
  obtain⟨w1,w2,w3⟩:=o10.at_ 0 u0 o0 (by rw[hu0];rfl) (by rw[ho0];rfl)
  have ho1:o0.1=1:=by rw[ho0] at r2;simpa using r2
  have len10:cH v10=some (.I 1):=by rw[o10.rw_.rs.fD,hlen];rfl
  obtain⟨bo,oo,i1,i2,i3⟩:=o10.rw_.rs.fZ aBh (i:=0) (x:=u0) (by rw[hu0];rfl) .i64
  obtain⟨j1,j2,j3⟩:=i3 H10 rfl;have t0:=j2 0 _ rfl;have t1:=j2 1 _ rfl;rw[w1,ho1] at t0;rw[(aOE w2).1] at t1
  -- and comes
  obtain⟨H11,Fb11,g11,hb11,m11⟩:=aOc hb10 U (m:=m-1) U 0 w2.rs
  have hba:(kT.2.getD 0 (0,[])).2=o0.2:=by rw[ho0];rfl
  have hr3:(oI cb 0 o0.2 (NS.k9 cb)).1=0:=by rw[hcb,<-hba];exact r3
  have hs11:(oI cb 0 o0.2 (NS.k9 cb)).2=kB.2:=by rw[hcb,<-hba];rfl
  rw[hr3] at g11;rw[hs11] at hb11;have dis10': ∀b,Un Fa10 b-> ¬Un Fb b:=λb h1 h2=>dis10 b h2 h1
  obtain⟨ha11,dis11⟩:=ha10.Gw hb11.ext m11 dis10';obtain⟨H12,Fb12,v12,us12,g12,hb12,m12,o12⟩:=aBm hb11 U (m:=m-1) U
  obtain⟨ha12,dis12⟩:=ha11.Gw hb12.ext m12 dis11;have hU:vH cb kB.2=kU:=by rw[hcb];rfl
  rw[hU] at hb12;have k6:=P2 hb12 (m:=m-1) U
  obtain⟨c0,c1,c2,cv,hh⟩:=hb12.aOe;rw[r4] at hh;obtain⟨H13,gv,g13,aP,q13,_⟩:=aM7 hh (m:=m-1) U aC
  have ha13:=ha12.iT aP;have len13:cH gv=some (.I 1):=q13.rs.fD;obtain⟨bg,og,i4,i5,i6⟩:=q13.rs.fZ zB (i:=0) (x:=kx) rfl .i64;obtain⟨j4,j5,j6⟩:=i6 H13 rfl;have t3:=j5 3 (.int .u32 7) rfl
  -- what is none
  have b13:H13[H2.length]? =some (plB kp ev wv nv):=by
    have:=dT b4 ha13.ext;exact this
  have l13:=fL b13;obtain⟨H14,g14,aQ⟩:=aBz (p4.ext ha13.ext) (m:=m-1) U U 2 (.inr (.inr (by rw[hnn];decide)))
  have ha14:=ha13.iT aQ;obtain⟨H15,Fa15,g15,ha15,m15⟩:=aA5 ha14 (m:=m-1) U ⟨1,0,0,0⟩ aC
  have hr5:(pQ ca ⟨1,0,0,0⟩ kT.1).1=1:=by rw[hca];exact r5
  rw[hr5] at g15;obtain⟨H16,g16,aT⟩:=aNY ha15 (m:=m-1) U 0 0 U
  refine jQ (cT rfl) U ⟨H16,?_,((x1.tr x2).tr x4).tr (ha15.ext.tr aT)⟩
  rw[aPn];have z1:((1:Int)!=1)=false:=rfl;have z2:((1:Int)==1)=true:=rfl;have z3:((0:Int)==0)=true:=rfl;have z4:((7:Int)==7)=true:=rfl;simp only[show((1:Nat):Int)=1 from rfl,show((0:Nat):Int)=0 from rfl] at i1 i4 g9 g11 g15 t0
  simp -implicitDefEqProofs only[gsR,Eh,e1,g2,cp,st,l4,g5,l5,g6,n1,k1,n2,k2,k3,n3,k4,n4,k5,n5,bp,g9,g10,len10,z1,i1,t0,t1,g11,g12,k6,g13,z3,z2,len13,i4,t3,z4,l13,g14,n1',bp2,g15,g16,n4']
end
section
variable {H : aE} {m : Nat}
theorem aPq:un prog .not (.bool true)=some (.bool false):=rfl
end
end Go.Proofs.YtkeilicinggjmaaGreatDoor
noncomputable section
namespace Go.Proofs.YtkeilicinggjmaaGreatDoor
open Go.Proofs.Tryz
open Go.Abs Go.Abs.M
variable (O:aG)(L:LV)(k:KV)(N P Q R S T U V W X Y Z a b c d e f g i j l m n o p q r s t u v w x y z A B C D E F G H I J zz zy zx zw zv zu zt zs zr zq zp zo zn zm zl zk zj zi zh zg zf ze zd zc zb za yz yy yx yw yv yu yt ys yr yq yp yo yn ym yl yk yj yi yh yg yf ye yd yc yb ya xz xy xx xw xv xu xt xs xr xq xp xo xn xm xl xk xj xi xh xg xf xe xd xc xb xa wz wy wx ww wv wu wt ws wr wq wp wo wn wm wl wk wj wi wh wg wf we wd wc wb wa vz:Value)(h:aE)
def Qm:Code:=cC [1,1,1,1,1,1,1,0,1,0,0,1,0,0,1,1,0,1,0,0] (cF prog 17)
def Qp:KV:=(dB 2 (dO prog O L (cC [1,1,1,1,1,1,1,0,1,0,0,1,0,0,1,1,1] (cF prog 17)) (dB 1 (dO prog O L (cC [1,1,1,1,1,1,1,0,1,0,0,1,1] (cF prog 17)) k))))
def Qn (O:aG)(L:LV) (k:KV) (a b c d e f g i j l m n o p q r s t u v w x y z A B C D E F G H I J zz zy zx zw zv zu zt zs zr zq zp zo zn zm zl zk zj zi zh zg zf ze zd zc zb za yz yy yx yw yv yu yt ys yr yq yp yo yn ym yl yk yj yi yh yg yf ye yd yc yb ya xz xy xx xw xv xu xt xs xr xq xp xo xn xm xl xk xj xi xh xg xf xe xd xc xb xa wz wy wx ww wv wu wt ws wr wq wp wo wn wm:Value) (h:aE):OV:=ob (aF (bV f) h) λaa h=>ob (aF (aI 15 aa) h) λab h=>ob (ld1 ab h) λac h=>ob (dG 130 1 1 [(.slice none 0 0)] [(0,j)] h) λad h=>ob (app 130 1 24 ac ad h) λae h=>ob (aF (bV f) h) λaf h=>ob (aF (aI 15 af) h) λag h=>ob (stN 1 ag ae h) λah h=>ob (aF (bV f) h) λai h=>ob (aF (aI 16 ai) h) λaj h=>ob (ld1 aj h) λak h=>ob (dG 131 1 1 [(.slice none 0 0)] [(0,l)] h) λal h=>ob (app 131 1 24 ak al h) λam h=>ob (aF (bV f) h) λan h=>ob (aF (aI 16 an) h) λao h=>ob (stN 1 ao am h) λap h=>ob (aF (bV f) h) λaq h=>ob (aF (aI 18 aq) h) λar h=>ob (ld1 ar h) λau h=>ifB (true) (ob (aF (aI 8 c) h) λav h=>ob (ld1 av h) λaw h=>ifB (true) (ob (O (.func 62) [aw] h) λax h=>ifB (chk ((ld1 ar) h) au&&(true)) (ob (dG 136 1 1 [(.pointer none)] [(0,ax)] h) λay h=>ob (app 136 1 8 au ay h) λaz h=>ifB (true) (ob (aF (bV f) h) λba h=>ob (aF (aI 18 ba) h) λbb h=>ob (stN 1 bb az h) λbc h=>ifB (true) (ob (aF (bin prog .add 3 i (.I 1)) h) λbd h=>k .normal [a,b,c,d,e,f,g,bd,j,l,m,n,o,p,q,r,s,t,u,v,w,x,y,z,A,B,C,D,E,F,G,H,I,J,zz,zy,zx,zw,zv,zu,zt,zs,zr,zq,zp,zo,zn,zm,zl,zk,zj,zi,zh,zg,zf,ze,zd,zc,zb,za,yz,yy,yx,yw,yv,yu,yt,i,bd,yq,yp,yo,yn,ym,yl,yk,yj,yi,yh,yg,yf,ye,yd,yc,yb,ya,xz,xy,xx,xw,xv,xu,xt,f,f,aa,ab,ac,j,ad,ae,af,ag,f,f,ai,aj,ak,l,al,am,an,ao,f,f,aq,ar,au,av,aw,ax,ay,az,ba,bb,wm] h)))))
theorem aPs:Qp O L k (.exit 2) [a,b,c,d,e,f,g,i,j,l,m,n,o,p,q,r,s,t,u,v,w,x,y,z,A,B,C,D,E,F,G,H,I,J,zz,zy,zx,zw,zv,zu,zt,zs,zr,zq,zp,zo,zn,zm,zl,zk,zj,zi,zh,zg,zf,ze,zd,zc,zb,za,yz,yy,yx,yw,yv,yu,yt,ys,yr,yq,yp,yo,yn,ym,yl,yk,yj,yi,yh,yg,yf,ye,yd,yc,yb,ya,xz,xy,xx,xw,xv,xu,xt,xs,xr,xq,xp,xo,xn,xm,xl,xk,xj,xi,xh,xg,xf,xe,xd,xc,xb,xa,wz,wy,wx,ww,wv,wu,wt,ws,wr,wq,wp,wo,wn,wm] h=Qn O L k a b c d e f g i j l m n o p q r s t u v w x y z A B C D E F G H I J zz zy zx zw zv zu zt zs zr zq zp zo zn zm zl zk zj zi zh zg zf ze zd zc zb za yz yy yx yw yv yu yt ys yr yq yp yo yn ym yl yk yj yi yh yg yf ye yd yc yb ya xz xy xx xw xv xu xt xs xr xq xp xo xn xm xl xk xj xi xh xg xf xe xd xc xb xa wz wy wx ww wv wu wt ws wr wq wp wo wn wm h:=by kernel_rfl
theorem aBB:aM prog O L Qm k [a,b,c,d,e,f,g,i,j,l,m,n,o,p,q,r,s,t,u,v,w,x,y,z,A,B,C,D,E,F,G,H,I,J,zz,zy,zx,zw,zv,zu,zt,zs,zr,zq,zp,zo,zn,zm,zl,zk,zj,zi,zh,zg,zf,ze,zd,zc,zb,za,yz,yy,yx,yw,yv,yu,yt,ys,yr,yq,yp,yo,yn,ym,yl,yk,yj,yi,yh,yg,yf,ye,yd,yc,yb,ya,xz,xy,xx,xw,xv,xu,xt,xs,xr,xq,xp,xo,xn,xm,xl,xk,xj,xi,xh,xg,xf,xe,xd,xc,xb,xa,wz,wy,wx,ww,wv,wu,wt,ws,wr,wq,wp,wo,wn,wm] h=ob (aF (aI 2 c) h) λaa h=>ob (ld1 aa h) λab h=>ob (aF (bin prog .lss 3 m ab) h) λac h=>aN ac (ob (aF (aI 9 c) h) λad h=>ob (ld1 ad h) λae h=>ob (dQ prog 23 55 ae h) λaf h=>ob (aF (aI 3 c) h) λag h=>ob (ld1 ag h) λah h=>ob (O (.func 60) [af,ah] h) λai h=>ob (dG 132 1 1 [(.pointer none)] [(0,ai)] h) λaj h=>ob (app 132 1 8 j aj h) λak h=>ob (aF (aI 9 c) h) λal h=>ob (ld1 al h) λam h=>ob (dQ prog 23 55 am h) λan h=>ob (aF (aI 3 c) h) λao h=>ob (ld1 ao h) λap h=>ob (O (.func 61) [an,ap] h) λaq h=>ob (dG 134 1 1 [(.pointer none)] [(0,aq)] h) λar h=>ob (app 134 1 8 l ar h) λau h=>ob (aF (bin prog .add 3 m (.I 1)) h) λav h=>k .normal [a,b,c,d,e,f,g,i,ak,au,av,n,o,p,q,r,s,t,u,v,w,x,y,z,A,B,C,D,E,F,G,H,I,J,zz,zy,zx,zw,zv,zu,zt,zs,zr,zq,zp,zo,zn,zm,zl,zk,zj,zi,zh,zg,zf,ze,zd,zc,zb,za,yz,yy,yx,yw,yv,yu,yt,ys,yr,m,aa,ab,ac,m,av,j,ad,ae,af,ag,ah,ai,aj,ak,l,al,am,an,ao,ap,aq,ar,au,xs,xr,xq,xp,xo,xn,xm,xl,xk,xj,xi,xh,xg,xf,xe,xd,xc,xb,xa,wz,wy,wx,ww,wv,wu,wt,ws,wr,wq,wp,wo,wn,wm] h) (k (.exit 2) [a,b,c,d,e,f,g,i,j,l,m,n,o,p,q,r,s,t,u,v,w,x,y,z,A,B,C,D,E,F,G,H,I,J,zz,zy,zx,zw,zv,zu,zt,zs,zr,zq,zp,zo,zn,zm,zl,zk,zj,zi,zh,zg,zf,ze,zd,zc,zb,za,yz,yy,yx,yw,yv,yu,yt,ys,yr,m,aa,ab,ac,ym,yl,yk,yj,yi,yh,yg,yf,ye,yd,yc,yb,ya,xz,xy,xx,xw,xv,xu,xt,xs,xr,xq,xp,xo,xn,xm,xl,xk,xj,xi,xh,xg,xf,xe,xd,xc,xb,xa,wz,wy,wx,ww,wv,wu,wt,ws,wr,wq,wp,wo,wn,wm] h):=by kernel_rfl
def Ql:Code:=cC [1,1,1,1,1,1,1,0,1,0,0] (cF prog 17)
def Qo:KV:=(dB 0 (dO prog O L (cC [1,1,1,1,1,1,1,1] (cF prog 17)) (eI prog Tryz.f17)))
theorem aPr:Qo O L (.exit 0) [a,b,c,d,e,f,g,i,j,l,m,n,o,p,q,r,s,t,u,v,w,x,y,z,A,B,C,D,E,F,G,H,I,J,zz,zy,zx,zw,zv,zu,zt,zs,zr,zq,zp,zo,zn,zm,zl,zk,zj,zi,zh,zg,zf,ze,zd,zc,zb,za,yz,yy,yx,yw,yv,yu,yt,ys,yr,yq,yp,yo,yn,ym,yl,yk,yj,yi,yh,yg,yf,ye,yd,yc,yb,ya,xz,xy,xx,xw,xv,xu,xt,xs,xr,xq,xp,xo,xn,xm,xl,xk,xj,xi,xh,xg,xf,xe,xd,xc,xb,xa,wz,wy,wx,ww,wv,wu,wt,ws,wr,wq,wp,wo,wn,wm] h=some (aK [f],h):=by kernel_rfl
theorem aBA:aM prog O L Ql k [a,b,c,d,e,f,g,i,j,l,m,n,o,p,q,r,s,t,u,v,w,x,y,z,A,B,C,D,E,F,G,H,I,J,zz,zy,zx,zw,zv,zu,zt,zs,zr,zq,zp,zo,zn,zm,zl,zk,zj,zi,zh,zg,zf,ze,zd,zc,zb,za,yz,yy,yx,yw,yv,yu,yt,ys,yr,yq,yp,yo,yn,ym,yl,yk,yj,yi,yh,yg,yf,ye,yd,yc,yb,ya,xz,xy,xx,xw,xv,xu,xt,xs,xr,xq,xp,xo,xn,xm,xl,xk,xj,xi,xh,xg,xf,xe,xd,xc,xb,xa,wz,wy,wx,ww,wv,wu,wt,ws,wr,wq,wp,wo,wn,wm] h=ob (aF (bin prog .lss 3 i g) h) λaa h=>aN aa (L (aM prog O L Qm) (Qp O L k) [a,b,c,d,e,f,g,i,(.slice none 0 0),(.slice none 0 0),(.I 0),n,o,p,q,r,s,t,u,v,w,x,y,z,A,B,C,D,E,F,G,H,I,J,zz,zy,zx,zw,zv,zu,zt,zs,zr,zq,zp,zo,zn,zm,zl,zk,zj,zi,zh,zg,zf,ze,zd,zc,zb,za,yz,yy,yx,yw,i,g,aa,ys,yr,yq,yp,yo,yn,ym,yl,yk,yj,yi,yh,yg,yf,ye,yd,yc,yb,ya,xz,xy,xx,xw,xv,xu,xt,xs,xr,xq,xp,xo,xn,xm,xl,xk,xj,xi,xh,xg,xf,xe,xd,xc,xb,xa,wz,wy,wx,ww,wv,wu,wt,ws,wr,wq,wp,wo,wn,wm] h) (k (.exit 0) [a,b,c,d,e,f,g,i,j,l,m,n,o,p,q,r,s,t,u,v,w,x,y,z,A,B,C,D,E,F,G,H,I,J,zz,zy,zx,zw,zv,zu,zt,zs,zr,zq,zp,zo,zn,zm,zl,zk,zj,zi,zh,zg,zf,ze,zd,zc,zb,za,yz,yy,yx,yw,i,g,aa,ys,yr,yq,yp,yo,yn,ym,yl,yk,yj,yi,yh,yg,yf,ye,yd,yc,yb,ya,xz,xy,xx,xw,xv,xu,xt,xs,xr,xq,xp,xo,xn,xm,xl,xk,xj,xi,xh,xg,xf,xe,xd,xc,xb,xa,wz,wy,wx,ww,wv,wu,wt,ws,wr,wq,wp,wo,wn,wm] h):=by kernel_rfl
theorem aBC:cM prog O L 17 [N,P] h=ob (cS 28 (Value.cells N).toList .fix h) λaa h=>ob (ldN 11 aa h) λab h=>ob (O (.func 55) [ab] h) λac h=>ob (aF (bin prog .neq 3 ac (.I 0)) h) λad h=>ob (gd ad false (cG P) h) λae h=>ob (gd ad false (aF (bin prog .lss 3 ae (.I 0))) h) λaf h=>ob (aF (cL ad (.bool true) af) h) λag h=>ob (gd ag false (cG P) h) λah h=>ob (gd ag false (aF (aI 0 aa)) h) λai h=>ob (gd ag false (ld1 ai) h) λaj h=>ob (gd ag false (aF (bin prog .geq 3 ah aj)) h) λak h=>ob (aF (cL ag (.bool true) ak) h) λal h=>aN al (some (aK [(.pointer none)],h)) (ob (ldN 11 aa h) λam h=>ifB (true) (ob (ldN 11 aa h) λan h=>ifB (true) (ob (O (.func 56) [an,P] h) λao h=>ifB (chk ((ldN 11 aa) h) am&&(true)) (ob (aF (bld prog 126 [(0,am),(1,P),(2,ao)]) h) λap h=>ob (cS 126 (Value.cells ap).toList .fix h) λaq h=>ob (aF (bV aq) h) λar h=>ob (aF (aI 12 ar) h) λau h=>ob (ld1 au h) λav h=>ob (aF (cH av) h) λaw h=>ob (aF (bin prog .add 3 aw (.I 1)) h) λax h=>ob (aF (aI 2 aa) h) λay h=>ob (ld1 ay h) λaz h=>ob (aF (aI 4 aa) h) λba h=>ob (ld1 ba h) λbb h=>ob (O (.func 57) [az,bb] h) λbc h=>ob (aF (bV aq) h) λbd h=>ob (aF (aI 13 bd) h) λbe h=>ob (stN 1 be bc h) λbf h=>ob (aF (aI 2 aa) h) λbg h=>ob (ld1 bg h) λbh h=>ob (aF (aI 2 aa) h) λbi h=>ob (ld1 bi h) λbj h=>ob (aF (bin prog .mul 3 ax bj) h) λbk h=>ob (aF (aI 3 aa) h) λbl h=>ob (ld1 bl h) λbm h=>ob (aF (bin prog .mul 3 bk bm) h) λbn h=>ob (O (.func 58) [ax,bh,bn] h) λbo h=>ob (aF (bV aq) h) λbp h=>ob (aF (aI 14 bp) h) λbq h=>ob (stN 1 bq bo h) λbr h=>ob (O (.func 59) [ax] h) λbs h=>ob (aF (bV aq) h) λbt h=>ob (aF (aI 17 bt) h) λbu h=>ob (stN 1 bu bs h) λbv h=>L (aM prog O L Ql) (Qo O L) [N,P,aa,undef,(.pointer none),aq,ax,(.I 0),undef,undef,undef,ab,ac,ad,ad,ae,af,ag,ag,ah,ai,aj,ak,al,am,P,an,P,ao,ap,aq,aq,ar,au,av,aw,ax,aq,ay,az,ba,bb,bc,bd,be,aq,ax,bg,bh,ax,bi,bj,bk,bl,bm,bn,bo,bp,bq,aq,ax,bs,bt,bu,undef,undef,undef,undef,undef,undef,undef,undef,undef,undef,undef,undef,undef,undef,undef,undef,undef,undef,undef,undef,undef,undef,undef,undef,undef,undef,undef,undef,undef,undef,undef,undef,undef,undef,undef,undef,undef,undef,undef,undef,undef,undef,undef,undef,undef,undef,undef,undef,undef,undef,undef,undef,undef,undef,undef,undef,undef,undef,undef,undef,undef,undef] h)))):=by kernel_rfl
theorem aPt:cM prog O L 57 [N,P] h=ob (aF (bin prog .lss 3 N (.I 1)) h) λaa h=>ob (gd aa false (cG N) h) λab h=>ob (gd aa false (aF (bin prog .gtr 3 ab (.I 3))) h) λac h=>ob (aF (cL aa (.bool true) ac) h) λad h=>ob (gd ad false (cG P) h) λae h=>ob (gd ad false (aF (bin prog .lss 3 ae (.I 1))) h) λaf h=>ob (aF (cL ad (.bool true) af) h) λag h=>ob (gd ag false (cG P) h) λah h=>ob (gd ag false (aF (bin prog .gtr 3 ah (.I 8))) h) λai h=>ob (aF (cL ag (.bool true) ai) h) λaj h=>aN aj (some (aK [(.pointer none)],h)) (ob (aF (bld prog 214 [(0,N),(1,P)]) h) λak h=>ob (cS 214 (Value.cells ak).toList .fix h) λal h=>some (aK [al],h)):=by kernel_rfl
theorem aPu:cM prog O L 59 [N] h=ob (aF (bin prog .lss 3 N (.I 1)) h) λaa h=>ob (gd aa false (cG N) h) λab h=>ob (gd aa false (aF (bin prog .gtr 3 ab (.I 16))) h) λac h=>ob (aF (cL aa (.bool true) ac) h) λad h=>aN ad (some (aK [(.pointer none)],h)) (ob (kH 3 1 8 [(.I 0)] N N h) λae h=>ob (kH 3 1 8 [(.I 0)] N N h) λaf h=>ob (aF (bld prog 219 [(0,ae),(1,af)]) h) λag h=>ob (cS 219 (Value.cells ag).toList .fix h) λah h=>some (aK [ah],h)):=by kernel_rfl
theorem aPv:cM prog O L 60 [N,P] h=ob (aF (bin prog .geq 55 N (.int .u64 4611686018427387904)) h) λaa h=>ob (gd aa false (cG P) h) λab h=>ob (gd aa false (aF (bin prog .lss 3 ab (.I 1))) h) λac h=>ob (aF (cL aa (.bool true) ac) h) λad h=>ob (gd ad false (cG P) h) λae h=>ob (gd ad false (aF (bin prog .gtr 3 ae (.I 8))) h) λaf h=>ob (aF (cL ad (.bool true) af) h) λag h=>aN ag (some (aK [(.pointer none)],h)) (ob (dQ prog 3 55 P h) λah h=>ob (aF (bin prog .add 55 N ah) h) λai h=>ob (aF (bld prog 221 [(0,N),(1,ai)]) h) λaj h=>ob (cS 221 (Value.cells aj).toList .fix h) λak h=>some (aK [ak],h)):=by kernel_rfl
theorem aPw:cM prog O L 61 [N,P] h=ob (aF (bin prog .geq 55 N (.int .u64 4611686018427387904)) h) λaa h=>ob (gd aa false (cG P) h) λab h=>ob (gd aa false (aF (bin prog .lss 3 ab (.I 1))) h) λac h=>ob (aF (cL aa (.bool true) ac) h) λad h=>ob (gd ad false (cG P) h) λae h=>ob (gd ad false (aF (bin prog .gtr 3 ae (.I 8))) h) λaf h=>ob (aF (cL ad (.bool true) af) h) λag h=>aN ag (some (aK [(.pointer none)],h)) (ob (aF (bld prog 223 [(0,N),(1,(.I 0)),(2,P)]) h) λah h=>ob (cS 223 (Value.cells ah).toList .fix h) λai h=>some (aK [ai],h)):=by kernel_rfl
end Go.Proofs.YtkeilicinggjmaaGreatDoor
end
namespace Go.Proofs.YtkeilicinggjmaaGreatDoor
open Go.Proofs.Tryz
open Go.Abs Go.Abs.M
open Classical
section
variable {H : aE} {m : Nat} {p : PlanD} {ev wv nv : Value}
theorem B4 {f:FuncId}{ys:List Value}(h: ∃H' u,lvl prog pkN m (.func f) ys H=some (u,H')/\(∃a,u= .pointer a)/\Ext H H'): ∃H' a,lvl prog pkN m (.func f) ys H=some (.pointer a,H')/\Ext H H':=by
 obtain⟨H',_,h1,⟨a,rfl⟩,h2⟩:=h
 exact⟨H',a,h1,h2⟩
theorem aPC {l q:Int}(h1:1<=l/\l<=3)(h2:1<=q/\q<=8)(hm:0<m): ∃H' a,lvl prog pkN m (.func 57) [.I l,.I q] H=some (.pointer a,H')/\Ext H H':=by
 have d1:decide (l<1)=false:=aQx U
 have d2:decide (3<l)=false:=aQx U
 have d3:decide (q<1)=false:=aQx U
 have d4:decide (8<q)=false:=aQx U
 obtain⟨v,hv⟩: ∃v,bld prog 214 [(0,.int .i64 l),(1,.int .i64 q)]=some v:=⟨_,rfl⟩;refine B4 (fJ (cT rfl) U ⟨H++[Blk.cells v.cells.toList 214 .fix],.pointer (some ⟨H.length,0,none⟩),?_,⟨_,rfl⟩,Fr.app _ _ _⟩)
 rw[aPt];simp -implicitDefEqProofs only[gsR,d1,d2,d3,d4,hv]
theorem aPA {a l s:Int}(h0:1<=a/\a<=16)(h1:1<=l/\l<=3)(h2:1<=s/\s<=200)(hm:0<m): ∃H' a',lvl prog pkN m (.func 58) [.I a,.I l,.I s] H=some (.pointer a',H')/\Ext H H':=by
 have d1:decide (l<1)=false:=aQx U
 have d2:decide (3<l)=false:=aQx U
 have d3:decide (s<1)=false:=aQx U
 have d4:decide (200<s)=false:=aQx U
 have d5:decide (a<1)=false:=aQx U
 have d6:decide (16<a)=false:=aQx U
 obtain⟨v,hv⟩: ∃v,bld prog 217 [(0,.int .i64 a),(1,.int .i64 l),(2,.int .i64 s)]=some v:=⟨_,rfl⟩;refine B4 (fJ (cT rfl) U ⟨H++[Blk.cells v.cells.toList 217 .fix],.pointer (some ⟨H.length,0,none⟩),?_,⟨_,rfl⟩,Fr.app _ _ _⟩)
 rw[aMm];simp -implicitDefEqProofs only[gsR,d1,d2,d3,d4,d5,d6,hv]
theorem aPB {n:Nat}(h0:1<=n/\n<=16)(hm:0<m): ∃H' a',lvl prog pkN m (.func 59) [.I n] H=some (.pointer a',H')/\Ext H H':=by
 have d5:decide ((n:Int)<1)=false:=aQx U
 have d6:decide (16<(n:Int))=false:=aQx U
 have m1:=sT (H:=H) 3 1 8 [.I 0] .i64 .i64 (n:Int) U U U rfl
 obtain⟨G1,hG1⟩:=aD (H++[Blk.cells (List.replicate (n:Int).toNat [Value.int .i64 0]).flatten 3 .row]);have x1:Ext H G1:=by rw[hG1];exact Fr.app _ _ _
 have m2:=sT (H:=G1) 3 1 8 [.I 0] .i64 .i64 (n:Int) U U U rfl
 obtain⟨G2,hG2⟩:=aD (G1++[Blk.cells (List.replicate (n:Int).toNat [Value.int .i64 0]).flatten 3 .row]);have x2:Ext G1 G2:=by rw[hG2];exact Fr.app _ _ _
 rw[<-hG1] at m1;rw[<-hG2] at m2;obtain⟨v,hv⟩: ∃v,bld prog 219 [(0,.slice (some ⟨H.length,0,none⟩) (n:Int).toNat (n:Int).toNat),(1,.slice (some ⟨G1.length,0,none⟩) (n:Int).toNat (n:Int).toNat)]=some v:=⟨_,rfl⟩;refine B4 (fJ (cT rfl) U ⟨G2++[Blk.cells v.cells.toList 219 .fix],.pointer (some ⟨G2.length,0,none⟩),?_,⟨_,rfl⟩,(x1.tr x2).tr (Fr.app _ _ _)⟩)
 rw[aPu];simp -implicitDefEqProofs only[gsR,d5,d6,m1,m2,hv]
theorem aPy {s r:Nat}(h0:s<65536)(h1:1<=r/\r<=8)(hm:0<m): ∃H' a',lvl prog pkN m (.func 60) [.int .u64 s,.I r] H=some (.pointer a',H')/\Ext H H':=by
 have d1:decide ((4611686018427387904:Int)<=(s:Int))=false:=aQx U
 have d2:decide ((r:Int)<1)=false:=aQx U
 have d3:decide (8<(r:Int))=false:=aQx U
 have u1:prog.underlying 3=some (.int .i64):=by kernel_rfl
 have u3:prog.underlying 55=some (.int .u64):=by kernel_rfl
 obtain⟨z,hz⟩: ∃z,∀G,dQ prog 3 55 (.I (r:Nat)) G=some (.int .u64 z,G):=⟨_,λG=>fI _ _ u1 u3 _ _⟩
 obtain⟨v,hv⟩: ∃v,bld prog 221 [(0,.int .u64 s),(1,.int .u64 (IntKind.u64.wrap (s+z)))]=some v:=⟨_,rfl⟩;refine B4 (fJ (cT rfl) U ⟨H++[Blk.cells v.cells.toList 221 .fix],.pointer (some ⟨H.length,0,none⟩),?_,⟨_,rfl⟩,Fr.app _ _ _⟩)
 rw[aPv];simp -implicitDefEqProofs only[gsR,d1,d2,d3,hz,cO,hv]
theorem aPz {s r:Nat}(h0:s<65536)(h1:1<=r/\r<=8)(hm:0<m): ∃H' a',lvl prog pkN m (.func 61) [.int .u64 s,.I r] H=some (.pointer a',H')/\Ext H H':=by
 have d1:decide ((4611686018427387904:Int)<=(s:Int))=false:=aQx U
 have d2:decide ((r:Int)<1)=false:=aQx U
 have d3:decide (8<(r:Int))=false:=aQx U
 obtain⟨v,hv⟩: ∃v,bld prog 223 [(0,.int .u64 s),(1,.int .i64 0),(2,.int .i64 r)]=some v:=⟨_,rfl⟩;refine B4 (fJ (cT rfl) U ⟨H++[Blk.cells v.cells.toList 223 .fix],.pointer (some ⟨H.length,0,none⟩),?_,⟨_,rfl⟩,Fr.app _ _ _⟩)
 rw[aPw];simp -implicitDefEqProofs only[gsR,d1,d2,d3,hv]
theorem aPD {Hi:aE}{pb L room start:Nat}{a5 a6 a7:Value}(bp:Hi[pb]? =some (plB p ev wv nv))(hL:p.lanes=L)(hL3:L<=3)(hr:p.room=room)(hr8:1<=room/\room<=8)(hs:p.start=start)(hs6:start<65536)(hm:100<m){K:Ex->K (Value×aE)}{Q:aE->Value->Prop}
  (hK: ∀(H':aE)(su ru:Value)(ss rs:List (Option Addr)),Ext Hi H'->Rw ptC 132 1 H' su ss->New Hi su->Rw ptC 134 1 H' ru rs->New Hi ru-> ∀(x0 x1 x3 x4 bG b9 aS aP aQ aO aT aU aR bA bK bX bJ bE aV aW aX aY aZ bB bC bH bI bM bN bO bP bQ bR bS bT bU bY cA cD cE cI cJ cN cP cK cQ cR cW dA cX cY dD dF dL dH dM dU dW dY dZ eA eC eD eE eF eM eN eO eP eQ eS eT eU eV eW eX eY fN fO fP fQ fR fS fT fU gC gD gE gF gG gH gI gJ gK gL gM gN gO gP gQ gR gS gT gU gV gW gX gY gZ hZ iA iB iC iD iE iF iG iH jL jM:Value),∃H2 u2,Qn (lvl prog pkN m) (aJ m) K x0 x1 (.Q pb 0) x3 x4 a5 a6 a7 su ru bG b9 aS aP aQ aO aT aU aR bA bK bX bJ bE aV aW aX aY aZ bB bC bH bI bM bN bO bP bQ bR bS bT bU bY cA cD cE cI cJ cN cP cK cQ cR cW dA cX cY dD dF dL dH dM dU dW dY dZ eA eC eD eE eF eM eN eO eP eQ eS eT eU eV eW eX eY fN fO fP fQ fR fS fT fU gC gD gE gF gG gH gI gJ gK gL gM gN gO gP gQ gR gS gT gU gV gW gX gY gZ hZ iA iB iC iD iE iF iG iH jL jM H'=some (u2,H2)/\Q H2 u2):
  ∀(q k l:Nat)(H1:aE)(su ru:Value)(ss rs:List (Option Addr)),L-k=q->k<=L->q<l->ss.length=k->rs.length=k->Ext Hi H1->Rw ptC 132 1 H1 su ss->New Hi su->Rw ptC 134 1 H1 ru rs->New Hi ru-> ∀(x0 x1 x3 x4 b9 aS aP aQ aO aT aU aR bA bK bX bJ bE aV aW aX aY aZ bB bC bH bI bM bN bO bP bQ bR bS bT bU bY cA cD cE cI cJ cN cP cK cQ cR cW dA cX cY dD dF dL dH dM dU dW dY dZ eA eC eD eE eF eM eN eO eP eQ eS eT eU eV eW eX eY fN fO fP fQ fR fS fT fU gC gD gE gF gG gH gI gJ gK gL gM gN gO gP gQ gR gS gT gU gV gW gX gY gZ hZ iA iB iC iD iE iF iG iH jL jM:Value),
  ∃H2 u2,aJ l (aM prog (lvl prog pkN m) (aJ m) Qm) (Qp (lvl prog pkN m) (aJ m) K) [x0,x1,(.Q pb 0),x3,x4,a5,a6,a7,su,ru,(.I (k:Nat)),b9,aS,aP,aQ,aO,aT,aU,aR,bA,bK,bX,bJ,bE,aV,aW,aX,aY,aZ,bB,bC,bH,bI,bM,bN,bO,bP,bQ,bR,bS,bT,bU,bY,cA,cD,cE,cI,cJ,cN,cP,cK,cQ,cR,cW,dA,cX,cY,dD,dF,dL,dH,dM,dU,dW,dY,dZ,eA,eC,eD,eE,eF,eM,eN,eO,eP,eQ,eS,eT,eU,eV,eW,eX,eY,fN,fO,fP,fQ,fR,fS,fT,fU,gC,gD,gE,gF,gG,gH,gI,gJ,gK,gL,gM,gN,gO,gP,gQ,gR,gS,gT,gU,gV,gW,gX,gY,gZ,hZ,iA,iB,iC,iD,iE,iF,iG,iH,jL,jM] H1=some (u2,H2)/\Q H2 u2:=by
 intro q;induction q with
 |zero=>
  intro k l H1 su ru ss rs hq hk hl hss hrs he h1 n1 h2 n2;intros;obtain⟨l,rfl⟩:=aB l U
  obtain rfl:k=L:=U
  have e:decide ((k:Int)<(k:Nat))=false:=by simp
  have l2:=dE (dT bp he) 2 _ rfl;rw[hL] at l2;rw[cU,aBB];simp -implicitDefEqProofs only[gsR,l2,e];rw[aPs];exact hK H1 su ru ss rs he h1 n1 h2 n2 ..
 |succ q ih=>
  intro k l H1 su ru ss rs hq hk hl hss hrs he h1 n1 h2 n2;intros;obtain⟨l,rfl⟩:=aB l U
  have e:decide ((k:Int)<(L:Nat))=true:=aQw U
  have e3:=aA (i:=k) U
  have ld: ∀{G:aE},Ext Hi G-> ∀(j:Nat)(v:Value),(plC p ev wv nv)[j]? =some v->ld1 (.pointer (some ⟨pb,j,none⟩)) G=some (v,G):=λhG j v hv=>dE (dT bp hG) j v hv
  have l2:=ld he 2 (.I p.lanes) rfl;have l9:=ld he 9 (.int .u16 p.start) rfl;have l3:=ld he 3 (.I p.room) rfl;have u2:prog.underlying 23=some (.int .u16):=by kernel_rfl
  have u3:prog.underlying 55=some (.int .u64):=by kernel_rfl
  have cv: ∀G,dQ prog 23 55 (.int .u16 (start:Nat)) G=some (.int .u64 (start:Nat),G):=λG=>by
   rw[fI _ _ u2 u3,show IntKind.u64.wrap (start:Int)=start from by simp[IntKind.wrap,IntKind.bits,IntKind.signed];omega]
  obtain⟨G1,a1,g1,x1⟩:=aPy (H:=H1) (m:=m) hs6 hr8 U
  have k1:=tK h1 x1;obtain⟨su',G2,g2,r2,n3,x2,f2,_⟩:=k1.yK (by':=8) Qk Qj aC a1 n1 (he.tr x1) (fV (n:=1000) aC U)
  have k2:=aBx (tK h2 x1) k1 aC f2
  have l9':=ld x2 9 (.int .u16 p.start) rfl;have l3':=ld x2 3 (.I p.room) rfl;obtain⟨G3,a3,g3,x3⟩:=aPz (H:=G2) (m:=m) hs6 hr8 U
  have k3:=tK k2 x3;obtain⟨ru',G4,g4,r4,n4,x4,f4,_⟩:=k3.yK (by':=8) Qk Qj aC a3 n2 (x2.tr x3) (fV (n:=1000) aC U)
  have k4:=aBx (tK r2 x3) k3 aC f4
  rw[hL] at l2;rw[hs] at l9 l9';rw[hr] at l3 l3';rw[cU,aBB];simp -implicitDefEqProofs only[gsR,l2,e,l9,l3,cv,g1,aBw,g2,l9',l3',g3,g4,cO,e3];exact ih (k+1) l G4 su' ru' (ss++[a1]) (rs++[a3]) U U U (by simp[hss]) (by simp[hrs]) x4 k4 n3 r4 n4 ..
theorem aPF {Hb:aE}{pb nb L room start ports:Nat}(hp:PV Hb p ev wv nv)(bp:Hb[pb]? =some (plB p ev wv nv))(hL:p.lanes=L)(hL3:L<=3)(hwl:p.weights.length<=3)(hr:p.room=room)(hr8:1<=room/\room<=8)(hs:p.start=start)(hs6:start<65536)(hw:wOk p.weights=true)(hnb:Hb.length<=nb)(hp6:ports<=7)(hm:200<m):
  ∀(q i l:Nat)(H1:aE)(cs:List Value)(sv rv wv1:Value)(xs ys:List SV)(zs:List (Option Addr)),ports-i=q->i<=ports->q<l->xs.length=i->ys.length=i->zs.length=i->Ext Hb H1->H1[nb]? =some (.cells cs 126 .fix)->cs.length=20->cs[15]? =some sv->cs[16]? =some rv->cs[18]? =some wv1->Rw sC 130 1 H1 sv xs->New Hb sv->Rw sC 131 1 H1 rv ys->New Hb rv->Rw ptC 136 1 H1 wv1 zs->New Hb wv1-> ∀(x0 x1 x3 x4 x8 x9 bG b9 aS aP aQ aO aT aU aR bA bK bX bJ bE aV aW aX aY aZ bB bC bH bI bM bN bO bP bQ bR bS bT bU bY cA cD cE cI cJ cN cP cK cQ cR cW dA cX cY dD dF dL dH dM dU dW dY dZ eA eC eD eE eF eM eN eO eP eQ eS eT eU eV eW eX eY fN fO fP fQ fR fS fT fU gC gD gE gF gG gH gI gJ gK gL gM gN gO gP gQ gR gS gT gU gV gW gX gY gZ hZ iA iB iC iD iE iF iG iH jL jM:Value),
  ∃H2,aJ l (aM prog (lvl prog pkN m) (aJ m) Ql) (Qo (lvl prog pkN m) (aJ m)) [x0,x1,(.Q pb 0),x3,x4,(.Q nb 0),(.I (ports:Nat)),(.I (i:Nat)),x8,x9,bG,b9,aS,aP,aQ,aO,aT,aU,aR,bA,bK,bX,bJ,bE,aV,aW,aX,aY,aZ,bB,bC,bH,bI,bM,bN,bO,bP,bQ,bR,bS,bT,bU,bY,cA,cD,cE,cI,cJ,cN,cP,cK,cQ,cR,cW,dA,cX,cY,dD,dF,dL,dH,dM,dU,dW,dY,dZ,eA,eC,eD,eE,eF,eM,eN,eO,eP,eQ,eS,eT,eU,eV,eW,eX,eY,fN,fO,fP,fQ,fR,fS,fT,fU,gC,gD,gE,gF,gG,gH,gI,gJ,gK,gL,gM,gN,gO,gP,gQ,gR,gS,gT,gU,gV,gW,gX,gY,gZ,hZ,iA,iB,iC,iD,iE,iF,iG,iH,jL,jM] H1=some (.Q nb 0,H2)/\Ext Hb H2:=by
 intro q;induction q with
 |zero=>
  intro i l H1 cs sv rv wv1 xs ys zs hq hi hl hx hy hz he hb hc c15 c16 c18 r1 n1 r2 n2 r3 n3;intros;obtain⟨l,rfl⟩:=aB l U
  obtain rfl:i=ports:=U
  have e:decide ((i:Int)<(i:Nat))=false:=by simp
  refine⟨H1,?_,he⟩;rw[cU,aBA];simp -implicitDefEqProofs only[gsR,e];rw[aPr];rfl
 |succ q ih=>
  intro i l H1 cs sv rv wv1 xs ys zs hq hi hl hx hy hz he hb hc c15 c16 c18 r1 n1 r2 n2 r3 n3;intros;obtain⟨l,rfl⟩:=aB l U
  have e:decide ((i:Int)<(ports:Nat))=true:=aQw U
  have e3:=aA (i:=i) U
  rw[cU,aBA];simp -implicitDefEqProofs only[gsR,e];refine aPk (aPD (m:=m) (Q:=λH2 u2=>u2= .Q nb 0/\Ext Hb H2) (dT bp he) hL hL3 hr hr8 hs hs6 U (by
   intro G su ru ss rs xg s1 sn s2 rn;intros;have hbl:=(aPN.mp hb).1;have he1:=he.tr xg;have hg:G[nb]? =some (.cells cs 126 .fix):=by rw[xg.2 _ hbl id,hb]
   have sn':New Hb su:=λb h=>aP3 he.1 (sn b h)
   have rn':New Hb ru:=λb h=>aP3 he.1 (rn b h)
   obtain⟨p1,p2⟩:=Rw.uY s1;obtain⟨p3,p4⟩:=Rw.uY s2;obtain⟨su',rfl⟩: ∃z:SV,z.1=su:=⟨⟨su,p2,Array.toList_inj.mp p1⟩,rfl⟩;obtain⟨ru',rfl⟩: ∃z:SV,z.1=ru:=⟨⟨ru,p4,Array.toList_inj.mp p3⟩,rfl⟩;have l15:ld1 (.pointer (some ⟨nb,15,none⟩)) G=some (sv,G):=dC hg c15;have b1:=λH=>Jn 130 (.slice none 0 0) su'.1 su'.2.1 su'.2.2 H
   obtain⟨v1,G1,G2,q1,q2,q3,q4,q5,q6,q7⟩:=vD (by':=24) yR yQ aC (j:=15) (H0:=Hb) su' hg U (tK r1 xg) n1 hnb he1 (fV (n:=1000) aC U)
   have t2:=Rw.rB (tK r2 xg) q7 hg aC
   have t3:=Rw.rB (tK r3 xg) q7 hg aC
   have l16:ld1 (.Q nb 16) G2=some (rv,G2):=dC q6 (by rw[aPO aC,c16])
   have b2:=λH=>Jn 131 (.slice none 0 0) ru'.1 ru'.2.1 ru'.2.2 H
   obtain⟨v2,G3,G4,q8,q9,qa,qb,qc,qd,qe⟩:=vD (by':=24) yR yQ aC (j:=16) (H0:=Hb) ru' q6 (by rw[List.length_set];omega) t2 n2 hnb q5 (fV (n:=1000) aC U)
   have t1:=Rw.rB q3 qe q6 aC
   have t4:=Rw.rB t3 qe q6 aC
   have l18:ld1 (.Q nb 18) G4=some (wv1,G4):=dC qd (by rw[aPO aC,aPO aC,c18])
   have l8:ld1 (.Q pb 8) G4=some (wv,G4):=dE (dT bp qc) 8 wv rfl;obtain⟨G5,uw,qf,xw,_,aw,rfl⟩:=V9 (m:=m) (hp.ext qc).w U U
   have he5:=qc.tr xw;have g5:G5[nb]? =some (.cells ((cs.set 15 v1).set 16 v2) 126 .fix):=by rw[xw.2 _ (dK qd) id,qd]
   have l18':ld1 (.Q nb 18) G5=some (wv1,G5):=dC g5 (by rw[aPO aC,aPO aC,c18])
   have ck:chk (some (wv1,G5)) wv1=true:=by rcases r3 with⟨_,⟨rfl,_⟩|⟨_,_,_,rfl,_⟩⟩<;>exact Zr _ _ _ _
   obtain⟨v3,G6,G7,r4,r5,r6,r7,r8,r9,ra⟩:=vD (by':=8) Qk Qj aC (j:=18) (H0:=Hb) aw g5 (by rw[List.length_set,List.length_set];omega) (tK t4 xw) n3 hnb he5 (fV (n:=1000) aC U)
   have f1:=Rw.rB (tK t1 xw) ra g5 aC
   have f2:=Rw.rB (tK qa xw) ra g5 aC
   have q1':app 130 1 24 sv (.slice (some ⟨G.length,0,none⟩) 1 1) (G++[.cells [su'.1] 130 .row])=some (v1,G1):=q1;have q8':app 131 1 24 rv (.slice (some ⟨G2.length,0,none⟩) 1 1) (G2++[.cells [ru'.1] 131 .row])=some (v2,G3):=q8;unfold Qn;simp -implicitDefEqProofs only[gsR,l15,b1,q1',q2,l16,b2,q8',q9,l18,l8,qf,l18',ck,aBw,r4,r5,cO,e3];exact aPl (ih (i+1) l G7 (((cs.set 15 v1).set 16 v2).set 18 v3) v1 v2 v3 (xs++[su']) (ys++[ru']) (zs++[aw]) U U U (by simp[hx]) (by simp[hy]) (by simp[hz]) r8 r9 (by simp[hc])
    (by rw[aPO aC,aPO aC,aPT U]) (by rw[aPO aC,aPT (by rw[List.length_set];omega)]) (by rw[aPT (by rw[List.length_set,List.length_set];omega)]) f1 q4 f2 qb r6 r7 ..)) L 0 m H1 (.slice none 0 0) (.slice none 0 0) [] [] U U U rfl rfl (Fr.iQ _ _) Rw.fW (New.iI _) Rw.fW (New.iI _) ..)
theorem aPE (hp:PV H p ev wv nv)(hm:17592186045500<m)(hm2:m<=72057594037927936)(v:Int)(hno:jD p≠0∨v<0∨p.nodes<=v):
  ∃H',lvl prog pkN m (.func 17) [plV p ev wv nv,.I v] H=some (.pointer none,H')/\Ext H H':=by
 obtain⟨H1,hH1⟩:=aD (H++[plB p ev wv nv]);have x1:Ext H H1:=by rw[hH1];exact Fr.app _ _ _
 have b1:H1[H.length]? =some (plB p ev wv nv):=by rw[hH1];exact eL _ _
 have p1:=hp.ext x1;have l11:=fL b1;obtain⟨H2,g1,x2⟩:=Ya p1 (m:=m-1) U U
 have b2:H2[H.length]? =some (plB p ev wv nv):=by rw[x2.2 _ (dK b1) id,b1]
 have l0:ld1 (.pointer (some ⟨H.length,0,none⟩)) H2=some (.int .i64 p.nodes,H2):=dE b2 0 (.int .i64 p.nodes) rfl;have e1:H++[Blk.cells (plV p ev wv nv).cells.toList 28 .fix]=H1:=by rw[hH1];rfl
 refine jQ (cT rfl) U ⟨H2,?_,x1.tr x2⟩
 rw[aBC];by_cases c0:jD p=0
 ·have d0:((jD p:Int)!=0)=false:=by rw[c0];rfl
  by_cases c1:v<0
  ·have d1:decide (v<0)=true:=aQw c1
   simp -implicitDefEqProofs only[gsR,e1,l11,g1,d0,d1]
  ·have d1:decide (v<0)=false:=aQx c1
   have d2:decide (p.nodes<=v)=true:=aQw U
   simp -implicitDefEqProofs only[gsR,e1,l11,g1,d0,d1,l0,d2]
 ·have d0:((jD p:Int)!=0)=true:=by rw[bne_iff_ne];exact c0
  simp -implicitDefEqProofs only[gsR,e1,l11,g1,d0]
theorem aPx (u:Value)(me:Int)(h:u= .slice none 0 0∨ ∃a n c,u= .slice (some a) n c):bld prog 126 [(0,plV p ev wv nv),(1,.I me),(2,u)]=some (.agg ⟨plC p ev wv nv++[.I me,u,.pointer none,.pointer none,.slice none 0 0,.slice none 0 0,.pointer none,.slice none 0 0,.I 0]⟩):=by
 rcases h with rfl|⟨a,n,c,rfl⟩<;>kernel_rfl
theorem aPG (hp:PV H p ev wv nv)(hck:jD p=0)(hst:0<=p.start/\p.start<65536)(hm:17592186045500<m)(hm2:m<=72057594037927936)(me:Nat)(hme:(me:Int)<p.nodes):
    ∃a H',lvl prog pkN m (.func 17) [plV p ev wv nv,.I me] H=some (.pointer (some a),H')/\Ext H H':=by
  have hcheck:kM p=true:=by
    unfold jD at hck
    split at hck
    · assumption
    · omega
  obtain⟨hok,k1,k2,k3,k4,k5,k6,k7,hbg,hwo⟩:=aBs hcheck hme hst;obtain⟨c,hc⟩:=aD (jJ p me);have hbl:(bes p.edges me).length=c.by'.length:=by rw[hc];show _=((bes p.edges me).map Int.toNat).length;simp
  have hcw:c.weights=p.weights:=by rw[hc];rfl
  rw[<-hc] at hok k1 k2 k3 k4 k5 k6 k7;have hL:=hok.lanes;have hR:=hok.room;have hQ:=hok.queue;have hb5:=hok.by';have hwl:=hok.wlen;rw[hcw] at hwl;have hs6:=hok.start;have hel:p.edges.length<=15:=by
    obtain⟨n,hn⟩:=vE hcheck;exact hn.e15
  obtain⟨P,hP⟩:=aD (c.by'.length+1);obtain⟨H1,hH1⟩:=aD (H++[plB p ev wv nv]);have x1:Ext H H1:=by rw[hH1];exact Fr.app _ _ _
  have b1:H1[H.length]? =some (plB p ev wv nv):=by rw[hH1];exact eL _ _
  have p1:=hp.ext x1;have l11:=fL b1;obtain⟨H2,g1,x2⟩:=Ya p1 (m:=m-1) U U
  rw[hck] at g1;have b2:=dT b1 x2;have l0:ld1 (.pointer (some ⟨H.length,0,none⟩)) H2=some (.int .i64 p.nodes,H2):=dE b2 0 (.int .i64 p.nodes) rfl;have l11b:=fL b2;have e1:H++[Blk.cells (plV p ev wv nv).cells.toList 28 .fix]=H1:=by rw[hH1];rfl
  have d0:((0:Int)!=0)=false:=rfl;have d1:decide ((me:Int)<0)=false:=aQx U
  have d2:decide (p.nodes<=(me:Int))=false:=aQx U
  obtain⟨H3,u,g3,x3,r3,n3⟩:=Lh (p1.ext x2) (m:=m-1) U U (me:Int)
  have b3:=dT b2 x3;have l11c:=fL b3;have pchk:=λG=>(hp.chk G)
  have hu:u= .slice none 0 0∨ ∃a n c,u= .slice (some a) n c:=by
    rcases r3 with⟨_,⟨rfl,_⟩|⟨_,_,_,rfl,_⟩⟩
    · exact .inl rfl
    · exact .inr ⟨_,_,_,rfl⟩
  have eb:=aPx (p:=p) (ev:=ev) (wv:=wv) (nv:=nv) u (me:Int) hu;obtain⟨cs,hcs⟩:=aD (plC p ev wv nv++[.I (me:Int),u,.pointer none,.pointer none,.slice none 0 0,.slice none 0 0,.pointer none,.slice none 0 0,.I 0]);have hcl:cs.length=20:=by rw[hcs];rfl
  obtain⟨H4,hH4⟩:=aD (H3++[Blk.cells cs 126 .fix]);have e4:H3++[Blk.cells (Value.cells (.agg ⟨plC p ev wv nv++[.int .i64 (me:Int),u,.pointer none,.pointer none,.slice none 0 0,.slice none 0 0,.pointer none,.slice none 0 0,.int .i64 0]⟩)).toList 126 .fix]=H4:=by rw[hH4,hcs];rfl
  have x4:Ext H3 H4:=by rw[hH4];exact Fr.app _ _ _
  have n4:H4[H3.length]? =some (.cells cs 126 .fix):=by rw[hH4];exact dS _ _
  have l12:ld1 (.Q H3.length 12) H4=some (u,H4):=dC n4 (by rw[hcs];rfl)
  have hlen:=r3.qZ;rw[hbl] at hlen;have ha:IntKind.i64.wrap ((c.by'.length:Int)+1)=(P:Nat):=by rw[cZ U U];omega
  have ld: ∀{G:aE},Ext H3 G-> ∀(j:Nat)(v:Value),(plC p ev wv nv)[j]? =some v->ld1 (.pointer (some ⟨H.length,j,none⟩)) G=some (v,G):=λhG j v hv=>dE (dT b3 hG) j v hv
  have l2:=ld x4 2 (.I p.lanes) rfl;have l4:=ld x4 4 (.I p.queue) rfl
  -- the host
  obtain⟨H5,a5,g5,x5⟩:=aPC (H:=H4) (l:=p.lanes) (q:=p.queue) (m:=m-1) U U U
  have n5:=dT n4 x5;have s5:stN 1 (.Q H3.length 13) (.pointer a5) H5=some (undef,H5.set H3.length (.cells (cs.set 13 (.pointer a5)) 126 .fix)):=qH n5 aC U rfl rfl
  obtain⟨H6,hH6⟩:=aD (H5.set H3.length (.cells (cs.set 13 (.pointer a5)) 126 .fix));rw[<-hH6] at s5;have n6:H6[H3.length]? =some (.cells (cs.set 13 (.pointer a5)) 126 .fix):=by rw[hH6];exact iR n5
  have x6:Ext H3 H6:=by rw[hH6];exact qE (x4.tr x5) (aPS _)
  have l2':=ld x6 2 (.I p.lanes) rfl;have l3':=ld x6 3 (.I p.room) rfl
  -- the rings
  have hPL:P*c.lanes<=6*3:=Nat.mul_le_mul U hL.2
  have hPL1:1*1<=P*c.lanes:=Nat.mul_le_mul U hL.1
  have hPR:P*c.lanes*c.room<=18*8:=Nat.mul_le_mul hPL hR.2;have hPR1:1*1<=P*c.lanes*c.room:=Nat.mul_le_mul hPL1 hR.1;have m1:IntKind.i64.wrap ((P:Int)*p.lanes)=((P*c.lanes:Nat):Int):=by
    rw[k2,show((P:Int)*(c.lanes:Int))=((P*c.lanes:Nat):Int) from by simp,cZ U U]
  have m2:IntKind.i64.wrap (((P*c.lanes:Nat):Int)*p.room)=((P*c.lanes*c.room:Nat):Int):=by
    rw[k3,show(((P*c.lanes:Nat):Int)*(c.room:Int))=((P*c.lanes*c.room:Nat):Int) from by simp,cZ U U]
  obtain⟨H7,a7,g7,x7⟩:=aPA (H:=H6) (a:=(P:Nat)) (l:=p.lanes) (s:=(P*c.lanes*c.room:Nat)) (m:=m-1) U U U U
  have n7:=dT n6 x7;have s7:stN 1 (.Q H3.length 14) (.pointer a7) H7=some (undef,H7.set H3.length (.cells ((cs.set 13 (.pointer a5)).set 14 (.pointer a7)) 126 .fix)):=qH n7 aC (by rw[List.length_set];omega) rfl rfl
  obtain⟨H8,hH8⟩:=aD (H7.set H3.length (.cells ((cs.set 13 (.pointer a5)).set 14 (.pointer a7)) 126 .fix));rw[<-hH8] at s7;have n8:H8[H3.length]? =some (.cells ((cs.set 13 (.pointer a5)).set 14 (.pointer a7)) 126 .fix):=by rw[hH8];exact iR n7
  have x8:Ext H3 H8:=by rw[hH8];exact qE (x6.tr x7) (aPS _)
  -- the arbiter
  obtain⟨H9,a9,g9,x9⟩:=aPB (H:=H8) (n:=P) (m:=m-1) U U
  have n9:=dT n8 x9;obtain⟨ds,hds⟩:=aD (((cs.set 13 (.pointer a5)).set 14 (.pointer a7)).set 17 (.pointer a9));have s9:stN 1 (.Q H3.length 17) (.pointer a9) H9=some (undef,H9.set H3.length (.cells ds 126 .fix)):=by rw[hds];exact qH n9 aC (by rw[List.length_set,List.length_set];omega) rfl rfl
  obtain⟨H10,hH10⟩:=aD (H9.set H3.length (.cells ds 126 .fix));rw[<-hH10] at s9;have n10:H10[H3.length]? =some (.cells ds 126 .fix):=by rw[hH10];exact iR n9
  have bG:Ext H3 H10:=by rw[hH10];exact qE (x8.tr x9) (aPS _)
  refine⟨⟨H3.length,0,none⟩,jQ (cT rfl) U ?_⟩
  rw[aBC];simp -implicitDefEqProofs only[gsR,e1,l11,g1,d0,d1,l0,d2,l11b,g3,l11c,pchk,eb,e4,l12,hlen,cO,ha,l2,l4,g5,s5,l2',I2,m1,l3',m2,g7,s7,g9,s9];obtain⟨H11,q1,q2⟩:=aPF (m:=m-1) (pb:=H.length) (nb:=H3.length) ((p1.ext x2).ext x3) b3 k2 hL.2 U k3 hR k7 hs6 hwo (aPS _) (ports:=P) U U P 0 (m-1) H10 ds (.slice none 0 0) (.slice none 0 0) (.slice none 0 0) [] [] [] U U U rfl rfl rfl bG n10 (by rw[hds];simp[hcl]) (by rw[hds,hcs];rfl) (by rw[hds,hcs];rfl) (by rw[hds,hcs];rfl) Rw.fW (New.iI _) Rw.fW (New.iI _) Rw.fW (New.iI _) ..
  exact⟨H11,q1,(x1.tr (x2.tr x3)).tr q2⟩
theorem aBD (hp:PV H p ev wv nv)(hst:0<=p.start/\p.start<65536)(hm:17592186045500<m)(hm2:m<=72057594037927936)(v:Int): ∃(a b:Option Addr)(H1 H2:aE),
  lvl prog pkN m (.func 11) [plV p ev wv nv,.I v] H=some (.pointer a,H1)/\lvl prog pkN m (.func 17) [plV p ev wv nv,.I v] H1=some (.pointer b,H2)/\Ext H H1/\Ext H H2/\a.isNone=b.isNone:=by
 by_cases h:jD p≠0∨v<0∨p.nodes<=v
 ·obtain⟨H1,g1,x1⟩:=aBz hp hm hm2 v h
  obtain⟨H2,g2,x2⟩:=aPE (hp.ext x1) hm hm2 v h
  exact⟨none,none,H1,H2,g1,g2,x1,x1.tr x2,rfl⟩
 ·have h0:jD p=0:=U
  obtain⟨k,rfl⟩: ∃k:Nat,v=k:=⟨v.toNat,by omega⟩
  obtain⟨H1,F,y,g1,ha⟩:=Qh hp h0 hst hm hm2 k U
  obtain⟨b,H2,g2,x2⟩:=aPG (hp.ext ha.ext) h0 hst hm hm2 k U
  exact⟨_,some b,H1,H2,g1,g2,ha.ext,ha.ext.tr x2,rfl⟩
theorem aBE (t:TypeId)(a:Option Addr)(h:nF prog t (.pointer none)=true):bin prog .eql t (.pointer a) (.pointer none)=some (.bool a.isNone):=by
 cases a with
 |none=>exact(uK t ⟨0,0,none⟩ h).2
 |some a=>exact(uK t a h).1
theorem eqB (a b:Bool)(h:a=b):bin prog .eql 4 (.bool a) (.bool b)=some (.bool true):=by
 subst h;cases a<;>rfl
theorem aPH (hp:PV H p ev wv nv)(hst:0<=p.start/\p.start<65536)(nodes room more joined:Nat)(h1:nodes<256)(h2:room<256)(h3:more<256)(h4:joined<65536){a4:Value}{next:List Nat}(hnx:Us H a4 next)(hu8: ∀x∈next,x<256)(hnl:next.length<=72057594037927936)(v:Int):
  ∃H',lvl prog bL 18014398509481984 (.func 4) [plV p ev wv nv,.int .u8 nodes,.int .u8 room,.int .u8 more,.int .u16 joined,a4,.I v] H=some (.bool true,H')/\True:=by
 obtain⟨H1,hH1⟩:=aD (H++[plB p ev wv nv]);have x1:Ext H H1:=by rw[hH1];exact Fr.app _ _ _
 have b1:H1[H.length]? =some (plB p ev wv nv):=by rw[hH1];exact eL _ _
 have p1:=hp.ext x1;have l11:=fL b1;have e1:H++[Blk.cells (plV p ev wv nv).cells.toList 28 .fix]=H1:=by rw[hH1];rfl
 obtain⟨z,g2⟩:=aJF p1 (m:=18014398509481984-1) U
 obtain⟨H2,hH2⟩:=aD (H1++[plB p ev wv nv]);have x2:Ext H1 H2:=by rw[hH2];exact Fr.app _ _ _
 rw[<-hH2] at g2;obtain⟨Hk,gk,xk⟩:=aPp (H:=H2) (18014398509481984-1) U U
 refine jQ (cT rfl) U ?_
 rw[aPo];by_cases hz:300<z
 ·have d1:decide (300<z)=true:=aQw hz
  simp -implicitDefEqProofs only[gsR,e1,l11,g2,d1,gk]
  exact⟨_,rfl,trivial⟩
 ·have d1:decide (300<z)=false:=aQx hz
  have x3:=(x1.tr x2).tr xk;obtain⟨H4,u,g4,hmd⟩:=Wc nodes room more joined h1 h2 h3 h4 (hnx.ext x3) hu8 hnl (m:=18014398509481984-1) U
  obtain⟨em,wm,nm,rfl,x4,hq⟩:=hmd.pv;obtain⟨q,hqd⟩:=aD (mkP nodes room more joined next)
  have hqs:0<=q.start/\q.start<65536:=by rw[hqd];show(0:Int)<=(joined:Int)/\(joined:Int)<65536;omega
  rw[<-hqd] at g4 hq;have cp:=Lq hq H4;obtain⟨H5,hH5⟩:=aD (H4++[plB q em wm nm]);rw[<-hH5] at cp;have x5:Ext H4 H5:=by rw[hH5];exact Fr.app _ _ _
  have y5:Ext H1 H5:=x2.tr (xk.tr (x4.tr x5));have c5:H5[H4.length]? =some (plB q em wm nm):=by rw[hH5];exact eL _ _
  have r5:=fL (dT b1 y5);obtain⟨a,b,H6,H7,s1,s2,x6,x7,hn1⟩:=aBD (p1.ext y5) hst (m:=18014398509481984-1) U U v
  have r6:=fL (dT b1 (y5.tr x6));have r7:=fL (dT c5 x7);obtain⟨a',b',H8,H9,s3,s4,x8,x9,hn2⟩:=aBD (hq.ext (x5.tr x7)) hqs (m:=18014398509481984-1) U U v
  have r8:=fL (dT c5 (x7.tr x8));have k1:=λa=>aBE 30 a (by kernel_rfl)
  have k2:=λa=>aBE 47 a (by kernel_rfl)
  have k3:=eqB _ _ hn1;have k4:=eqB _ _ hn2;have ck1:=hp.chk;have ck2:=hq.chk;simp -implicitDefEqProofs only[gsR,e1,l11,g2,d1,gk,aPq,g4,Eh,cp,r5,s1,k1,r6,ck1,s2,k2,k3,r7,s3,r8,ck2,s4,k4]
  exact⟨_,rfl,trivial⟩
end
end Go.Proofs.YtkeilicinggjmaaGreatDoor
