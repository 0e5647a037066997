/-
  PARTS OF THIS CLAIM'S PROOF, laid together by a program of mine.
-/
import Derived.Test.YtciiopkbmjppfaaGreatDoorAbsM7
set_option linter.unusedVariables false
set_option linter.unusedSimpArgs false
set_option linter.unusedSectionVars false
set_option maxRecDepth 100000
namespace Go.Proofs.YtciiopkbmjppfaaGreatDoor
open Go.Proofs.Tryz
open Go.Abs Go.Abs.M
open Classical
section
variable {H0 H H' : aF} {O O' : FP → Nat → Prop} {a : FL} {F F' : Nat → Part → Nat → Prop} {p : PlanD} {ev wv nv e' w' n' : Value} {t t' : Nat} {s s' : FS} {m pb : Nat} {sv : Value} {sent : List Pkt}
structure Beside (H0:aF)(O:FP->Nat->Prop)(pb:Nat)(sv:Value)(b:Nat):Prop where
 o: ∀i,¬O i b
 h:H0.length<=b
 p:b≠pb
 s: ¬aT sv b
theorem PlayI.aEC (h:PlayI H0 H O a F p ev wv nv e' w' n' t s pb sv sent){b:Nat}(hb:Beside H0 O pb sv b)(x:Blk):PlayI H0 (H.set b x) O a F p ev wv nv e' w' n' t s pb sv sent:=by
 have hk: ∀c,c≠b->(H.set b x)[c]? =H[c]? :=λc hc=>aUe (λhh=>hc hh.symm)
 exact⟨h.fab.Db (by rw[List.length_set];exact aUi _) (λi c hc=>hk c λhh=>hb.o i (by rw[<-hh];exact hc)) (gM h.fab.own.ext hb.h),(hk pb λhh=>hb.p hh.symm).trans h.blk,h.own,h.row.cZ λc hc=>hk c λhh=>hb.s (by rw[<-hh];exact hc),h.rowo⟩
theorem PlayI.aTu (h:PlayI H0 H O a F p ev wv nv e' w' n' t s pb sv sent):Beside H0 O pb sv H.length:=
 ⟨λi hi=>by have:=h.fab.own.lt i _ hi;omega,h.fab.own.ext.1,by have:=bU h.blk;omega,λhh=>by have:=h.row.dO hh;omega⟩
theorem PlayI.uC (h:PlayI H0 H O a F p ev wv nv e' w' n' t s pb sv sent)(ht:t<=t'):PlayI H0 H O a F p ev wv nv e' w' n' t' s pb sv sent:=h.mv (h.fab.Ak ht) (Frz.I7 O H)
theorem aED {b:Nat}{o:OpT}(h:H[b]? =some (opB o)):ldN 4 (.Q b 1) H=some (o.x.cE,H):=mV h (by show 1+4<=10;omega)
theorem aEE (h:PlayI H0 H O a F p ev wv nv e' w' n' t s pb sv sent):ldN 11 (.Q pb 0) H=some (plV p ev wv nv,H):=mV h.blk (by show 0+11<=14;omega)
theorem aTw (x:Pkt)(G:aF):b9 31 4 1 [.I 0,.I 0,.I 0,.int .u32 0] [(0,x.cE)] G=some (.slice (some ⟨G.length,0,none⟩) 1 1,G++[.cells x.kF 31 .row]):=rfl
theorem aTx {st R B:Nat}(hC:TopC (bH p) st R)(hst:st<65536)(hB:B+6<20000)(hR:R<=8)(h:PlayI H0 H O a F p ev wv nv e' w' n' t s pb sv sent)(hI:TopI (bH p) st R B s)(hsl:nB ev/\nB wv/\nB nv)(ht:t<600000)(hk:s.k<100000)(hs:sent.length<=1000)
  (hn:0<p.nodes)(hl:0<p.lanes)(hh:0<(aU p).length)(o:OpT)(ho:o.ok)(hm:17592186045700<m):
  ∃H' O' F' sv',lvl prog pkN m (.func 11) [pt pb,o.qH] H=some (aK [],H')/\PlayI H0 H' O' a F' p ev wv nv e' w' n' (t+2400) (jC p (yD p o) (s,sent)).1 pb sv' (jC p (yD p o) (s,sent)).2:=by
 obtain⟨q,hq⟩:=aD (yD p o);have qk:q.kind=o.kind:=by rw[hq];rfl
 have qb:q.x.body=o.x.body:=by rw[hq];rfl
 have qa:q.at'=0:=by rw[hq];rfl
 have qh:0<=q.h/\q.h<((aU p).length:Nat):=by
  have e:q.h=max o.h 0%((aU p).length:Int):=by rw[hq];rfl
  rw[e]
  exact⟨Int.emod_nonneg _ U,Int.emod_lt_of_pos _ U⟩
 obtain⟨K,hK⟩:=aD (o.kind%16);have K16:K<16:=U
 rw[<-hq];obtain⟨G1,hG1⟩:=aD (H++[opB o]);have x1:Ext H G1:=by rw[hG1];exact Fr.app _ _ _
 have b1:G1[H.length]? =some (opB o):=by rw[hG1];exact cV _ _
 have h1:=h.rF x1;have bs:=h.aTu;have s2:=Tk (o':={o with near:=true}) (j:=5) (v:= .bool true) b1 rfl rfl aC rfl
 obtain⟨G2,hG2⟩: ∃G2,G2=G1.set H.length (opB {o with near:=true}):=⟨_,rfl⟩;rw[<-hG2] at s2;have h2:PlayI H0 G2 O a F p ev wv nv e' w' n' t s pb sv sent:=by rw[hG2];exact h1.aEC bs _
 have b2:G2[H.length]? =some (opB {o with near:=true}):=by rw[hG2,aUj (bU b1)]
 have l2:=An b2;have l2p:=aEE h2;have l2f:=h2.ld 11 (pt a.fb) rfl;obtain⟨u,G3,g3,x3,r3,_⟩:=Dd h2.fab (m:=m-1) U
 have hlen:=r3.rs.eC;have h3:=h2.rF x3;have b3:=cP b2 x3;have l3:=An b3;have l3p:=aEE h3;have c1:=aTi (p:=p) hsl G3;have c2:=aTh {o with near:=true} G3;obtain⟨G4,g4,x4⟩:=aST (H:=G3) (p:=p) (ev:=ev) (wv:=wv) (nv:=nv) (o:={o with near:=true}) hn hl hh rfl (m:=m-1) U
 obtain⟨G5,g5,x5⟩:=aSS (H:=G4) (o:=inW p (aU p).length {o with near:=true}) (m:=m-1) U
 have eq:({inW p (aU p).length {o with near:=true} with at':=0}:OpT)=q:=by rw[hq];rfl
 rw[eq] at g5;have h5:=(h3.rF x4).rF x5;have b5:=cP (cP b3 x4) x5;have s6:=Tj b5 q;obtain⟨G6,hG6⟩:=aD (G5.set H.length (opB q));rw[<-hG6] at s6;have h6:PlayI H0 G6 O a F p ev wv nv e' w' n' t s pb sv sent:=by rw[hG6];exact h5.aEC bs _
 have b6:G6[H.length]? =some (opB q):=by rw[hG6,aUj (bU b5)]
 have l6f:=h6.ld 11 (pt a.fb) rfl;have l60:=s9 b6 0 (.int .u8 q.kind) rfl;have l66:=s9 b6 6 (.I q.h) rfl;have l67:=s9 b6 7 (.I q.k) rfl;have l68:=s9 b6 8 (.I q.at') rfl;have l69:=s9 b6 9 (.int .u8 q.b.toNat) rfl;have l64:=aED b6;rw[qa] at l68;rw[qk] at l60;obtain⟨kk,hkk⟩: ∃kk:Nat,q.h=kk:=⟨q.h.toNat,by omega⟩
 have hkl:kk<(aU p).length:=U
 have qht:q.h.toNat=kk:=U
 rw[hkk] at l66;have g6:=vR h6.fab (m:=m-1) U (kk:Int)
 have hv:mF p a (kk:Int)=pt (a.lb kk):=by
  unfold mF;rw[if_pos U,aUF]
 rw[hv] at g6;have rk:=u6 o.kind 16 16 rfl U
 rw[<-hK] at rk;have hSK:q.kind%16=K:=by rw[qk,<-hK]
 by_cases k4:K<4
 ·
  have d4:decide ((K:Int)<4)=true:=aUX U
  have eS:jC p q (s,sent)=((nA p q.x s).2,if(nA p q.x s).1=0 then sent++[q.x] else sent):=by
   unfold jC;rw[hSK,if_pos k4]
  obtain⟨G7,O7,F7,g7,f7,z7⟩:=aD1 h6.fab (m:=m-1) U q.x (by rw[qb];exact ho.body)
  have h7:=h6.mv f7 z7;by_cases r0:(nA p q.x s).1=0
  ·rw[if_pos r0] at eS
   rw[r0] at g7;have z0:(((0:Nat):Int)==0)=true:=rfl;have b7:G7[H.length]? =some (opB q):=(z7.2 _ (bU b6) bs.o).1.trans b6;have l74:=aED b7;have l7s:=h7.ld 12 sv rfl;obtain⟨sv',G8,G9,p1,p2,p3,p4⟩:=aTk h7 q.x hs;rw[eS];refine⟨G9,O7,F7,sv',aS (aQ rfl) U ?_,p4.uC U⟩
   rw[uB];simp only[gsR,rE,<-hG1,s2,l2,l2p,l2f,g3,l3,l3p,c1,c2,hlen,g4,g5,s6,l6f,l66,g6,l60,rk,d4,l64,g7,z0,l7s,l74,aTw,p1,p3]
  ·rw[if_neg r0] at eS
   have z0:((((nA p q.x s).1:Nat):Int)==0)=false:=by rw[beq_eq_false_iff_ne];omega
   rw[eS];refine⟨G7,O7,F7,sv,aS (aQ rfl) U ?_,h7.uC U⟩
   rw[uB];simp only[gsR,rE,<-hG1,s2,l2,l2p,l2f,g3,l3,l3p,c1,c2,hlen,g4,g5,s6,l6f,l66,g6,l60,rk,d4,l64,g7,z0]
 ·have d4:decide ((K:Int)<4)=false:=aUY U
  by_cases k8:K<8
  ·
   have d8:decide ((K:Int)<8)=true:=aUX U
   have eS:jC p q (s,sent)=(if 0<=q.k then(oK (bH p) kk q.k.toNat s).2 else s,sent):=by
    unfold jC;rw[hSK,if_neg k4,if_pos k8,qht]
   rw[eS];by_cases q0:0<=q.k
   ·rw[if_pos q0]
    obtain⟨j,hj⟩: ∃j:Nat,q.k=j:=⟨q.k.toNat,by omega⟩
    rw[hj] at l67;obtain⟨G7,O7,F7,g7,f7,z7⟩:=S2 h6.fab U (m:=m-1) U kk j hkl
    have n61:=(hI.Jg hC hst U hR hkl j).1
    have z61:((((oK (bH p) kk j s).1:Nat):Int)==61)=false:=by rw[beq_eq_false_iff_ne];omega
    have hjn:q.k.toNat=j:=U
    rw[hjn];refine⟨G7,O7,F7,sv,aS (aQ rfl) U ?_,(h6.mv f7 z7).uC U⟩
    rw[uB];simp only[gsR,rE,<-hG1,s2,l2,l2p,l2f,g3,l3,l3p,c1,c2,hlen,g4,g5,s6,l6f,l66,g6,l60,rk,d4,d8,l67,g7,z61]
   ·rw[if_neg q0]
    have g7:=aSm h6.fab (m:=m-1) U kk hkl q.k U
    have z61:((1:Int)==61)=false:=rfl;refine⟨G6,O,F,sv,aS (aQ rfl) U ?_,h6.uC U⟩
    rw[uB];simp only[gsR,rE,<-hG1,s2,l2,l2p,l2f,g3,l3,l3p,c1,c2,hlen,g4,g5,s6,l6f,l66,g6,l60,rk,d4,d8,l67,g7,z61]
  ·have d8:decide ((K:Int)<8)=false:=aUY U
   by_cases c8:K=8
   ·have e8:((K:Int)==8)=true:=by rw[beq_iff_eq];omega
    have eS:jC p q (s,sent)=({s with l:=up1 s.l kk (Ao (s.l kk) q.k)},sent):=by
     unfold jC;rw[hSK,if_neg k4,if_neg k8,if_pos c8,qht]
    obtain⟨v,G7,O7,g7,h7⟩:=aTl h6 hkl q.k (m:=m-1) U
    rw[eS];refine⟨G7,O7,F,sv,aS (aQ rfl) U ?_,h7.uC U⟩
    rw[uB];simp only[gsR,rE,<-hG1,s2,l2,l2p,l2f,g3,l3,l3p,c1,c2,hlen,g4,g5,s6,l6f,l66,g6,l60,rk,d4,d8,e8,l67,g7]
   ·have e8:((K:Int)==8)=false:=by rw[beq_eq_false_iff_ne];omega
    by_cases c9:K=9
    ·have e9:((K:Int)==9)=true:=by rw[beq_iff_eq];omega
     have eS:jC p q (s,sent)=({s with l:=up1 s.l kk (yE p.bag.toNat (s.l kk) q.k)},sent):=by
      unfold jC;rw[hSK,if_neg k4,if_neg k8,if_neg c8,if_pos c9,qht]
     obtain⟨v,G7,O7,g7,h7⟩:=aTm h6 hkl q.k (m:=m-1) U
     rw[eS];refine⟨G7,O7,F,sv,aS (aQ rfl) U ?_,h7.uC U⟩
     rw[uB];simp only[gsR,rE,<-hG1,s2,l2,l2p,l2f,g3,l3,l3p,c1,c2,hlen,g4,g5,s6,l6f,l66,g6,l60,rk,d4,d8,e8,e9,l67,g7]
    ·have e9:((K:Int)==9)=false:=by rw[beq_eq_false_iff_ne];omega
     by_cases c10:K=10
     ·have e10:((K:Int)==10)=true:=by rw[beq_iff_eq];omega
      have eS:jC p q (s,sent)=({s with l:=up1 s.l kk (yB (s.l kk) q.k q.b)},sent):=by
       unfold jC;rw[hSK,if_neg k4,if_neg k8,if_neg c8,if_neg c9,if_pos c10,qht]
      obtain⟨v,G7,O7,g7,h7⟩:=aTj h6 hkl q.k q.b (m:=m-1) U
      rw[eS];refine⟨G7,O7,F,sv,aS (aQ rfl) U ?_,h7.uC U⟩
      rw[uB];simp only[gsR,rE,<-hG1,s2,l2,l2p,l2f,g3,l3,l3p,c1,c2,hlen,g4,g5,s6,l6f,l66,g6,l60,rk,d4,d8,e8,e9,e10,l67,l68,l69,g7]
     ·have e10:((K:Int)==10)=false:=by rw[beq_eq_false_iff_ne];omega
      by_cases k13:K<13
      ·have d13:decide ((K:Int)<13)=true:=aUX U
       have eS:jC p q (s,sent)=(qG (bH p) s,sent):=by
        unfold jC;rw[hSK,if_neg k4,if_neg k8,if_neg c8,if_neg c9,if_neg c10,if_pos k13]
       obtain⟨G7,O7,F7,g7,f7,z7⟩:=S3 h6.fab U U (m:=m-1) U
       rw[eS];refine⟨G7,O7,F7,sv,aS (aQ rfl) U ?_,(h6.mv f7 z7).uC U⟩
       rw[uB];simp only[gsR,rE,<-hG1,s2,l2,l2p,l2f,g3,l3,l3p,c1,c2,hlen,g4,g5,s6,l6f,l66,g6,l60,rk,d4,d8,e8,e9,e10,d13,g7]
      ·have d13:decide ((K:Int)<13)=false:=aUY U
       have eS:jC p q (s,sent)=(kP (bH p) s,sent):=by
        unfold jC;rw[hSK,if_neg k4,if_neg k8,if_neg c8,if_neg c9,if_neg c10,if_neg k13]
       obtain⟨G7,O7,F7,g7,h7,_,_⟩:=aTg hC hst hB hR h6 hI U U (m:=m-1) U
       rw[eS];refine⟨G7,O7,F7,sv,aS (aQ rfl) U ?_,h7⟩
       rw[uB];simp only[gsR,rE,<-hG1,s2,l2,l2p,l2f,g3,l3,l3p,c1,c2,hlen,g4,g5,s6,l6f,l66,g6,l60,rk,d4,d8,e8,e9,e10,d13,g7]
theorem TopI.aTv {st R B:Nat}(hC:TopC (bH p) st R)(hst:st<65536)(hB:B+6<20000)(hR:R<=8)(hI:TopI (bH p) st R B s)(hN: ∀v,v<(bH p).N-> ∃t,NInv ((bH p).c v) t (s.n v)){o:OpT}(hh:0<=o.h/\o.h<((aU p).length:Nat)):TopI (bH p) st R (B+6) (jC p o (s,sent)).1:=by
 have up: ∀{x:FS},TopI (bH p) st R B x->TopI (bH p) st R (B+6) x:=λh=>{h with num:=λv i k hv=>aUt (h.num v i k hv) U}
 have hlt:o.h.toNat<(bH p).hs.length:=by show _<(aU p).length;omega
 unfold jC;split
 ·refine up (hI.aEi (λv=> ?_) λh v w hh b hb=>hI.link h v w hh b ?_)
  ·unfold nA
   split
   ·show((up1 s.n o.x.src.toNat _ v).snd=_/\(up1 s.n o.x.src.toNat _ v).rcv=_)
    unfold up1;split
    ·rename_i e
     rw[e];rcases aTt (cT p o.x.src.toNat) o.x (s.n o.x.src.toNat) with⟨h1,_⟩|h1
     ·rw[h1];exact⟨rfl,rfl⟩
     ·rw[h1];exact⟨rfl,rfl⟩
    ·exact⟨rfl,rfl⟩
   ·exact⟨rfl,rfl⟩
  ·unfold nA at hb
   split at hb<;>exact hb
 ·split
  ·simp only
   split
   ·exact up (hI.Jg hC hst U hR hlt _).2
   ·exact up hI
  ·split
   ·exact up (hI.Th λv w hv b hb=>hI.link _ v w hv b (List.mem_of_mem_eraseIdx hb))
   ·split
    ·refine up (hI.Th λv w hv b hb=>hI.link _ v w hv b ?_)
     unfold yE at hb
     split at hb
     ·rename_i x hx
      unfold I0 at hb
      split at hb
      ·exact hb
      ·rcases List.mem_append.mp hb with hb|hb
       ·exact hb
       ·rw[List.mem_singleton] at hb
        rw[hb];exact aUn hx
     ·exact hb
    ·split
     ·refine up (hI.Th λv w hv b hb=> ?_)
      unfold yB at hb
      split at hb
      ·rename_i x hx
       split at hb
       ·exact hI.link _ v w hv b hb
       ·rename_i hne
        rcases List.mem_or_eq_of_mem_set hb with hb|hb
        ·exact hI.link _ v w hv b hb
        ·rw[hb]
         unfold Lk.I6;rw[Nat.zero_mod]
         exact(hI.link _ v w hv x (aUn hx)).aSE _
      ·exact hI.link _ v w hv b hb
     ·split
      ·exact hI.Ti hC hN
      ·exact hI.aSP hC hst U hR hN
end
section
variable {H0 H H' : aF} {O : FP → Nat → Prop} {a : FL} {F : Nat → Part → Nat → Prop} {p : PlanD} {ev wv nv : Value} {t : Nat} {s : FS} {m : Nat}
theorem aTA:KeyC .num yF:=⟨λx y=>by
 simp only[fT,yF];simp[Bool.beq_eq_decide_eq];omega⟩
theorem aTz {Hs:aF}{u:Value}{l:List (List UInt8)}{G:Nat->Prop}(hr:Lk.sY Hs u l G)(hsm:l.length<=64)(lane fr to:Nat)(hfr:fr<9223372036854775808)(hm:1000<m){mb:Nat}(hmb:Hs.length<=mb):
  ∀(q i lp:Nat)(H:aF),l.length-i=q->i<=l.length->q<lp->Ext Hs H->IsKeys H mb ((l.take i).foldl (λks b=>nQ ks (iM lane fr to b)) [])-> ∀(x8:Value),
  ∃H2,aL lp (aO prog (lvl prog pkN m) (aL m) Ue) (Uf (lvl prog pkN m) (aL m)) (aG 1 (some (.I (lane:Nat))::some (.int .u64 (fr:Nat))::some (.int .u64 (to:Nat))::aG 4 (x8::some (.map (some mb))::aG 6 (u::some (.I (l.length:Nat))::some (.I (i:Nat))::aG 41 [])))) H=some (.I ((tZ lane fr to l).length:Nat),H2)/\Ext Hs H2:=by
 intro q;induction q with
 |zero=>
  intro i lp H hq hi hl he hk;intros;obtain⟨lp,rfl⟩:=aB lp U
  obtain rfl:i=l.length:=U
  have e:decide ((l.length:Int)<(l.length:Nat))=false:=by simp
  rw[List.take_length] at hk;have hlen:=hk.aTp;refine⟨H,?_,he⟩;rw[bS,aEB];simp only[gsR,e];rw[aTb];simp only[gsR,hlen];rfl
 |succ q ih=>
  intro i lp H hq hi hl he hk;intros;obtain⟨lp,rfl⟩:=aB lp U
  have e:decide ((i:Int)<(l.length:Nat))=true:=aUX U
  have e3:=aA (i:=i) U
  obtain⟨bs,hb⟩: ∃bs,l[i]? =some bs:=⟨_,aUf U⟩
  obtain⟨v,pp,g1,g2,g3,g4,g5⟩:=hr.Ln hb .i64;have hld:=g3 H (he.2 pp (hr.uT pp g2) id);have hub:=(g4.wI λb hl=>he.2 b (hr.uT b (g5 b hl)) id:Bo 5 H v bs)
  obtain⟨H3,d1,x3⟩:=aBz (m:=m) U (Bo.rs' hub)
  have hfold:(l.take (i+1)).foldl (λks b=>nQ ks (iM lane fr to b)) []=nQ ((l.take i).foldl (λks b=>nQ ks (iM lane fr to b)) []) (iM lane fr to bs):=by
   rw[List.take_add_one,hb,List.foldl_append];rfl
  have kk: ∀{K:aF},Ext H K->IsKeys K mb ((l.take i).foldl (λks b=>nQ ks (iM lane fr to b)) []):=λhx=>hk.aTo (by
   obtain⟨es,c,hh,_⟩:=hk;exact hx.2 _ (bU hh) id)
  rw[bS,aEB];cases hdec:fF bs with
  |none=>
   rw[aC5 hdec] at d1;have c2:((30:Int)!=0)=true:=rfl;have hn:iM lane fr to bs=none:=by unfold iM;rw[hdec]
   rw[hn] at hfold;have x4:Ext H3 (H3++[frB Frm.lO]):=Fr.app _ _ _;simp only[gsR,e,g1,hld,d1,kO,qZ,q9,c2,aV,e3];exact ih (i+1) lp _ U U U (he.tr (x3.tr x4)) (by rw[hfold];exact kk (x3.tr x4)) ..
  |some f=>
   have hok:=aC1 hdec;have fl:=hok.lane;have fk:=hok.kind;have fs:=hok.seq;rw[aC6 hdec] at d1;have c2:((0:Int)!=0)=false:=rfl;obtain⟨H4,hH4⟩:=aD (H3++[frB f]);have x4:Ext H3 H4:=by rw[hH4];exact Fr.app _ _ _
   have b4:H4[H3.length]? =some (frB f):=by rw[hH4];exact cG _ _
   obtain⟨l40,l41,l42,_⟩:=lR b4;have cl:=λG=>cvU G f.lane fl
   have xx:=he.tr (x3.tr x4);have k4:=kk (x3.tr x4);by_cases h1:f.kind=1
   ·have d1':((f.kind:Int)!=1)=false:=by rw[h1];rfl
    by_cases h2:f.lane=lane
    ·have d2:((f.lane:Int)!=(lane:Int))=false:=by rw[h2];simp
     have gw:=P4 (H:=H4) (m:=m) U fr f.seq U fs
     obtain⟨H5,gw,x5⟩: ∃H5,lvl prog pkN m (.func 100) [.int .u64 fr,.int .u16 f.seq] H4=some (.int .u64 (cC fr f.seq:Nat),H5)/\Ext H4 H5:=⟨_,gw,by first|exact Fr.dS _ _|exact Fr.app _ _ _⟩
     by_cases h3:fr<=cC fr f.seq
     ·have d3:decide ((fr:Int)<=(cC fr f.seq:Nat))=true:=aUX U
      by_cases h4:cC fr f.seq<to
      ·have d4:decide (((cC fr f.seq:Nat):Int)<(to:Nat))=true:=aUX U
       have hn:iM lane fr to bs=some (cC fr f.seq):=by unfold iM;rw[hdec];simp only;rw[if_pos ⟨h1,h2,h3,h4⟩]
       rw[hn] at hfold;obtain⟨X,gs,ks⟩:=(kk ((x3.tr x4).tr x5)).aTr aTA (cC fr f.seq) (.I (i:Nat));have gs:kS .num (.map (some mb)) (.int .u64 (cC fr f.seq:Nat)) (.I (i:Nat)) H5=some (undef,H5.set mb X):=gs;simp only[gsR,e,g1,hld,d1,kO,qZ,q9,c2,<-hH4,l40,d1',l41,cl,d2,l42,gw,d3,d4,gs,aV,e3];exact ih (i+1) lp _ U U U (gM (xx.tr x5) hmb) (by rw[hfold];exact ks) ..
      ·have d4:decide (((cC fr f.seq:Nat):Int)<(to:Nat))=false:=aUY U
       have hn:iM lane fr to bs=none:=by unfold iM;rw[hdec];simp only;rw[if_neg λh=>h4 h.2.2.2]
       rw[hn] at hfold;simp only[gsR,e,g1,hld,d1,kO,qZ,q9,c2,<-hH4,l40,d1',l41,cl,d2,l42,gw,d3,d4,aV,e3];exact ih (i+1) lp _ U U U (xx.tr x5) (by rw[hfold];exact kk ((x3.tr x4).tr x5)) ..
     ·have d3:decide ((fr:Int)<=(cC fr f.seq:Nat))=false:=aUY U
      have hn:iM lane fr to bs=none:=by unfold iM;rw[hdec];simp only;rw[if_neg λh=>h3 h.2.2.1]
      rw[hn] at hfold;simp only[gsR,e,g1,hld,d1,kO,qZ,q9,c2,<-hH4,l40,d1',l41,cl,d2,l42,gw,d3,aV,e3];exact ih (i+1) lp _ U U U (xx.tr x5) (by rw[hfold];exact kk ((x3.tr x4).tr x5)) ..
    ·have d2:((f.lane:Int)!=(lane:Int))=true:=by rw[bne_iff_ne];omega
     have hn:iM lane fr to bs=none:=by unfold iM;rw[hdec];simp only;rw[if_neg λh=>h2 h.2.1]
     rw[hn] at hfold;simp only[gsR,e,g1,hld,d1,kO,qZ,q9,c2,<-hH4,l40,d1',l41,cl,d2,aV,e3];exact ih (i+1) lp _ U U U xx (by rw[hfold];exact k4) ..
   ·have d1':((f.kind:Int)!=1)=true:=by rw[bne_iff_ne];omega
    have hn:iM lane fr to bs=none:=by unfold iM;rw[hdec];simp only;rw[if_neg λh=>h1 h.1]
    rw[hn] at hfold;simp only[gsR,e,g1,hld,d1,kO,qZ,q9,c2,<-hH4,l40,d1',aV,e3];exact ih (i+1) lp _ U U U xx (by rw[hfold];exact k4) ..
theorem aTy {u:Value}{l:List (List UInt8)}{G:Nat->Prop}(hr:Lk.sY H u l G)(hsm:l.length<=64)(lane fr to:Nat)(hfr:fr<9223372036854775808)(hm:1100<m):
  ∃H2,lvl prog pkN m (.func 62) [u,.I (lane:Nat),.int .u64 (fr:Nat),.int .u64 (to:Nat)] H=some (.I ((tZ lane fr to l).length:Nat),H2)/\Ext H H2:=by
 have hlen:=hr.uS;obtain⟨H1,hH1⟩:=aD (H++[Blk.map [] 0]);have nm:lV H=some (.map (some H.length),H1):=by rw[hH1];rfl
 have x1:Ext H H1:=by rw[hH1];exact Fr.app _ _ _
 have hk:IsKeys H1 H.length []:=by rw[hH1];exact IsKeys.aTq H
 refine iD (aQ rfl) U ?_
 rw[aTc];simp only[gsR,nm,hlen];exact aTz hr hsm lane fr to hfr (m:=m-1) U (aUi _) l.length 0 (m-1) H1 U U U x1 hk ..
end
section
variable {H0 H H' : aF} {O : FP → Nat → Prop} {a : FL} {F : Nat → Part → Nat → Prop} {p : PlanD} {ev wv nv : Value} {t : Nat} {s : FS} {m : Nat}
def acB (x:Acc):Blk:= .cells x.mH 46 .fix
def acV (x:Acc):Value:= .agg ⟨x.mH⟩
def ac0:Acc:=⟨0,0,0,0,0⟩
theorem Ap (x y:Acc){G:aF}{b:Nat}(hb:G[b]? =some (acB x)):stN 5 (.Q b 0) (acV y) G=some (undef,G.set b (acB y)):=by
 rw[qV (n:=5) (vs:=y.mH) hb aC rfl rfl (aUi 5) rfl]
 rfl
theorem aEF (x y:Acc){G:aF}{b j:Nat}{z:Int}(hb:G[b]? =some (acB x))(hj:j<5)(hy:x.mH.set j (.I z)=y.mH):stN 1 (.Q b j) (.I z) G=some (undef,G.set b (acB y)):=by
 rw[hP hb aC (by show j<5;exact hj),hy]
 rfl
theorem aTC (e:Ed)(G:aF):stN 2 (.pointer (some ⟨G.length,0,none⟩)) (edV e) (G++[Blk.cells [Value.int .i64 0,.int .i64 0] 83 .fix])=some (undef,G++[Blk.cells (edC e) 83 .fix]):=by
 rw[qV (n:=2) (vs:=edC e) (cG G _) aC rfl rfl (aUi 2) (wR e),gZ]
 rfl
theorem aUc (h:cW H0 H O a F p ev wv nv t s)(hm:10000<m)(k lane:Int)(hk:k<0∨(aU p).length<=k): ∃H',lvl prog pkN m (.func 29) [pt a.fb,.I k,.I lane] H=some (.tuple #[acV ac0,.bool false],H')/\Ext H H':=by
 obtain⟨H1,hH1⟩:=aD (H++[acB ac0]);have e1:H++[Blk.cells [Value.int .i64 0,.int .i64 0,.int .i64 0,.int .i64 0,.int .i64 0] 46 .fix]=H1:=by rw[hH1];rfl
 have x1:Ext H H1:=by rw[hH1];exact Fr.app _ _ _
 have b1:H1[H.length]? =some (acB ac0):=by rw[hH1];exact cV _ _
 have h1:=h.dX x1;obtain⟨H2,e',w',n',g2,c2⟩:=Al h1 (m:=m-1) U
 have cp:=Gb c2.pv H2;obtain⟨H3,hH3⟩:=aD (H2++[plB p e' w' n']);rw[<-hH3] at cp;have x3:Ext H2 H3:=by rw[hH3];exact Fr.app _ _ _
 have h3:=(h1.dX c2.ext).dX x3;have g4:=vR h3 (m:=m-1) U k
 have hv:mF p a k= .pointer none:=if_neg U
 rw[hv] at g4;have n3:=(sW 51 ⟨0,0,none⟩ (by kernel_rfl)).2
 have eb:bld prog 46 []=some (acV ac0):=rfl;have b3:H3[H.length]? =some (acB ac0):=cP (cP b1 c2.ext) x3;have st:=Ap ac0 ac0 b3;have hs:H3.set H.length (acB ac0)=H3:=by
  refine aUO λj=> ?_
  by_cases hj:H.length=j
  ·subst hj
   rw[aUj (bU b3),b3]
  ·rw[aUe hj]
 rw[hs] at st;have ld:ldN 5 (.Q H.length 0) H3=some (acV ac0,H3):=mV b3 (aUi 5);refine⟨H3,aS (aQ rfl) U ?_,(x1.tr c2.ext).tr x3⟩
 rw[aEv];simp only[gsR,e1,g2,wW,cp,g4,n3,eb,st,ld]
theorem aTB (h:cW H0 H O a F p ev wv nv t s)(ht:t<1000000)(hm:10000<m)(hm2:m<=72057594037927936){k lane:Nat}(hk:k<(aU p).length)(hl:lane<p.lanes.toNat):
  ∃H',lvl prog pkN m (.func 29) [pt a.fb,.I (k:Nat),.I (lane:Nat)] H=some (.tuple #[acV (gR p s k lane),.bool true],H')/\Ext H H':=by
 obtain⟨N,hN,hNe⟩:=h.pA;have hn:=hN.hn;have hE15:=hN.e15;have he:(aU p)[k]? =some ((aU p)[k]'hk):=aUf _;have hmem:=aUn he;obtain⟨v,w,hvw,hv1,hw1⟩:=S4 h.ok he;rw[hvw] at he hmem;have hgd:(aU p).getD k (0,0)=((v:Int),(w:Int)):=by rw[aUh,he];rfl
 obtain⟨p1,p2,p3,hback⟩:=Uk hN hmem;obtain⟨q1,q2,q3,_⟩:=Uk hN hback;obtain⟨iv,hiv⟩:=aD (qI p v w);obtain⟨iw,hiw⟩:=aD (qI p w v);rw[<-hiv] at p1 p2 p3;rw[<-hiw] at q1 q2 q3;obtain⟨xs,hxs⟩:=aD ((s.n v).snd iv lane);obtain⟨yr,hyr⟩:=aD ((s.n w).rcv iw lane);obtain⟨H1,hH1⟩:=aD (H++[acB ac0]);have e0: ∀G:aF,G++[Blk.cells [Value.int .i64 0,.int .i64 0,.int .i64 0,.int .i64 0,.int .i64 0] 46 .fix]=G++[acB ac0]:=λ_=>rfl
 have x1:Ext H H1:=by rw[hH1];exact Fr.app _ _ _
 have b1:H1[H.length]? =some (acB ac0):=by rw[hH1];exact cV _ _
 have h1:=h.dX x1;obtain⟨H2,e',w',n',g2,c2⟩:=Al h1 (m:=m-1) U
 have cp:=Gb c2.pv H2;obtain⟨H3,hH3⟩:=aD (H2++[plB p e' w' n']);rw[<-hH3] at cp;have x3:Ext H2 H3:=by rw[hH3];exact Fr.app _ _ _
 have b3:H3[H2.length]? =some (plB p e' w' n'):=by rw[hH3];exact cV _ _
 have h3:=(h1.dX c2.ext).dX x3;have pv3:=c2.pv.ext x3;have g4:=vR h3 (m:=m-1) U (k:Int)
 have hlv:mF p a (k:Int)=pt (a.lb k):=by
  unfold mF;rw[if_pos U,aUF]
 rw[hlv] at g4;have n3:=λb=>(sW 51 b (by kernel_rfl)).1
 have l2:=cQ b3 2 (.I p.lanes) rfl;have d1:decide ((lane:Int)<0)=false:=aUY U
 have d2:decide (p.lanes<=(lane:Int))=false:=aUY U
 obtain⟨hv,H5,g5,x5,hw5,_⟩:=Dd h3 (m:=m-1) U
 obtain⟨bh,oh,i1,_,i3⟩:=hw5.rs.dM nF he .i64;have i4:ldN 2 (.pointer (some ⟨bh,oh,none⟩)) H5=some (edV ((v:Int),(w:Int)),H5):=(i3 H5 rfl).1;have hs:=aTC ((v:Int),(w:Int)) H5;obtain⟨H6,hH6⟩:=aD (H5++[Blk.cells (edC ((v:Int),(w:Int))) 83 .fix]);rw[<-hH6] at hs;have x6:Ext H5 H6:=by rw[hH6];exact Fr.app _ _ _
 have b6:H6[H5.length]? =some (.cells (edC ((v:Int),(w:Int))) 83 .fix):=by rw[hH6];exact cV _ _
 have h6:=(h3.dX x5).dX x6;have ldv: ∀{G:aF},Ext H6 G->ld1 (.pointer (some ⟨H5.length,0,none⟩)) G=some (.int .i64 (v:Nat),G):=λhG=>bA (cP b6 hG) rfl
 have ldw: ∀{G:aF},Ext H6 G->ld1 (.pointer (some ⟨H5.length,1,none⟩)) G=some (.int .i64 (w:Nat),G):=λhG=>bA (cP b6 hG) rfl
 have iB:=x5.tr x6;have ldp: ∀{G:aF},Ext H6 G->ldN 11 (.pointer (some ⟨H2.length,0,none⟩)) G=some (plV p e' w' n',G):=λhG=>fE (cP b3 (iB.tr hG))
 have v6:=ldv (Fr.dS _ H6);have w6:=ldw (Fr.dS _ H6);have pl6:=ldp (Fr.dS _ H6);have pchk:=pv3.chk;have gv:=xY h6 (m:=m-1) U (v:Int)
 have nv1:mG p a (v:Int)=pt (a.y v).nb:=by unfold mG;rw[if_pos U,aUF]
 rw[nv1] at gv;obtain⟨H7,g7,x7⟩:=Zt (pv3.ext iB) (m:=m-1) U U (v:Int) (w:Int)
 rw[p1] at g7;have h7:=h6.dX x7;obtain⟨H8,g8,x8⟩:=aP6 (h7.node v hv1) (m:=m-1) U p2 p3 (k:=lane) hl
 have h8:=h7.dX x8;have Au:=x7.tr x8;have w8:=ldw Au;have v8:=ldv Au;have pl8:=ldp Au;have gw:=xY h8 (m:=m-1) U (w:Int)
 have nw1:mG p a (w:Int)=pt (a.y w).nb:=by unfold mG;rw[if_pos U,aUF]
 rw[nw1] at gw;obtain⟨H9,g9,x9⟩:=Zt ((pv3.ext iB).ext Au) (m:=m-1) U U (w:Int) (v:Int)
 rw[q1] at g9;have h9:=h8.dX x9;obtain⟨HA,gA,xA⟩:=aP4 (h9.node w hw1) (m:=m-1) U q2 q3 (k:=lane) hl
 have hA:=h9.dX xA;have sb: ∀{G:aF},Ext HA G->G[(a.y v).sb iv lane]? =some (iH xs):=λhG=>by rw[hxs];exact((hA.dX hG).node v hv1).C2 p2 p3 hl
 have rb: ∀{G:aF},Ext HA G->G[(a.y w).rb iw lane]? =some (eU yr (cT p w).room):=λhG=>by rw[hyr];exact((hA.dX hG).node w hw1).C0 q2 q3 hl
 have hso:SndOk xs:=by rw[hxs];exact(hA.node v hv1).Ik U iv lane
 have hro:RcvOk yr (cT p w).room:=by rw[hyr];exact(hA.node w hw1).C1 U iw lane
 have gu:=aBs (m:=m-1) U (sb (Fr.dS _ HA)) hso
 obtain⟨HB,gu,xB⟩: ∃HB,lvl prog pkN (m-1) (.func 58) [.Q ((a.y v).sb iv lane) 0] HA=some (.I xs.iR,HB)/\Ext HA HB:=⟨_,gu,Fr.app _ _ _⟩;have gl:=aBq (m:=m-1) U (rb xB) hro
 have gs:=aN0 (m:=m-1) U (sb xB)
 have gh:=aNX (m:=m-1) U (rb xB)
 have u1:prog.underlying 3=some (.int .i64):=by kernel_rfl
 have u3:prog.underlying 112=some (.int .u64):=by kernel_rfl
 have cv: ∀(z:Int)(G:aF),cK prog 112 3 (.int .u64 (IntKind.u64.wrap z)) G=some (.I (cI z),G):=λz G=>dJ _ _ u3 u1 _ _
 have hroom:(cT p w).room=p.room.toNat:=rfl;obtain⟨la,hla⟩: ∃la:Int,la=cI ((yr.dA p.room.toNat:Int)-xs.l):=⟨_,rfl⟩;rw[hroom] at gl;have eb:bld prog 46 [(0,.I xs.iR),(1,.I la),(3,.I yr.h)]=some (acV ⟨xs.iR,la,0,yr.h,0⟩):=rfl;obtain⟨A1,hA1⟩: ∃A1:Acc,A1=⟨xs.iR,la,0,yr.h,0⟩:=⟨_,rfl⟩;rw[<-hA1] at eb;have sB:stN 5 (.Q HB.length 0) (acV A1) (HB++[acB ac0])=some (undef,HB++[acB A1]):=by rw[Ap ac0 A1 (cG HB _),gZ]
 obtain⟨HC,hHC⟩:=aD (HB++[acB A1]);rw[<-hHC] at sB;have xC:Ext HB HC:=by rw[hHC];exact Fr.app _ _ _
 have bC:HC[HB.length]? =some (acB A1):=by rw[hHC];exact cV _ _
 have hC:=(hA.dX xB).dX xC;obtain⟨lv,HD,gD,xD,rD⟩:=Lk.Sw (pr:=pkN) (aQ rfl) (aQ rfl) (hC.link k hk) (m:=m-1) U
 have xBD:=(xB.tr xC).tr xD;have gex:=aBp (m:=m-1) U (rb xBD)
 have gse:=P7 (m:=m-1) U (sb xBD)
 have hfew:=(hC.link k hk).few;have hyb:=hro;obtain⟨HE,gE,xE⟩:=aTy rD U lane yr.n xs.s (by have:=((hA.node w hw1).inv.rcv iw lane).big;rw[<-hyr] at this;omega) (m:=m-1) U
 obtain⟨fl,hfl⟩:=aD ((tZ lane yr.n xs.s (s.l k)).length);rw[<-hfl] at gE;have bE:HE[HB.length]? =some (acB A1):=cP (cP bC xD) xE;obtain⟨A2,hA2⟩: ∃A2:Acc,A2=⟨xs.iR,la,(fl:Int),yr.h,0⟩:=⟨_,rfl⟩;have sE:=aEF A1 A2 (j:=2) (z:=(fl:Int)) bE U (by rw[hA1,hA2];rfl)
 obtain⟨HF,hHF⟩:=aD (HE.set HB.length (acB A2));rw[<-hHF] at sE;have bF:HF[HB.length]? =some (acB A2):=by rw[hHF];exact dN bE
 have xBF:Ext HB HF:=by rw[hHF];exact gM ((xC.tr xD).tr xE) (aUi _)
 have gse2:=P7 (m:=m-1) U (sb (xB.tr xBF))
 have gex2:=aBp (m:=m-1) U (rb (xB.tr xBF))
 have lF:ld1 (.Q HB.length 2) HF=some (.I (fl:Nat),HF):=by rw[bA bF (show A2.mH[2]? =some (.I (fl:Int)) from by rw[hA2];rfl)]
 have ckI': ∀(z:Int)(G:aF),chk (some (Value.I z,G)) (.I z)=true:=λz G=>by simp[chk,veq]
 have ckI1: ∀(z:Int)(G:aF),chk (some (Value.I z,G)) (.I z)=true:=ckI';obtain⟨lo,hlo⟩: ∃lo:Int,lo=IntKind.i64.wrap (cI ((xs.s:Int)-yr.n)-fl):=⟨_,rfl⟩;obtain⟨A3,hA3⟩: ∃A3:Acc,A3=⟨xs.iR,la,(fl:Int),yr.h,lo⟩:=⟨_,rfl⟩;have sF:=aEF A2 A3 (j:=4) (z:=lo) bF U (by rw[hA2,hA3];rfl)
 obtain⟨HG,hHG⟩:=aD (HF.set HB.length (acB A3));rw[<-hHG] at sF;have bG:HG[HB.length]? =some (acB A3):=by rw[hHG];exact dN bF
 have lG:ldN 5 (.Q HB.length 0) HG=some (acV A3,HG):=mV bG (aUi 5);have xBG:Ext HB HG:=by rw[hHG];exact gM xBF (aUi _)
 have xHB:Ext H1 HB:=((((((c2.ext.tr x3).tr iB).tr Au).tr x9).tr xA).tr xB);have bR:HG[H.length]? =some (acB ac0):=cP b1 (xHB.tr xBG);have sG:=Ap ac0 A3 bR;obtain⟨HK,hHK⟩:=aD (HG.set H.length (acB A3));rw[<-hHK] at sG;have bK:HK[H.length]? =some (acB A3):=by rw[hHK];exact dN bR
 have lK:ldN 5 (.Q H.length 0) HK=some (acV A3,HK):=mV bK (aUi 5);have hacc:gR p s k lane=A3:=by
  unfold gR Df;simp only[hgd,aUF,<-hiv,<-hiw,<-hxs,<-hyr];rw[<-hfl,hA3,hla,hlo]
 refine⟨HK,?_,by rw[hHK];exact gM (x1.tr (xHB.tr xBG)) (aUi _)⟩
 rw[hacc];refine aS (aQ rfl) U ?_
 rw[aEv];simp only[gsR,e0,<-hH1,g2,wW,cp,g4,n3,d1,l2,d2,g5,i1,i4,hs,v6,gv,pl6,pchk,ckI',w6,g7,g8,w8,gw,pl8,v8,g9,gA,gu,gl,gs,eM,cv,<-hla,gh,eb,sB,gD,gex,gse,gE,sE,gse2,gex2,lF,<-hlo,sF,lG,sG,lK]
end
section
variable {H0 Hs H H' : aF} {O : FP → Nat → Prop} {a : FL} {F : Nat → Part → Nat → Prop} {p : PlanD} {ev wv nv : Value} {t : Nat} {s : FS} {m : Nat}
theorem aTD (x:Acc)(H:aF):b9 46 5 1 [.I 0,.I 0,.I 0,.I 0,.I 0] [(0,acV x)] H=some (.slice (some ⟨H.length,0,none⟩) 1 1,H++[.cells x.mH 46 .row]):=rfl
theorem Aq (hok:dT p=true):1<=p.lanes/\p.lanes<=3:=by
 unfold dT oW wi at hok;simp only[aUl,decide_eq_true_eq] at hok;omega
theorem aTE (h:cW H0 Hs O a F p ev wv nv t s)(ht:t<1000000)(hm:20000<m)(hm2:m<=72057594037927936){k:Nat}(hk:k<(aU p).length){iS:Value}{xs:List Acc}(hxl:xs.length<=200){K:Ex->K (Value×aF)}{Q:aF->Value->Prop}
  (hK: ∀(H':aF)(v':Value),Ext Hs H'->Rw Acc.mH 46 5 H' v' (xs++(List.range p.lanes.toNat).map (gR p s k))->New Hs v'-> ∀(x2 x4 fC eG:Value),∃H2 u2,Tn (lvl prog pkN m) (aL m) K (pt a.fb) x2 v' x4 iS (.I (k:Nat)) fC eG H'=some (u2,H2)/\Q H2 u2):
  ∀(q i l:Nat)(H:aF)(v:Value),p.lanes.toNat-i=q->i<=p.lanes.toNat->q<l->Ext Hs H->Rw Acc.mH 46 5 H v (xs++(List.range i).map (gR p s k))->New Hs v-> ∀(x2:Value),
  ∃H2 u2,aL l (aO prog (lvl prog pkN m) (aL m) Tm) (Tp (lvl prog pkN m) (aL m) K) (some (pt a.fb)::aG 1 (x2::v::some (.I (k:Nat))::aG 5 (iS::some (.I (k:Nat))::aG 4 (some (.I (p.lanes.toNat:Nat))::some (.I (i:Nat))::aG 16 [])))) H=some (u2,H2)/\Q H2 u2:=by
 have h3:=Aq h.ok;intro q;induction q with
 |zero=>
  intro i l H v hq hi hl he hr hn;intros;obtain⟨l,rfl⟩:=aB l U
  obtain rfl:i=p.lanes.toNat:=U
  have e:decide ((p.lanes.toNat:Int)<(p.lanes.toNat:Nat))=false:=by simp
  rw[bS,aEq];simp only[gsR,e];rw[aSW];exact hK H v he hr hn ..
 |succ q ih=>
  intro i l H v hq hi hl he hr hn;intros;obtain⟨l,rfl⟩:=aB l U
  have e:decide ((i:Int)<(p.lanes.toNat:Nat))=true:=aUX U
  have e3:=aA (i:=i) U
  obtain⟨H1,g1,x1⟩:=aTB (h.dX he) ht (m:=m) U hm2 hk (lane:=i) U
  have E0:ext 0 (.tuple #[acV (gR p s k i),.bool true])=some (acV (gR p s k i)):=rfl;have E1:ext 1 (.tuple #[acV (gR p s k i),.bool true])=some (.bool true):=rfl;have ez: ∀G:aF,G++[Blk.cells [Value.int .i64 0,.int .i64 0,.int .i64 0,.int .i64 0,.int .i64 0] 46 .fix]=G++[acB ac0]:=λ_=>rfl
  have st:stN 5 (.Q H1.length 0) (acV (gR p s k i)) (H1++[acB ac0])=some (undef,H1++[acB (gR p s k i)]):=by rw[Ap ac0 _ (cG H1 _),gZ]
  obtain⟨H2,hH2⟩:=aD (H1++[acB (gR p s k i)]);rw[<-hH2] at st;have x2:Ext H1 H2:=by rw[hH2];exact Fr.app _ _ _
  have b2:H2[H1.length]? =some (acB (gR p s k i)):=by rw[hH2];exact cV _ _
  have ld:ldN 5 (.Q H1.length 0) H2=some (acV (gR p s k i),H2):=mV b2 (aUi 5);have hr2:=m9 (m9 hr x1) x2;obtain⟨v',H3,g3,r3,n3,x3⟩:=hr2.pS (by':=40) Uj aTs aC (gR p s k i) hn (he.tr (x1.tr x2)) (eD (n:=1000) aC (by rw[aUp,aUr,aUH];omega))
  have hs:xs++(List.range i).map (gR p s k)++[gR p s k i]=xs++(List.range (i+1)).map (gR p s k):=by rw[aUM,List.map_append,aUk];rfl
  rw[hs] at r3;rw[bS,aEq];simp only[gsR,e,g1,E0,E1,ez,st,ld,aTD,g3,aV,e3];exact ih (i+1) l H3 v' U U U x3 r3 n3 ..
theorem aTF (h:cW H0 Hs O a F p ev wv nv t s)(ht:t<1000000)(hm:30000<m)(hm2:m<=72057594037927936){n:Nat}(hn:(aU p).length=n):
  ∀(q k l:Nat)(H:aF)(v:Value),n-k=q->k<=n->q<l->Ext Hs H->Rw Acc.mH 46 5 H v ((List.range k).flatMap λk=>(List.range p.lanes.toNat).map (gR p s k))->New Hs v-> ∀(x2 x4 fC eG:Value),
  ∃H2 u2,aL l (aO prog (lvl prog pkN m) (aL m) Tl) (To (lvl prog pkN m) (aL m)) (some (pt a.fb)::aG 1 (x2::v::x4::aG 5 (some (.I (n:Nat))::some (.I (k:Nat))::aG 4 (fC::eG::aG 16 [])))) H=some (u2,H2)/\Ext Hs H2/\Rw Acc.mH 46 5 H2 u2 (gB p s)/\New Hs u2:=by
 have h36:=oC p;have h3:=Aq h.ok;have hll: ∀k,((List.range k).flatMap λk=>(List.range p.lanes.toNat).map (gR p s k)).length=k*p.lanes.toNat:=λk=>Ah λi _=>by rw[aUr,aUH]
 intro q;induction q with
 |zero=>
  intro k l H v hq hk hl he hr hnw;intros;obtain⟨l,rfl⟩:=aB l U
  obtain rfl:k=n:=U
  have e:decide ((k:Int)<(k:Nat))=false:=by simp
  refine⟨H,v,?_,he,by unfold gB;rw[hn];exact hr,hnw⟩
  rw[bS,aEp];simp only[gsR,e];rw[aSV]
  first|done|rfl
 |succ q ih=>
  intro k l H v hq hk hl he hr hnw;intros;obtain⟨l,rfl⟩:=aB l U
  have e:decide ((k:Int)<(n:Nat))=true:=aUX U
  have e3:=aA (i:=k) U
  obtain⟨H1,e',w',n',g1,c1⟩:=Al (h.dX he) (m:=m) U
  have p1:pF 2 (plV p e' w' n')=some (.I (p.lanes.toNat:Nat)):=by
   have:pF 2 (plV p e' w' n')=some (.I p.lanes):=rfl;rw[this,show((p.lanes.toNat:Nat):Int)=p.lanes from U]
  have hle:=hll k;have hmul:k*p.lanes.toNat<=36*3:=Nat.mul_le_mul U U
  rw[bS,aEp];simp only[gsR,e,g1,p1];refine aTE h ht (m:=m) U hm2 (k:=k) (iS:= .I (n:Nat)) (xs:=(List.range k).flatMap λk=>(List.range p.lanes.toNat).map (gR p s k)) (Q:=λH2 u2=>Ext Hs H2/\Rw Acc.mH 46 5 H2 u2 (gB p s)/\New Hs u2) U U ?_ p.lanes.toNat 0 m H1 v U U U (he.tr c1.ext) (by simpa using m9 hr c1.ext) hnw ..
  intro H2 v2 x2 r2 n2;intros;have hs:((List.range k).flatMap λk=>(List.range p.lanes.toNat).map (gR p s k))++(List.range p.lanes.toNat).map (gR p s k)=(List.range (k+1)).flatMap λk=>(List.range p.lanes.toNat).map (gR p s k):=by rw[aUM,List.flatMap_append];simp
  rw[hs] at r2;unfold Tn;simp only[gsR,aV,e3];exact ih (k+1) l H2 v2 U U U x2 r2 n2 ..
theorem Ul (h:cW H0 H O a F p ev wv nv t s)(ht:t<1000000)(hm:40000<m)(hm2:m<=72057594037927936): ∃H2 u2,lvl prog pkN m (.func 12) [pt a.fb] H=some (u2,H2)/\Ext H H2/\Rw Acc.mH 46 5 H2 u2 (gB p s)/\New H u2:=by
 obtain⟨v,H1,g1,x1,r1,n1⟩:=Dd h (m:=m-1) U
 have hlen:=r1.nY;have h36:=oC p;refine dL (aQ rfl) U ?_
 rw[aSX];simp only[gsR,g1,hlen];exact aTF h ht (m:=m-1) U U rfl (aU p).length 0 (m-1) H1 _ U U U x1 Rw.fD (New.iE _) ..
end
theorem aTQ (L:List (Go.Abs.dR×Pkt))(i o k:Nat):jO L i o k<=L.length:=by
 unfold jO lA;rw[aUr];exact List.length_filter_le _ _
theorem aTL (ks:List Nat)(b:Option Nat):(nQ ks b).length<=ks.length+1:=by
 unfold nQ;split
 ·omega
 ·split
  ·omega
  ·simp
theorem aTJ (lane fr to:Nat)(l:List (List UInt8)):(tZ lane fr to l).length<=l.length:=by
 unfold tZ;have: ∀(l:List (List UInt8))(ks:List Nat),(l.foldl (λks b=>nQ ks (iM lane fr to b)) ks).length<=ks.length+l.length:=by
  intro l;induction l with
  |nil=>intro ks;simp
  |cons b l ih=>
   intro ks;rw[List.foldl_cons];have:=ih (nQ ks (iM lane fr to b));have:=aTL ks (iM lane fr to b);simp only[aUz];omega
 simpa using this l []
def oL (s:NS)(i k j:Nat):Nat:=((List.range j).map λo=>jO s.rL i o k).sum
def mI (s:NS)(P k i:Nat):Nat:=((List.range i).map λi=>oL s i k P).sum
def nR (s:NS)(P k:Nat):Nat:=((List.range k).map λk:Nat=>(dE s.hL k).length+mI s P k P).sum
section
variable {H0 Hs H H' : aF} {O : FP → Nat → Prop} {a : FL} {F : Nat → Part → Nat → Prop} {p : PlanD} {ev wv nv : Value} {t : Nat} {s : FS} {m : Nat}
variable {Fn : Part → Nat → Prop} {y : Lay} {c : Cfg} {sv : NS}
theorem Jk (h:NodeAt H0 H Fn y p ev wv nv c t sv):(∀i k j,j<=c.aJ->oL sv i k j<=1000)/\(∀k i,i<=c.aJ->mI sv c.aJ k i<=6000)/\ ∀k,k<=c.lanes->nR sv c.aJ k<=20000:=by
 have h5:=h.ok.by';have h3:=h.ok.lanes;have h8:=h.ok.room;have hq:=h.ok.queue;have hp:c.aJ<=6:=by unfold Cfg.aJ;omega
 have hr:sv.rL.length<=144:=by
  have h1:=h.inv.rN;have h2:c.aJ*c.lanes<=6*3:=Nat.mul_le_mul hp h3.2;have h3:c.aJ*c.lanes*c.room<=18*8:=Nat.mul_le_mul h2 h8.2;omega
 have a1: ∀i k j,j<=c.aJ->oL sv i k j<=1000:=λi k j hj=>by
  have:=Dg (B:=144) j λo _=>aUt (aTQ sv.rL i o k) hr
  unfold oL;omega
 have a2: ∀k i,i<=c.aJ->mI sv c.aJ k i<=6000:=λk i hi=>by
  have:=Dg (B:=1000) (f:=λi=>oL sv i k c.aJ) i λo _=>a1 o k c.aJ (aUi _)
  unfold mI;omega
 refine⟨a1,a2,λk hk=> ?_⟩
 have:=Dg (B:=6008) (f:=λk:Nat=>(dE sv.hL k).length+mI sv c.aJ k c.aJ) k λo _=>by
  have:=h.inv.hQ o;have:=a2 o c.aJ (aUi _);omega
 unfold nR;omega
theorem aTO (h:NodeAt H0 H Fn y p ev wv nv c t sv)(hm:1000<m){i k M:Nat}(hM:M<=50000){gG tC:Value}{K:Ex->K (Value×aF)}{Q:aF->Value->Prop}
  (hK: ∀(x4 x9 iB nS:Value),∃H2 u2,Ua (lvl prog pkN m) (aL m) K x4 (pt y.nb) (.I (M+oL sv i k c.aJ:Nat)) (.I (c.aJ:Nat)) (.I (k:Nat)) x9 gG tC (.I (c.aJ:Nat)) (.I (i:Nat)) iB nS H=some (u2,H2)/\Q H2 u2):
  ∀(q j l:Nat),c.aJ-j=q->j<=c.aJ->q<l-> ∀(x4:Value),
  ∃H2 u2,aL l (aO prog (lvl prog pkN m) (aL m) T8) (Ud (lvl prog pkN m) (aL m) K) (aG 4 (x4::some (pt y.nb)::some (.I (M+oL sv i k j:Nat))::some (.I (c.aJ:Nat))::some (.I (k:Nat))::some (.I (i:Nat))::aG 12 (gG::tC::aG 8 (some (.I (c.aJ:Nat))::some (.I (i:Nat))::aG 2 (some (.I (c.aJ:Nat))::some (.I (j:Nat))::aG 14 []))))) H=some (u2,H2)/\Q H2 u2:=by
 have h6:c.aJ<=6:=by have:=h.ok.by';unfold Cfg.aJ;omega
 obtain⟨a1,_,_⟩:=Jk h;intro q;induction q with
 |zero=>
  intro j l hq hj hl;intros;obtain⟨l,rfl⟩:=aB l U
  obtain rfl:j=c.aJ:=U
  have e:decide ((c.aJ:Int)<(c.aJ:Nat))=false:=by simp
  rw[bS,aEA];simp only[gsR,e];rw[aS9];exact hK ..
 |succ q ih=>
  intro j l hq hj hl;intros;obtain⟨l,rfl⟩:=aB l U
  have e:decide ((j:Int)<(c.aJ:Nat))=true:=aUX U
  have e3:=aA (i:=j) U
  have g1:=aP5 h (m:=m) U
  have g2:=Ri h (m:=m) U i j k
  have hs:oL sv i k (j+1)=oL sv i k j+jO sv.rL i j k:=Am _ _;have hb:=a1 i k (j+1) U
  have ea:IntKind.i64.wrap (((M+oL sv i k j:Nat):Int)+(jO sv.rL i j k:Nat))=((M+oL sv i k (j+1):Nat):Int):=by rw[bJ U U];omega
  rw[bS,aEA];simp only[gsR,e,g1,g2,aV,ea,e3];exact ih (j+1) l U U U ..
theorem aTN (h:NodeAt H0 H Fn y p ev wv nv c t sv)(hm:1000<m){k M:Nat}(hM:M<=40000){gG:Value}{K:Ex->K (Value×aF)}{Q:aF->Value->Prop}
  (hK: ∀(x4 x8 x9 rI rJ iB nS:Value),∃H2 u2,T9 (lvl prog pkN m) (aL m) K x4 (pt y.nb) (.I (M+mI sv c.aJ k c.aJ:Nat)) (.I (c.aJ:Nat)) x8 x9 gG (.I (k:Nat)) rI rJ iB nS H=some (u2,H2)/\Q H2 u2):
  ∀(q i l:Nat),c.aJ-i=q->i<=c.aJ->q<l-> ∀(x4 x9 iB nS:Value),
  ∃H2 u2,aL l (aO prog (lvl prog pkN m) (aL m) T7) (Uc (lvl prog pkN m) (aL m) K) (aG 4 (x4::some (pt y.nb)::some (.I (M+mI sv c.aJ k i:Nat))::some (.I (c.aJ:Nat))::some (.I (k:Nat))::x9::aG 12 (gG::some (.I (k:Nat))::aG 8 (some (.I (c.aJ:Nat))::some (.I (i:Nat))::aG 2 (iB::nS::aG 14 []))))) H=some (u2,H2)/\Q H2 u2:=by
 have h6:c.aJ<=6:=by have:=h.ok.by';unfold Cfg.aJ;omega
 obtain⟨_,a2,_⟩:=Jk h;intro q;induction q with
 |zero=>
  intro i l hq hi hl;intros;obtain⟨l,rfl⟩:=aB l U
  obtain rfl:i=c.aJ:=U
  have e:decide ((c.aJ:Int)<(c.aJ:Nat))=false:=by simp
  rw[bS,aEz];simp only[gsR,e];rw[aS8];exact hK ..
 |succ q ih=>
  intro i l hq hi hl;intros;obtain⟨l,rfl⟩:=aB l U
  have e:decide ((i:Int)<(c.aJ:Nat))=true:=aUX U
  have e3:=aA (i:=i) U
  have hb:=a2 k i U
  have hs:mI sv c.aJ k (i+1)=mI sv c.aJ k i+oL sv i k c.aJ:=Am _ _;have hz:M+mI sv c.aJ k i=M+mI sv c.aJ k i+oL sv i k 0:=rfl;rw[bS,aEz];simp only[gsR,e];rw[hz];refine aTO h hm (i:=i) (k:=k) (M:=M+mI sv c.aJ k i) U (gG:=gG) (tC:= .I (k:Nat)) (Q:=Q) ?_ c.aJ 0 m U U U ..
  intros;have hs':M+mI sv c.aJ k i+oL sv i k c.aJ=M+mI sv c.aJ k (i+1):=U
  rw[hs'];unfold Ua;simp only[gsR,aV,e3];exact ih (i+1) l U U U ..
theorem aTM (h:NodeAt H0 H Fn y p ev wv nv c t sv)(hm:1000<m):
  ∀(q k l:Nat),c.lanes-k=q->k<=c.lanes->q<l-> ∀(x4 x8 x9 rI rJ iB nS:Value),
  ∃H2 u2,aL l (aO prog (lvl prog pkN m) (aL m) T6) (Ub (lvl prog pkN m) (aL m)) (aG 4 (x4::some (pt y.nb)::some (.I (nR sv c.aJ k:Nat))::some (.I (c.aJ:Nat))::x8::x9::aG 12 (some (.I (c.lanes:Nat))::some (.I (k:Nat))::aG 8 (rI::rJ::aG 2 (iB::nS::aG 14 []))))) H=some (u2,H2)/\u2= .I (nR sv c.aJ c.lanes:Nat)/\H2=H:=by
 have h3:=h.ok.lanes;have h8:=h.ok.queue;have h6:c.aJ<=6:=by have:=h.ok.by';unfold Cfg.aJ;omega
 obtain⟨_,a2,a3⟩:=Jk h;intro q;induction q with
 |zero=>
  intro k l hq hk hl;intros;obtain⟨l,rfl⟩:=aB l U
  obtain rfl:k=c.lanes:=U
  have e:decide ((c.lanes:Int)<(c.lanes:Nat))=false:=by simp
  refine⟨H,_,?_,rfl,rfl⟩;rw[bS,aEy];simp only[gsR,e];rw[aS7]
  first|done|rfl
 |succ q ih=>
  intro k l hq hk hl;intros;obtain⟨l,rfl⟩:=aB l U
  have e:decide ((k:Int)<(c.lanes:Nat))=true:=aUX U
  have e3:=aA (i:=k) U
  have g1:=Re h (m:=m) U
  obtain⟨w0,w1,w2,cv,hh⟩:=h.aC7;have g2:=Qd hh (m:=m) U k U
  have hs:nR sv c.aJ (k+1)=nR sv c.aJ k+((dE sv.hL k).length+mI sv c.aJ k c.aJ):=Am _ _;have hq8:=h.inv.hQ (k:Int);have hb:=a3 k U
  have hb2:=a3 (k+1) U
  have ea:IntKind.i64.wrap (((nR sv c.aJ k:Nat):Int)+((dE sv.hL (k:Int)).length:Nat))=((nR sv c.aJ k+(dE sv.hL k).length:Nat):Int):=by rw[bJ U U];omega
  have hz:nR sv c.aJ k+(dE sv.hL k).length=nR sv c.aJ k+(dE sv.hL k).length+mI sv c.aJ k 0:=rfl;rw[bS,aEy];simp only[gsR,e,g1,g2,aV,ea];rw[hz];refine aTN h hm (k:=k) (M:=nR sv c.aJ k+(dE sv.hL k).length) U (gG:= .I (c.lanes:Nat)) (Q:=λH2 u2=>u2= .I (nR sv c.aJ c.lanes:Nat)/\H2=H) ?_ c.aJ 0 m U U U ..
  intros;have hs':nR sv c.aJ k+(dE sv.hL k).length+mI sv c.aJ k c.aJ=nR sv c.aJ (k+1):=U
  rw[hs'];unfold T9;simp only[gsR,aV,e3];exact ih (k+1) l U U U ..
theorem aTP (h:cW H0 H O a F p ev wv nv t s)(hm:20000<m)(hm2:m<=72057594037927936){v:Nat}(hv:v<p.nodes.toNat): ∃H',lvl prog pkN m (.func 40) [pt a.fb,.I (v:Nat)] H=some (.I (sZ (cT p v) (s.n v):Nat),H')/\Ext H H':=by
 obtain⟨N,hN,hNe⟩:=h.pA;have hn:=hN.hn;have hE15:=hN.e15;have g1:=xY h (m:=m-1) U (v:Int)
 have nv1:mG p a (v:Int)=pt (a.y v).nb:=by unfold mG;rw[if_pos U,aUF]
 rw[nv1] at g1;obtain⟨H1,e1,w1,n1,g2,c1⟩:=Al h (m:=m-1) U
 obtain⟨H2,bv,g3,x3,r3,_⟩:=B2 c1.pv (m:=m-1) U U (v:Int)
 have hlen:=r3.nY;have hpo:(cT p v).aJ=(bes p.edges v).length+1:=by
  show((bes p.edges v).map Int.toNat).length+1=_
  rw[aUr]
 have hbl:=Fv p.edges (v:Int);have ea:IntKind.i64.wrap (((bes p.edges v).length:Int)+1)=((cT p v).aJ:Nat):=by rw[bJ U U];omega
 have h2:=(h.dX c1.ext).dX x3;obtain⟨H3,e3',w3,n3,g4,c4⟩:=Al h2 (m:=m-1) U
 have h3:=h2.dX c4.ext;have hl3:=Aq h.ok;have p1:pF 2 (plV p e3' w3 n3)=some (.I ((cT p v).lanes:Nat)):=by
  have:pF 2 (plV p e3' w3 n3)=some (.I p.lanes):=rfl;rw[this];show some (Value.I p.lanes)=some (.I ((p.lanes.toNat:Nat):Int))
  rw[show((p.lanes.toNat:Nat):Int)=p.lanes from U]
 have main: ∃H' u,lvl prog pkN m (.func 40) [pt a.fb,.I (v:Nat)] H=some (u,H')/\u= .I (nR (s.n v) (cT p v).aJ (cT p v).lanes:Nat)/\H'=H3:=by
  refine dL (aQ rfl) U ?_
  rw[aTa];simp only[gsR,g1,g2,g3,hlen,aV,ea,g4,p1];exact aTM (h3.node v hv) (m:=m-1) U (cT p v).lanes 0 (m-1) U U (by have:=(h3.node v hv).ok.lanes;omega) ..
 obtain⟨H',u,g5,rfl,rfl⟩:=main
 exact⟨_,g5,(c1.ext.tr x3).tr c4.ext⟩
def qJ (p:PlanD)(s:FS)(i:Nat):Int:=(((gB p s).take i).map (·.flying)).sum
def Dh (p:PlanD)(s:FS):Int:=(vS p s:Int)+qJ p s (gB p s).length
theorem aEG (h:cW H0 H O a F p ev wv nv t s): ∀x∈gB p s,0<=x.flying/\x.flying<=64:=λx hx=>by
 unfold gB at hx;obtain⟨k,hk,hx⟩:=List.mem_flatMap.mp hx;obtain⟨l,_,rfl⟩:=aUQ.mp hx;have hf:=(h.link k (aUR.mp hk)).few;unfold gR Df;simp only;refine⟨by omega,?_⟩
 have:=aTJ l ((s.n ((aU p).getD k (0,0)).2.toNat).rcv (qI p ((aU p).getD k (0,0)).2.toNat ((aU p).getD k (0,0)).1.toNat) l).n ((s.n ((aU p).getD k (0,0)).1.toNat).snd (qI p ((aU p).getD k (0,0)).1.toNat ((aU p).getD k (0,0)).2.toNat) l).s (s.l k);omega
theorem aTK (h:cW H0 H O a F p ev wv nv t s): ∀i,0<=qJ p s i/\qJ p s i<=64*i:=by
 have hb:=aEG h;intro i;unfold qJ;induction i with
 |zero=>simp
 |succ i ih=>
  rw[List.take_add_one,List.map_append,List.sum_append];cases hx:(gB p s)[i]? with
  |none=>simp only[Option.toList,List.map_nil,List.sum_nil];omega
  |some x=>
   have:=hb x (aUn hx);simp only[Option.toList,aUI,List.map_nil,List.sum_cons,List.sum_nil];omega
theorem aEH (h:cW H0 H O a F p ev wv nv t s): ∀i,i<=p.nodes.toNat->((List.range i).map λv=>sZ (cT p v) (s.n v)).sum<=120000:=λi hi=>by
 obtain⟨N,hN,hNe⟩:=h.pA;have h6:=hN.h6;have:=Dg (B:=20000) (f:=λv=>sZ (cT p v) (s.n v)) i λv hv=>(Jk (h.node v U)).2.2 _ (aUi _)
 omega
theorem aTG (h:cW H0 Hs O a F p ev wv nv t s){A:Value}(hA:Rw Acc.mH 46 5 Hs A (gB p s))(hm:1000<m)(hlen:(gB p s).length<=108):
  ∀(q i l:Nat)(H:aF),(gB p s).length-i=q->i<=(gB p s).length->q<l->Ext Hs H-> ∀(x0 x2 x9 iS:Value),
  ∃H2,aL l (aO prog (lvl prog pkN m) (aL m) Tr) (Tt (lvl prog pkN m) (aL m)) (x0::aG 1 (x2::some (.I ((vS p s:Int)+qJ p s i))::aG 5 (x9::iS::aG 9 (A::some (.I ((gB p s).length:Nat))::some (.I (i:Nat))::aG 9 [])))) H=some (.I (Dh p s),H2)/\Ext Hs H2:=by
 have hb:=aTK h;have hfb:=aEG h;have hi1:=aEH h p.nodes.toNat (aUi _);have hi2:vS p s<=120000:=hi1;intro q;induction q with
 |zero=>
  intro i l H hq hi hl he;intros;obtain⟨l,rfl⟩:=aB l U
  obtain rfl:i=(gB p s).length:=U
  have e:decide (((gB p s).length:Int)<((gB p s).length:Nat))=false:=by simp
  refine⟨H,?_,he⟩;rw[bS,aEs];simp only[gsR,e];rw[aSZ]
  first|done|rfl
 |succ q ih=>
  intro i l H hq hi hl he;intros;obtain⟨l,rfl⟩:=aB l U
  have e:decide ((i:Int)<((gB p s).length:Nat))=true:=aUX U
  have e3:=aA (i:=i) U
  obtain⟨x,hx⟩: ∃x,(gB p s)[i]? =some x:=⟨_,aUf U⟩
  obtain⟨b,o,g1,_,g3⟩:=(m9 hA he).rs.dM Uj hx .i64;have g4:ldN 5 (.pointer (some ⟨b,o,none⟩)) H=some (acV x,H):=(g3 H rfl).1;have ez: ∀G:aF,G++[Blk.cells [Value.int .i64 0,.int .i64 0,.int .i64 0,.int .i64 0,.int .i64 0] 46 .fix]=G++[acB ac0]:=λ_=>rfl
  have st:stN 5 (.Q H.length 0) (acV x) (H++[acB ac0])=some (undef,H++[acB x]):=by rw[Ap ac0 _ (cG H _),gZ]
  obtain⟨H2,hH2⟩:=aD (H++[acB x]);rw[<-hH2] at st;have x2:Ext H H2:=by rw[hH2];exact Fr.app _ _ _
  have b2:H2[H.length]? =some (acB x):=by rw[hH2];exact cV _ _
  have ld:ld1 (.Q H.length 2) H2=some (.I x.flying,H2):=bA b2 rfl;have hf:=hfb x (aUn hx);have hs:qJ p s (i+1)=qJ p s i+x.flying:=by
   unfold qJ;rw[List.take_add_one,hx,List.map_append,List.sum_append];simp
  have h1:=hb i;have ea:IntKind.i64.wrap ((vS p s:Int)+qJ p s i+x.flying)=(vS p s:Int)+qJ p s (i+1):=by rw[bJ U U];omega
  rw[bS,aEs];simp only[gsR,e,g1,g4,ez,st,ld,aV,ea,e3];exact ih (i+1) l H2 U U U (he.tr x2) ..
theorem aTH (h:cW H0 Hs O a F p ev wv nv t s)(ht:t<1000000)(hm:60000<m)(hm2:m<=72057594037927936):
  ∀(q v l:Nat)(H:aF),p.nodes.toNat-v=q->v<=p.nodes.toNat->q<l->Ext Hs H-> ∀(x2 gI gS gG:Value),
  ∃H2,aL l (aO prog (lvl prog pkN m) (aL m) Tq) (Ts (lvl prog pkN m) (aL m)) (some (pt a.fb)::aG 1 (x2::some (.I (((List.range v).map λv=>sZ (cT p v) (s.n v)).sum:Nat))::aG 5 (some (.I (p.nodes.toNat:Nat))::some (.I (v:Nat))::aG 9 (gI::gS::gG::aG 9 [])))) H=some (.I (Dh p s),H2)/\Ext Hs H2:=by
 have h3:=Aq h.ok;have h36:=oC p;obtain⟨N,hN,hNe⟩:=h.pA;have h6:=hN.h6;intro q;induction q with
 |zero=>
  intro v l H hq hv hl he;intros;obtain⟨l,rfl⟩:=aB l U
  obtain rfl:v=p.nodes.toNat:=U
  have e:decide ((p.nodes.toNat:Int)<(p.nodes.toNat:Nat))=false:=by simp
  have hh:=h.dX he;obtain⟨H1,A,g1,x1,r1,_⟩:=Ul hh ht (m:=m) U hm2
  have hlen:=r1.rs.eC;have hal:(gB p s).length=(aU p).length*p.lanes.toNat:=Ah λi _=>by rw[aUr,aUH]
  have hmul:(aU p).length*p.lanes.toNat<=36*3:=Nat.mul_le_mul h36 U
  have z0:(vS p s:Int)=(vS p s:Int)+qJ p s 0:=by
   unfold qJ;simp
  rw[bS,aEr];simp only[gsR,e];rw[aSY];simp only[gsR,g1,hlen];have hz:(((List.range p.nodes.toNat).map λv=>sZ (cT p v) (s.n v)).sum:Nat)=vS p s:=rfl
  rw[hz,z0];obtain⟨H2,g2,x2⟩:=(aTG (hh.dX x1) r1 (m:=m) U U (gB p s).length 0 m H1 U U U (Fr.dS _ _) ..)
  exact⟨H2,g2,(he.tr x1).tr x2⟩
 |succ q ih=>
  intro v l H hq hv hl he;intros;obtain⟨l,rfl⟩:=aB l U
  have e:decide ((v:Int)<(p.nodes.toNat:Nat))=true:=aUX U
  have e3:=aA (i:=v) U
  obtain⟨H1,g1,x1⟩:=aTP (h.dX he) (m:=m) U hm2 (v:=v) U
  have hs:=Am (λv=>sZ (cT p v) (s.n v)) v
  have hb:=aEH h (v+1) U
  have ea:IntKind.i64.wrap ((((List.range v).map λv=>sZ (cT p v) (s.n v)).sum:Nat)+(sZ (cT p v) (s.n v):Nat):Int)=(((List.range (v+1)).map λv=>sZ (cT p v) (s.n v)).sum:Nat):=by rw[bJ U U];omega
  rw[bS,aEr];simp only[gsR,e,g1,aV,ea,e3];exact ih (v+1) l H1 U U U (he.tr x1) ..
theorem aTI (h:cW H0 H O a F p ev wv nv t s)(ht:t<1000000)(hm:70000<m)(hm2:m<=72057594037927936): ∃H',lvl prog pkN m (.func 17) [pt a.fb] H=some (.I (Dh p s),H')/\Ext H H':=by
 obtain⟨N,hN,hNe⟩:=h.pA;have hn:=hN.hn;have h6:=hN.h6;obtain⟨H1,e1,w1,n1,g1,c1⟩:=Al h (m:=m-1) U
 have p1:pF 0 (plV p e1 w1 n1)=some (.I (p.nodes.toNat:Nat)):=by
  have:pF 0 (plV p e1 w1 n1)=some (.I p.nodes):=rfl;rw[this,show((p.nodes.toNat:Nat):Int)=p.nodes from U]
 refine iD (aQ rfl) U ?_
 rw[aS0];simp only[gsR,g1,p1];exact aTH h ht (m:=m-1) U U p.nodes.toNat 0 (m-1) H1 U U U c1.ext ..
end
section
variable {H0 H H' : aF} {O O' : FP → Nat → Prop} {a : FL} {F F' : Nat → Part → Nat → Prop} {p : PlanD} {ev wv nv e' w' n' : Value} {t t' : Nat} {s s' : FS} {m pb : Nat} {sv : Value} {sent : List Pkt}
theorem Jl (hok:dT p=true){v w:Nat}(h:w∈(cT p v).by'):((v:Int),(w:Int))∈aU p/\v∈(cT p w).by'/\qI p v w=pt' (cT p v) w:=by
 obtain⟨N,hN⟩:=nG hok;have h1:=aD2 hok h;obtain⟨_,_,_,h2⟩:=Uk hN h1;refine⟨h1,?_,?_⟩
 ·rw[(qU hN).2,u7 hN.ve hN.h6] at h2
  exact aUQ.mpr ⟨(v:Int),h2,rfl⟩
 ·obtain⟨j,j1,j2,j3⟩:=Je h
  rw[j2];unfold fnd at j1;rw[List.findIdx?_eq_some_iff_getElem] at j1;have e1:=j1.2.1;simp only[decide_eq_true_eq] at e1;have hlt:j<(bes p.edges (v:Int)).length:=by
   have:(cT p v).by'=(bes p.edges (v:Int)).map Int.toNat:=rfl;rw[this,aUr] at j3;exact j3
  have hx:(bes p.edges (v:Int))[j]? =some (bes p.edges (v:Int))[j]:=aUf hlt;have e0:(cT p v).by'[j]? =some ((bes p.edges (v:Int))[j]).toNat:=by
   show((bes p.edges (v:Int)).map Int.toNat)[j]? =_
   rw[aUq,hx];rfl
  have e2:(cT p v).by'[j]=((bes p.edges (v:Int))[j]).toNat:=by
   have:=aUf j3;rw[e0] at this
   exact(aUP this).symm
  have hpos:=(wV hN.ve (List.getElem_mem hlt)).1;have e3:(bes p.edges (v:Int))[j]=(w:Int):=U
  rw[e3] at hx;have:=Z4 hx;unfold qI;rw[this];omega
theorem Uo (h:cW H0 H O a F p e' w' n' t s):TopC (bH p) p.start.toNat p.room.toNat where
 ok v hv:=(h.node v hv).ok
 room _ _:=rfl
 start _ _:=rfl
 me _:=rfl
 hop k e he:=by
  obtain⟨v,w,hvw,hv,hw⟩:=S4 h.ok he;obtain⟨N,hN⟩:=nG h.ok;have hm:=aUn he;rw[hvw,show(bH p).hs=(List.range N).flatMap (mT p.edges) from(qU hN).2,u7 hN.ve hN.h6] at hm
  have hb:w∈(cT p v).by':=aUQ.mpr ⟨(w:Int),hm,rfl⟩
  exact⟨v,w,hvw,hv,hw,hb,(Jl h.ok hb).2.1⟩
 mem v w hv hw:=(Jl h.ok hw).1
theorem Um (hok:dT p=true):1<=p.room/\p.room<=8:=by
 unfold dT oW wi at hok;simp only[aUl,decide_eq_true_eq] at hok;omega
theorem aTW {B:Nat}(h:cW H0 H O a F p e' w' n' t s)(hst:p.start.toNat<65536)(hB:B<20000)(hI:TopI (bH p) p.start.toNat p.room.toNat B s): ∀x∈gB p s,AccOk p.room x:=by
 have hr:=Um h.ok;have hC:=Uo h;intro x hx;unfold gB at hx;obtain⟨k,hk,hx⟩:=List.mem_flatMap.mp hx;obtain⟨l,_,rfl⟩:=aUQ.mp hx;have hk:=aUR.mp hk;have he:(aU p)[k]? =some ((aU p)[k]'hk):=aUf _;obtain⟨v,w,e,hv,hw,hvw,hwv⟩:=hC.hop k _ he;have hg:(aU p).getD k (0,0)=((v:Int),(w:Int)):=by rw[aUh,he];exact e
 have hp:=hI.pair v w hv hvw l;have hnum:=hI.num v (pt' (cT p v) w) l hv;unfold gR;rw[hg];simp only[aUF];rw[(Jl h.ok hvw).2.2,(Jl h.ok hwv).2.2];have:=hp.acc U (by show((s.n v).snd (pt' (cT p v) w) l).s<100000;omega) l (s.l k)
 rw[show((p.room.toNat:Nat):Int)=p.room by omega] at this
 exact this
theorem aTV (p:PlanD)(o:OpT)(q:FS×List Pkt):(jC p o q).1.k<=q.1.k+1/\(jC p o q).2.length<=q.2.length+1:=by
 unfold jC;split
 ·refine⟨?_,?_⟩
  ·unfold nA
   split<;>exact Nat.le_succ _
  ·simp only
   split
   ·rw[aUp];exact aUi _
   ·exact Nat.le_succ _
 ·split
  ·refine⟨?_,Nat.le_succ _⟩
   simp only;split
   ·rw[aD7];exact Nat.le_succ _
   ·exact Nat.le_succ _
  ·split
   ·exact⟨Nat.le_succ _,Nat.le_succ _⟩
   ·split
    ·exact⟨Nat.le_succ _,Nat.le_succ _⟩
    ·split
     ·exact⟨Nat.le_succ _,Nat.le_succ _⟩
     ·split
      ·exact⟨aUi _,Nat.le_succ _⟩
      ·exact⟨by rw[aSD];exact aUi _,Nat.le_succ _⟩
theorem aTS (b:Nat):bld prog 44 [(0,plV p ev wv nv),(1,pt b)]=some (.agg ⟨plC p ev wv nv++[pt b,.N,.I 0]⟩):=by kernel_rfl
theorem aTR {cv:Value}{c:List Nat}(hc:Us H cv c)(hu8: ∀x∈c,x<256)(hl:c.length<=72057594037927936)(room more start:Nat)(h2:room<256)(h3:more<256)(h4:start<65536)(hm:17592186045700<m)(hm2:m<=72057594037927936):
  ∃H1 H0 O a F ev wv nv e' w' n' pb,lvl prog pkN m (.func 10) [cv,.int .u8 room,.int .u8 more,.int .u16 start] H=some (pt pb,H1)/\PlayI H0 H1 O a F (oJ c room more start) ev wv nv e' w' n' 0 (FS.qE (bH (oJ c room more start))) pb (.N) []/\(nB ev/\nB wv/\nB nv)/\Ext H H0:=by
 obtain⟨H1,ev,wv,nv,g1,x1,hp⟩:=aDs hc hu8 hl room more start h2 h3 h4 (m:=m-1) U U
 have hok:=R4 c room more start;have hst0:(oJ c room more start).start=start:=rfl;obtain⟨q,hq⟩:=aD (oJ c room more start);rw[<-hq] at g1 hp hok hst0⊢;have cp:=Gb hp H1;obtain⟨H2,hH2⟩:=aD (H1++[plB q ev wv nv]);rw[<-hH2] at cp;have x2:Ext H1 H2:=by rw[hH2];exact Fr.app _ _ _
 have b2:H2[H1.length]? =some (plB q ev wv nv):=by rw[hH2];exact cV _ _
 have l2:=fE b2;obtain⟨H3,u,g3,H0,O,a,F,e',w',n',rfl,xb,k3,_⟩:=aD6 (hp.ext x2) hok (by rw[hst0];omega) (m:=m-1) U U
 have E0:ext 0 (.tuple #[pt a.fb,.int .u16 0])=some (pt a.fb):=rfl;have E1:ext 1 (.tuple #[pt a.fb,.int .u16 0])=some (.int .u16 0):=rfl;have z0:((0:Int)!=0)=false:=rfl;have n2:=λa=>(sW 41 a (by kernel_rfl)).1
 have l3:=fE (cP (cP b2 xb) k3.own.ext);obtain⟨H4,hH4⟩:=aD (H3++[yA q ev wv nv a (.N)]);have x4:Ext H3 H4:=by rw[hH4];exact Fr.app _ _ _
 have eB:H3++[Blk.cells (Value.cells (.agg ⟨plC q ev wv nv++[pt a.fb,.slice none 0 0,.int .i64 0]⟩)).toList 44 .fix]=H4:=by rw[hH4];rfl
 have hI:PlayI H0 H4 O a F q ev wv nv e' w' n' 0 (FS.qE (bH q)) H3.length (.N) []:=
  ⟨k3.dX x4,by rw[hH4];exact cV _ _,⟨λi hi=>by have:=k3.own.lt i _ hi;omega,k3.own.ext.1⟩,⟨rfl,.inl ⟨rfl,rfl⟩⟩,λb ⟨_,_,_,hh⟩=>by cases hh⟩
 refine⟨H4,H0,O,a,F,ev,wv,nv,e',w',n',H3.length,aS (aQ rfl) U ?_,hI,aTn hp,(x1.tr x2).tr xb⟩
 rw[aSU];simp only[gsR,g1,wW,cp,l2,g3,E0,E1,z0,n2,l3,aTS,eB]
theorem aTT:Dh kq kR=0/\(gB kq kR).length=2:=by decide+kernel
theorem aTU (m:Nat)(hm:17592186045700<m)(hm2:m<=72057594037927936): ∃H',lvl prog pkN m (.func 9) [] H=some (.bool true,H')/\Ext H H':=by
 obtain⟨H1,hH1⟩:=aD (H++[Blk.cells [Value.int .u8 0] 5 .row]);have x1:Ext H H1:=by rw[hH1];exact Fr.app _ _ _
 have e1:b9 5 1 1 [.int .u8 0] [(0,.int .u8 0)] H=some (.slice (some ⟨H.length,0,none⟩) 1 1,H1):=by rw[hH1];rfl
 have hu:Us H1 (.slice (some ⟨H.length,0,none⟩) 1 1) [0]:= .inr ⟨H.length,0,1,rfl,aUi _,λ_=>⟨5,.row,[],[],rfl,λ_=>rfl,by rw[hH1,cG];rfl⟩⟩
 obtain⟨H2,ev,wv,nv,g2,x2,hp⟩:=aDs hu (by simp) (by simp) 1 0 0 U U U (m:=m-1) U U
 simp only[show((1:Nat):Int)=1 from rfl,show((0:Nat):Int)=0 from rfl] at g2
 have hok:=R4 [0] 1 0 0;have hst0:(oJ [0] 1 0 0).start=0:=rfl;obtain⟨q,hq⟩:=aD kq;have hq':oJ [0] 1 0 0=q:=hq.symm;rw[hq'] at g2 hp hok hst0;obtain⟨r1,r2,r3,r4,r5,r6,r7⟩:=aSA;obtain⟨H3,u,g3,Hb,O,a,F,e',w',n',rfl,xb,h3,_⟩:=aD6 hp hok (by rw[hst0];omega) (m:=m-1) U U
 have hqn:q.nodes=2:=by rw[hq];exact r7
 have hqh:(aU q).length=2:=by rw[hq];exact r6
 have E0:ext 0 (.tuple #[pt a.fb,.int .u16 0])=some (pt a.fb):=rfl;have E1:ext 1 (.tuple #[pt a.fb,.int .u16 0])=some (.int .u16 0):=rfl;have z0:((0:Int)!=0)=false:=rfl;have n1:=λa=>(sW 72 a (by kernel_rfl)).1
 have n2:=λa=>(sW 41 a (by kernel_rfl)).1
 have n3:=λa=>(sW 51 a (by kernel_rfl)).1
 have n4:=λa=>(sW 74 a (by kernel_rfl)).1
 have k0:=xY h3 (m:=m-1) U 0
 have k1:=xY h3 (m:=m-1) U 1
 have k2:=vR h3 (m:=m-1) U 0
 have v0:mG q a 0=pt (a.y 0).nb:=by unfold mG;rw[if_pos U];rfl
 have v1:mG q a 1=pt (a.y 1).nb:=by unfold mG;rw[if_pos U];rfl
 have v2:mF q a 0=pt (a.lb 0):=by unfold mF;rw[if_pos U];rfl
 rw[v0] at k0;rw[v1] at k1;rw[v2] at k2;have k3:=Re (h3.node 1 U) (m:=m-1) U
 have bp:bld prog 31 [(0,.I 0),(1,.I 1),(3,.int .u32 7)]=some kx.cE:=rfl;obtain⟨H4,O4,F4,g4,h4,_⟩:=aSk h3 (m:=m-1) U kx aC
 have hI:nA q kx (FS.qE (bH q))=kI:=by rw[hq];rfl
 rw[hI] at g4 h4;obtain⟨H5,O5,F5,g5,h5⟩:=aD3 h4 U U (m:=m-1) U
 have hk5:(kP (bH q) kI.2).k=1:=by rw[hq];exact r5
 obtain⟨H6,O6,F6,g6,h6⟩:=aD3 h5 U U (m:=m-1) U
 have hR:kP (bH q) (kP (bH q) kI.2)=kR:=by rw[hq];rfl
 rw[hR] at h6;obtain⟨H7,gv,g7,x7,q7,_⟩:=aSj h6 U (m:=m-1) U 1
 have hG:I9 q 1 kR=[kx]:=by rw[hq];exact r2
 rw[hG] at q7;have h7:=h6.dX x7;have len7:cX gv=some (.I 1):=q7.rs.eC;obtain⟨t1,t2⟩:=aTT;obtain⟨H8,g8,x8⟩:=aTI h7 U (m:=m-1) U U
 rw[show Dh q kR=0 by rw[hq];exact t1] at g8
 have h8:=h7.dX x8;obtain⟨H9,uA,g9,x9,r9,_⟩:=Ul h8 U (m:=m-1) U U
 have hal:(gB q kR).length=2:=by rw[hq];exact t2
 have len9:=r9.rs.eC;rw[hal] at len9;have z1:((1:Int)==1)=true:=rfl;have z2:((0:Int)==0)=true:=rfl;have z22:(((2:Nat):Int)==2)=true:=rfl;have xx:Ext H H9:=(x1.tr x2).tr (xb.tr (h8.dX x9).own.ext);refine iD (aQ rfl) U ⟨H9,?_,xx⟩
 rw[aTd];simp only[gsR,e1,g2,g3,E0,E1,z0,n2,k0,n1,k2,n3,k1,k3,n4,bp,g4,g5,g6,g7,len7,z1,g8,z2,g9,len9,z22]
end
section
variable {H0 H Hs H' : aF} {O O' : FP → Nat → Prop} {a : FL} {F F' : Nat → Part → Nat → Prop} {p : PlanD} {ev wv nv e' w' n' : Value} {t t' : Nat} {s s' : FS} {m pb : Nat} {sv : Value} {sent : List Pkt}
theorem aTX (G:aF):G++[Blk.cells [Value.int .i64 0,.int .i64 0,.int .i64 0,.int .i64 0,.int .i64 0] 46 .fix]=G++[acB ac0]:=rfl
theorem aTZ (o:OpT):o.lU.length=10:=rfl
theorem aTY (c:List Nat)(room more start:Nat):0<(aU (oJ c room more start)).length:=by
 have hok:=ck0 (R4 c room more start);obtain⟨N,hN⟩:=nG hok;obtain⟨hr,hl⟩:=R3 c;have hx:(ofT c)[0]? =some (ofT c)[0]:=aUf U
 have hx0:=N6 hr hx;have hm:((0:Int),(1:Int))∈aU (oJ c room more start):=by
  rw[(qU hN).2,u7 hN.ve hN.h6,Ga];refine⟨by decide,.inl ?_⟩
  show((0:Int),(1:Int))∈vD (ofT c)
  unfold vD;refine aUQ.mpr ⟨0,aUR.mpr U,?_⟩
  rw[aUh,hx,aUG];exact Prod.ext (by simp only;omega) rfl
 exact List.length_pos_of_mem hm
theorem aT0 (hok:dT p=true)(h:PlayI H0 Hs O a F p ev wv nv e' w' n' t s pb sv sent){A:Value}{accs:List Acc}(hA:Rw Acc.mH 46 5 Hs A accs)(hacc: ∀x∈accs,AccOk p.room x)(hlen:accs.length<=200){x4 eA:Value}{K:Ex->K (Value×aF)}{Q:aF->Value->Prop}
  (hK: ∀H':aF,Ext Hs H'-> ∀(gC iT:Value),∃H2 u2,T0 (lvl prog pkN m) (aL m) K x4 (.bool false) (pt pb) eA gC iT H'=some (u2,H2)/\Q H2 u2):
  ∀(q i l:Nat)(H:aF),accs.length-i=q->i<=accs.length->q<l->Ext Hs H->
  ∃H2 u2,aL l (aO prog (lvl prog pkN m) (aL m) Tz) (T1 (lvl prog pkN m) (aL m) K) (aG 4 (x4::aG 5 (some (.bool false)::some (pt pb)::eA::A::some (.I (i:Nat))::aG 103 []))) H=some (u2,H2)/\Q H2 u2:=by
 have hr:=Um hok;intro q;induction q with
 |zero=>
  intro i l H hq hi hl he;obtain⟨l,rfl⟩:=aB l U
  obtain rfl:i=accs.length:=U
  have e:decide ((accs.length:Int)<(accs.length:Nat))=false:=by simp
  have hlA:=hA.rs.eC;rw[bS,aEx];simp only[gsR,hlA,e];rw[aS5];exact hK H he ..
 |succ q ih=>
  intro i l H hq hi hl he;obtain⟨l,rfl⟩:=aB l U
  have e:decide ((i:Int)<(accs.length:Nat))=true:=aUX U
  have e3:=aA (i:=i) U
  have hlA:=hA.rs.eC;obtain⟨x,hx⟩: ∃x,accs[i]? =some x:=⟨_,aUf U⟩
  have ax:=hacc x (aUn hx);have a1:=ax.held;have a2:=ax.usable;have a3:=ax.late;have a4:=ax.flying;have a5:=ax.lost;have a6:=ax.sum;obtain⟨b,o,g1,_,g3⟩:=(m9 hA he).rs.dM Uj hx .i64;have g4:ldN 5 (.Q b o) H=some (acV x,H):=(g3 H rfl).1;have st:stN 5 (.Q H.length 0) (acV x) (H++[acB ac0])=some (undef,H++[acB x]):=by rw[Ap ac0 x (cG H _),gZ]
  obtain⟨H1,hH1⟩:=aD (H++[acB x]);rw[<-hH1] at st;have x1:Ext H H1:=by rw[hH1];exact Fr.app _ _ _
  have b1:H1[H.length]? =some (acB x):=by rw[hH1];exact cV _ _
  have c0:ld1 (.Q H.length 0) H1=some (.I x.usable,H1):=bA b1 rfl;have c1:ld1 (.Q H.length 1) H1=some (.I x.late,H1):=bA b1 rfl;have c2:ld1 (.Q H.length 2) H1=some (.I x.flying,H1):=bA b1 rfl;have c3:ld1 (.Q H.length 3) H1=some (.I x.held,H1):=bA b1 rfl;have c4:ld1 (.Q H.length 4) H1=some (.I x.lost,H1):=bA b1 rfl;have lr:=((h.rF he).rF x1).ld 3 (.I p.room) rfl;have d1:decide (x.held<0)=false:=aUY U
  have d2:decide (p.room<x.held)=false:=aUY U
  have d3:decide (x.usable<0)=false:=aUY U
  have d4:decide (x.late<0)=false:=aUY U
  have d5:decide (x.flying<0)=false:=aUY U
  have d6:decide (x.lost<0)=false:=aUY U
  have w1:IntKind.i64.wrap (x.usable+x.late)=x.usable+x.late:=bJ U U
  have w2:IntKind.i64.wrap (x.usable+x.late+x.flying)=x.usable+x.late+x.flying:=bJ U U
  have w3:IntKind.i64.wrap (x.usable+x.late+x.flying+x.held)=x.usable+x.late+x.flying+x.held:=bJ U U
  have w4:IntKind.i64.wrap (x.usable+x.late+x.flying+x.held+x.lost)=p.room:=by rw[bJ U U];exact a6
  have d7:(p.room !=p.room)=false:=by simp
  rw[bS,aEx];simp only[gsR,hlA,e,g1,g4,aTX,st,c0,c1,c2,c3,c4,lr,d1,d2,d3,d4,d5,d6,aV,w1,w2,w3,w4,d7,e3];exact ih (i+1) l H1 U U U (he.tr x1)
theorem aT1 {st R:Nat}(hst0:p.start.toNat<65536){xv:Value}{xs:List OpT}(hx0:Rs OpT.lU 33 H0 xv xs)(hxo: ∀x∈xs,x.ok)(hxl:xs.length<=100)(hsl:nB ev/\nB wv/\nB nv)(hm:17592186045700<m)(hm2:m<=72057594037927936)(hn:0<p.nodes)(hl:0<p.lanes)(hh:0<(aU p).length):
  ∀(q i l:Nat)(H:aF)(O:FP->Nat->Prop)(F:Nat->Part->Nat->Prop)(s:FS)(sv:Value)(sent:List Pkt),xs.length-i=q->i<=xs.length->q<l->PlayI H0 H O a F p ev wv nv e' w' n' (2400*i) s pb sv sent->TopI (bH p) p.start.toNat p.room.toNat (6*i) s->s.k<=i->sent.length<=i-> ∀(gC iT:Value),
  ∃H2,aL l (aO prog (lvl prog pkN m) (aL m) Ji) (Jj (lvl prog pkN m) (aL m)) (aG 4 (xv::aG 5 (some (.bool false)::some (pt pb)::some (.I (i:Nat))::gC::iT::aG 103 []))) H=some (.bool true,H2):=by
 have hlx:=hx0.eC;intro q;induction q with
 |zero=>
  intro i l H O F s sv sent hq hi hl' h hI hk hs;intros;obtain⟨l,rfl⟩:=aB l U
  obtain rfl:i=xs.length:=U
  have e:decide ((xs.length:Int)<(xs.length:Nat))=false:=by simp
  refine⟨H,?_⟩;rw[bS,aEw];simp only[gsR,hlx,e];rw[aS4];simp only[gsR]
 |succ q ih=>
  intro i l H O F s sv sent hq hi hl' h hI hk hs gC iT;obtain⟨l,rfl⟩:=aB l U
  have e:decide ((i:Int)<(xs.length:Nat))=true:=aUX U
  have e3:=aA (i:=i) U
  obtain⟨x,hx⟩: ∃x,xs[i]? =some x:=⟨_,aUf U⟩
  obtain⟨b,o,g1,_,g3⟩:=(hx0.ext h.fab.own.ext).dM aTZ hx .i64;have g4:ldN 10 (.Q b o) H=some (x.qH,H):=(g3 H rfl).1;have hC:=Uo h.fab;have hr:=Um h.fab.ok;obtain⟨H1,O1,F1,sv1,g5,h1⟩:=aTx hC hst0 U U h hI hsl U U U hn hl hh x (hxo x (aUn hx)) (m:=m) U
  have hqh:0<=(yD p x).h/\(yD p x).h<((aU p).length:Nat):=by
   show 0<=max x.h 0%((aU p).length:Int)/\max x.h 0%((aU p).length:Int)<_
   exact⟨Int.emod_nonneg _ U,Int.emod_lt_of_pos _ U⟩
  have I1:=TopI.aTv (sent:=sent) hC hst0 U U hI (λv hv=>⟨_,(h.fab.node v hv).inv⟩) hqh
  obtain⟨k1,k2⟩:=aTV p (yD p x) (s,sent);simp only at k1 k2;obtain⟨S1,hS1⟩:=aD (jC p (yD p x) (s,sent));rw[<-hS1] at h1 I1 k1 k2;have lf:=h1.ld 11 (pt a.fb) rfl;obtain⟨H2,A,g6,x2,r2,_⟩:=Ul h1.fab U (m:=m) U hm2
  have h2:=h1.rF x2;have h36:=oC p;have h3:=Aq h.fab.ok;have hal:(gB p S1.1).length=(aU p).length*p.lanes.toNat:=Ah λi _=>by rw[aUr,aUH]
  have hmul:(aU p).length*p.lanes.toNat<=36*3:=Nat.mul_le_mul h36 U
  have hacc:=aTW h1.fab hst0 U I1
  have main: ∃H3 u3,aL (l+1) (aO prog (lvl prog pkN m) (aL m) Ji) (Jj (lvl prog pkN m) (aL m)) (aG 4 (xv::aG 5 (some (.bool false)::some (pt pb)::some (.I (i:Nat))::gC::iT::aG 103 []))) H=some (u3,H3)/\u3= .bool true:=by
   rw[bS,aEw];simp only[gsR,hlx,e,g1,g4,g5,lf,g6];refine aT0 (m:=m) (Q:=λ_ u=>u= .bool true) h.fab.ok h2 r2 hacc U ?_ (gB p S1.1).length 0 m H2 U U U (Fr.dS _ _)
   intro H3 x3;intros;have h3':=h2.rF x3;have lo:=h3'.ld 13 (.I 0) rfl;have d0:decide ((0:Int)<0)=false:=rfl;unfold T0;simp only[gsR,lo,d0,aV,e3];obtain⟨H4,g7⟩:=ih (i+1) l H3 O1 F1 S1.1 sv1 S1.2 U U U (h3'.uC U) {I1 with num:=λv i' k' hv=>aUt (I1.num v i' k' hv) U} U U ..
   exact⟨H4,_,g7,rfl⟩
  obtain⟨H3,u3,m1,rfl⟩:=main
  exact⟨H3,m1⟩
theorem aT2 {cv:Value}{c:List Nat}(hc:Us H cv c)(hu8: ∀x∈c,x<256)(hl:c.length<=72057594037927936)(room more start:Nat)(h2:room<256)(h3:more<256)(h4:start<65536){xv:Value}{xs:List OpT}(hx0:Rs OpT.lU 33 H xv xs)(hxo: ∀x∈xs,x.ok):
  ∃H',lvl prog aY 18014398509481984 (.func 3) [cv,.int .u8 room,.int .u8 more,.int .u16 start,xv] H=some (.bool true,H')/\True:=by
 have hlx:=hx0.eC;obtain⟨Hk,gk,xk⟩:=aTU (H:=H) (18014398509481984-1) U U
 refine iD (aQ rfl) U ?_
 rw[aS6];by_cases h100:100<xs.length
 ·have d1:decide ((100:Int)<(xs.length:Nat))=true:=aUX U
  simp only[gsR,hlx,d1,gk]
  exact⟨_,rfl,trivial⟩
 ·have d1:decide ((100:Int)<(xs.length:Nat))=false:=aUY U
  obtain⟨H1,H0,O,a,F,ev,wv,nv,e',w',n',pb,g1,h1,hsl,x0⟩:=aTR (hc.ext xk) hu8 hl room more start h2 h3 h4 (m:=18014398509481984-1) U U
  obtain⟨q,hq⟩:=aD (oJ c room more start);rw[<-hq] at h1;have hst0:q.start=start:=by rw[hq];rfl
  have hC:=Uo h1.fab;have n2:=λa=>(sW 26 a (by kernel_rfl)).1
  have hok:=h1.fab.ok;obtain⟨N,hN⟩:=nG hok;have hn:=hN.hn;have h2':=hN.h2;have h3':=Aq hok;have hh:0<(aU q).length:=by rw[hq];exact aTY c room more start
  simp only[gsR,hlx,d1,gk,g1,n2];obtain⟨H4,g4⟩:=aT1 (m:=18014398509481984-1) (st:=0) (R:=0) (a:=a) (by rw[hst0];omega) ((hx0.ext xk).ext x0) hxo U hsl U U U U hh xs.length 0 (18014398509481984-1) H1 O F (FS.qE (bH q)) (.N) [] U U U h1 (TopI.aSO hC 0) (aUi _) (aUi _) ..
  exact⟨H4,g4,trivial⟩
end
theorem aEI {i:Int}(h:(Lit.int .u8 i).wf=true):0<=i/\i<256:=by
 simp[Lit.wf,IntKind.min,IntKind.max,IntKind.signed,IntKind.bits] at h;omega
theorem aT4 {G:aF}{n:Nat}{cs:List Value}(h:Rp prog G n 33 cs): ∃o:OpT,cs=o.lU/\o.ok:=by
 have hf:Ei prog 33=some [(5,0),(31,1),(4,5),(3,6),(3,7),(3,8),(5,9)]:=by kernel_rfl
 have c0:prog.cellsOf 33=10:=by kernel_rfl
 have c1:prog.cellsOf 31=4:=by kernel_rfl
 have c2:prog.cellsOf 5=1:=by kernel_rfl
 have c3:prog.cellsOf 4=1:=by kernel_rfl
 obtain⟨m,hl,hh⟩:=h.Wx hf;rw[c0] at hl
 match cs,hl with
 |[x0,x1,x2,x3,x4,x5,x6,x7,x8,x9],_=>
  have f0:=hh (5,0) (by simp)
  have f1:=hh (31,1) (by simp)
  have f5:=hh (4,5) (by simp)
  have f6:=hh (3,6) (by simp)
  have f7:=hh (3,7) (by simp)
  have f8:=hh (3,8) (by simp)
  have f9:=hh (5,9) (by simp)
  simp only[szI,c1,c2,c3,List.drop_zero,List.drop_succ_cons,List.take_succ_cons,List.take_zero] at f0 f1 f5 f6 f7 f8 f9;obtain⟨a0,h0,w0⟩:=f0.rZ (k:= .u8) (by kernel_rfl)
  obtain⟨x,hx,hxo⟩:=aRp f1;obtain⟨b5,h5⟩:=f5.aHa (by kernel_rfl)
  obtain⟨a6,h6,_⟩:=f6.rZ (k:= .i64) (by kernel_rfl)
  obtain⟨a7,h7,_⟩:=f7.rZ (k:= .i64) (by kernel_rfl)
  obtain⟨a8,h8,_⟩:=f8.rZ (k:= .i64) (by kernel_rfl)
  obtain⟨a9,h9,w9⟩:=f9.rZ (k:= .u8) (by kernel_rfl)
  have e0:=aEI w0;have e9:=aEI w9;injection hx with hx;injection hx with hx;have hx':[x1,x2,x3,x4]=[.I x.src,.I x.dst,.I x.lane,.int .u32 x.body]:=hx;cases h0;cases h5;cases h6;cases h7;cases h8;cases h9;cases hx'
  obtain⟨k,rfl⟩: ∃k:Nat,a0=k:=⟨a0.toNat,by omega⟩
  refine⟨⟨k,x,b5,a6,a7,a8,UInt8.ofNat a9.toNat⟩,?_,⟨by simp only;omega,hxo.body⟩⟩
  have e:((UInt8.ofNat a9.toNat).toNat:Int)=a9:=by
   rw[UInt8.toNat_ofNat',aUL U]
   omega
  unfold OpT.lU;simp only;rw[e]
theorem Os.aT3 {G:aF}{n:Nat}{u:Value}(h:Rp prog G n 24 [u]): ∃xs,Rs OpT.lU 33 G u xs/\ ∀x∈xs,x.ok:=by
 obtain⟨m,u',b,rows,h1,h2,h3,h4,h5⟩:=h.Wy (e:=33) (by kernel_rfl)
 cases h1;have hc:prog.cellsOf 33=10:=by kernel_rfl
 rw[hc] at h2;have hr: ∀rows:List (List Value),(∀r∈rows,r.length=prog.cellsOf 33/\Rp prog G m 33 r)-> ∃xs:List OpT,xs.map OpT.lU=rows/\ ∀x∈xs,x.ok:=by
  intro rows;induction rows with
  |nil=>intro _;exact⟨[],rfl,by simp⟩
  |cons r rs ih=>
   intro hr;obtain⟨xs,e,ho⟩:=ih λr' h'=>hr r' (aUu _ h')
   obtain⟨x,ex,ox⟩:=aT4 (hr r (aUm ..)).2;refine⟨x::xs,?_,λy hy=> ?_⟩
   ·rw[aUI,e,ex]
   ·rcases aUw.mp hy with rfl|hy
    ·exact ox
    ·exact ho y hy
 obtain⟨xs,hm,ho⟩:=hr rows h5;refine⟨xs,?_,ho⟩;have hlen:xs.length=rows.length:=by rw[<-hm,aUr]
 rw[<-hm] at h2;rcases h4 with rfl|⟨c,rfl⟩
 ·have h0:rows=[]:=by
   have:=h2.len;have hl:cX (Value.N)=some (.I 0):=rfl;rw[hl,hm] at this;simp at this;exact aUv.mp U
  subst h0
  obtain rfl:xs=[]:=aUv.mp (by rw[hlen];rfl)
  exact .inl ⟨rfl,rfl⟩
 ·rw[<-hlen] at h2⊢
  exact h2.rs (λ_=>rfl) (c:=c) (.inr rfl)
end Go.Proofs.YtciiopkbmjppfaaGreatDoor
