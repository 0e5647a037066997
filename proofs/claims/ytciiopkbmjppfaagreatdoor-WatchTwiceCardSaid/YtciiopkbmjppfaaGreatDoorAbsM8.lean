/-
  PARTS OF THIS CLAIM'S PROOF, laid together by a program of mine.
-/
import Derived.Test.YtciiopkbmjppfaaGreatDoorAbsM7
set_option linter.unusedVariables false
set_option linter.unusedSimpArgs false
set_option linter.unusedSectionVars false
namespace Go.Abs
open M
theorem aDT {n:Nat}(h:n<100000):bU n (n%65536)=n:=by
 unfold bU;omega
structure TwoC (c:Cfg)(v:Nat):Prop where
 ok:c.ok
 by':c.by'=[1-v]
 nodes:c.nodes=2
 me:c.me=v
 there:c.port (1-v)=1
 here:c.port v=0
theorem TwoC.Cx {c:Cfg}{v:Nat}(h:TwoC c v):c.aJ=2:=by unfold Cfg.aJ;rw[h.by'];rfl
def pkT:Pkt:=⟨0,1,0,0⟩
def wT (i:Nat):dO:=((i:Int),((1-i:Nat):Int),0)
theorem Ik (x:Pkt){i0:Nat}(i o k:Nat):jB [(wT i0,x)] (i,o,k)=if i=i0/\o=1-i0/\k=0 then [x] else []:=by
 have e:(wT i0=((i:Int),(o:Int),(k:Int)))↔(i=i0/\o=1-i0/\k=0):=by
  unfold wT;rw[Prod.mk.injEq,Prod.mk.injEq];omega
 unfold jB;by_cases h:i=i0/\o=1-i0/\k=0
 ·rw[if_pos h]
  simp[e.mpr h]
 ·rw[if_neg h]
  have: ¬(wT i0=((i:Int),(o:Int),(k:Int))):=λhh=>h (e.mp hh)
  simp[this]
theorem S5 {c:Cfg}{s:NS}(h:s.hL=[]): ∀l:List Nat,l.foldl (gS c) s=s
 |[]=>rfl
 |k::l=>by
  have h1:gS c s k=s:=by
   unfold gS;rw[h]
   split<;>rfl
  rw[List.foldl_cons,h1,S5 h l]
theorem aSx {c:Cfg}(hc:TwoC c 0){s:NS}(h1:s.hL=[pkT])(h2:s.rL=[]):eX c s={s with hL:=[],rL:=[(wT 0,pkT)]}:=by
 have hR:=hc.ok.room;have hl:=hc.ok.lanes;obtain⟨L,hL⟩: ∃L,c.lanes=L+1:=⟨c.lanes-1,by omega⟩
 have hw:cW s.hL 0=[pkT]:=by rw[h1];rfl
 have hm:u6 c s.rL 0=0:=by
  unfold u6 fT jB;rw[h2,hc.Cx];rfl
 have hf:gS c s 0={s with hL:=[],rL:=[(wT 0,pkT)]}:=by
  unfold gS;rw[if_neg U]
  simp only[Int.natCast_zero,hw];have hp:nB c s.rL (0,(c.port pkT.dst.toNat:Int),0) pkT=[(wT 0,pkT)]:=by
   have e:(c.port pkT.dst.toNat:Int)=1:=by show((c.port 1:Nat):Int)=1;rw[hc.there];rfl
   have hpos:0<2*c.lanes*c.room:=Nat.mul_pos U U
   rw[e,h2];unfold nB;rw[hc.Cx,if_pos ⟨by unfold wP;simp;omega,by simp;omega⟩]
   rfl
  have hd:oU s.hL 0=[]:=by rw[h1];rfl
  rw[hd,hp]
 unfold eX;rw[hL,List.range_succ_eq_map,List.foldl_cons,hf,S5 rfl]
theorem aSu {c:Cfg}(hp:c.aJ=2)(hl:0<c.lanes){s:NS}{x:Pkt}{i0:Nat}(h0:i0<2)(h2:s.rL=[(wT i0,x)])(hu:i0=1∨0<(s.snd 1 0).gR):gF c s=λi o=>decide (i=i0)&&decide (o=1-i0):=by
 funext i o
 unfold gF;rw[hp,Bool.eq_iff_iff];simp only[aS4,decide_eq_true_eq,List.any_eq_true,aTA];unfold dL fT;rw[h2];simp only[Ik,aS4,Bool.or_eq_true,decide_eq_true_eq];constructor
 ·rintro ⟨_,k,_,⟨_,h⟩,_⟩
  split at h
  ·rename_i hh
   exact⟨hh.1,hh.2.1⟩
  ·simp at h
 ·rintro ⟨rfl,rfl⟩
  refine⟨⟨h0,by omega⟩,0,hl,⟨hl,by simp⟩,?_⟩
  rcases hu with h|h
  ·exact .inl U
  ·by_cases h1:1-i=0
   ·exact .inl h1
   ·refine .inr ?_
    have:1-i=1:=U
    rw[this];exact h
theorem aSA {i0 r:Nat}(h0:i0<2)(hr:1<=r/\r<=4)(g a:List Nat)(hg:g.length=2)(ha:a.length=2)(hgl: ∀x∈g,x<2)(hal: ∀x∈a,x<2):(jV (λi o=>decide (i=i0)&&decide (o=1-i0)) 2 r g a).m=if i0=0 then [1, -1] else [-1,0]:=by
 have key: ∀(i0:Fin 2)(r:Fin 4)(g0 g1 a0 a1:Fin 2),(jV (λi o=>decide (i=i0.val)&&decide (o=1-i0.val)) 2 (r.val+1) [g0.val,g1.val] [a0.val,a1.val]).m=if i0.val=0 then [1, -1] else [-1,0]:=by decide+kernel
 match g,a,hg,ha with
 |[g0,g1],[a0,a1],_,_=>
  obtain⟨q,rfl⟩: ∃q,r=q+1:=⟨r-1,by omega⟩
  exact key ⟨i0,h0⟩ ⟨q,by omega⟩ ⟨g0,hgl _ (by simp)⟩ ⟨g1,hgl _ (by simp)⟩ ⟨a0,hal _ (by simp)⟩ ⟨a1,hal _ (by simp)⟩
theorem aD3 {c:Cfg}(hok:c.ok)(hp:c.aJ=2){t:Nat}{s f:NS}(hi:NInv c t s)(hf:eX c s=f){i0:Nat}(h0:i0<2)(h2:f.rL=[(wT i0,pkT)])(hu:i0=1∨0<(f.snd 1 0).gR)(hx:(s.ticks+1)%c.every≠0):
  (fI c s).1.hL=f.hL/\(fI c s).1.rL=[]/\(fI c s).1.ticks=s.ticks+1/\(fI c s).1.hG=(if i0=0 then f.hG else f.hG++[pkT])/\(fI c s).1.snd 1 0=(if i0=0 then(f.snd 1 0).j6.2 else f.snd 1 0)/\(fI c s).1.rcv 1 0=(if i0=0 then f.rcv 1 0 else(f.rcv 1 0).qP)/\
   (fI c s).2=(if i0=0 then [pT c 1 ⟨1,0,(f.snd 1 0).j6.1%65536,0,1,0⟩] else []):=by
 have hl:=hok.lanes.1;have hw:=hok.wlen;have hI:=hi.aBf hok;rw[hf] at hI;have hg:=hI.gl;have ha:=hI.al;have hgl:=hI.g;have hal:=hI.a;rw[hp] at hg ha hgl hal;unfold fI;simp only;rw[hf,aSu hp U h0 h2 hu,hp,if_neg hx]
 have hm:=aSA h0 hok.rounds f.g f.a hg ha hgl hal;obtain⟨M,hM⟩:=aD (jV (λi o=>decide (i=i0)&&decide (o=1-i0)) 2 c.rounds f.g f.a)
 rw[<-hM] at hm⊢;obtain⟨s1,hs1⟩: ∃s1:NS,s1={f with g:=M.g,a:=M.a}:=⟨_,rfl⟩;rw[<-hs1];have hr1:s1.rL=[(wT i0,pkT)]:=by rw[hs1];exact h2
 have hsn:s1.snd=f.snd:=by rw[hs1]
 have hrc:s1.rcv=f.rcv:=by rw[hs1]
 have hhl:s1.hL=f.hL:=by rw[hs1]
 have hhg:s1.hG=f.hG:=by rw[hs1]
 have hmv:lZ c M.m (List.range 2) (s1,[])=((iL c s1 i0 (1-i0)).1,(iL c s1 i0 (1-i0)).2):=by
  rw[hm]
  rcases(by omega:i0=0∨i0=1) with rfl|rfl
  ·show((iL c s1 0 1).1,[]++(iL c s1 0 1).2)=_
   rfl
  ·show((iL c s1 1 0).1,[]++(iL c s1 1 0).2)=_
   rfl
 rw[hmv];have hmay: ∀k,dL c s1 i0 (1-i0) k=true->k=0:=λk hk=>by
  unfold dL fT at hk;rw[hr1] at hk;simp only[Ik,aS4,decide_eq_true_eq] at hk;have h3:=hk.1.2
  split at h3
  ·rename_i hh
   exact hh.2.2
  ·simp at h3
 have hm0:dL c s1 i0 (1-i0) 0=true:=by
  unfold dL fT;rw[hr1,hsn];simp only[Ik,aS4,Bool.or_eq_true,decide_eq_true_eq];refine⟨⟨by omega,by simp⟩,?_⟩
  rcases hu with h|h
  ·exact .inl U
  ·by_cases h1:1-i0=0
   ·exact .inl h1
   ·refine .inr ?_
    have:1-i0=1:=U
    rw[this];exact h
 have hany:lL (dL c s1 i0 (1-i0)) c.weights.length=true:=by
  rw[wH]
  exact⟨0,by omega,hm0⟩
 obtain⟨i,p1,p2,p3,p4⟩:=Xe (s:=s1.whl (1-i0)) (λx hx=>by have:=hok.wts x hx;omega) hany
 obtain rfl:i=0:=hmay i p3
 obtain⟨w,hpk⟩: ∃w,fZ c.weights (s1.whl (1-i0)) (dL c s1 i0 (1-i0))=(some 0,w):=by
  unfold fZ;rw[if_pos hany,p1]
  exact⟨_,rfl⟩
 have hqo:jB s1.rL ((i0:Nat),((1-i0:Nat):Int),((0:Nat):Int))=[pkT]:=by
  rw[hr1,Ik,if_pos ⟨rfl,rfl,rfl⟩]
 have hpop:mA s1.rL ((i0:Nat),((1-i0:Nat):Int),((0:Nat):Int))=[]:=by
  rw[hr1];show List.eraseP _ [(wT i0,pkT)]=[]
  rw[List.eraseP_cons_of_pos (by exact aTG rfl)]
 unfold iL;rw[hpk];simp only[hqo,hpop,hsn,hrc,hhl,hhg,List.headD_cons]
 rcases(by omega:i0=0∨i0=1) with rfl|rfl
 ·simp only[if_true,if_neg (show¬(1-0=0) by omega)]
  refine⟨trivial,trivial,trivial,trivial,?_,?_,rfl⟩
  ·unfold up2
   rw[if_pos ⟨rfl,rfl⟩]
  ·unfold pQ
   rw[if_pos rfl,hrc]
 ·simp only[if_neg (show¬(1=0) by omega),if_true]
  refine⟨trivial,trivial,trivial,trivial,trivial,?_,trivial⟩;unfold pQ;rw[if_neg U,hrc]
  unfold up2;rw[if_pos ⟨rfl,rfl⟩]
def frT (start:Nat):Frm:=⟨1,0,start%65536,0,1,0⟩
def byT (start:Nat):List UInt8:=k9 (frT start)
theorem Ij (start:Nat):jZ (byT start)=some (frT start):=by
 have hs:dA (frT start)=true:=by
  unfold dA frT;simp
 unfold byT;rw[aC8 hs,aC7 ⟨by simp[frT],by simp[frT],by show start%65536<65536;omega,by simp[frT],by simp[frT],by simp[frT]⟩ hs]
theorem Tc {c:Cfg}{v:Nat}(h:TwoC c v):(c.by'.findIdx? λw:Nat=>decide ((w:Int)=((1-v:Nat):Int)))=some 0:=by
 rw[h.by'];simp[List.findIdx?_cons]
theorem aSD {c:Cfg}(hc:TwoC c 1){s:NS}{start:Nat}(hst:start<65536)(h1:s.rcv 1 0=⟨start,0⟩)(h2:s.rL=[]):(gT c 0 (byT start) s).2={s with rcv:=up2 s.rcv 1 0 ⟨start+1,1⟩,rL:=[(wT 1,pkT)]}:=by
 have hR:=hc.ok.room;have hl:=hc.ok.lanes;have h3:=Tc hc;simp only[show((1-1:Nat):Int)=0 from rfl] at h3
 unfold gT;rw[h3];simp only;rw[Ij];simp only;rw[if_neg (show¬c.lanes<=(frT start).lane by show¬c.lanes<=0;omega),if_neg (show¬(frT start).kind=2 by show¬((1:Nat)=2);omega),if_neg (show¬(frT start).kind=3 by show¬((1:Nat)=3);omega)]
 unfold nW;rw[hc.nodes,if_neg (show¬2<=max (frT start).src (frT start).dst by show¬2<=max 0 1;decide)]
 have hcm:(s.rcv 1 0).eW c.room (start%65536)=(0,⟨start+1,1⟩):=by
  rw[h1];unfold Rcv.eW Rcv.dE;simp only;rw[aDT U,if_neg U,if_neg U]
 rw[show(s.rcv (0+1) (frT start).lane).eW c.room (frT start).seq=_ from hcm]
 simp only;have hp:nB c s.rL (((0+1:Nat):Int),(c.port 1:Int),((0:Nat):Int)) ⟨((0:Nat):Int),((1:Nat):Int),((0:Nat):Int),((0:Nat):Int)⟩=[(wT 1,pkT)]:=by
  have hpos:0<2*c.lanes*c.room:=Nat.mul_pos U U
  rw[hc.here,h2];unfold nB;rw[hc.Cx,if_pos ⟨by unfold wP;simp;omega,by simp;omega⟩]
  rfl
 rw[show nB c s.rL (((0+1:Nat):Int),(c.port (frT start).dst:Int),((frT start).lane:Int)) ⟨((frT start).src:Int),((frT start).dst:Int),((frT start).lane:Int),((frT start).body:Int)⟩=_ from hp]
 rfl
theorem aSC {c:Cfg}(hc:TwoC c 1){s:NS}{start h:Nat}(hst:start<65536)(h1:s.rcv 1 0=⟨start+1,h⟩):(gT c 0 (byT start) s).2=s:=by
 have hl:=hc.ok.lanes;have h3:=Tc hc;simp only[show((1-1:Nat):Int)=0 from rfl] at h3
 unfold gT;rw[h3];simp only;rw[Ij];simp only;rw[if_neg (show¬c.lanes<=(frT start).lane by show¬c.lanes<=0;omega),if_neg (show¬(frT start).kind=2 by show¬((1:Nat)=2);omega),if_neg (show¬(frT start).kind=3 by show¬((1:Nat)=3);omega)]
 unfold nW;rw[hc.nodes,if_neg (show¬2<=max (frT start).src (frT start).dst by show¬2<=max 0 1;decide)]
 have hw:bU (start+1) (start%65536)=start:=by unfold bU;omega
 have hcm:(s.rcv 1 0).eW c.room (start%65536)=(60,⟨start+1,h⟩):=by
  rw[h1];unfold Rcv.eW;simp only;rw[hw,if_pos U]
 rw[show(s.rcv (0+1) (frT start).lane).eW c.room (frT start).seq=_ from hcm]
 rfl
abbrev lT (c:Cfg)(fr:Int)(L:List (List UInt8))(n:NS):NS:=L.foldl (λn b=>(gT c fr b n).2) n
theorem aDZ {c:Cfg}(hc:TwoC c 1){start h:Nat}(hst:start<65536){s:NS}(h1:s.rcv 1 0=⟨start+1,h⟩): ∀j,lT c 0 (List.replicate j (byT start)) s=s
 |0=>rfl
 |j+1=>by
  show lT c 0 (List.replicate j (byT start)) (gT c 0 (byT start) s).2=s
  rw[aSC hc hst h1,aDZ hc hst h1 j]
theorem aSE {c:Cfg}(hc:TwoC c 1){s:NS}{start:Nat}(hst:start<65536)(h1:s.rcv 1 0=⟨start,0⟩)(h2:s.rL=[])(j:Nat):lT c 0 (List.replicate (j+1) (byT start)) s={s with rcv:=up2 s.rcv 1 0 ⟨start+1,1⟩,rL:=[(wT 1,pkT)]}:=by
 show lT c 0 (List.replicate j (byT start)) (gT c 0 (byT start) s).2=_
 rw[aSD hc hst h1 h2];refine aDZ (h:=1) hc hst ?_ j;show up2 s.rcv 1 0 ⟨start+1,1⟩ 1 0=_
 unfold up2;rw[if_pos ⟨rfl,rfl⟩]
structure Lk0 (n n':NS)(x:Snd)(y:Rcv):Prop where
 hL:n'.hL=n.hL
 hG:n'.hG=n.hG
 rL:n'.rL=n.rL
 ticks:n'.ticks=n.ticks
 snd:n'.snd 1 0=x
 rcv:n'.rcv 1 0=y
theorem Il {c:Cfg}{v:Nat}(hc:TwoC c v){f:Frm}(hk:f.kind=2∨f.kind=3)(hl:f.lane<c.lanes)(hq:f.seq<65536)(hz:f.src=0/\f.dst=0/\f.body=0)(n:NS):
  (gT c ((1-v:Nat):Int) (k9 f) n).2=if f.kind=2 then {n with snd:=up2 n.snd 1 f.lane ((n.snd 1 f.lane).fM f.seq)} else {n with rcv:=up2 n.rcv 1 f.lane ((n.rcv 1 f.lane).fA c.room f.seq)}:=by
 have h3:=hc.ok.lanes;have hs:dA f=true:=by
  unfold dA;rw[hz.1,hz.2.1,hz.2.2];rcases hk with h|h<;>simp[h]<;>omega
 have hd:jZ (k9 f)=some f:=by
  rw[aC8 hs];exact aC7 ⟨by omega,by omega,hq,by omega,by omega,by omega⟩ hs
 unfold gT;rw[Tc hc];simp only;rw[hd];simp only;rw[if_neg U]
 rcases hk with h|h
 ·rw[if_pos h,if_pos h]
 ·rw[if_neg U,if_pos h,if_neg U]
def Cy (c:Cfg)(s:NS)(k:Nat):List (List UInt8):=[k9 ⟨3,k,(s.snd 1 k).s%65536,0,0,0⟩,k9 ⟨2,k,(s.rcv 1 k).dE c.room%65536,0,0,0⟩]
theorem aSw {c:Cfg}{v:Nat}(hc:TwoC c v)(s:NS):(j7 c s).map (·.2)=(List.range c.lanes).flatMap (Cy c s):=by
 unfold j7;rw[hc.by']
 show((List.range 1).flatMap _).map _=_
 rw[show List.range 1=[0] from rfl,List.flatMap_singleton,List.map_flatMap]
 rfl
theorem aD0 {c c':Cfg}{v:Nat}(hc:TwoC c v)(s:NS): ∀(ks:List Nat)(n:NS),(∀k∈ks,k<c.lanes/\k≠0)->Lk0 n (lT c ((1-v:Nat):Int) (ks.flatMap (Cy c' s)) n) (n.snd 1 0) (n.rcv 1 0)
 |[],n,_=>⟨rfl,rfl,rfl,rfl,rfl,rfl⟩
 |k::ks,n,h=>by
  obtain⟨h1,h2⟩:=h k (aS5 ..);rw[List.flatMap_cons];unfold lT;rw[List.foldl_append];have e1:=Il hc (f:=⟨3,k,(s.snd 1 k).s%65536,0,0,0⟩) (.inr rfl) h1 (by show _%65536<_;omega) ⟨rfl,rfl,rfl⟩ n
  rw[if_neg (by simp)] at e1
  unfold Cy;simp only[List.foldl_cons,List.foldl_nil];rw[e1,Il hc (f:=⟨2,k,(s.rcv 1 k).dE c'.room%65536,0,0,0⟩) (.inl rfl) h1 (by show(s.rcv 1 k).dE c'.room%65536<_;omega) ⟨rfl,rfl,rfl⟩,if_pos rfl]
  have ih:=aD0 hc (c':=c') s ks {n with rcv:=up2 n.rcv 1 k ((n.rcv 1 k).fA c.room ((s.snd 1 k).s%65536)),snd:=up2 n.snd 1 k ((n.snd 1 k).fM ((s.rcv 1 k).dE c'.room%65536))} λj hj=>h j (aTd _ hj)
  refine⟨ih.hL,ih.hG,ih.rL,ih.ticks,ih.snd.trans ?_,ih.rcv.trans ?_⟩
  ·show up2 _ 1 k _ 1 0=_
   unfold up2;rw[if_neg U]
  ·show up2 _ 1 k _ 1 0=_
   unfold up2;rw[if_neg U]
theorem aD1 {c c':Cfg}{v w:Nat}(hc:TwoC c v)(hc':TwoC c' w)(hl:c'.lanes=c.lanes)(s n:NS):Lk0 n (lT c ((1-v:Nat):Int) ((j7 c' s).map (·.2)) n) ((n.snd 1 0).fM ((s.rcv 1 0).dE c'.room%65536)) ((n.rcv 1 0).fA c.room ((s.snd 1 0).s%65536)):=by
 have h3:=hc.ok.lanes;obtain⟨L,hL⟩: ∃L,c.lanes=L+1:=⟨c.lanes-1,by omega⟩
 rw[aSw hc',hl,hL,List.range_succ_eq_map,List.flatMap_cons];unfold lT;rw[List.foldl_append];have e1:=Il hc (f:=⟨3,0,(s.snd 1 0).s%65536,0,0,0⟩) (.inr rfl) (by show 0<c.lanes;omega) (by show _%65536<_;omega) ⟨rfl,rfl,rfl⟩ n
 rw[if_neg (by simp)] at e1
 have e3:(Cy c' s 0).foldl (λn b=>(gT c ((1-v:Nat):Int) b n).2) n={n with rcv:=up2 n.rcv 1 0 ((n.rcv 1 0).fA c.room ((s.snd 1 0).s%65536)),snd:=up2 n.snd 1 0 ((n.snd 1 0).fM ((s.rcv 1 0).dE c'.room%65536))}:=by
  unfold Cy;simp only[List.foldl_cons,List.foldl_nil];rw[e1,Il hc (f:=⟨2,0,(s.rcv 1 0).dE c'.room%65536,0,0,0⟩) (.inl rfl) (by show 0<c.lanes;omega) (by show(s.rcv 1 0).dE c'.room%65536<_;omega) ⟨rfl,rfl,rfl⟩,if_pos rfl]
 obtain⟨X,hX⟩:=aD ((n.snd 1 0).fM ((s.rcv 1 0).dE c'.room%65536));obtain⟨Y,hY⟩:=aD ((n.rcv 1 0).fA c.room ((s.snd 1 0).s%65536));rw[<-hX,<-hY] at e3⊢;rw[e3];have ih:=aD0 hc (c':=c') s ((List.range L).map Nat.succ) {n with rcv:=up2 n.rcv 1 0 Y,snd:=up2 n.snd 1 0 X} (λk hk=>by
  obtain⟨j,hj,rfl⟩:=aTz.mp hk;have:=aTA.mp hj
  exact⟨by omega,by omega⟩)
 have e5: ∀{α:Type}(f:Nat->Nat->α)(x:α),up2 f 1 0 x 1 0=x:=λf x=>by
  unfold up2;rw[if_pos ⟨rfl,rfl⟩]
 exact⟨ih.hL,ih.hG,ih.rL,ih.ticks,ih.snd.trans (e5 n.snd X),ih.rcv.trans (e5 n.rcv Y)⟩
structure Two (C:FC)(R st L ev:Nat):Prop where
 N:C.N=2
 hs:C.hs=[(0,1),(1,0)]
 bag:C.bag=64
 c0:TwoC (C.c 0) 0
 c1:TwoC (C.c 1) 1
 room: ∀v,(C.c v).room=R
 start: ∀v,(C.c v).start=st
 lanes: ∀v,(C.c v).lanes=L
 every: ∀v,(C.c v).every=ev
theorem Td {α:Type}(f:Nat->α)(i:Nat):up1 f i (f i)=f:=by
 funext j
 unfold up1;split
 ·rename_i h
  rw[h]
 ·rfl
theorem aD5 {α:Type}(f:Nat->α)(i:Nat)(x y:α):up1 (up1 f i x) i y=up1 f i y:=by
 funext j
 unfold up1
 split<;>rfl
theorem o5 {α:Type}(f:Nat->α)(i:Nat)(x:α):up1 f i x i=x:=by unfold up1;rw[if_pos rfl]
theorem sO {α:Type}(f:Nat->α){i j:Nat}(h:j≠i)(x:α):up1 f i x j=f j:=by unfold up1;rw[if_neg h]
theorem Ta {C:FC}{v w h:Nat}(hh:xN C v w=h): ∀(os:eN)(l:Nat->List (List UInt8)),(∀o∈os,o.1=w)->(l h).length+os.length<=C.bag->os.foldl (nF C v) l=up1 l h (l h++os.map (·.2))
 |[],l,_,_=>by rw[List.map_nil,List.append_nil,Td];rfl
 |o::os,l,h1,h2=>by
  rw[aTi] at h2;have e:nF C v l o=up1 l h (l h++[o.2]):=by
   unfold nF aDl;rw[h1 o (aS5 ..),hh,if_neg U]
  rw[List.foldl_cons,e,Ta hh os _ (λo' ho=>h1 o' (aTd _ ho)) (by rw[o5,aS8,List.length_singleton];omega),aD5,o5,aS3,aTr]
  rfl
section
variable {C : FC} {R st L ev : Nat} {s : FS}
structure TickO (C:FC)(s t:FS)(n0 n1:NS)(o0 o1:eN):Prop where
 n0:t.n 0=n0
 n1:t.n 1=n1
 l0:t.l 0=s.l 0++o0.map (·.2)
 l1:t.l 1=s.l 1++o1.map (·.2)
 k:t.k=s.k+1
theorem Im (hT:Two C R st L ev){n0 n1:NS}{o0 o1:eN}(h0:fI (C.c 0) (s.n 0)=(n0,o0))(h1:fI (C.c 1) (s.n 1)=(n1,o1))(t0: ∀o∈o0,o.1=1)(t1: ∀o∈o1,o.1=0)(b0:(s.l 0).length+o0.length<=64)(b1:(s.l 1).length+o1.length<=64):TickO C s (iE C s) n0 n1 o0 o1:=by
 have x0:xN C 0 1=0:=by unfold xN;rw[hT.hs];decide
 have x1:xN C 1 0=1:=by unfold xN;rw[hT.hs];decide
 have q0:mT C s 0=o0:=by unfold mT;rw[h0]
 have q1:mT C s 1=o1:=by unfold mT;rw[h1]
 have hl:xO C s 2=up1 (up1 s.l 0 (s.l 0++o0.map (·.2))) 1 (s.l 1++o1.map (·.2)):=by
  show(mT C s 1).foldl (nF C 1) ((mT C s 0).foldl (nF C 0) s.l)=_
  rw[q0,q1,Ta x0 o0 s.l t0 (by rw[hT.bag];exact b0),Ta x1 o1 _ t1 (by rw[sO _ U,hT.bag];exact b1),sO _ U]
 have hn: ∀v,v<2->mE C s 2 v=(fI (C.c v) (s.n v)).1:=λv hv=>by unfold mE;rw[if_pos hv]
 unfold iE;rw[hT.N,hl];refine⟨?_,?_,?_,?_,rfl⟩
 ·show mE C s 2 0=_
  rw[hn 0 U,h0]
 ·show mE C s 2 1=_
  rw[hn 1 U,h1]
 ·show up1 (up1 s.l 0 (s.l 0++o0.map (·.2))) 1 (s.l 1++o1.map (·.2)) 0=_
  rw[sO _ U,o5]
 ·show up1 (up1 s.l 0 (s.l 0++o0.map (·.2))) 1 (s.l 1++o1.map (·.2)) 1=_
  rw[o5]
theorem S4 {h v:Nat}{fr:Int}(hh:C.hs.getD h (0,0)=(fr,(v:Int))): ∀(L:List (List UInt8))(s:FS),s.l h=L->oX C h L.length s=⟨up1 s.n v (lT (C.c v) fr L (s.n v)),up1 s.l h [],s.k⟩
 |[],s,hl=>by
  show s=⟨up1 s.n v (s.n v),up1 s.l h [],s.k⟩
  rw[Td,<-hl,Td]
 |b::L,s,hl=>by
  have e:(sL C h 0 s).2={s with n:=up1 s.n v (gT (C.c v) fr b (s.n v)).2,l:=up1 s.l h L}:=by
   unfold sL;rw[hl,hh];rfl
  show oX C h L.length (sL C h 0 s).2=_
  rw[e,S4 hh L _ (o5 _ _ _)];simp only[aD5,o5];rfl
theorem Tb (hT:Two C R st L ev){n0 n1:NS}{o0 o1:eN}(ht:TickO C s (iE C s) n0 n1 o0 o1):TickO C ⟨s.n,λ_=>[],s.k⟩ (dI C s) (lT (C.c 0) 1 (s.l 1++o1.map (·.2)) n0) (lT (C.c 1) 0 (s.l 0++o0.map (·.2)) n1) [] []:=by
 obtain⟨T,hTT⟩:=aD (iE C s);have e:dI C s=oX C 1 ((oX C 0 (T.l 0).length T).l 1).length (oX C 0 (T.l 0).length T):=by
  unfold dI;rw[hT.hs,<-hTT];rfl
 rw[<-hTT] at ht;have g0:C.hs.getD 0 (0,0)=(0,((1:Nat):Int)):=by rw[hT.hs];rfl
 have g1:C.hs.getD 1 (0,0)=(1,((0:Nat):Int)):=by rw[hT.hs];rfl
 rw[e,S4 g0 (T.l 0) T rfl,S4 g1 _ _ rfl];refine⟨?_,?_,?_,?_,ht.k⟩
 ·show up1 (up1 T.n 1 (lT (C.c 1) 0 (T.l 0) (T.n 1))) 0 (lT (C.c 0) 1 (up1 T.l 0 [] 1) (up1 T.n 1 (lT (C.c 1) 0 (T.l 0) (T.n 1)) 0)) 0=_
  rw[o5,sO _ U,sO _ U,ht.l1,ht.n0]
 ·show up1 (up1 T.n 1 (lT (C.c 1) 0 (T.l 0) (T.n 1))) 0 (lT (C.c 0) 1 (up1 T.l 0 [] 1) (up1 T.n 1 (lT (C.c 1) 0 (T.l 0) (T.n 1)) 0)) 1=_
  rw[sO _ U,o5,ht.l0,ht.n1]
 ·show up1 (up1 T.l 0 []) 1 [] 0=_
  rw[sO _ U,o5]
  rfl
 ·show up1 (up1 T.l 0 []) 1 [] 1=_
  rw[o5];rfl
structure Qn (n:NS)(G:List Pkt)(r:List (dO×Pkt))(x:Snd)(y:Rcv)(k:Nat):Prop where
 hL:n.hL=[]
 hG:n.hG=G
 rL:n.rL=r
 snd:n.snd 1 0=x
 rcv:n.rcv 1 0=y
 ticks:n.ticks=k
variable {n : NS} {G G0 G1 : List Pkt} {x x0 x1 : Snd} {y y0 y1 : Rcv} {k : Nat}
theorem Qn.zW (h:Qn n G [] x y k){c:Cfg}: ∃n',fI c n=(n',if(k+1)%c.every=0 then j7 c n else [])/\Qn n' G [] x y (k+1):=by
 have e:=aQ9 (c:=c) h.hL h.rL;have e2:({n with ticks:=n.ticks+1}:NS).ticks=k+1:=by show n.ticks+1=k+1;rw[h.ticks]
 refine⟨{n with ticks:=n.ticks+1},e.trans ?_,h.hL,h.hG,h.rL,h.snd,h.rcv,e2⟩;rw[h.ticks]
theorem aDX {c:Cfg}{v:Nat}(hc:TwoC c v)(s:NS): ∀o∈j7 c s,o.1=1-v:=λo ho=>by
 have:=(aDh c s o ho).1;rw[hc.by',List.mem_singleton] at this;exact this
theorem aDW {c:Cfg}{v:Nat}(hc:TwoC c v)(s:NS):(j7 c s).length<=6:=by
 have:=hc.ok.lanes;rw[aDe,hc.by'];show 2*1*c.lanes<=6
 omega
theorem aD4 (hT:Two C R st L ev)(h0:Qn (s.n 0) G0 [] x0 y0 k)(h1:Qn (s.n 1) G1 [] x1 y1 k)(hl0:(s.l 0).length<=64)(hl1:s.l 1=[])(hk:(k+1)%ev≠0):
  ∃n0 n1,Qn n0 G0 [] x0 y0 (k+1)/\Qn n1 G1 [] x1 y1 (k+1)/\TickO C ⟨s.n,λ_=>[],s.k⟩ (dI C s) n0 (lT (C.c 1) 0 (s.l 0) n1) [] []:=by
 obtain⟨n0,e0,q0⟩:=h0.zW (c:=C.c 0);obtain⟨n1,e1,q1⟩:=h1.zW (c:=C.c 1);rw[hT.every,if_neg hk] at e0 e1;have ht:=Tb hT (Im hT e0 e1 (λo ho=>by cases ho) (λo ho=>by cases ho) (by simpa using hl0) (by rw[hl1];simp))
 rw[hl1,List.map_nil,List.append_nil,List.append_nil] at ht
 exact⟨n0,n1,q0,q1,ht⟩
theorem aSG (hT:Two C R st L ev)(h0:Qn (s.n 0) G0 [] x0 y0 k)(h1:Qn (s.n 1) G1 [] x1 y1 k)(hl0:s.l 0=[])(hl1:s.l 1=[])(hk:(k+1)%ev=0):
  ∃n0 n1,Qn n0 G0 [] (x0.fM (y1.dE R%65536)) (y0.fA R (x1.s%65536)) (k+1)/\Qn n1 G1 [] (x1.fM (y0.dE R%65536)) (y1.fA R (x0.s%65536)) (k+1)/\TickO C ⟨s.n,λ_=>[],s.k⟩ (dI C s) n0 n1 [] []:=by
 obtain⟨n0,e0,q0⟩:=h0.zW (c:=C.c 0);obtain⟨n1,e1,q1⟩:=h1.zW (c:=C.c 1);rw[hT.every,if_pos hk] at e0 e1;have b0:=aDW hT.c0 (s.n 0);have b1:=aDW hT.c1 (s.n 1);have ht:=Tb hT (Im hT e0 e1 (aDX hT.c0 _) (aDX hT.c1 _) (by rw[hl0];simp;omega) (by rw[hl1];simp;omega))
 rw[hl0,hl1,List.nil_append,List.nil_append] at ht;have w0:=aD1 hT.c0 hT.c1 (by rw[hT.lanes,hT.lanes]) (s.n 1) n0
 have w1:=aD1 hT.c1 hT.c0 (by rw[hT.lanes,hT.lanes]) (s.n 0) n1
 rw[q0.snd,q0.rcv,h1.snd,h1.rcv,hT.room,hT.room] at w0;rw[q1.snd,q1.rcv,h0.snd,h0.rcv,hT.room,hT.room] at w1
 exact⟨_,_,⟨w0.hL.trans q0.hL,w0.hG.trans q0.hG,w0.rL.trans q0.rL,w0.snd,w0.rcv,w0.ticks.trans q0.ticks⟩,⟨w1.hL.trans q1.hL,w1.hG.trans q1.hG,w1.rL.trans q1.rL,w1.snd,w1.rcv,w1.ticks.trans q1.ticks⟩,ht⟩
def sIn (C:FC):FS:=⟨up1 (λv=>NS.fH (C.c v)) 0 {NS.fH (C.c 0) with hL:=[pkT]},λ_=>[],0⟩
theorem aD2 (hT:Two C R st L ev){t:Nat}(hi:NInv (C.c 0) t ((sIn C).n 0))(hk:1%ev≠0):
  ∃n0 n1,Qn n0 [] [] ⟨st+1,st+R⟩ ⟨st,0⟩ 1/\Qn n1 [] [] ⟨st,st+R⟩ ⟨st,0⟩ 1/\TickO C (sIn C) (iE C (sIn C)) n0 n1 [(1,byT st)] []:=by
 have hR:=hT.c0.ok.room;rw[hT.room] at hR;have q1:Qn ((sIn C).n 1) [] [] ⟨st,st+R⟩ ⟨st,0⟩ 0:=by
  have e:(sIn C).n 1=NS.fH (C.c 1):=by
   show up1 (λv=>NS.fH (C.c v)) 0 {NS.fH (C.c 0) with hL:=[pkT]} 1=_
   rw[sO _ U]
  rw[e]
  exact⟨rfl,rfl,rfl,by show(⟨(C.c 1).start,(C.c 1).start+(C.c 1).room⟩:Snd)=_;rw[hT.start,hT.room],by show(⟨(C.c 1).start,0⟩:Rcv)=_;rw[hT.start],rfl⟩
 obtain⟨n1,e1,w1⟩:=q1.zW (c:=C.c 1);rw[hT.every,if_neg (by rw[aTh];exact hk)] at e1
 have en:(sIn C).n 0={NS.fH (C.c 0) with hL:=[pkT]}:=by
  show up1 (λv=>NS.fH (C.c v)) 0 {NS.fH (C.c 0) with hL:=[pkT]} 0=_
  rw[o5]
 have hsn:((sIn C).n 0).snd 1 0=⟨st,st+R⟩:=by
  rw[en]
  show(⟨(C.c 0).start,(C.c 0).start+(C.c 0).room⟩:Snd)=_
  rw[hT.start,hT.room]
 have hrc:((sIn C).n 0).rcv 1 0=⟨st,0⟩:=by
  rw[en]
  show(⟨(C.c 0).start,0⟩:Rcv)=_
  rw[hT.start]
 have htk:((sIn C).n 0).ticks=0:=by rw[en];rfl
 have hf:=aSx hT.c0 (s:=(sIn C).n 0) (by rw[en]) (by rw[en];rfl)
 obtain⟨f,hff⟩: ∃f:NS,f={(sIn C).n 0 with hL:=[],rL:=[(wT 0,pkT)]}:=⟨_,rfl⟩;rw[<-hff] at hf;have fs:f.snd 1 0=⟨st,st+R⟩:=by rw[hff];exact hsn
 have fr:f.rcv 1 0=⟨st,0⟩:=by rw[hff];exact hrc
 have us:(⟨st,st+R⟩:Snd).j6=(st,⟨st+1,st+R⟩):=by
  unfold Snd.j6;rw[if_neg (by simp only;omega)]
 obtain⟨a1,a2,a3,a4,a5,a6,a7⟩:=aD3 hT.c0.ok hT.c0.Cx hi hf (i0:=0) U (by rw[hff]) (.inr (by rw[fs];unfold Snd.gR;simp only;omega)) (by rw[htk,hT.every];exact hk)
 rw[if_pos rfl] at a4 a5 a6 a7;rw[fs,us] at a5 a7;rw[fr] at a6;have e0:fI (C.c 0) ((sIn C).n 0)=((fI (C.c 0) ((sIn C).n 0)).1,[(1,byT st)]):=by
  refine Prod.ext rfl (a7.trans ?_);unfold pT;rw[hT.c0.by'];rfl
 refine⟨_,_,⟨a1.trans (by rw[hff]),a4.trans (by rw[hff,en];rfl),a2,a5,a6,a3.trans (by rw[htk])⟩,w1,Im hT e0 e1 (λo ho=>by rw[List.mem_singleton] at ho;rw[ho]) (λo ho=>by cases ho) (by show 0+1<=64;omega) (by show 0+0<=64;omega)⟩
theorem aSF (hT:Two C R st L ev){t:Nat}(hi:NInv (C.c 1) t (s.n 1))(h0:Qn (s.n 0) G0 [] x0 y0 k)(h1:Qn (s.n 1) G1 [(wT 1,pkT)] x1 y1 k)(hl0:s.l 0=[])(hl1:s.l 1=[])(hk:(k+1)%ev≠0):
  ∃n0 n1,Qn n0 G0 [] x0 y0 (k+1)/\Qn n1 (G1++[pkT]) [] x1 y1.qP (k+1)/\TickO C ⟨s.n,λ_=>[],s.k⟩ (dI C s) n0 n1 [] []:=by
 obtain⟨n0,e0,q0⟩:=h0.zW (c:=C.c 0);rw[hT.every,if_neg hk] at e0;have hf:eX (C.c 1) (s.n 1)=s.n 1:=S5 h1.hL _;obtain⟨a1,a2,a3,a4,a5,a6,a7⟩:=aD3 hT.c1.ok hT.c1.Cx hi hf (i0:=1) U h1.rL (.inl rfl) (by rw[h1.ticks,hT.every];exact hk)
 rw[if_neg U] at a4 a5 a6 a7
 have e1:fI (C.c 1) (s.n 1)=((fI (C.c 1) (s.n 1)).1,[]):=Prod.ext rfl a7;have ht:=Tb hT (Im hT e0 e1 (λo ho=>by cases ho) (λo ho=>by cases ho) (by rw[hl0];simp) (by rw[hl1];simp))
 rw[hl0,hl1] at ht
 exact⟨n0,_,q0,⟨a1.trans h1.hL,a4.trans (by rw[h1.hG]),a2,a5.trans h1.snd,a6.trans (by rw[h1.rcv]),a3.trans (by rw[h1.ticks])⟩,ht⟩
theorem aSv (C:FC)(h k:Nat)(s:FS):(sL C h k s).2.k=s.k:=by
 unfold sL
 split<;>rfl
theorem aDV (C:FC)(h:Nat): ∀(q:Nat)(s:FS),(oX C h q s).k=s.k
 |0,_=>rfl
 |q+1,s=>by
  show(oX C h q (sL C h 0 s).2).k=_
  rw[aDV C h q,aSv]
theorem aDY (C:FC): ∀(l:List Nat)(s:FS),(zS C l s).k=s.k
 |[],_=>rfl
 |h::l,s=>by
  show(zS C l (oX C h (s.l h).length s)).k=_
  rw[aDY C l,aDV]
theorem Io (C:FC)(s:FS):(dI C s).k=s.k+1:=by
 unfold dI;rw[aDY];rfl
structure St2 (s:FS)(x0:Snd)(y0:Rcv)(x1:Snd)(y1:Rcv)(k:Nat):Prop where
 q0:Qn (s.n 0) [] [] x0 y0 k
 q1:Qn (s.n 1) [] [] x1 y1 k
 l0:s.l 0=[]
 l1:s.l 1=[]
theorem St2.aDU (hT:Two C R st L ev)(h:St2 s x0 y0 x1 y1 k)(hk:(k+1)%ev=0):St2 (dI C s) (x0.fM (y1.dE R%65536)) (y0.fA R (x1.s%65536)) (x1.fM (y0.dE R%65536)) (y1.fA R (x0.s%65536)) (k+1):=by
 obtain⟨n0,n1,w0,w1,t⟩:=aSG hT h.q0 h.q1 h.l0 h.l1 hk
 exact⟨by rw[t.n0];exact w0,by rw[t.n1];exact w1,t.l0,t.l1⟩
theorem St2.aSt (hT:Two C R st L ev)(h:St2 s x0 y0 x1 y1 k)(hk:(k+1)%ev≠0):St2 (dI C s) x0 y0 x1 y1 (k+1):=by
 obtain⟨n0,n1,w0,w1,t⟩:=aD4 hT h.q0 h.q1 (by rw[h.l0];exact Nat.zero_le _) h.l1 hk
 refine⟨by rw[t.n0];exact w0,?_,t.l0,t.l1⟩
 rw[t.n1,h.l0];exact w1
theorem S6 {s l t:Nat}(h:t<=l)(h1:l-t<10)(h2:l<100000):(⟨s,l⟩:Snd).fM (t%65536)=⟨s,l⟩:=by
 have hw:bU l (t%65536)=t:=by unfold bU;omega
 unfold Snd.fM;simp only;rw[hw,if_pos (.inl h)]
theorem aSy {s l:Nat}(h:l+1<=s+8)(h2:l<90000):(⟨s,l⟩:Snd).fM ((l+1)%65536)=⟨s,l+1⟩:=by
 have hw:bU l ((l+1)%65536)=l+1:=by unfold bU;omega
 unfold Snd.fM;simp only;rw[hw,if_neg U]
theorem S7 {n h R t:Nat}(ht:t=n)(h2:n<100000):(⟨n,h⟩:Rcv).fA R (t%65536)=⟨n,h⟩:=by
 have hw:bU n (t%65536)=n:=by unfold bU;omega
 unfold Rcv.fA;simp only;rw[hw,if_pos (.inl (aS1 _))]
theorem aSB {n R:Nat}(hR:1<=R)(h2:n<90000):(⟨n,0⟩:Rcv).fA R ((n+1)%65536)=⟨n+1,0⟩:=by
 have hw:bU n ((n+1)%65536)=n+1:=by unfold bU;omega
 unfold Rcv.fA Rcv.dE;simp only;rw[hw,if_neg U]
theorem aSz (hT:Two C R st L 2)(hR:1<=R/\R<=8)(hst:st<65536)(h:St2 s ⟨st+1,st+R⟩ ⟨st,0⟩ ⟨st,st+R⟩ ⟨st,0⟩ 1):
  St2 (dI C s) ⟨st+1,st+R⟩ ⟨st,0⟩ ⟨st,st+R⟩ ⟨st+1,0⟩ 2/\St2 (dI C (dI C (dI C s))) ⟨st+1,st+R+1⟩ ⟨st,0⟩ ⟨st,st+R⟩ ⟨st+1,0⟩ 4:=by
 have a1:=h.aDU hT rfl;rw[show(⟨st+1,st+R⟩:Snd).fM ((⟨st,0⟩:Rcv).dE R%65536)=⟨st+1,st+R⟩ from S6 (t:=st+R) (aS1 _) U U,show(⟨st,st+R⟩:Snd).fM ((⟨st,0⟩:Rcv).dE R%65536)=⟨st,st+R⟩ from S6 (t:=st+R) (aS1 _) U U,
  show(⟨st,0⟩:Rcv).fA R ((⟨st,st+R⟩:Snd).s%65536)=⟨st,0⟩ from S7 rfl U,show(⟨st,0⟩:Rcv).fA R ((⟨st+1,st+R⟩:Snd).s%65536)=⟨st+1,0⟩ from aSB hR.1 U] at a1
 refine⟨a1,?_⟩;have a2:=(a1.aSt hT aC).aDU hT rfl
 rw[show(⟨st+1,st+R⟩:Snd).fM ((⟨st+1,0⟩:Rcv).dE R%65536)=⟨st+1,st+R+1⟩ from by
   rw[show(⟨st+1,0⟩:Rcv).dE R=st+R+1 from by unfold Rcv.dE;simp only;omega]
   exact aSy U U,show(⟨st,st+R⟩:Snd).fM ((⟨st,0⟩:Rcv).dE R%65536)=⟨st,st+R⟩ from S6 (t:=st+R) (aS1 _) U U,
  show(⟨st,0⟩:Rcv).fA R ((⟨st,st+R⟩:Snd).s%65536)=⟨st,0⟩ from S7 rfl U,show(⟨st+1,0⟩:Rcv).fA R ((⟨st+1,st+R⟩:Snd).s%65536)=⟨st+1,0⟩ from S7 rfl U] at a2
 exact a2
theorem aSH (hT:Two C R st L 8)(hst:st<65536){j:Nat}(hj:j<40)(q0:Qn (s.n 0) [] [] ⟨st+1,st+R⟩ ⟨st,0⟩ 1)(q1:Qn (s.n 1) [] [] ⟨st,st+R⟩ ⟨st,0⟩ 1)(hl0:s.l 0=List.replicate (j+1) (byT st))(hl1:s.l 1=[]){t:Nat}(hi:NInv (C.c 1) t ((dI C s).n 1)):
  ((dI C (dI C s)).n 0).hL=[]/\((dI C (dI C s)).n 0).rL=[]/\((dI C (dI C s)).n 1).hL=[]/\((dI C (dI C s)).n 1).rL=[]/\((dI C (dI C s)).n 1).hG=[pkT]/\(dI C (dI C s)).l 0=[]/\(dI C (dI C s)).l 1=[]:=by
 obtain⟨n0,n1,w0,w1,t1⟩:=aD4 hT q0 q1 (by rw[hl0,aTC];omega) hl1 aC
 have e1:=aSE hT.c1 hst w1.rcv w1.rL j;have p1:Qn ((dI C s).n 1) [] [(wT 1,pkT)] ⟨st,st+R⟩ ⟨st+1,1⟩ 2:=by
  rw[t1.n1,hl0,e1];have e5:up2 n1.rcv 1 0 ⟨st+1,1⟩ 1 0=⟨st+1,1⟩:=by unfold up2;rw[if_pos ⟨rfl,rfl⟩]
  exact⟨w1.hL,w1.hG,rfl,w1.snd,e5,w1.ticks⟩
 have p0:Qn ((dI C s).n 0) [] [] ⟨st+1,st+R⟩ ⟨st,0⟩ 2:=by rw[t1.n0];exact w0
 obtain⟨m0,m1,v0,v1,t2⟩:=aSF hT hi p0 p1 t1.l0 t1.l1 aC
 rw[t2.n0,t2.n1]
 exact⟨v0.hL,v0.rL,v1.hL,v1.rL,v1.hG,t2.l0,t2.l1⟩
end
end Go.Abs
set_option maxRecDepth 100000
namespace Go.Proofs.YtciiopkbmjppfaaGreatDoor
open Go.Proofs.Tryz
open Go.Abs Go.Abs.M
open Classical
def plE (room more start:Nat)(e:Int):PlanD:={qW [0] room more start with every:=e}
theorem ckE {p:PlanD}(h:eC p=true){e:Int}(he:e=2∨e=8):eC {p with every:=e}=true:=by
 unfold eC oP at*;simp only[aS4] at*;obtain⟨h1,h2⟩:=h;refine⟨?_,h2⟩;rcases he with rfl|rfl<;>simp_all<;>rfl
section
variable {room more start : Nat} {e : Int}
theorem aSL (he:e=2∨e=8):jA (plE room more start e)=0:=by
 obtain⟨hr,ht1⟩:=Ra [0]
 exact(aAh (p:={mkP 0 room more start [] with every:=e}) (ckE (Md 0 _ _ start []) he) (Nk hr ht1)).1
theorem zX:aZ (plE room more start e)=[(0,1),(1,0)]:=by
 show(List.range (min (max (((ofT [0]).length+1:Nat):Int) 0) 6).toNat).flatMap (mQ (qO (ofT [0])))=_
 decide+kernel
theorem tS:(plE room more start e).nodes=2:=by
 show(((ofT [0]).length+1:Nat):Int)=2
 decide+kernel
theorem aD8 {v:Nat}(hv:v<2):(bes (qO (ofT [0])) ((v:Nat):Int)).map Int.toNat=[1-v]:=by
 rcases(by omega:v=0∨v=1) with rfl|rfl<;>decide+kernel
theorem aSK {v:Nat}(hv:v<2):nx (plE room more start e) (v:Nat) ((1-v:Nat):Nat)=((1-v:Nat):Int):=by
 show nx (oT (mkP 0 0 0 0 []) (ofT [0])) (v:Nat) ((1-v:Nat):Nat)=((1-v:Nat):Int)
 rcases(by omega:v=0∨v=1) with rfl|rfl<;>decide+kernel
theorem aEc {v:Nat}(hv:v<2)(hok:(cP (plE room more start e) v).ok):TwoC (cP (plE room more start e) v) v where
 ok:=hok
 by':=aD8 hv
 nodes:=by
  show(plE room more start e).nodes.toNat=2
  rw[tS];rfl
 me:=rfl
 there:=by
  show(if 1-v=v then 0 else match ((bes (qO (ofT [0])) ((v:Nat):Int)).map Int.toNat).findIdx? λw:Nat=>decide ((w:Int)=nx (plE room more start e) (v:Nat) ((1-v:Nat):Nat)) with
   |some j=>j+1
   |none=>0)=1
  rw[aD8 hv,aSK hv,if_neg U]
  simp[List.findIdx?_cons]
 here:=by
  show(if v=v then 0 else _)=0
  rw[if_pos rfl]
theorem Te (hok: ∀v,v<2->(cP (plE room more start e) v).ok):Two (bH (plE room more start e)) (1+room%8) start (1+more%3) e.toNat where
 N:=by
  show(plE room more start e).nodes.toNat=2
  rw[tS];rfl
 hs:=zX
 bag:=rfl
 c0:=aEc U (hok 0 U)
 c1:=aEc U (hok 1 U)
 room:=λ_=>rfl
 start:=λ_=>rfl
 lanes:=λ_=>rfl
 every:=λ_=>rfl
theorem aD6 (s:FS):dM (plE room more start e) s 0 0=tR (1+room%8) 0 ((s.n 0).snd 1 0) ((s.n 1).rcv 1 0) (s.l 0):=by
 have p0:oA (plE room more start e) 0 1=1:=by
  show(uS (qO (ofT [0])) ((0:Nat):Int) ((1:Nat):Int)).toNat=1
  decide+kernel
 have p1:oA (plE room more start e) 1 0=1:=by
  show(uS (qO (ofT [0])) ((1:Nat):Int) ((0:Nat):Int)).toNat=1
  decide+kernel
 unfold dM;rw[zX];show tR (1+room%8) 0 ((s.n 0).snd (oA (plE room more start e) 0 1) 0) ((s.n 1).rcv (oA (plE room more start e) 1 0) 0) (s.l 0)=_
 rw[p0,p1]
theorem aD7 (p:PlanD)(s:FS)(k lane:Nat): ∃a b,(dM p s k lane).flying=((p8 lane a b (s.l k)).length:Nat):=⟨_,_,rfl⟩
theorem Iq (p:PlanD){s:FS}{k:Nat}(h:s.l k=[])(lane:Nat):(dM p s k lane).flying=0:=by
 obtain⟨a,b,e⟩:=aD7 p s k lane;rw[e,h];rfl
theorem aD9 {s:FS}{n:Int}(h00:(dM (plE room more start e) s 0 0).flying=n)(h0: ∀l,l≠0->(dM (plE room more start e) s 0 l).flying=0)(h1: ∀l,(dM (plE room more start e) s 1 l).flying=0):oB (plE room more start e) s (iF (plE room more start e) s).length=n:=by
 unfold oB;rw[List.take_length];unfold iF;rw[zX];have hL:(plE room more start e).lanes.toNat=1+more%3:=rfl;rw[hL]
 rcases(by omega:1+more%3=1∨1+more%3=2∨1+more%3=3) with h|h|h<;>rw[h]<;>simp[aTv,h00,h0,h1]
theorem aEb {s:FS}(h: ∀v,v<2->(s.n v).hL=[]/\(s.n v).rL=[]):sN (plE room more start e) s=0:=by
 unfold sN;refine Cw _ λv hv=> ?_
 rw[tS] at hv;obtain⟨h1,h2⟩:=h v hv;rw[aRP h2 (by rw[h1];simp),h1]
 rfl
theorem aEa {s:FS}(h: ∀v,v<2->(s.n v).hL=[]/\(s.n v).rL=[])(h0:s.l 0=[])(h1:s.l 1=[]):qX (plE room more start e) s=0:=by
 unfold qX;rw[aEb h,aD9 (n:=0) (Iq _ h0 _) (λl _=>Iq _ h0 l) (λl=>Iq _ h1 l)]
 rfl
theorem aSJ {lane a b j:Nat}(hl:lane≠0):p8 lane a b (List.replicate j (byT start))=[]:=by
 have h1:gK lane a b (byT start)=none:=by
  unfold gK;rw[Ij];simp only;rw[if_neg (λh=>hl h.2.1.symm)]
 have: ∀j,(List.replicate j (byT start)).foldl (λks b'=>mU ks (gK lane a b b')) []=[]:=λj=>by
  induction j with
  |zero=>rfl
  |succ j ih=>
   rw[List.replicate_succ,List.foldl_cons,h1];exact ih
 exact this j
theorem aSI (hst:start<65536)(j:Nat):p8 0 start (start+1) (List.replicate (j+1) (byT start))=[start]:=by
 have h1:gK 0 start (start+1) (byT start)=some start:=by
  have hw:bU start (frT start).seq=start:=aDT U
  unfold gK;rw[Ij];simp only[hw];rw[if_pos ⟨rfl,rfl,aS1 _,by omega⟩]
 have: ∀j,(List.replicate j (byT start)).foldl (λks b'=>mU ks (gK 0 start (start+1) b')) [start]=[start]:=λj=>by
  induction j with
  |zero=>rfl
  |succ j ih=>
   rw[List.replicate_succ,List.foldl_cons,h1];have:mU [start] (some start)=[start]:=by unfold mU;simp
   rw[this];exact ih
 unfold p8;rw[List.replicate_succ,List.foldl_cons,h1];exact this j
theorem Ip {R lane:Nat}{x:Snd}{y:Rcv}{l:List (List UInt8)}{f u t o:Nat}(hf:(p8 lane y.n x.s l).length=f)(hx:x.l=x.s+u)(ht:y.n+(R-y.h)=x.l+t)(ho:x.s=y.n+f+o)(h2:t<=1/\f<=1/\o<=1)(h3:f=0∨o=0):tR R lane x y l=⟨(u:Nat),(t:Nat),(f:Nat),(y.h:Nat),(o:Nat)⟩:=by
 unfold tR;simp only;rw[hf];have e1:x.gR=u:=by unfold Snd.gR;omega
 have e2:((y.dE R:Nat):Int)-(x.l:Nat)=(t:Nat):=by unfold Rcv.dE;omega
 have e3:((x.s:Nat):Int)-(y.n:Nat)=((f+o:Nat):Nat):=U
 rw[e1,e2,e3];have e4:cI (t:Nat)=(t:Nat):=by
  rcases(by omega:t=0∨t=1) with rfl|rfl<;>decide
 have e5:IntKind.i64.wrap (cI ((f+o:Nat):Nat)-(f:Nat))=(o:Nat):=by
  rcases(by omega:f=0/\o=0∨f=0/\o=1∨f=1/\o=0) with⟨rfl,rfl⟩|⟨rfl,rfl⟩|⟨rfl,rfl⟩<;>decide
 rw[e4,e5]
end
section
variable {H0 Hs H H' : aG} {O : FP → Nat → Prop} {a : FL} {F : Nat → Part → Nat → Prop} {p : PlanD} {ev wv nv : Value} {t : Nat} {s : FS} {m : Nat}
def kW:FS:=iE (bH kq) kI.2
theorem aSM:kI.1=0/\kI.2.k=0/\(aZ kq).length=2/\kq.lanes=1/\dM kq kW 0 0=⟨1,0,1,0,0⟩/\qX kq kW=1/\(iF kq kW).length=2:=by decide+kernel
theorem aEd (m:Nat)(hm:17592186045700<m)(hm2:m<=72057594037927936): ∃H',lvl prog pkN m (.func 26) [] H=some (.bool true,H')/\Ext H H':=by
 obtain⟨H1,hH1⟩:=aD (H++[Blk.cells [Value.int .u8 0] 5 .row]);have x1:Ext H H1:=by rw[hH1];exact Fr.app _ _ _
 have e1:bV 5 1 1 [.int .u8 0] [(0,.int .u8 0)] H=some (.slice (some ⟨H.length,0,none⟩) 1 1,H1):=by rw[hH1];rfl
 have hu:Us H1 (.slice (some ⟨H.length,0,none⟩) 1 1) [0]:= .inr ⟨H.length,0,1,rfl,aS1 _,λ_=>⟨5,.row,[],[],rfl,λ_=>rfl,by rw[hH1,cD];rfl⟩⟩
 obtain⟨H2,ev,wv,nv,g2,x2,hp⟩:=aCQ hu (by simp) (by simp) 1 0 0 U U U (m:=m-1) U U
 simp only[show((1:Nat):Int)=1 from rfl,show((0:Nat):Int)=0 from rfl] at g2
 have hok:=aQC [0] 1 0 0;have hst0:(qW [0] 1 0 0).start=0:=rfl;obtain⟨q,hq⟩:=aD kq;have hq':qW [0] 1 0 0=q:=hq.symm;rw[hq'] at g2 hp hok hst0;obtain⟨r1,r4,r6,r7,r8,r9,r10⟩:=aSM;obtain⟨H3,u,g3,Hb,O,a,F,e',w',n',rfl,xb,h3,_⟩:=aDA hp hok (by rw[hst0];omega) (m:=m-1) U U
 have hqh:(aZ q).length=2:=by rw[hq];exact r6
 have hql:q.lanes=1:=by rw[hq];exact r7
 have E0:ext 0 (.tuple #[pt a.fb,.int .u16 0])=some (pt a.fb):=rfl;have E1:ext 1 (.tuple #[pt a.fb,.int .u16 0])=some (.int .u16 0):=rfl;have z0:((0:Int)!=0)=false:=rfl;have n2:=λa=>(tO 41 a (by kernel_rfl)).1
 have n3:=λa=>(tO 51 a (by kernel_rfl)).1
 have k2:=tP h3 (m:=m-1) U 0
 have v2:mF q a 0=pt (a.lb 0):=by unfold mF;rw[if_pos U];rfl
 rw[v2] at k2;have bp:bld prog 31 [(0,.I 0),(1,.I 1),(3,.int .u32 7)]=some kx.cF:=rfl;obtain⟨H4,O4,F4,g4,h4,_⟩:=Sa h3 (m:=m-1) U kx aC
 have hI:tQ q kx (FS.p7 (bH q))=kI:=by rw[hq];rfl
 rw[hI] at g4 h4;obtain⟨H5,O5,F5,g5,h5⟩:=Sc h4 U U (m:=m-1) U
 have hW:iE (bH q) kI.2=kW:=by rw[hq];rfl
 rw[hW] at h5;obtain⟨H6,g6,x6⟩:=S3 h5 U (m:=m-1) U U (k:=0) (lane:=0) U (by rw[hql];decide)
 have ha0:dM q kW 0 0=⟨1,0,1,0,0⟩:=by rw[hq];exact r8
 rw[ha0] at g6;simp only[show((0:Nat):Int)=0 from rfl] at g6
 have A0:ext 0 (.tuple #[acV ⟨1,0,1,0,0⟩,.bool true])=some (acV ⟨1,0,1,0,0⟩):=rfl;have A1:ext 1 (.tuple #[acV ⟨1,0,1,0,0⟩,.bool true])=some (.bool true):=rfl;have B0:ext 0 (.tuple #[acV ac0,.bool false])=some (acV ac0):=rfl;have B1:ext 1 (.tuple #[acV ac0,.bool false])=some (.bool false):=rfl;have ez: ∀G:aG,G++[Blk.cells [Value.int .i64 0,.int .i64 0,.int .i64 0,.int .i64 0,.int .i64 0] 46 .fix]=G++[acB ac0]:=λ_=>rfl
 have st6: ∀(x:Acc)(G:aG),stN 5 (.pointer (some ⟨G.length,0,none⟩)) (acV x) (G++[acB ac0])=some (undef,G++[acB x]):=λx G=>by rw[xR ac0 x (cD G _),gQ]
 obtain⟨H7,hH7⟩:=aD (H6++[acB ⟨1,0,1,0,0⟩]);have x7:Ext H6 H7:=by rw[hH7];exact Fr.app _ _ _
 have b7:H7[H6.length]? =some (acB ⟨1,0,1,0,0⟩):=by rw[hH7];exact cV _ _
 have h7:=(h5.dC x6).dC x7;obtain⟨H8,g8,x8⟩:=aSe h7 (m:=m-1) U 2 0 (.inr U)
 obtain⟨H9,hH9⟩:=aD (H8++[acB ac0]);have x9:Ext H8 H9:=by rw[hH9];exact Fr.app _ _ _
 have h9:=(h7.dC x8).dC x9;have s9:stN 5 (.Q H8.length 0) (acV ac0) H9=some (undef,H9):=by rw[hH9];exact st6 ac0 H8
 have l9:ldN 5 (.Q H6.length 0) H9=some (acV ⟨1,0,1,0,0⟩,H9):=m9 (cR (cR b7 x8) x9) (aS1 5);have ba:bld prog 46 [(0,.I 1),(2,.I 1)]=some (acV ⟨1,0,1,0,0⟩):=rfl;have qa:bin prog .eql 46 (acV ⟨1,0,1,0,0⟩) (acV ⟨1,0,1,0,0⟩)=some (.bool true):=by
  have:=aDD ⟨1,0,1,0,0⟩ ⟨1,0,1,0,0⟩;rw[aTG rfl] at this;exact this
 obtain⟨HA,gA,xA⟩:=Ih h9 U (m:=m-1) U U
 have hIn:qX q kW=1:=by rw[hq];exact r9
 rw[hIn] at gA;obtain⟨HB,uB,gB,xB,rB,_⟩:=aDQ (h9.dC xA) U (m:=m-1) U U
 have hal:(iF q kW).length=2:=by rw[hq];exact r10
 have lenB:=rB.rs.fR;rw[hal] at lenB;have z1:((1:Int)==1)=true:=rfl;have z22:(((2:Nat):Int)==2)=true:=rfl;have xx:Ext H HB:=(x1.tr x2).tr (xb.tr ((h9.dC xA).dC xB).own.ext);refine iB (aQ rfl) U ⟨HB,?_,xx⟩
 rw[aR1];simp only[gsR,e1,g2,g3,E0,E1,z0,n2,k2,n3,bp,g4,g5,g6,A0,A1,ez,st6,<-hH7,g8,B0,B1,<-hH9,s9,l9,ba,qa,gA,z1,gB,lenB,z22]
end
section
variable {H0 H H' : aG} {O : FP → Nat → Prop} {a : FL} {F : Nat → Part → Nat → Prop} {p : PlanD} {ev wv nv : Value} {t : Nat} {s : FS} {m room more start : Nat} {e : Int}
theorem aEh (he:e=2∨e=8)(h2:room<256)(h3:more<256)(h4:start<65536)(H:aG)(hm:17592186045700<m)(hm2:m<=72057594037927936):
  ∃(H1 H2 H3 H4 H5 H0:aG)(ev wv nv e' w' n':Value)(O:FP->Nat->Prop)(a:FL)(F:Nat->Part->Nat->Prop),
   bV 5 1 1 [.int .u8 0] [(0,.int .u8 0)] H=some (.slice (some ⟨H.length,0,none⟩) 1 1,H1)/\
   lvl prog pkN m (.func 21) [.slice (some ⟨H.length,0,none⟩) 1 1,.int .u8 room,.int .u8 more,.int .u16 start] H1=some (plV (qW [0] room more start) ev wv nv,H2)/\
   stN 11 (.Q H2.length 0) (plV (qW [0] room more start) ev wv nv) (H2++[plZ])=some (undef,H3)/\
   stN 1 (.Q H2.length 6) (.I e) H3=some (undef,H4)/\
   ldN 11 (.Q H2.length 0) H4=some (plV (plE room more start e) ev wv nv,H4)/\
   lvl prog pkN m (.func 22) [plV (plE room more start e) ev wv nv] H4=some (.tuple #[pt a.fb,.int .u16 0],H5)/\
   cX H0 H5 O a F (plE room more start e) e' w' n' 0 (FS.p7 (bH (plE room more start e)))/\H0[H2.length]? =some (plB (plE room more start e) ev wv nv):=by
 obtain⟨H1,hH1⟩:=aD (H++[Blk.cells [Value.int .u8 0] 5 .row]);have e1:bV 5 1 1 [.int .u8 0] [(0,.int .u8 0)] H=some (.slice (some ⟨H.length,0,none⟩) 1 1,H1):=by rw[hH1];rfl
 have hu:Us H1 (.slice (some ⟨H.length,0,none⟩) 1 1) [0]:= .inr ⟨H.length,0,1,rfl,aS1 _,λ_=>⟨5,.row,[],[],rfl,λ_=>rfl,by rw[hH1,cD];rfl⟩⟩
 obtain⟨H2,ev,wv,nv,g2,x2,hp⟩:=aCQ hu (by simp) (by simp) room more start h2 h3 h4 (m:=m) U U
 obtain⟨q,hq⟩:=aD (qW [0] room more start);obtain⟨k,hk⟩:=aD (plE room more start e);have hqk:k={q with every:=e}:=by rw[hq,hk];rfl
 have hke:jA k=0:=by rw[hk];exact aSL he
 have hks:k.start=(start:Int):=by rw[hk];rfl
 rw[<-hk,<-hq];rw[<-hq] at g2 hp;have cp:=Fg hp H2;obtain⟨H3,hH3⟩:=aD (H2++[plB q ev wv nv]);rw[<-hH3] at cp;have b3:H3[H2.length]? =some (plB q ev wv nv):=by rw[hH3];exact cV _ _
 have x3:Ext H2 H3:=by rw[hH3];exact Fr.app _ _ _
 have st:stN 1 (.Q H2.length 6) (.I e) H3=some (undef,H3.set H2.length (plB k ev wv nv)):=Fh (q':=k) (ev':=ev) (wv':=wv) (nv':=nv) b3 rfl rfl aC (by rw[hqk];rfl)
 obtain⟨H4,hH4⟩:=aD (H3.set H2.length (plB k ev wv nv));rw[<-hH4] at st;have x4:Ext H2 H4:=by rw[hH4];exact jY x3 (aS1 _)
 have b4:H4[H2.length]? =some (plB k ev wv nv):=by rw[hH4,aS2 (b9 b3)]
 have p4:PV H4 k ev wv nv:=by
  have:=hp.ext x4;rw[hqk]
  exact⟨this.e,this.w,this.n,this.be,this.bw,this.bn⟩
 obtain⟨H5,u,g5,H0,O,a,F,e',w',n',rfl,xb,h5,_⟩:=aDA p4 hke (by rw[hks];omega) (m:=m) U U
 exact⟨H1,H2,H3,H4,H5,H0,ev,wv,nv,e',w',n',O,a,F,e1,g2,cp,st,fL b4,g5,h5,cR b4 xb⟩
theorem aEg:tQ (plE room more start e) pkT (FS.p7 (bH (plE room more start e)))=(0,sIn (bH (plE room more start e))):=by
 have hn:(plE room more start e).nodes=2:=tS;unfold tQ;rw[if_pos ⟨by decide,by rw[hn];decide⟩]
 have hl:(cP (plE room more start e) 0).lanes=1+more%3:=rfl;have hq:(cP (plE room more start e) 0).queue=(plE room more start e).queue.toNat:=rfl;have hq1:1<=(plE room more start e).queue:=by show(1:Int)<=((1+room/8%8:Nat):Int);omega
 have hi:pR (cP (plE room more start e) 0) pkT (NS.fH (cP (plE room more start e) 0))=(0,{NS.fH (cP (plE room more start e) 0) with hL:=[pkT]}):=by
  have hnn:((cP (plE room more start e) 0).nodes:Int)=2:=by
   show(((plE room more start e).nodes.toNat:Nat):Int)=2
   rw[hn];rfl
  unfold pR;rw[if_neg (by
   rw[hnn]
   show¬((0:Int)≠((0:Nat):Int)∨(1:Int)<0∨(2:Int)<=1∨(1:Int)=((0:Nat):Int))
   omega)]
  unfold pS;rw[if_neg (by rw[hl];show¬ ¬((0:Int)<=0/\(0:Int)<((1+more%3:Nat):Int));omega),if_neg (by rw[hq];show¬(0=(plE room more start e).queue.toNat);omega)]
  rfl
 show(let r:=pR (cP (plE room more start e) (0:Int).toNat) pkT (NS.fH (cP (plE room more start e) 0));(r.1,({FS.p7 (bH (plE room more start e)) with n:=up1 (FS.p7 (bH (plE room more start e))).n 0 r.2}:FS)))=_
 simp only[Int.toNat_zero];rw[hi];rfl
theorem It (h:cX H0 H O a F p ev wv nv t s)(ht:t<1000000)(hm:10000<m)(hm2:m<=72057594037927936)(hk:0<(aZ p).length)(hl:0<p.lanes.toNat){A:Acc}(hA:dM p s 0 0=A):
  ∃H1,lvl prog pkN m (.func 29) [pt a.fb,.I 0,.I 0] H=some (.tuple #[acV A,.bool true],H1)/\stN 5 (.Q H1.length 0) (acV A) (H1++[acB ac0])=some (undef,H1++[acB A])/\Ext H (H1++[acB A])/\ ∀i,¬O i H1.length:=by
 obtain⟨H1,g1,x1⟩:=S3 h ht (m:=m) hm hm2 hk hl;rw[hA] at g1;refine⟨H1,g1,?_,x1.tr (Fr.app _ _ _),λi hi=> ?_⟩
 ·rw[xR ac0 A (cD H1 _),gQ]
 ·have:=h.own.lt i _ hi
  have:=x1.1;omega
theorem aEe (G:aG):G++[Blk.cells [Value.int .i64 0,.int .i64 0,.int .i64 0,.int .i64 0,.int .i64 0] 46 .fix]=G++[acB ac0]:=rfl
theorem Ir {b:Nat}{A:Acc}(h:H[b]? =some (acB A)):ldN 5 (.Q b 0) H=some (acV A,H):=m9 h (aS1 5)
theorem Frz.tT {O':FP->Nat->Prop}(z:Frz O O' H H'){b:Nat}{x:Blk}(h:H[b]? =some x/\ ∀i,¬O i b):H'[b]? =some x/\ ∀i,¬O' i b:=by
 obtain⟨h1,h2⟩:=z.2 b (b9 h.1) h.2
 exact⟨h1.trans h.1,h2⟩
theorem aEf (x:Acc):bin prog .eql 46 (acV x) (acV x)=some (.bool true):=by
 have:=aDD x x;rw[aTG rfl] at this;exact this
end
section
variable {H : aG}
theorem aSN (room more start:Nat)(h2:room<256)(h3:more<256)(h4:start<65536):
  ∃H',lvl prog aW 18014398509481984 (.func 7) [.int .u8 room,.int .u8 more,.int .u16 start] H=some (.bool true,H')/\True:=by
 obtain⟨H1,H2,H3,H4,H5,H0,ev,wv,nv,e',w',n',O,a,F,g1,g2,g3,g4,g5,g6,k5,b0⟩:=aEh (e:=2) (.inl rfl) h2 h3 h4 H (m:=18014398509481984-1) U U
 obtain⟨R,hR⟩:=aD (1+room%8);obtain⟨p,hp⟩:=aD (plE room more start 2);have hT:Two (bH p) R start (1+more%3) 2:=by rw[hp,hR];exact Te λv hv=>(k5.node v (by rw[tS];exact hv)).ok
 have hAc: ∀s,dM p s 0 0=tR R 0 ((s.n 0).snd 1 0) ((s.n 1).rcv 1 0) (s.l 0):=λs=>by rw[hp,hR];exact aD6 s
 have hIn: ∀{s:FS},(∀v,v<2->(s.n v).hL=[]/\(s.n v).rL=[])->s.l 0=[]->s.l 1=[]->qX p s=0:=λh h0 h1=>by rw[hp];exact aEa h h0 h1
 have hj:tQ p pkT (FS.p7 (bH p))=(0,sIn (bH p)):=by rw[hp];exact aEg
 have hh:(aZ p).length=2:=by rw[hp,zX];rfl
 have hl:p.lanes.toNat=1+more%3:=by rw[hp];rfl
 have hnn:p.nodes.toNat=2:=by rw[hp,tS];rfl
 have hroom:p.room=(R:Int):=by rw[hp,hR];rfl
 rw[<-hp] at g5 g6 k5 b0;have E0:ext 0 (.tuple #[pt a.fb,.int .u16 0])=some (pt a.fb):=rfl;have E1:ext 1 (.tuple #[pt a.fb,.int .u16 0])=some (.int .u16 0):=rfl;have z0:((0:Int)!=0)=false:=rfl;have n2:=λa=>(tO 41 a (by kernel_rfl)).1
 have n3:=λa=>(tO 51 a (by kernel_rfl)).1
 have v2:mF p a 0=pt (a.lb 0):=by unfold mF;rw[if_pos U];rfl
 have k2:=tP k5 (m:=18014398509481984-1) U 0
 obtain⟨Hk,gk,xk⟩:=aEd (H:=H5) (18014398509481984-1) U U
 have bp:bld prog 31 [(0,.I 0),(1,.I 1)]=some pkT.cF:=rfl;obtain⟨H6,O6,F6,g7,k6,_⟩:=Sa (k5.dC xk) (m:=18014398509481984-1) U pkT aC
 rw[hj] at g7 k6;obtain⟨H7,O7,F7,g8,k7⟩:=Sc k6 U (by show(0:Nat)<1000000;omega) (m:=18014398509481984-1) U
 obtain⟨n0,n1,q0,q1,T1⟩:=aD2 hT (k6.node 0 U).inv aC
 have k3:=tP k7 (m:=18014398509481984-1) U 0
 rw[v2] at k2 k3;have hL:(iE (bH p) (sIn (bH p))).l 0=[byT start]:=T1.l0;obtain⟨u,H8,g9,f8,l8,_,_,_⟩:=Lk.aDu (pr:=pkN) (aQ rfl) (aQ rfl) (aQ rfl) (k7.link 0 U) (m:=18014398509481984-1) U 0 (by rw[hL];rfl)
 simp only[show((0:Nat):Int)=0 from rfl] at g9
 have k8:=k7.lk U l8 (Sd f8)
 obtain⟨s8,hs8⟩: ∃s8:FS,s8={iE (bH p) (sIn (bH p)) with l:=up1 (iE (bH p) (sIn (bH p))).l 0 (((iE (bH p) (sIn (bH p))).l 0).eraseIdx 0)}:=⟨_,rfl⟩;rw[<-hs8] at k8;have S8:St2 s8 ⟨start+1,start+R⟩ ⟨start,0⟩ ⟨start,start+R⟩ ⟨start,0⟩ 1:=by
  refine⟨?_,?_,?_,?_⟩
  ·rw[hs8]
   show Qn ((iE (bH p) (sIn (bH p))).n 0) _ _ _ _ _
   rw[T1.n0];exact q0
  ·rw[hs8]
   show Qn ((iE (bH p) (sIn (bH p))).n 1) _ _ _ _ _
   rw[T1.n1];exact q1
  ·rw[hs8]
   show up1 (iE (bH p) (sIn (bH p))).l 0 (((iE (bH p) (sIn (bH p))).l 0).eraseIdx 0) 0=_
   rw[o5,hL];rfl
  ·rw[hs8]
   show up1 (iE (bH p) (sIn (bH p))).l 0 (((iE (bH p) (sIn (bH p))).l 0).eraseIdx 0) 1=_
   rw[sO _ U]
   exact T1.l1
 obtain⟨S9,SA⟩:=aSz hT U h4 S8
 have A8:dM p s8 0 0=⟨((R-1:Nat):Int),0,0,0,1⟩:=by
  rw[hAc,S8.q0.snd,S8.q1.rcv,S8.l0];exact Ip (f:=0) (u:=R-1) (t:=0) (o:=1) rfl (by first|omega|(simp only;try omega)) (by first|omega|(simp only;try omega)) (by first|omega|(simp only;try omega)) U U
 have A9:dM p (dI (bH p) s8) 0 0=⟨((R-1:Nat):Int),1,0,0,0⟩:=by
  rw[hAc,S9.q0.snd,S9.q1.rcv,S9.l0];exact Ip (f:=0) (u:=R-1) (t:=1) (o:=0) rfl (by first|omega|(simp only;try omega)) (by first|omega|(simp only;try omega)) (by first|omega|(simp only;try omega)) U U
 have AA:dM p (dI (bH p) (dI (bH p) (dI (bH p) s8))) 0 0=⟨(R:Int),0,0,0,0⟩:=by
  rw[hAc,SA.q0.snd,SA.q1.rcv,SA.l0];exact Ip (f:=0) (u:=R) (t:=0) (o:=0) rfl (by first|omega|(simp only;try omega)) (by first|omega|(simp only;try omega)) (by first|omega|(simp only;try omega)) U U
 have hk8:s8.k=1:=by rw[hs8];exact T1.k
 obtain⟨Ha,ga,sa,xa,oa⟩:=It k8 U (m:=18014398509481984-1) U U U U A8
 have ba:(Ha++[acB ⟨((R-1:Nat):Int),0,0,0,1⟩])[Ha.length]? =some (acB ⟨((R-1:Nat):Int),0,0,0,1⟩)/\ ∀i,¬updI O7 (.lk 0) (O7 (.lk 0)) i Ha.length:=⟨cV _ _,oa⟩;obtain⟨Hb,Ob,Fb,gb,kb,zb⟩:=Ct (k8.dC xa) U (by rw[hk8];omega) (m:=18014398509481984-1) U
 have ba1:=zb.tT ba;obtain⟨Hc,gc,sc,xc,oc⟩:=It kb U (m:=18014398509481984-1) U U U U A9
 have ba2:=(Frz.ext Ob xc).tT ba1;have bc:(Hc++[acB ⟨((R-1:Nat):Int),1,0,0,0⟩])[Hc.length]? =some (acB ⟨((R-1:Nat):Int),1,0,0,0⟩)/\ ∀i,¬Ob i Hc.length:=⟨cV _ _,oc⟩;obtain⟨Hd,Od,Fd,gd,kd,zd⟩:=Ct (kb.dC xc) U (by rw[Io,hk8];omega) (m:=18014398509481984-1) U
 obtain⟨He,Oe,Fe,ge,ke,ze⟩:=Ct kd U (by rw[Io,Io,hk8];omega) (m:=18014398509481984-1) U
 have ba3:=ze.tT (zd.tT ba2);have bc3:=ze.tT (zd.tT bc);obtain⟨Hf,gf,sf,xf,of⟩:=It ke U (m:=18014398509481984-1) U U U U AA
 have kf:=ke.dC xf;have la:=Ir (cR ba3.1 xf);have lc:=Ir (cR bc3.1 xf);have lf:=Ir (cV Hf (acB ⟨(R:Int),0,0,0,0⟩));have lp:=cO (cR b0 kf.own.ext) 3 (.I p.room) rfl;rw[hroom] at lp;have e3:IntKind.i64.wrap ((R:Int)-1)=((R-1:Nat):Int):=by rw[bJ U U];omega
 have b1:bld prog 46 [(0,.I ((R-1:Nat):Int)),(4,.I 1)]=some (acV ⟨((R-1:Nat):Int),0,0,0,1⟩):=rfl;have b2:bld prog 46 [(0,.I ((R-1:Nat):Int)),(1,.I 1)]=some (acV ⟨((R-1:Nat):Int),1,0,0,0⟩):=rfl;have b3:bld prog 46 [(0,.I (R:Nat))]=some (acV ⟨(R:Int),0,0,0,0⟩):=rfl;obtain⟨Hg,gg,_⟩:=Ih kf U (m:=18014398509481984-1) U U
 rw[hIn (λv hv=>by
  rcases(by omega:v=0∨v=1) with rfl|rfl
  ·exact⟨SA.q0.hL,SA.q0.rL⟩
  ·exact⟨SA.q1.hL,SA.q1.rL⟩) SA.l0 SA.l1] at gg
 have z00:((0:Int)==0)=true:=rfl;have F1: ∀v,ext 1 (.tuple #[v,.bool true])=some (.bool true):=λ_=>rfl
 have F0: ∀v,ext 0 (.tuple #[v,.bool true])=some v:=λ_=>rfl
 refine iB (aQ rfl) U ⟨Hg,?_,trivial⟩
 rw[aR8];simp only[gsR,g1,g2,uV,g3,g4,g5,g6,E0,E1,z0,n2,k2,n3,gk,bp,g7,g8,k3,g9,F0,F1,ga,aEe,sa,gb,gc,sc,gd,ge,gf,sf,la,lp,dX,e3,b1,aEf,lc,b2,lf,b3,gg,z00]
end
section
variable {H0 H : aG} {O : FP → Nat → Prop} {a : FL} {F : Nat → Part → Nat → Prop} {p : PlanD} {ev wv nv e' w' n' : Value} {room more start m : Nat}
structure TwI (p:PlanD)(R start:Nat)(s:FS)(i:Nat):Prop where
 q0:Qn (s.n 0) [] [] ⟨start+1,start+R⟩ ⟨start,0⟩ 1
 q1:Qn (s.n 1) [] [] ⟨start,start+R⟩ ⟨start,0⟩ 1
 l0:s.l 0=List.replicate (i+1) (byT start)
 l1:s.l 1=[]
 k:s.k=1
theorem aSO (hp:p=plE room more start 8){R:Nat}(hR:R=1+room%8)(h4:start<65536){pb:Nat}(b0:H0[pb]? =some (plB p ev wv nv))(hm:100000<m)(hm2:m<=72057594037927936){times:Nat}(ht:times<256):
  ∀(q i l:Nat)(H:aG)(O:FP->Nat->Prop)(F:Nat->Part->Nat->Prop)(s:FS),times%20-i=q->i<=times%20->q<l->cX H0 H O a F p e' w' n' 100 s->TwI p R start s i-> ∃H2,aL l (aO prog (lvl prog pkN m) (aL m) S1) (S2 (lvl prog pkN m) (aL m)) (aF 3 (some (.int .u8 times)::aF 4 (some (.bool false)::some (.Q pb 0)::some (pt a.fb)::aF 1 (some (.I (i:Nat))::aF 77 [])))) H=some (.bool true,H2):=by
 have r1:=uU times 20 20 rfl U
 have hh:(aZ p).length=2:=by rw[hp,zX];rfl
 have hl:p.lanes.toNat=1+more%3:=by rw[hp];rfl
 have hnn:p.nodes.toNat=2:=by rw[hp,tS];rfl
 have hroom:p.room=(R:Int):=by rw[hp,hR];rfl
 intro q;induction q with
 |zero=>
  intro i l H O F s hq hi hl' h hI;intros;obtain⟨l,rfl⟩:=aB l U
  obtain rfl:i=times%20:=U
  have cv:=cvU H (times%20) U
  have e:decide (((times%20:Nat):Int)<((times%20:Nat):Int))=false:=by simp
  have hT:Two (bH p) R start (1+more%3) 8:=by rw[hp,hR];exact Te λv hv=>by rw[<-hp];exact(h.node v U).ok
  have hAc: ∀s,dM p s 0 0=tR R 0 ((s.n 0).snd 1 0) ((s.n 1).rcv 1 0) (s.l 0):=λs=>by rw[hp,hR];exact aD6 s
  have A1:dM p s 0 0=⟨((R-1:Nat):Int),0,1,0,0⟩:=by
   rw[hAc,hI.q0.snd,hI.q1.rcv,hI.l0];exact Ip (f:=1) (u:=R-1) (t:=0) (o:=0) (by rw[show p8 0 (⟨start,0⟩:Rcv).n (⟨start+1,start+R⟩:Snd).s (List.replicate (times%20+1) (byT start))=[start] from aSI h4 _];first|done|rfl) (by first|omega|(simp only;try omega)) (by first|omega|(simp only;try omega)) (by first|omega|(simp only;try omega)) U U
  have In1:qX p s=1:=by
   unfold qX;rw[hp,aEb λv hv=>by
    rcases(by omega:v=0∨v=1) with rfl|rfl
    ·exact⟨hI.q0.hL,hI.q0.rL⟩
    ·exact⟨hI.q1.hL,hI.q1.rL⟩,aD9 (n:=1) (by rw[<-hp,A1]) (λl hl=>by
    obtain⟨x,y,e⟩:=aD7 (plE room more start 8) s 0 l;rw[e,hI.l0,aSJ hl]
    rfl) λl=>Iq _ hI.l1 l]
   rfl
  obtain⟨Ha,ga,sa,xa,oa⟩:=It h U (m:=m) U U U U A1
  have ba:(Ha++[acB ⟨((R-1:Nat):Int),0,1,0,0⟩])[Ha.length]? =some (acB ⟨((R-1:Nat):Int),0,1,0,0⟩)/\ ∀i,¬O i Ha.length:=⟨cV _ _,oa⟩;obtain⟨Hb,gb,xb⟩:=Ih (h.dC xa) U (m:=m) U hm2
  rw[In1] at gb;have kb:=(h.dC xa).dC xb;have bb:=(Frz.ext O xb).tT ba;obtain⟨Hc,Oc,Fc,gc,kc,zc⟩:=Ct kb U (by rw[hI.k];omega) (m:=m) U
  obtain⟨Hd,Od,Fd,gd,kd,zd⟩:=Ct kc U (by rw[Io,hI.k];omega) (m:=m) U
  have bd:=zd.tT (zc.tT bb);obtain⟨t1,t2,t3,t4,t5,t6,t7⟩:=aSH hT h4 U hI.q0 hI.q1 hI.l0 hI.l1 (kc.node 1 U).inv
  have ld:=Ir bd.1;have lp:=cO (cR b0 kd.own.ext) 3 (.I p.room) rfl;rw[hroom] at lp;have e3:IntKind.i64.wrap ((R:Int)-1)=((R-1:Nat):Int):=by rw[bJ U U];omega
  have b1:bld prog 46 [(0,.I ((R-1:Nat):Int)),(2,.I 1)]=some (acV ⟨((R-1:Nat):Int),0,1,0,0⟩):=rfl;obtain⟨He,u,ge,xe,re,_⟩:=aRw kd U (m:=m) U 1
  have hgot:Ic p 1 (dI (bH p) (dI (bH p) s))=[pkT]:=by
   unfold Ic;rw[if_pos U]
   exact t5
  rw[hgot] at re;have hlu:=re.rs.fR;have In0:qX p (dI (bH p) (dI (bH p) s))=0:=by
   have:=aEa (room:=room) (more:=more) (start:=start) (e:=8) (s:=dI (bH p) (dI (bH p) s)) (λv hv=>by
    rcases(by omega:v=0∨v=1) with rfl|rfl
    ·exact⟨t1,t2⟩
    ·exact⟨t3,t4⟩) t6 t7
   rw[<-hp] at this;exact this
  obtain⟨Hf,gf,_⟩:=Ih (kd.dC xe) U (m:=m) U hm2
  rw[In0] at gf;have z11:((1:Int)==1)=true:=rfl;have z11':((([pkT]:List Pkt).length:Int)==1)=true:=rfl;have z00:((0:Int)==0)=true:=rfl;have F1: ∀v,ext 1 (.tuple #[v,.bool true])=some (.bool true):=λ_=>rfl
  have F0: ∀v,ext 0 (.tuple #[v,.bool true])=some v:=λ_=>rfl
  refine⟨Hf,?_⟩;rw[bS,aDO];simp only[gsR,r1,cv,e];rw[aR9];simp only[gsR,ga,F0,F1,aEe,sa,gb,gc,gd,ld,lp,dX,e3,b1,aEf,z11,ge,hlu,z11',gf,z00]
 |succ q ih=>
  intro i l H O F s hq hi hl' h hI;intros;obtain⟨l,rfl⟩:=aB l U
  have cv:=cvU H (times%20) U
  have e:decide ((i:Int)<((times%20:Nat):Int))=true:=aTG U
  have e3:=aA (i:=i) U
  have v2:mF p a 0=pt (a.lb 0):=by unfold mF;rw[if_pos U];rfl
  have k2:=tP h (m:=m) U 0
  rw[v2] at k2;have hbag:p.bag.toNat=64:=by rw[hp];rfl
  obtain⟨H1,g1,f1,l1⟩:=Lk.aRu (pr:=pkN) (aQ rfl) (aQ rfl) (aQ rfl) (aQ rfl) (h.link 0 U) (m:=m) U 0 (bs:=byT start) (by rw[hI.l0];rfl)
  simp only[show((0:Nat):Int)=0 from rfl] at g1
  have hlen:(s.l 0).length=i+1:=by rw[hI.l0,aTC]
  rw[hlen,hbag,aTG U] at g1
  have k1:=h.lk U l1 (Cu f1)
  rw[bS,aDO];simp only[gsR,r1,cv,e,k2,g1,aT,e3];refine ih (i+1) l H1 _ F _ U U U k1 ⟨hI.q0,hI.q1,?_,?_,hI.k⟩ ..
  ·show up1 s.l 0 (Lk.vL p.bag.toNat (s.l 0) (byT start)) 0=_
   rw[o5,Lk.vL,if_neg U,hI.l0,List.replicate_succ' (n:=i+1)]
  ·show up1 s.l 0 (Lk.vL p.bag.toNat (s.l 0) (byT start)) 1=_
   rw[sO _ U]
   exact hI.l1
theorem aSP (room more start times:Nat)(h2:room<256)(h3:more<256)(h4:start<65536)(h5:times<256):
  ∃H',lvl prog aW 18014398509481984 (.func 8) [.int .u8 room,.int .u8 more,.int .u16 start,.int .u8 times] H=some (.bool true,H')/\True:=by
 obtain⟨H1,H2,H3,H4,H5,H0,ev,wv,nv,e',w',n',O,a,F,g1,g2,g3,g4,g5,g6,k5,b0⟩:=aEh (e:=8) (.inr rfl) h2 h3 h4 H (m:=18014398509481984-1) U U
 obtain⟨R,hR⟩:=aD (1+room%8);obtain⟨p,hp⟩:=aD (plE room more start 8);have hT:Two (bH p) R start (1+more%3) 8:=by rw[hp,hR];exact Te λv hv=>(k5.node v (by rw[tS];exact hv)).ok
 have hj:tQ p pkT (FS.p7 (bH p))=(0,sIn (bH p)):=by rw[hp];exact aEg
 have hh:(aZ p).length=2:=by rw[hp,zX];rfl
 have hnn:p.nodes.toNat=2:=by rw[hp,tS];rfl
 rw[<-hp] at g5 g6 k5 b0;have E0:ext 0 (.tuple #[pt a.fb,.int .u16 0])=some (pt a.fb):=rfl;have E1:ext 1 (.tuple #[pt a.fb,.int .u16 0])=some (.int .u16 0):=rfl;have z0:((0:Int)!=0)=false:=rfl;have n2:=λa=>(tO 41 a (by kernel_rfl)).1
 have n3:=λa=>(tO 51 a (by kernel_rfl)).1
 have v2:mF p a 0=pt (a.lb 0):=by unfold mF;rw[if_pos U];rfl
 have k2:=tP k5 (m:=18014398509481984-1) U 0
 rw[v2] at k2;obtain⟨Hk,gk,xk⟩:=aEd (H:=H5) (18014398509481984-1) U U
 have bp:bld prog 31 [(0,.I 0),(1,.I 1)]=some pkT.cF:=rfl;obtain⟨H6,O6,F6,g7,k6,_⟩:=Sa (k5.dC xk) (m:=18014398509481984-1) U pkT aC
 rw[hj] at g7 k6;obtain⟨H7,O7,F7,g8,k7⟩:=Sc k6 U (by show(0:Nat)<1000000;omega) (m:=18014398509481984-1) U
 obtain⟨n0,n1,q0,q1,T1⟩:=aD2 hT (k6.node 0 U).inv aC
 refine iB (aQ rfl) U ?_
 rw[aSa];simp only[gsR,g1,g2,uV,g3,g4,g5,g6,E0,E1,z0,n2,k2,n3,gk,bp,g7,g8];obtain⟨H8,g9⟩:=aSO (e':=e') (w':=w') (n':=n') hp hR h4 b0 (m:=18014398509481984-1) U U h5 (times%20) 0 (18014398509481984-1) H7 O7 F7 _ U U U (k7.Ie U) ⟨by rw[T1.n0];exact q0,by rw[T1.n1];exact q1,T1.l0,T1.l1,T1.k⟩ ..
 exact⟨H8,g9,trivial⟩
end
end Go.Proofs.YtciiopkbmjppfaaGreatDoor
