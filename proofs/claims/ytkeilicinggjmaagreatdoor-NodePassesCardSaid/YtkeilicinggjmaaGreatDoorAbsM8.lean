/-
  PARTS OF THIS CLAIM'S PROOF, laid together by a program of mine.
-/
import Derived.Test.YtkeilicinggjmaaGreatDoorAbsM7
import Derived.Test.YtkeilicinggjmaaGreatDoorAbsM5
import Derived.Test.YtkeilicinggjmaaGreatDoorAbsM2
import Derived.Test.YtkeilicinggjmaaGreatDoorAbsM1
import Derived.Calls
import Derived.LoopN
import Derived.Orders
import Derived.Laws.Sem
import Derived.Laws.Tables
import Derived.Laws.Cells
import Derived.Laws.StructEq
import Derived.Laws.Append
import Derived.Laws.MakeOwn
import Derived.Laws.Slices
import Derived.Lib.UnsafeStr
import Derived.Laws.BytesString
import Derived.Laws.BytesArg
import Derived.Laws.Pointers
import Derived.Lib.SliceRun
import Derived.Laws.Cover3
import Derived.MapKept
import Derived.WideKeyRuns
import Derived.Scope
import Derived.ProofKit
import Derived.RowKit
import Derived.RowKit3
import Derived.ChangeSame
import Derived.OpenShut
import Derived.Deep.Slices
import Derived.SizedLaws
import Derived.Test.YtkeilicinggjmaaGreatDoorAbsM4
import Derived.Test.YtkeilicinggjmaaGreatDoorAbsM3
import Derived.Test.YtkeilicinggjmaaGreatDoorProg
import Derived.KernelRfl
import Derived.Sort.Grow
import Derived.Ground.NamesProg
import Derived.Shelf.Sort.Plain
import Derived.Shelf.Slices.In.SortNone
import Derived.Test.YtkeilicinggjmaaGreatDoorAbsM6
set_option linter.unusedVariables false
set_option linter.unusedSimpArgs false
set_option linter.unusedSectionVars false
namespace Go.Abs
structure PasC (c:Cfg):Prop where
 ok:c.ok
 lanes:c.lanes=1
 by':c.by'=[1]
 rounds:c.rounds=1
 me:c.me=0
 queue:c.queue=8
 every:c.every=8
 nodes:c.nodes=2
 port:c.port 1=1
theorem PasC.Ap {c:Cfg}(h:PasC c):c.aH=2:=by unfold Cfg.aH;rw[h.by'];rfl
def pkO (b:Int):Pkt:=⟨0,1,0,b⟩
def wO:iA:=(0,1,0)
theorem aBE {L:List Pkt}(h: ∀x∈L,x.lane=0):gP L 0=L:=by
 unfold gP;rw[List.filter_eq_self];intro x hx;exact aPD (h x hx)
theorem Qk (x:Pkt)(i o k:Nat):lU [(wO,x)] (i,o,k)=if i=0/\o=1/\k=0 then [x] else []:=by
 have e:(wO=((i:Int),(o:Int),(k:Int)))↔(i=0/\o=1/\k=0):=by
  unfold wO;rw[Prod.mk.injEq,Prod.mk.injEq];omega
 unfold lU;by_cases h:i=0/\o=1/\k=0
 ·rw[if_pos h]
  simp[e.mpr h]
 ·rw[if_neg h]
  have: ¬(wO=((i:Int),(o:Int),(k:Int))):=λhh=>h (e.mp hh)
  simp[this]
theorem aOA {c:Cfg}(hc:PasC c){s:NS}{b:Int}{L:List Pkt}(h1:s.hL=pkO b::L)(hL: ∀x∈L,x.lane=0)(h2:s.rL=[]):o5 c s={s with hL:=L,rL:=[(wO,pkO b)]}:=by
 have hR:=hc.ok.room;have hw:gP s.hL 0=pkO b::L:=by
  rw[h1];exact aBE (by
   intro x hx;rcases aPd.mp hx with rfl|hx
   ·rfl
   ·exact hL x hx)
 have hm:wM c s.rL 0=0:=by
  unfold wM nJ lU;rw[h2,hc.Ap];rfl
 unfold o5;rw[hc.lanes];show lA c s 0=_
 unfold lA;rw[if_neg (by omega)]
 simp only[Int.natCast_zero,hw];have hp:pU c s.rL (0,(c.port (pkO b).dst.toNat:Int),0) (pkO b)=[(wO,pkO b)]:=by
  have e:(c.port (pkO b).dst.toNat:Int)=1:=by show((c.port 1:Nat):Int)=1;rw[hc.port];rfl
  rw[e,h2];unfold pU;rw[hc.Ap,hc.lanes,if_pos ⟨by decide,by simp;omega⟩]
  rfl
 have hd:pT s.hL 0=L:=by
  rw[h1];unfold pT;rw[List.eraseP_cons_of_pos (by exact aPD rfl)]
 rw[hd,hp]
theorem aOz {c:Cfg}(hc:PasC c){s:NS}{x:Pkt}(h2:s.rL=[(wO,x)])(hu:0<(s.snd 1 0).nI):mD c s=λi o=>decide (i=0)&&decide (o=1):=by
 funext i o
 unfold mD;rw[hc.Ap,hc.lanes];have hr:(List.range 1).any (gM c s i o)=gM c s i o 0:=by simp[aPt]
 rw[hr];unfold gM nJ;rw[h2,Qk,hc.lanes];by_cases hi:i=0
 ·by_cases ho:o=1
  ·subst hi;subst ho
   simp[hu]
  ·simp[hi,ho]
 ·simp[hi]
theorem aOy (g a:List Nat)(hg:g.length=2)(ha:a.length=2)(hgl: ∀x∈g,x<2)(hal: ∀x∈a,x<2):(oI (λi o=>decide (i=0)&&decide (o=1)) 2 1 g a).m=[1, -1]:=by
 have key: ∀g0 g1 a0 a1:Fin 2,(oI (λi o=>decide (i=0)&&decide (o=1)) 2 1 [g0.val,g1.val] [a0.val,a1.val]).m=[1, -1]:=by decide+kernel
 match g,a,hg,ha with
 |[g0,g1],[a0,a1],_,_=>
  exact key ⟨g0,hgl _ (by simp)⟩ ⟨g1,hgl _ (by simp)⟩ ⟨a0,hal _ (by simp)⟩ ⟨a1,hal _ (by simp)⟩
theorem aOC {c:Cfg}(hc:PasC c){t:Nat}{s:NS}(hi:NInv c t s){b:Int}{L:List Pkt}(h1:s.hL=pkO b::L)(hL: ∀x∈L,x.lane=0)(h2:s.rL=[])(hu:0<(s.snd 1 0).nI)(hx:(s.ticks+1)%8≠0):
  (lB c s).1.hL=L/\(lB c s).1.rL=[]/\(lB c s).1.snd 1 0=(s.snd 1 0).mW.2/\(lB c s).1.ticks=s.ticks+1/\(lB c s).2=[rF c 1 ⟨1,0,(s.snd 1 0).mW.1%65536,0,1,b.toNat⟩]:=by
 have hw:c.weights.length=1:=by rw[hc.ok.wlen,hc.lanes]
 have hg:=hi.gl;have ha:=hi.al;have hgl:=hi.g;have hal:=hi.a;rw[hc.Ap] at hg ha hgl hal;unfold lB;simp only;rw[aOA hc h1 hL h2];have hq:=aOz hc (s:={s with hL:=L,rL:=[(wO,pkO b)]}) rfl hu;rw[hq,hc.Ap,hc.rounds,hc.every,if_neg hx];have hm:=aOy s.g s.a hg ha hgl hal;obtain⟨M,hM⟩: ∃M,M=oI (λi o=>decide (i=0)&&decide (o=1)) 2 1 s.g s.a:=⟨_,rfl⟩
 have e:(oI (λi o=>decide (i=0)&&decide (o=1)) 2 1 ({s with hL:=L,rL:=[(wO,pkO b)]}:NS).g ({s with hL:=L,rL:=[(wO,pkO b)]}:NS).a)=M:=hM.symm
 rw[<-hM] at hm;rw[e,hm];obtain⟨s1,hs1⟩: ∃s1:NS,s1={s with hL:=L,rL:=[(wO,pkO b)],g:=M.g,a:=M.a}:=⟨_,rfl⟩;have e2:({({s with hL:=L,rL:=[(wO,pkO b)]}:NS) with g:=M.g,a:=M.a}:NS)=s1:=hs1.symm;rw[e2];have hmv: ∀o:k8,rD c [1, -1] (List.range 2) (s1,o)=((o7 c s1 0 1).1,o++(o7 c s1 0 1).2):=λo=>rfl
 rw[hmv];have hany:oB (gM c s1 0 1) c.weights.length=true:=by
  rw[xY];refine⟨0,by omega,?_⟩
  have h9:nJ s1.rL 0 1 0=1:=by
   unfold nJ;rw[hs1]
   show(lU [(wO,pkO b)] ((0:Nat),(1:Nat),(0:Nat))).length=1
   rw[Qk,if_pos ⟨rfl,rfl,rfl⟩];rfl
  unfold gM;rw[h9,hc.lanes];have:s1.snd=s.snd:=by rw[hs1]
  rw[this];simp[hu]
 obtain⟨i,p1,p2,p3,p4⟩:=Um (s:=s1.whl 1) (λx hx=>by have:=hc.ok.wts x hx;omega) hany
 obtain rfl:i=0:=by omega
 obtain⟨w,hpk⟩: ∃w,kN c.weights (s1.whl 1) (gM c s1 0 1)=(some 0,w):=by
  unfold kN;rw[if_pos hany,p1]
  exact⟨_,rfl⟩
 have hqo:lU s1.rL ((0:Nat),(1:Nat),(0:Nat))=[pkO b]:=by
  rw[hs1];show lU [(wO,pkO b)] _=_
  rw[Qk,if_pos ⟨rfl,rfl,rfl⟩]
 have hpop:oM s1.rL ((0:Nat),(1:Nat),(0:Nat))=[]:=by
  rw[hs1];show List.eraseP _ [(wO,pkO b)]=[]
  rw[List.eraseP_cons_of_pos (by exact aPD rfl)]
 have hsn:s1.snd=s.snd:=by rw[hs1]
 have hhl:s1.hL=L:=by rw[hs1]
 unfold o7;rw[hpk];simp only[hqo,hpop,hsn,hhl,List.headD_cons,Nat.one_ne_zero,if_false,List.nil_append];refine⟨trivial,trivial,?_,trivial,?_⟩
 ·unfold up2
  rw[if_pos ⟨rfl,rfl⟩]
 ·rfl
structure PasQ (s:NS):Prop where
 way: ∀e∈s.rL,e.1=wO
 dst: ∀x∈s.hL,x.dst=1/\x.lane=0
 no:(s.snd 1 0).nI=0∨s.rL=[]/\s.hL=[]
theorem PasQ.aOx {c:Cfg}(hc:PasC c){s:NS}(h:PasQ s):PasQ (o5 c s)/\(o5 c s).snd=s.snd/\(o5 c s).ticks=s.ticks:=by
 unfold o5;rw[hc.lanes];show PasQ (lA c s 0)/\(lA c s 0).snd=s.snd/\(lA c s 0).ticks=s.ticks
 unfold lA;split
 ·exact⟨h,rfl,rfl⟩
 ·split
  ·exact⟨h,rfl,rfl⟩
  ·rename_i x l hw
   have hx:x∈s.hL:=(List.mem_filter.mp (show x∈gP s.hL 0 by simp only[Int.natCast_zero] at hw;rw[hw];exact aO3 ..)).1
   have hd:=h.dst x hx;refine⟨⟨?_,?_,?_⟩,rfl,rfl⟩
   ·intro e he
    have he2:e∈pU c s.rL (0,(c.port x.dst.toNat:Int),0) x:=he;have e1:(c.port x.dst.toNat:Int)=1:=by rw[hd.1];show((c.port 1:Nat):Int)=1;rw[hc.port];rfl
    rw[e1] at he2;unfold pU at he2
    split at he2
    ·rcases List.mem_append.mp he2 with h1|h1
     ·exact h.way e h1
     ·rw[List.mem_singleton] at h1
      rw[h1];rfl
    ·exact h.way e he2
   ·intro z hz
    exact h.dst z (List.mem_of_mem_eraseP hz)
   ·rcases h.no with h1|⟨_,h1⟩
    ·exact .inl h1
    ·rw[h1] at hx
     cases hx
theorem aOB {c:Cfg}(hc:PasC c){s:NS}(h:PasQ s)(hx:(s.ticks+1)%8≠0):PasQ (lB c s).1/\(lB c s).1.snd=s.snd/\(lB c s).1.ticks=s.ticks+1/\(lB c s).2=[]:=by
 obtain⟨f1,f2,f3⟩:=h.aOx hc;obtain⟨s1,hs1⟩: ∃s1,s1=o5 c s:=⟨_,rfl⟩;rw[<-hs1] at f1 f2 f3;have hq: ∀i o,mD c s1 i o=false:=λi o=>by
  unfold mD;rw[hc.lanes];have hr:(List.range 1).any (gM c s1 i o)=gM c s1 i o 0:=by simp[aPt]
  rw[hr];have:gM c s1 i o 0=false:=by
   unfold gM;by_cases hl:0<nJ s1.rL i o 0
   ·have hne:lU s1.rL ((i:Nat),(o:Nat),(0:Nat))≠[]:=List.ne_nil_of_length_pos hl
    obtain⟨x,hx⟩:=List.exists_mem_of_ne_nil _ hne;unfold lU at hx;obtain⟨e,he,_⟩:=aPx.mp hx;obtain⟨he1,he2⟩:=List.mem_filter.mp he;have hw:=f1.way e he1;have hw2:=of_decide_eq_true he2;rw[hw] at hw2;unfold wO at hw2;rw[Prod.mk.injEq,Prod.mk.injEq] at hw2;have hi:i=0:=by omega
    have ho:o=1:=by omega
    subst hi;subst ho;rcases f1.no with h1|⟨h1,_⟩
    ·simp[h1]
    ·rw[h1] at he1
     cases he1
   ·simp[hl]
  rw[this];simp
 unfold lB;simp only;rw[<-hs1,aBz (λi o _=>hq i o)]
 simp only;rw[Qh c c.aH _ _ λi hi=>aPy.mp hi,hc.every,if_neg hx]
 exact⟨⟨f1.way,f1.dst,f1.no⟩,f2,trivial,rfl⟩
end Go.Abs
set_option maxRecDepth 100000
namespace Go.Proofs.YtkeilicinggjmaaGreatDoor
open Go.Proofs.Tryz
open Go.Abs
open Classical
def yS (n:Nat):List Value:=[.int .u32 n]
theorem Ql (n:Nat):(yS n).length=1:=rfl
theorem aOH {a:Int}(h:(Lit.int .u32 a).wf=true): ∃n:Nat,a=n/\n<4294967296:=by
 have:=aN0 h
 exact⟨a.toNat,by omega,by omega⟩
theorem U3.aOF {G:aC}{n:Nat}{u:Value}(h:Rp prog G n 50 [u]): ∃next,Rs yS 37 G u next/\(∀x∈next,x<4294967296):=by
 obtain⟨m,u',b,rows,h1,h2,h3,h4,h5⟩:=h.S0 (e:=37) (by kernel_rfl)
 cases h1;have hc:prog.cellsOf 37=1:=by kernel_rfl
 rw[hc] at h2;have hr: ∀r∈rows,yS (tB r)=r/\tB r<4294967296:=λr hr=>by
  obtain⟨i,hi,hw⟩:=(h5 r hr).2.Sz (k:= .u32) (by kernel_rfl)
  obtain⟨k,rfl,hk⟩:=aOH hw;subst hi
  exact⟨rfl,by simpa[tB] using hk⟩
 have hm:(rows.map tB).map yS=rows:=by
  rw[List.map_map]
  conv=>rhs;rw[<-List.map_id rows]
  exact List.map_congr_left λr hr'=>(hr r hr').1
 refine⟨rows.map tB,?_,λx hx=> ?_⟩
 ·rw[<-hm] at h2
  rcases h4 with rfl|⟨c,rfl⟩
  ·have h0:rows=[]:=by
    have:=h2.len;have hl:bM (Value.slice none 0 0)=some (.int .i64 0):=rfl;rw[hl,hm] at this;simp at this;exact aPc.mp (by omega)
   subst h0;exact .inl ⟨rfl,rfl⟩
  ·exact h2.rs Ql (c:=c) (.inr (by rw[aO8]))
 ·obtain⟨r,hr1,rfl⟩:=aPx.mp hx
  exact(hr r hr1).2
theorem ck8 {p:PlanD}(h:kY p=true):kY {p with every:=8}=true:=by
 unfold kY uW at*;simp only[aO2] at*;obtain⟨h1,h2⟩:=h;refine⟨?_,h2⟩
 simp_all
 rfl
def plP (room start:Nat):PlanD:={tH [0] (56+room%8) 0 start with every:=8}
theorem aON (room start:Nat):mI (plP room start)=0:=by
 obtain⟨hr,ht1⟩:=P0 [0]
 exact(X3 (p:={mkP 0 (56+room%8) 0 start [] with every:=8}) (ck8 (Ld 0 _ 0 start [])) (Mk hr ht1)).1
theorem aOJ (room start:Nat)(hok:(iJ (plP room start) 0).ok):PasC (iJ (plP room start) 0) where
 ok:=hok
 lanes:=rfl
 by':=by
  show(bes (uY (ofT [0])) ((0:Nat):Int)).map Int.toNat=[1]
  decide+kernel
 rounds:=rfl
 me:=rfl
 queue:=by
  show(((1+(56+room%8)/8%8:Nat):Int)).toNat=8
  omega
 every:=rfl
 nodes:=by
  show(((ofT [0]).length+1:Nat):Int).toNat=2
  decide+kernel
 port:=by
  show(if 1=0 then 0 else match ((bes (uY (ofT [0])) ((0:Nat):Int)).map Int.toNat).findIdx? λw:Nat=>decide ((w:Int)=nx (plP room start) 0 1) with
   |some j=>j+1
   |none=>0)=1
  have e1:(bes (uY (ofT [0])) ((0:Nat):Int)).map Int.toNat=[1]:=by decide+kernel
  have e2:nx (plP room start) 0 1=1:=by
   show nx (qK (mkP 0 0 0 0 []) (ofT [0])) 0 1=1
   decide+kernel
  rw[e1,e2];rfl
def inS (c:Cfg)(B:List Nat):NS:={NS.jB c with hL:=B.map λb:Nat=>pkO b}
theorem aOG {c:Cfg}(hc:PasC c)(B:List Nat)(b:Nat)(h:B.length<8):o6 c (pkO b) (inS c B)=(0,inS c (B++[b])):=by
 have hw:gP (B.map λb:Nat=>pkO b) 0=B.map λb:Nat=>pkO b:=aBE (λx hx=>by
  obtain⟨z,_,rfl⟩:=aPx.mp (show x∈B.map λb:Nat=>pkO b from hx)
  rfl)
 unfold o6 rE;rw[if_neg (by rw[hc.me,hc.nodes];show¬((0:Int)≠0∨(1:Int)<0∨(2:Int)<=1∨(1:Int)=0);omega),if_neg (by rw[hc.lanes];show¬ ¬((0:Int)<=0/\(0:Int)<1);omega)]
 show(if(gP (B.map λb:Nat=>pkO b) 0).length=c.queue then _ else _)=_
 rw[hw,aO8,hc.queue,if_neg (by omega)]
 show(0,{inS c B with hL:=(B.map λb:Nat=>pkO b)++[pkO b]})=_
 unfold inS;simp
def PasI (c:Cfg)(B:List Nat)(t k:Nat)(s:NS):Prop:=
 s.ticks=t/\s.snd 1 0=⟨c.start+k,c.start+c.room⟩/\
  ((t<min B.length c.room/\k=t/\s.hL=((B.drop t).map λb:Nat=>pkO b)/\s.rL=[])∨(min B.length c.room<=t/\k=min B.length c.room/\PasQ s))
theorem PasI.aBF {c:Cfg}{B:List Nat}{t:Nat}{s:NS}(h1:s.ticks=t)(h2:s.snd 1 0=⟨c.start+t,c.start+c.room⟩)(ht:t<=min B.length c.room)(h3:s.hL=((B.drop t).map λb:Nat=>pkO b))(h4:s.rL=[]):PasI c B t t s:=by
 refine⟨h1,h2,?_⟩;by_cases hl:t<min B.length c.room
 ·exact .inl ⟨hl,rfl,h3,h4⟩
 ·refine .inr ⟨by omega,by omega,⟨λe he=>(by rw[h4] at he;cases he),λx hx=> ?_,?_⟩⟩
  ·rw[h3] at hx
   obtain⟨z,_,rfl⟩:=aPx.mp hx
   exact⟨rfl,rfl⟩
  ·by_cases hb:t=B.length
   ·exact .inr ⟨h4,by rw[h3,hb,List.drop_length];rfl⟩
   ·refine .inl ?_
    rw[h2];unfold Snd.nI;simp only;omega
theorem PasI.aOD {c:Cfg}(hc:PasC c){B:List Nat}{t n:Nat}{s:NS}(hi:NInv c n s)(h:PasI c B t t s)(ht:t<min B.length c.room)(h7:t<7): ∃b,B[t]? =some b/\(lB c s).2=[rF c 1 ⟨1,0,(c.start+t)%65536,0,1,b⟩]/\PasI c B (t+1) (t+1) (lB c s).1:=by
 obtain⟨h1,h2,h3|h3⟩:=h
 ·obtain⟨_,_,h4,h5⟩:=h3
  have hlt:t<B.length:=by omega
  have hd:B.drop t=B[t]::B.drop (t+1):=List.drop_eq_getElem_cons hlt;rw[hd,aPp] at h4;have hu:(s.snd 1 0).nI=c.room-t:=by rw[h2];unfold Snd.nI;simp only;omega
  obtain⟨q1,q2,q3,q4,q5⟩:=aOC hc hi h4 (λx hx=>by
   obtain⟨z,_,rfl⟩:=aPx.mp hx
   rfl) h5 (by omega) (by omega)
  have hn:(s.snd 1 0).mW=(c.start+t,⟨c.start+t+1,c.start+c.room⟩):=by
   rw[h2];unfold Snd.mW;rw[if_neg (by simp only;omega)]
  rw[hn] at q3 q5
  exact⟨B[t],aOW hlt,q5,PasI.aBF (by omega) q3 (by omega) q1 q2⟩
 ·omega
theorem PasI.aOE {c:Cfg}(hc:PasC c){B:List Nat}{t k:Nat}{s:NS}(h:PasI c B t k s)(ht:min B.length c.room<=t)(h7:t<7):k=min B.length c.room/\(lB c s).2=[]/\PasI c B (t+1) k (lB c s).1:=by
 obtain⟨h1,h2,h3|h3⟩:=h
 ·omega
 ·obtain⟨_,h4,h5⟩:=h3
  obtain⟨q1,q2,q3,q4⟩:=aOB hc h5 (by omega)
  exact⟨h4,q4,by omega,by rw[q2];exact h2,.inr ⟨by omega,h4,q1⟩⟩
section
variable {m : Nat} {H0 Hb H : aC} {y : Lay} {p : PlanD} {ev wv nv : Value} {c : Cfg}
theorem aOK {pb start k:Nat}{F:Part->Nat->Prop}{s:NS}{t0:Nat}(hc:PasC c)(h:NodeAt H0 H F y p ev wv nv c t0 s)(hst:c.start=start)(hs:start<65536)(hk:k<=8)(hm:100<m)(ht0:t0<1000)(hsn:s.snd 1 0=⟨c.start+k,c.start+c.room⟩):
  ∀(x0 x2 x3 x4 x5 x6 x7 x9 bN bC aO aP aM aS bI aN bG bJ bL bH bE aT aU aV aW aX aY aZ bA bB bO bP bQ bR bS bT bU bV bX bY cD cG cH cK cQ cS cT cM cN cO cP cW cU cV cY dA dC dB dD dN dO dR dS dT dU dV dW dX eG eH eI eJ eK eL eM eN eO eP eQ eS eX eY eZ fA fB fC fD fE fJ fK fL fM fN fO fP fQ fR fS fT fU fV fW fX fY fZ gA gB gC gD gE gF gG gH:Value),∃H2,P8 (lvl prog pkN m) (aI m) x0 (.int .u16 start) x2 x3 x4 x5 x6 x7 (pt y.nb) x9 (.int .i64 (k:Nat)) bN bC aO aP aM aS bI aN bG bJ bL bH bE aT aU aV aW aX aY aZ bA bB bO bP bQ bR bS bT bU bV bX bY cD cG cH cK cQ cS cT cM cN cO cP cW cU cV cY dA dC dB dD dN dO dR dS dT dU dV dW dX eG eH eI eJ eK eL eM eN eO eP eQ eS eX eY eZ fA fB fC fD fE fJ fK fL fM fN fO fP fQ fR fS fT fU fV fW fX fY fZ gA gB gC gD gE gF gG gH H=some (.bool true,H2):=by
 intros;have hp2:=hc.Ap;have hl1:=hc.lanes;obtain⟨H1,g1,x1⟩:=aAS h (m:=m) (by omega) (i:=1) (k:=0) (by omega) (by omega) (by omega)
 have h1:=h.hP x1;have g2:=Y7 (m:=m) (by omega) (h1.Cm (i:=1) (k:=0) (by omega) (by omega) (by omega))
 rw[hsn] at g2;simp only[hst] at g2;have u1:prog.underlying 3=some (.int .i64):=by kernel_rfl
 have u2:prog.underlying 23=some (.int .u16):=by kernel_rfl
 have u3:prog.underlying 55=some (.int .u64):=by kernel_rfl
 have w64: ∀n:Nat,n<18446744073709551616->IntKind.u64.wrap (n:Int)=n:=λn hn=>by simp[IntKind.wrap,IntKind.bits,IntKind.signed];omega
 have c1: ∀G,cI prog 23 55 (.int .u16 (start:Nat)) G=some (.int .u64 (start:Nat),G):=λG=>by rw[fF _ _ u2 u3,w64 _ (by omega)]
 have c2: ∀G,cI prog 3 55 (.int .i64 (k:Nat)) G=some (.int .u64 (k:Nat),G):=λG=>by rw[fF _ _ u1 u3,w64 _ (by omega)]
 have ha:bin prog .add 55 (.int .u64 (start:Nat)) (.int .u64 (k:Nat))=some (.int .u64 (start+k:Nat)):=by
  rw[cC,show((start:Int)+(k:Int))=((start+k:Nat):Int) from by omega,w64 _ (by omega)]
 have z:(((start+k:Nat):Int)==((start+k:Nat):Int))=true:=by rw[beq_iff_eq]
 simp only[show((1:Nat):Int)=1 from rfl,show((0:Nat):Int)=0 from rfl] at g1
 unfold P8;simp -implicitDefEqProofs only[gsR,g1,g2,c1,c2,ha,z]
 exact⟨_,rfl⟩
theorem aOM {pb start:Nat}{bv:Value}{B:List Nat}(hc:PasC c)(bp:H0[pb]? =some (plB p ev wv nv))(hB:Rs yS 37 H0 bv B)(hB8:B.length<=8)(hB3: ∀x∈B,x<4294967296)(hst:c.start=start)(hs:start<65536)(hroom:p.room=(c.room:Int))(hm:1000<m):
  ∀(q t k l t0:Nat)(H:aC)(F:Part->Nat->Prop)(s:NS),7-t=q->t<=7->q<l->t0<=7*t->PasI c B t k s->NodeAt H0 H F y p ev wv nv c t0 s-> ∀(x0 x3 x4 x5 x9 bC aO aP aM aS bI aN bG bJ bL bH bE aT aU aV aW aX aY aZ bA bB bO bP bQ bR bS bT bU bV bX bY cD cG cH cK cQ cS cT cM cN cO cP cW cU cV cY dA dC dB dD dN dO dR dS dT dU dV dW dX eG eH eI eJ eK eL eM eN eO eP eQ eS eX eY eZ fA fB fC fD fE fJ fK fL fM fN fO fP fQ fR fS fT fU fV fW fX fY fZ gA gB gC gD gE gF gG gH:Value),
  ∃H2,aI l (aK prog (lvl prog pkN m) (aI m) P7) (Qa (lvl prog pkN m) (aI m)) [x0,(.int .u16 start),bv,x3,x4,x5,(.bool false),(.pointer (some ⟨pb,0,none⟩)),(pt y.nb),x9,(.int .i64 (k:Nat)),(.int .i64 (t:Nat)),bC,aO,aP,aM,aS,bI,aN,bG,bJ,bL,bH,bE,aT,aU,aV,aW,aX,aY,aZ,bA,bB,bO,bP,bQ,bR,bS,bT,bU,bV,bX,bY,cD,cG,cH,cK,cQ,cS,cT,cM,cN,cO,cP,cW,cU,cV,cY,dA,dC,dB,dD,dN,dO,dR,dS,dT,dU,dV,dW,dX,eG,eH,eI,eJ,eK,eL,eM,eN,eO,eP,eQ,eS,eX,eY,eZ,fA,fB,fC,fD,fE,fJ,fK,fL,fM,fN,fO,fP,fQ,fR,fS,fT,fU,fV,fW,fX,fY,fZ,gA,gB,gC,gD,gE,gF,gG,gH] H=some (.bool true,H2):=by
 have hR:=hc.ok.room;have hlb:bM bv=some (.int .i64 B.length):=hB.gO;intro q;induction q with
 |zero=>
  intro t k l t0 H F s hq ht hl ht0 hI h;intros;obtain⟨l,rfl⟩:=aB l (by omega)
  obtain rfl:t=7:=by omega
  have e:decide (((7:Nat):Int)<7)=false:=rfl;have hk8:k<=8:=by
   obtain⟨_,_,h3|h3⟩:=hI<;>omega
  rw[dY,aBl];simp -implicitDefEqProofs only[gsR,e];rw[aNX];exact aOK (pb:=pb) hc h hst hs hk8 (by omega) (by omega) hI.2.1 ..
 |succ q ih=>
  intro t k l t0 H F s hq ht hl ht0 hI h;intros;obtain⟨l,rfl⟩:=aB l (by omega)
  have e:decide ((t:Int)<7)=true:=aPD (by omega)
  have e3:=aA (i:=t) (by omega)
  obtain⟨H1,F1,v,us,g1,h1,m1,o1⟩:=G9 h (by omega) (m:=m) (by omega)
  have l3:ld1 (.pointer (some ⟨pb,3,none⟩)) H1=some (.int .i64 (c.room:Nat),H1):=by rw[eU (hZ bp h1.ext) 3 (.int .i64 p.room) rfl,hroom]
  have hmin:lN prog false [.int .i64 (B.length:Nat),.int .i64 (c.room:Nat)]=some (.int .i64 (min B.length c.room:Nat)):=by
   rw[V6]
   congr 2
   omega
  have hlv:bM v=some (.int .i64 us.length):=o1.rw_.rs.gO;rw[dY,aBl];by_cases hg:t<min B.length c.room
  ·obtain rfl:k=t:=by
    obtain⟨_,_,h3|h3⟩:=hI<;>omega
   obtain⟨b,hb,ho,hI'⟩:=hI.aOD hc h.inv hg (by omega)
   rw[ho] at o1;have hul:us.length=1:=o1.len;rw[hul] at hlv;obtain⟨u,hu⟩: ∃u,us[0]? =some u:=⟨_,aOW (by omega)⟩
   obtain⟨w1,w2,w3⟩:=o1.at_ 0 u _ hu rfl;obtain⟨f,hf⟩: ∃f:Frm,f=⟨1,0,(c.start+k)%65536,0,1,b⟩:=⟨_,rfl⟩;have hb3:=hB3 b (aO4 hb);have hfo:f.ok:=by rw[hf];exact⟨by show 1<256;omega,by show 0<256;omega,by show _%65536<65536;omega,by show 0<256;omega,by show 1<256;omega,hb3⟩
   have hfs:dK f=true:=by rw[hf];unfold dK;simp
   have hby:(rF c 1 ⟨1,0,(c.start+k)%65536,0,1,b⟩).2=kP f:=by rw[hf] at hfs ⊢; exact aBp hfs
   rw[hby] at w2;obtain⟨bo,oo,i1,i2,i3⟩:=o1.rw_.rs.iG Gy (i:=0) (x:=u) hu .i64;obtain⟨j1,j2,j3⟩:=i3 H1 rfl;have t1:=j2 1 _ rfl;rw[(Pm w2).1] at t1;obtain⟨H2,g2,x2⟩:=aBC (m:=m) (by omega) w2.rs
   have hd:qN (kP f)= .tuple #[frV f,.int .i64 0]:=by
    unfold qN;rw[<-N5,aBo hfo hfs]
   rw[hd] at g2;have st:=aBD f H2;obtain⟨H3,hH3⟩: ∃H3,H3=H2++[frB f]:=⟨_,rfl⟩;rw[<-hH3] at st;have x3:Ext H2 H3:=by rw[hH3];exact Fr.app _ _ _
   have b3:H3[H2.length]? =some (frB f):=by rw[hH3];exact gZ _ _
   have zf:Blk.cells [Value.int .u8 0,.int .u8 0,.int .u16 0,.int .u8 0,.int .u8 0,.int .u32 0] 39 .fix=frB Frm.iI:=rfl;obtain⟨f0,f1,f2,f3,f4,f5,f6⟩:=kQ b3;have hfb:f.body=b:=by rw[hf]
   have hfq:f.seq=(start+k)%65536:=by rw[hf,<-hst]
   have hf3:f.src=0:=by rw[hf]
   have hf4:f.dst=1:=by rw[hf]
   rw[hfb] at f5;rw[hfq] at f2;rw[hf3] at f3;rw[hf4] at f4;have h3:=(h1.hP x2).hP x3;obtain⟨bb,ob,a1,a2,a3⟩:=(hB.ext h3.ext).iG Ql (i:=k) hb .i64;obtain⟨y1,y2,y3⟩:=a3 H3 rfl;have t5:ld1 (.pointer (some ⟨bb,ob,none⟩)) H3=some (.int .u32 b,H3):=y2 0 _ rfl;have u1:prog.underlying 3=some (.int .i64):=by kernel_rfl
   have u2:prog.underlying 23=some (.int .u16):=by kernel_rfl
   have ck: ∀G,cI prog 3 23 (.int .i64 (k:Nat)) G=some (.int .u16 (k:Nat),G):=λG=>by rw[fF _ _ u1 u2,Lb (by omega)]
   have ha:bin prog .add 23 (.int .u16 (start:Nat)) (.int .u16 (k:Nat))=some (.int .u16 ((start+k)%65536:Nat)):=by
    rw[cC]
    congr 2
    all_goals simp[IntKind.wrap,IntKind.bits,IntKind.signed]
   have d1:decide ((k:Int)<(min B.length c.room:Nat))=true:=aPD (by omega)
   have z1:(((1:Nat):Int)!=1)=false:=rfl;have z0:((0:Int)!=0)=false:=rfl;have z00:(((0:Nat):Int)!=0)=false:=rfl;have zb:((b:Int)!=(b:Int))=false:=by simp
   have zs:((((start+k)%65536:Nat):Int)!=(((start+k)%65536:Nat):Int))=false:=by simp
   simp only[show((0:Nat):Int)=0 from rfl] at i1
   simp -implicitDefEqProofs only[gsR,e,g1,hlb,l3,hmin,d1,hlv,z1,i1,t1,g2,zf,st,z0,f5,a1,t5,zb,f2,ck,ha,zs,f3,z00,f4,cC,e3];exact ih (k+1) (k+1) l (t0+7) H3 F1 _ (by omega) (by omega) (by omega) (by omega) hI' h3 ..
  ·obtain⟨hk,ho,hI'⟩:=hI.aOE hc (by omega) (by omega)
   rw[ho] at o1;have hul:us.length=0:=o1.len;rw[hul] at hlv;have d1:decide ((k:Int)<(min B.length c.room:Nat))=false:=aPE (by omega)
   have d2:decide ((0:Int)<((0:Nat):Int))=false:=rfl;simp -implicitDefEqProofs only[gsR,e,g1,hlb,l3,hmin,d1,hlv,d2,cC,e3];exact ih (t+1) k l (t0+7) H1 F1 _ (by omega) (by omega) (by omega) (by omega) hI' h1 ..
theorem aOL {pb start:Nat}{bv:Value}{B:List Nat}(hc:PasC c)(bp:H0[pb]? =some (plB p ev wv nv))(hB:Rs yS 37 H0 bv B)(hB8:B.length<=8)(hB3: ∀x∈B,x<4294967296)(hst:c.start=start)(hs:start<65536)(hroom:p.room=(c.room:Int))(hm:1000<m):
  ∀(q i l:Nat)(H:aC)(F:Part->Nat->Prop),B.length-i=q->i<=B.length->q<l->NodeAt H0 H F y p ev wv nv c 0 (inS c (B.take i))-> ∀(x0 x3 x4 x5 bK bN bC aO aP aM aS bI aN bG bJ bL bH bE aT aU aV aW aX aY aZ bA bB bO bP bQ bR bS bT bU bV bX bY cD cG cH cK cQ cS cT cM cN cO cP cW cU cV cY dA dC dB dD dN dO dR dS dT dU dV dW dX eG eH eI eJ eK eL eM eN eO eP eQ eS eX eY eZ fA fB fC fD fE fJ fK fL fM fN fO fP fQ fR fS fT fU fV fW fX fY fZ gA gB gC gD gE gF gG gH:Value),
  ∃H2,aI l (aK prog (lvl prog pkN m) (aI m) P6) (P9 (lvl prog pkN m) (aI m)) [x0,(.int .u16 start),bv,x3,x4,x5,(.bool false),(.pointer (some ⟨pb,0,none⟩)),(pt y.nb),(.int .i64 (i:Nat)),bK,bN,bC,aO,aP,aM,aS,bI,aN,bG,bJ,bL,bH,bE,aT,aU,aV,aW,aX,aY,aZ,bA,bB,bO,bP,bQ,bR,bS,bT,bU,bV,bX,bY,cD,cG,cH,cK,cQ,cS,cT,cM,cN,cO,cP,cW,cU,cV,cY,dA,dC,dB,dD,dN,dO,dR,dS,dT,dU,dV,dW,dX,eG,eH,eI,eJ,eK,eL,eM,eN,eO,eP,eQ,eS,eX,eY,eZ,fA,fB,fC,fD,fE,fJ,fK,fL,fM,fN,fO,fP,fQ,fR,fS,fT,fU,fV,fW,fX,fY,fZ,gA,gB,gC,gD,gE,gF,gG,gH] H=some (.bool true,H2):=by
 have hlb:bM bv=some (.int .i64 B.length):=hB.gO;intro q;induction q with
 |zero=>
  intro i l H F hq hi hl h;intros;obtain⟨l,rfl⟩:=aB l (by omega)
  obtain rfl:i=B.length:=by omega
  have e:decide ((B.length:Int)<B.length)=false:=by simp
  rw[List.take_of_length_le (aOZ _)] at h;rw[dY,aBk];simp -implicitDefEqProofs only[gsR,hlb,e];rw[aNW];exact aOM hc bp hB hB8 hB3 hst hs hroom hm 7 0 0 m 0 H F _ (by omega) (by omega) (by omega) (by omega) (PasI.aBF rfl rfl (by omega) rfl rfl) h ..
 |succ q ih=>
  intro i l H F hq hi hl h;intros;obtain⟨l,rfl⟩:=aB l (by omega)
  have e:decide ((i:Int)<B.length)=true:=by simp;omega
  have e3:=aA (i:=i) (by omega)
  obtain⟨b,hb⟩: ∃b,B[i]? =some b:=⟨_,aOW (by omega)⟩
  have hb3:=hB3 b (aO4 hb);obtain⟨bb,ob,a1,a2,a3⟩:=(hB.ext h.ext).iG Ql (i:=i) hb .i64;obtain⟨y1,y2,y3⟩:=a3 H rfl;have t5:ld1 (.pointer (some ⟨bb,ob,none⟩)) H=some (.int .u32 b,H):=y2 0 _ rfl;have hbl:bld prog 54 [(0,.int .i64 0),(1,.int .i64 1),(3,.int .u32 b)]=some (pkO b).dM:=rfl;obtain⟨H1,F1,g1,h1,m1⟩:=Pi h (m:=m) (by omega) (pkO b) ⟨by show(0:Int)<=(b:Int);omega,by show(b:Int)<4294967296;omega⟩
  rw[aOG hc _ _ (by rw[List.length_take];omega),<-aOf hb] at g1 h1
  simp only[show((0:Nat):Int)=0 from rfl] at g1
  have z0:((0:Int)!=0)=false:=rfl;rw[dY,aBk];simp -implicitDefEqProofs only[gsR,hlb,e,a1,t5,hbl,g1,z0,cC,e3];exact ih (i+1) l H1 F1 (by omega) (by omega) (by omega) h1 ..
theorem aOI {bv:Value}{B:List Nat}(hB:Rs yS 37 H bv B)(hB3: ∀x∈B,x<4294967296)(room start:Nat)(h2:room<256)(h6:start<65536):
  ∃H',lvl prog cF 18014398509481984 (.func 5) [.int .u8 room,.int .u16 start,bv] H=some (.bool true,H')/\True:=by
 have hlb:bM bv=some (.int .i64 B.length):=hB.gO;obtain⟨Hk,gk,xk⟩:=aBm (H:=H) (18014398509481984-1) (by omega) (by omega)
 refine lK (cL rfl) (by omega) ?_
 rw[aNY];by_cases hb8:8<B.length
 ·have d1:decide ((8:Int)<(B.length:Nat))=true:=aPD (by omega)
  simp -implicitDefEqProofs only[gsR,hlb,d1,gk]
  exact⟨_,rfl,trivial⟩
 ·have d1:decide ((8:Int)<(B.length:Nat))=false:=aPE (by omega)
  obtain⟨H1,hH1⟩: ∃H1,H1=Hk++[Blk.cells [Value.int .u8 0] 5 .row]:=⟨_,rfl⟩;have x1:Ext Hk H1:=by rw[hH1];exact Fr.app _ _ _
  have e1:dL 5 1 1 [.int .u8 0] [(0,.int .u8 0)] Hk=some (.slice (some ⟨Hk.length,0,none⟩) 1 1,H1):=by rw[hH1];rfl
  have hu:Us H1 (.slice (some ⟨Hk.length,0,none⟩) 1 1) [0]:= .inr ⟨Hk.length,0,1,rfl,aOZ _,λ_=>⟨5,.row,[],[],rfl,λ_=>rfl,by rw[hH1,dJ];rfl⟩⟩
  have r1:=uX room 8 8 rfl (by omega)
  have r2:bin prog .add 5 (.int .u8 56) (.int .u8 (room%8:Nat))=some (.int .u8 (56+room%8:Nat)):=by
   rw[cC,show((56:Int)+((room%8:Nat):Int))=((56+room%8:Nat):Int) from by omega,We (by omega)]
  obtain⟨H2,ev,wv,nv,g2,x2,hp⟩:=P1 hu (by simp) (by simp) (56+room%8) 0 start (by omega) (by omega) h6 (m:=18014398509481984-1) (by omega) (by omega)
  simp only[show((0:Nat):Int)=0 from rfl] at g2
  obtain⟨q,hq⟩: ∃q,q=tH [0] (56+room%8) 0 start:=⟨_,rfl⟩;have hqk:plP room start={q with every:=8}:=by rw[hq];rfl
  rw[<-hq] at g2 hp;have cp:=E3 hp H2;obtain⟨H3,hH3⟩: ∃H3,H3=H2++[plB q ev wv nv]:=⟨_,rfl⟩;rw[<-hH3] at cp;have b3:H3[H2.length]? =some (plB q ev wv nv):=by rw[hH3];exact gZ _ _
  have x3:Ext H2 H3:=by rw[hH3];exact Fr.app _ _ _
  obtain⟨k,hk⟩: ∃k,k=plP room start:=⟨_,rfl⟩;rw[<-hk] at hqk;have st:stN 1 (.pointer (some ⟨H2.length,6,none⟩)) (.int .i64 8) H3=some (undef,H3.set H2.length (plB k ev wv nv)):=Bv (q':=k) (ev':=ev) (wv':=wv) (nv':=nv) b3 rfl rfl (by decide) (by rw[hqk];rfl)
  obtain⟨H4,hH4⟩: ∃H4,H4=H3.set H2.length (plB k ev wv nv):=⟨_,rfl⟩;rw[<-hH4] at st;have x4:Ext H2 H4:=by rw[hH4];exact s5 x3 (aOZ _)
  have b4:H4[H2.length]? =some (plB k ev wv nv):=by rw[hH4,aO0 (dE b3)]
  have p4:PV H4 k ev wv nv:=by
   have:=hp.ext x4;rw[hqk]
   exact⟨this.e,this.w,this.n,this.be,this.bw,this.bn⟩
  have l4:=kX b4;have hnn:k.nodes=2:=by rw[hk];show(((ofT [0]).length+1:Nat):Int)=2;decide+kernel
  have hks:k.start=(start:Int):=by rw[hk];rfl
  obtain⟨H5,F,y,g5,ha⟩:=Hg p4 (by rw[hk];exact aON room start) (by rw[hks];omega) (m:=18014398509481984-1) (by omega) (by omega) 0 (by rw[hnn];decide)
  simp only[show((0:Nat):Int)=0 from rfl] at g5
  have hc:PasC (iJ k 0):=by
   have hok:=ha.ok;rw[hk] at hok⊢;exact aOJ room start hok
  obtain⟨c0,hc0⟩: ∃c0,c0=iJ k 0:=⟨_,rfl⟩;have hcs:c0.start=start:=by rw[hc0];show k.start.toNat=start;rw[hks];rfl
  have hroo:k.room=(c0.room:Int):=by
   rw[hc0];show k.room=(k.room.toNat:Int)
   have:=ha.ok.room;have h9:1<=k.room.toNat:=this.1;omega
  rw[<-hc0] at ha hc;have n1:=λa=>(vF 30 a (by kernel_rfl)).1
  simp -implicitDefEqProofs only[gsR,hlb,d1,gk,aBn,e1,r1,r2,g2,Bu,cp,st,l4,g5,n1];obtain⟨H6,g6⟩:=(aOL (m:=18014398509481984-1) (y:=y) hc b4 ((hB.ext xk).ext (x1.tr (x2.tr x4))) (by omega) hB3 hcs h6 hroo (by omega) B.length 0 (18014398509481984-1) H5 F (by omega) (by omega) (by omega) ha ..)
  exact⟨H6,g6,trivial⟩
end
end Go.Proofs.YtkeilicinggjmaaGreatDoor
