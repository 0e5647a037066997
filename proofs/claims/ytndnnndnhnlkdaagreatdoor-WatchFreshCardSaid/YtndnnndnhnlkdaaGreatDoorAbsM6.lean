/-
  PARTS OF THIS CLAIM'S PROOF, laid together by a program of mine.
-/
import Derived.Test.YtndnnndnhnlkdaaGreatDoorAbsM5
set_option linter.unusedVariables false
set_option linter.unusedSimpArgs false
set_option linter.unusedSectionVars false
set_option maxRecDepth 100000
namespace Go.Proofs.YtndnnndnhnlkdaaGreatDoor.Rg
open Go.Proofs.Tryz
open Go.Abs Go.Abs.M
abbrev pk8:gQ:=pkN
theorem bRg (p mb:Nat)(a b:Int):bld prog 171 [(0,.Q p 0),(1,.map (some mb)),(2,.I a),(3,.I b)]=some (.agg #[.Q p 0,.map (some mb),.I a,.I b]):=rfl
theorem aML (H:aE):oK H=some (.map (some H.length),H++[.map [] 0]):=rfl
theorem aMK (H:aE)(k:Int):dR 3 1 1 [.I 0] [(0,.I k)] H=some (.slice (some ⟨H.length,0,none⟩) 1 1,H++[.cells [.I k] 3 .row]):=rfl
theorem Pv (a b c:Int):mV prog false [.I a,.I b,.I c]=some (.I (min (min a b) c)):=by
 simp[mV,eD,gZ,pur,Builtin.min_,Builtin.min2,pure,bind,Sem.bind]
 split<;>split<;>omega
theorem Pu (a b:Int):mV prog true [.I a,.I b]=some (.I (max a b)):=by
 simp[mV,eD,gZ,pur,Builtin.max_,Builtin.max2,pure,bind,Sem.bind]
 split<;>omega
def sL (w:lB)(ports lanes:Nat):Bool:=decide (0<=min (min w.1 w.2.1) w.2.2)&&decide (max w.1 w.2.1<(ports:Int))&&decide (w.2.2<(lanes:Int))
theorem Model.aAS {H H':aE}{p s:Nat}{l:List kF}{top free:Int}{fl:List Nat}(h:Model H p s l top free fl)
  (hk: ∀(b:Nat)(cs:List Value)(e:TypeId)(k:Kind),H[b]? =some (.cells cs e k)->(e=204/\k= .fix)∨(e=207/\k= .row)∨(e=39/\k= .fix)->H'[b]? =some (.cells cs e k)):Model H' p s l top free fl:=
 ⟨⟨hk _ _ _ _ h.pool.hp (.inl ⟨rfl,rfl⟩),hk _ _ _ _ h.pool.hs (.inr (.inl ⟨rfl,rfl⟩)),λi q x d hi=>hk _ _ _ _ (h.pool.hq i q x d hi) (.inr (.inr ⟨rfl,rfl⟩))⟩,h.chain,h.nodup,h.full,h.cnt,h.len⟩
section
variable {H : aE} {a n ports lanes m : Nat} {L : List En}
theorem aMN (hm:300<m)(po la sl:Nat)(h:1<=po/\po<=16/\1<=la/\la<=3/\1<=sl/\sl<=200): ∃a H',lvl prog pk8 m (.func 55) [.I po,.I la,.I sl] H=some (.Q a 0,H')/\Ext H H'/\IsRings H' a [] sl po la/\H.length<=a:=by
 have g:=aMy (H:=H) (pr:=pk8) (cV rfl) sl U U (m:=m-1) U
 have hM:=((aMF (H:=H) sl U U).app [Blk.map [] 0]).app [.cells [.pointer (some ⟨H.length+1,0,none⟩),.map (some (mK H (lJ sl)).length),.int .i64 po,.int .i64 la] 171 .fix]
 have e1:decide ((po:Int)<1)=false:=aRV U
 have e2:decide (16<(po:Int))=false:=aRV U
 have e3:decide ((la:Int)<1)=false:=aRV U
 have e4:decide (3<(la:Int))=false:=aRV U
 have hl:(mK H (lJ sl)).length=H.length+2:=by simp[mK]
 refine⟨(mK H (lJ sl)++[Blk.map [] 0]).length,mK H (lJ sl)++[Blk.map [] 0]++[Blk.cells [.pointer (some ⟨H.length+1,0,none⟩),.map (some (mK H (lJ sl)).length),.int .i64 po,.int .i64 la] 171 .fix],dH (cV rfl) U ?_,?_,
  ⟨H.length+1,H.length,(mK H (lJ sl)).length,lJ sl,0,sl,List.range sl,λ_=>none,by simp,hM,Hq sl,by simp,by simp,by simp,?_,λw _=>rfl,by simp,by simp,by omega,by omega⟩,by simp[hl];omega⟩
 ·rw[aMj]
  simp -implicitDefEqProofs only[g,e22,b_lss,b_gtr,e1,e2,e3,e4,r_opt,r_ret,ob_some,r_gdff,r_gdff2,pick_f,iteV_false,aML,bRg,x_newB,oneOf_one];rfl
 ·unfold mK
  rw[aRh,aRh];exact Fr.app _ _ _
 ·have h0:=IsMap.aAN (enc:=nS) (mK H (lJ sl))
  refine h0.yO ?_;rw[aRd (by simp)]
theorem aAU (h:IsRings H a L n ports lanes)(hm:0<m)(w:lB):lvl prog pk8 m (.func 115) [.Q a 0,nS w] H=some (.bool (sL w ports lanes),H++[.cells [.I w.1,.I w.2.1,.I w.2.2] 173 .fix]):=by
 obtain⟨p,s,mb,l,top,free,fl,f,hi⟩:=h;have hi':=hi.app [.cells [.I w.1,.I w.2.1,.I w.2.2] 173 .fix];have l2:=hi'.ld2;have l3:=hi'.ld3;have x0:ld1 (.Q H.length 0) (H++[.cells [.I w.1,.I w.2.1,.I w.2.2] 173 .fix])=some (.I w.1,H++[.cells [.I w.1,.I w.2.1,.I w.2.2] 173 .fix]):=by rw[j9,vX];rfl
 have x1:ld1 (.Q H.length 1) (H++[.cells [.I w.1,.I w.2.1,.I w.2.2] 173 .fix])=some (.I w.2.1,H++[.cells [.I w.1,.I w.2.1,.I w.2.2] 173 .fix]):=by rw[j9,vX];rfl
 have x2:ld1 (.Q H.length 2) (H++[.cells [.I w.1,.I w.2.1,.I w.2.2] 173 .fix])=some (.I w.2.2,H++[.cells [.I w.1,.I w.2.1,.I w.2.2] 173 .fix]):=by rw[j9,vX];rfl
 have hc:(Value.cells (nS w)).toList=[.I w.1,.I w.2.1,.I w.2.2]:=rfl;refine dH (cV rfl) U ?_
 rw[aMh];unfold sL;rw[hc];by_cases h1:0<=min (min w.1 w.2.1) w.2.2
 ·have e1:decide (0<=min (min w.1 w.2.1) w.2.2)=true:=aRU h1
  by_cases h2:max w.1 w.2.1<(ports:Int)
  ·have e2:decide (max w.1 w.2.1<(ports:Int))=true:=aRU h2
   simp -implicitDefEqProofs only[x_newB,r_fAddr,r_nil,aRv,Nat.add_zero,x0,x1,x2,l2,l3,Pv,Pu,b_geq,b_lss,e1,e2,r_opt,r_ret,ob_some,ifB_true,r_gdt,r_gdt2,pick_t,oneOf_one,aRx]
  ·have e2:decide (max w.1 w.2.1<(ports:Int))=false:=aRV h2
   simp -implicitDefEqProofs only[x_newB,r_fAddr,r_nil,aRv,Nat.add_zero,x0,x1,x2,l2,l3,Pv,Pu,b_geq,b_lss,e1,e2,r_opt,r_ret,ob_some,ifB_true,r_gdt,r_gdt2,r_gdft,r_gdft2,r_gdu,r_gdu2,pick_t,pick_f,oneOf_one,aRx,Bool.false_and]
 ·have e1:decide (0<=min (min w.1 w.2.1) w.2.2)=false:=aRV h1
  simp -implicitDefEqProofs only[x_newB,r_fAddr,r_nil,aRv,Nat.add_zero,x0,x1,x2,l2,l3,Pv,Pu,b_geq,b_lss,e1,r_opt,r_ret,ob_some,ifB_true,r_gdft,r_gdft2,r_gdu,r_gdu2,pick_f,oneOf_one,Bool.false_and]
theorem aMM (h:IsRings H a L n ports lanes)(hm:0<m)(i o k:Int):lvl prog pk8 m (.func 62) [.Q a 0,.I i,.I o,.I k] H=some (.I (qOf L (i,o,k)).length,H):=by
 obtain⟨p,s,mb,l,top,free,fl,f,hi⟩:=h;have l1:=hi.ld1;have g:=hi.mp.yN wQ (i,o,k) (.slice none 0 0);refine dH (cV rfl) U ?_
 rw[aMk];cases hf:f (i,o,k) with
 |none=>
  rw[hf] at g;simp only[Option.getD_none] at g;rw[hi.no _ hf];simp -implicitDefEqProofs only[r_nil,r_fAddr,aRv,l1,bW,g,Ka,r_opt,ob_some,oneOf_one];rfl
 |some v=>
  rw[hf] at g;simp only[aRD] at g;have hl:=(hi.yes _ v hf).1.Kv;rw[aRo] at hl;simp -implicitDefEqProofs only[r_nil,r_fAddr,aRv,l1,bW,g,hl,r_opt,ob_some,oneOf_one]
theorem Pw (H:aE)(x:Pkt):stN 4 (.Q H.length 0) x.dV (H++[pkB pk0])=some (undef,H++[pkB x]):=by
 rw[Ht,vX,aAG,Pj]
theorem wR {H:aE}{b:Nat}{x:Pkt}(h:H[b]? =some (pkB x)):ldN 4 (.Q b 0) H=some (x.dV,H):=by
 rw[tA,h,aMt]
theorem Px {H:aE}{b:Nat}{y x:Pkt}(h:H[b]? =some (pkB y)):stN 4 (.Q b 0) x.dV H=some (undef,H.set b (pkB x)):=by
 rw[Ht,h,aAG]
def vE (ps:List Pkt):Value:= .tuple #[(ps.headD pk0).dV,.bool (!ps.isEmpty)]
theorem aAT (h:IsRings H a L n ports lanes)(hm:10<m)(i o k:Int): ∃H',lvl prog pk8 m (.func 124) [.Q a 0,.I i,.I o,.I k] H=some (vE (oI L (i,o,k)),H')/\Ext H H':=by
 obtain⟨p,s,mb,l,top,free,fl,f,hi⟩:=h;have hi1:=hi.app [pkB pk0];have l1:=hi1.ld1;have l0:=hi1.ld0;have g:=hi1.mp.yN wQ (i,o,k) (.slice none 0 0);cases hf:f (i,o,k) with
 |none=>
  rw[hf] at g;simp only[Option.getD_none] at g;have hq:=hi.no _ hf;have hp:oI L (i,o,k)=[]:=aRs.mp (by rw[<-Pt,hq];rfl)
  rw[hp];refine⟨H++[pkB pk0],dH (cV rfl) U ?_,Fr.app _ _ _⟩
  rw[aAu];have e1:((0:Int)==0)=true:=rfl;have hl:ldN 4 (.Q H.length 0) (H++[pkB pk0])=some (pk0.dV,H++[pkB pk0]):=wR (by simp)
  simp -implicitDefEqProofs only[yL,x_newB,r_nil,r_fAddr,aRv,l1,bW,g,Ka,b_eql,e1,aAD,Pw,hl,r_opt,ob_some,iteV_true,oneOf_two];rfl
 |some v=>
  rw[hf] at g;simp only[aRD] at g;obtain⟨hr,hne⟩:=hi1.yes _ v hf;obtain⟨k0,ks,hq⟩: ∃k0 ks,qOf L (i,o,k)=k0::ks:=by
   cases hx:qOf L (i,o,k) with
   |nil=>exact absurd hx hne
   |cons a b=>exact⟨a,b,rfl⟩
  obtain⟨x,xs,hp,hin,hlen,hrest⟩:=Po hq;rw[hq] at hr;rw[hp];have hl:=hr.Kv;obtain⟨bb,oo,g1,g2,g3⟩:=hr.Vk (i:=0) (x:=nC k0) rfl .i64;obtain⟨q,d,hslot⟩:=hi.full _ hin;have hg:=aMs (pr:=pk8) (cV rfl) (cV rfl) hi1.pool.pool (m:=m-1) U k0 q x d hslot
  have e1:((((k0::ks).map nC).length:Int)==0)=false:=by simp;omega
  have hst:stN 4 (.Q H.length 0) x.dV (H++[pkB pk0]++[pkB x])=some (undef,H++[pkB x]++[pkB x]):=by
   rw[Px (y:=pk0) (by rw[aRd (by simp)];simp)]
   simp
  have hld:ldN 4 (.Q H.length 0) (H++[pkB x]++[pkB x])=some (x.dV,H++[pkB x]++[pkB x]):=wR (by rw[aRd (by simp)];simp)
  refine⟨H++[pkB x]++[pkB x],dH (cV rfl) U ?_,by rw[aRh];exact Fr.app _ _ _⟩
  rw[aAu];have g1':bS 1 v (.I 0)=some (.Q bb oo):=g1;have hk0:nC k0= .I k0:=rfl;simp -implicitDefEqProofs only[yL,x_newB,r_nil,r_fAddr,aRv,Nat.add_zero,l0,l1,bW,g,hl,b_eql,e1,g1',g3 _ rfl,hk0,hg,ext_0,ext_1,hst,hld,r_opt,ob_some,ifB_true,iteV_false,oneOf_two];rfl
end
theorem Py (w:lB)(H:aE):stN 3 (.Q H.length 0) (nS w) (H++[.cells [.I 0,.I 0,.I 0] 173 .fix])=some (undef,H++[.cells [.I w.1,.I w.2.1,.I w.2.2] 173 .fix]):=by
 have hc:(Value.cells (nS w)).toList=[.I w.1,.I w.2.1,.I w.2.2]:=rfl;rw[mE 3 _ _ _ rfl,vX,hc,nX _ _ _ _ _ _ aC (by simp) rfl]
 simp[eS]
theorem An {H:aE}{b:Nat}{w:lB}(h:H[b]? =some (.cells [.I w.1,.I w.2.1,.I w.2.2] 173 .fix)):ldN 3 (.Q b 0) H=some (nS w,H):=by
 rw[tA,h,tQ _ _ _ _ _ (by simp)]
 rfl
section
variable {H : aE} {a n ports lanes m : Nat} {L : List En}
theorem RI.aAV {H1:aE}{p s mb:Nat}{l:List kF}{top free:Int}{fl:List Nat}{f:lB->Option Value}(hi:RI H a L n ports lanes p s mb l top free fl f)(hs: ∀b,b<H.length->b≠p->b≠s->H1[b]? =H[b]?):
  (∀(b:Nat)(x:Blk),H[b]? =some x->(∀cs,x≠ .cells cs 204 .fix)->(∀cs,x≠ .cells cs 207 .row)->H1[b]? =some x):=by
 intro b x hx h1 h2;have hlt:=(aRa.mp hx).1;have hp:b≠p:=λhh=>by
  subst hh;rw[hi.pool.pool.hp] at hx;cases hx;exact h1 _ rfl
 have hss:b≠s:=λhh=>by
  subst hh;rw[hi.pool.pool.hs] at hx;cases hx;exact h2 _ rfl
 rw[hs b hlt hp hss,hx]
theorem aMO (h:IsRings H a L n ports lanes)(hm:100<m)(w:lB)(x:Pkt)(hno:sL w ports lanes=false∨n<=L.length):
  ∃H',lvl prog pk8 m (.func 94) [.Q a 0,.I w.1,.I w.2.1,.I w.2.2,x.dV] H=some (.bool false,H')/\Ext H H':=by
 obtain⟨hw,hH⟩: ∃WB:Blk,WB= .cells [.int .i64 w.1,.int .i64 w.2.1,.int .i64 w.2.2] 173 .fix:=⟨_,rfl⟩;have h2:=(h.app [pkB x]).app [hw];have hr:=aAU h2 (m:=m-1) U w
 have hx:Blk.cells (Value.cells x.dV).toList 39 .fix=pkB x:=rfl;have hb:=bW w.1 w.2.1 w.2.2;have hst:=Py w (H++[pkB x]);rw[<-hH] at hst hr;have hld:ldN 3 (.pointer (some ⟨(H++[pkB x]).length,0,none⟩)) (H++[pkB x]++[hw])=some (nS w,H++[pkB x]++[hw]):=An (by rw[vX,hH])
 cases hv:sL w ports lanes with
 |false=>
  rw[hv] at hr;refine⟨H++[pkB x]++[hw]++[hw],dH (cV rfl) U ?_,by rw[aRh,aRh];exact Fr.app _ _ _⟩
  rw[Pf];simp only[x_newB,hx,hb,hst,hld,hr,u_not,Bool.not_false,r_opt,ob_some,iteV_true,oneOf_one]
 |true=>
  have hcnt:n<=L.length:=by
   rcases hno with hno|hno
   ·rw[hv] at hno;cases hno
   ·exact hno
  rw[hv] at hr;obtain⟨p,s,mb,l,top,free,fl,f,hi⟩:=h2.app [hw];have hfl:fl=[]:=by
   have:=hi.cnt;exact aRs.mp U
  subst hfl;have hp:=hi.pool.aMD (pr:=pk8) (cV rfl) (m:=m-1) U x
  have l0:=hi.ld0;have hldx:ldN 4 (.Q H.length 0) (H++[pkB x]++[hw]++[hw])=some (x.dV,H++[pkB x]++[hw]++[hw]):=wR (by rw[aRh,aRh,aRu (aRf _)];simp)
  refine⟨H++[pkB x]++[hw]++[hw]++[pkB x],dH (cV rfl) U ?_,by rw[aRh,aRh,aRh];exact Fr.app _ _ _⟩
  rw[Pf];simp only[x_newB,hx,hb,hst,hld,hr,u_not,Bool.not_true,r_opt,ob_some,ifB_true,iteV_false,r_nil,r_fAddr,aRv,l0,hldx,hp,ext_0,ext_1,oneOf_one]
theorem aMP (h:IsRings H a L n ports lanes)(hm:100<m)(w:lB)(x:Pkt)(hv:sL w ports lanes=true)(hn:L.length<n):
    ∃H' k,lvl prog pk8 m (.func 94) [.Q a 0,.I w.1,.I w.2.1,.I w.2.2,x.dV] H=some (.bool true,H')/\Ch AR H H'/\IsRings H' a (L++[(w,k,x)]) n ports lanes:=by
  obtain⟨hw,hH⟩: ∃WB:Blk,WB= .cells [.int .i64 w.1,.int .i64 w.2.1,.int .i64 w.2.2] 173 .fix:=⟨_,rfl⟩;have h2:=(h.app [pkB x]).app [hw];have hr:=aAU h2 (m:=m-1) U w
  have hx:Blk.cells (Value.cells x.dV).toList 39 .fix=pkB x:=rfl;have hb:=bW w.1 w.2.1 w.2.2;have hst:=Py w (H++[pkB x]);rw[<-hH] at hst hr;have hld:ldN 3 (.pointer (some ⟨(H++[pkB x]).length,0,none⟩)) (H++[pkB x]++[hw])=some (nS w,H++[pkB x]++[hw]):=An (by rw[vX,hH])
  rw[hv] at hr;obtain⟨H0,hH0⟩:=aD (H++[pkB x]++[hw]++[hw]);have hc0:Ch AR H H0:=by rw[hH0,aRh,aRh];exact Ch.app _ _ _
  have h3:=h2.app [hw];rw[<-hH0] at h3 hr;obtain⟨p,s,mb,l,top,free,fl,f,hi⟩:=h3;have hWat:H0[(H++[pkB x]).length]? =some hw:=by rw[hH0,aRd (by simp),aRu (aRf _)];simp
  obtain⟨k,ks,rfl⟩: ∃k ks,fl=k::ks:=by
    cases fl with
    |nil=>have:=hi.cnt;simp at this;omega
    |cons k ks=>exact⟨k,ks,rfl⟩
  obtain⟨H1,q,d,hp,hM1,hkl,hlen1,hsame⟩:=hi.pool.aMC (pr:=pk8) (cV rfl) (m:=m-1) U x
  have keep1:=hi.aAV hsame;have l0:=hi.ld0;have hldx:ldN 4 (.Q H.length 0) H0=some (x.dV,H0):=wR (by rw[hH0,aRh,aRh,aRu (aRf _)];simp)
  have hd1:=keep1 _ _ hi.hd (λcs hh=>by cases hh) (λcs hh=>by cases hh)
  have l1:ld1 (.Q a 1) H1=some (.map (some mb),H1):=by rw[j9,hd1];rfl
  have hW1:H1[(H++[pkB x]).length]? =some hw:=keep1 _ _ hWat (λcs hh=>by rw[hH] at hh;cases hh) (λcs hh=>by rw[hH] at hh;cases hh)
  have hld1:ldN 3 (.Q ((H++[pkB x]).length) 0) H1=some (nS w,H1):=An (by rw[hW1,hH])
  have hm1:IsMap nS H1 mb f:=by
    obtain⟨es,c,e1,e2⟩:=hi.mp
    exact⟨es,c,keep1 _ _ e1 (λcs hh=>by cases hh) (λcs hh=>by cases hh),e2⟩
  have hq1: ∀w' v,f w'=some v->RowO 3 H1 v ((qOf L w').map nC):=λw' v hf=>by
    have:=(hi.yes w' v hf).1;refine this.tV λb hb=> ?_
    obtain⟨xs,hxs⟩:=this.blk hb;rw[hxs,keep1 _ _ hxs (λcs hh=>by cases hh) (λcs hh=>by cases hh)]
  have hc1:Ch AR H0 H1:=⟨hlen1,λb y hy hn'=>keep1 b y hy (λcs hh=>hn' (by rw[hh];exact .inl ⟨rfl,rfl⟩)) (λcs hh=>hn' (by rw[hh];exact .inr (.inl ⟨rfl,rfl⟩)))⟩
  -- the slot's number, in a row of its own
  obtain⟨H2,hH2⟩:=aD (H1++[Blk.cells [nC k] 3 .row]);have hbi:dR 3 1 1 [.int .i64 0] [(0,.int .i64 (k:Nat))] H1=some (.slice (some ⟨H1.length,0,none⟩) 1 1,H2):=by rw[hH2];exact aMK H1 k
  have hm2:IsMap nS H2 mb f:=hm1.yO (by
    obtain⟨es,c,e1,e2⟩:=hm1;rw[hH2,aRd (aRa.mp e1).1])
  obtain⟨born,X,hent,⟨xe,xc,hX⟩,hstore⟩:=hm2.aMH wQ w (.slice none 0 0);obtain⟨H3,hH3⟩:=aD (H2.set mb X);rw[<-hH3] at hent;have hmblk: ∃es c,H2[mb]? =some (.map es c):=by
    obtain⟨es,c,e1,e2⟩:=hm2
    exact⟨_,_,e1⟩
  have hmlt:mb<H2.length:=by
    obtain⟨es,c,e1⟩:=hmblk
    exact(aRa.mp e1).1
  have hlen2:H2.length=H1.length+1:=by rw[hH2];simp
  have hlen3:H3.length=H1.length+1:=by rw[hH3];simp[hlen2]
  -- cells of H1 in H3
  have k13: ∀(b:Nat)(cs:List Value)(e:TypeId)(kk:Kind),H1[b]? =some (.cells cs e kk)->H3[b]? =some (.cells cs e kk):=by
    intro b cs e kk hb;have hlt:=(aRa.mp hb).1;have hb2:H2[b]? =some (.cells cs e kk):=by rw[hH2,aRd hlt,hb]
    have hne:b≠mb:=λhh=>by
      subst hh;obtain⟨es,c,e1⟩:=hmblk;rw[hb2] at e1;cases e1
    rw[hH3,o0 hne,hb2]
  have hX3:H3[mb]? =some X:=by rw[hH3,aRg hmlt]
  have hsrcb:H3[H1.length]? =some (.cells [nC k] 3 .row):=by
    have hb2:H2[H1.length]? =some (.cells [nC k] 3 .row):=by rw[hH2];simp
    have hne:H1.length≠mb:=λhh=>by
      obtain⟨es,c,e1⟩:=hmblk;rw[<-hh,hb2] at e1;cases e1
    rw[hH3,o0 hne,hb2]
  have hsl:mL (.slice (some ⟨H1.length,0,none⟩) 1 1)=some 1:=rfl;have hsc:gU 1 (.slice (some ⟨H1.length,0,none⟩) 1 1) 1 H3=some [nC k]:=by simp[gU,hsrcb]
  have hall:dX [nC k]=true:=rfl;have hqlen:(qOf L w).length<=200:=by
    have h1:(qOf L w).length<=L.length:=by simp[qOf,List.length_filter_le]
    have:=hi.cnt;have:=hi.b1;omega
  -- the queue grows
  obtain⟨v',H4,happ,hrow,hl4,hsame4,hhome,hnew⟩: ∃v' H4,app 3 1 8 ((f w).getD (.slice none 0 0)) (.slice (some ⟨H1.length,0,none⟩) 1 1) H3=some (v',H4)/\RowO 3 H4 v' ((qOf L w).map nC++[nC k])/\H3.length<=H4.length/\
      (∀b,b<H3.length-> ¬(∃v,f w=some v/\cP v b)->H4[b]? =H3[b]?)/\(∀b,cP v' b->(∃v,f w=some v/\cP v b)∨(H3.length<=b/\b<H4.length))/\True:=by
    cases hf:f w with
    |none=>
      obtain⟨g1,g2⟩:=aF2 (e:=3) (H:=H3) (by':=8) hsl hsc aC
      refine⟨_,_,g1,by rw[hi.no w hf];exact g2,by simp,λb hb _=>aRd hb,?_,trivial⟩
      rintro b ⟨oo,nn,cc,hh⟩
      cases hh;exact .inr ⟨aRf _,by simp⟩
    |some v=>
      have hr3:RowO 3 H3 v ((qOf L w).map nC):=(hq1 w v hf).tV λb hb=>by
        obtain⟨xs,hxs⟩:=(hq1 w v hf).blk hb;rw[hxs,k13 _ _ _ _ hxs]
      obtain⟨v',H4,g1,g2,g3,g4,g5,g6⟩:=hr3.aF0 (by':=8) hsl hsc (by simp[hP];omega) hall
      exact⟨v',H4,g1,g2,g3,λb hb hn=>g4 b hb λhh=>hn ⟨v,rfl,hh⟩,λb hb=>(g5 b hb).imp (λhh=>⟨v,rfl,hh⟩) id,trivial⟩
  have hnomb: ¬ ∃v,f w=some v/\cP v mb:=by
    rintro ⟨v,hf,hh⟩
    obtain⟨xs,hxs⟩:=(hq1 w v hf).blk hh;obtain⟨es,c,e1,e2⟩:=hm1;rw[hxs] at e1;cases e1
  have hX4:H4[mb]? =some X:=by rw[hsame4 mb U hnomb,hX3]
  obtain⟨X',hset,hm5,⟨ye,yc,hX'⟩⟩:=hstore H4 v' hX4
  -- what is not a map nor a row of ints stays from H1 on
  have k15: ∀(b:Nat)(cs:List Value)(e:TypeId)(kk:Kind),H1[b]? =some (.cells cs e kk)->(∀v,f w=some v-> ¬cP v b)->(H4.set mb X')[b]? =some (.cells cs e kk):=by
    intro b cs e kk hb hh;have hlt:=(aRa.mp hb).1;have h3:=k13 b cs e kk hb;have hne:b≠mb:=λhx=>by
      subst hx;rw[hX3,hX] at h3;cases h3
    rw[o0 hne,hsame4 b U (λ⟨v,hf,hv⟩=>hh v hf hv),h3]
  have k15': ∀(b:Nat)(cs:List Value)(e:TypeId)(kk:Kind),H1[b]? =some (.cells cs e kk)-> ¬(e=3/\kk= .row)->(H4.set mb X')[b]? =some (.cells cs e kk):=λb cs e kk hb hne=>k15 b cs e kk hb λv hf hh=>by
    obtain⟨xs,hxs⟩:=(hq1 w v hf).blk hh;rw[hb] at hxs;cases hxs;exact hne ⟨rfl,rfl⟩
  refine⟨H4.set mb X',k,dH (cV rfl) U ?_,?_,⟨p,s,mb,l.set k (some (q,x),d),d,free-1,ks,upd f w (some v'),?_⟩⟩
  · rw[Pf]
    simp only[x_newB,hx,hb,hst,hld,hr,u_not,Bool.not_true,r_opt,ob_some,ifB_true,iteV_false,iteV_true,r_nil,r_fAddr,aRv,l0,hldx,hp,ext_0,ext_1,l1,hld1,hbi,hent,happ,hset,oneOf_one]
  · refine(hc0.xR hc1).xR ⟨by simp;omega,λb y hy hn'=> ?_⟩
    cases y with
    |map es c=>exact absurd trivial hn'
    |dead=>exact absurd trivial hn'
    |cells cs e kk=>exact k15' b cs e kk hy λhh=>hn' (.inr (.inr hh))
  · refine⟨k15' _ _ _ _ hd1 (by rintro ⟨hh,_⟩;revert hh;decide),hM1.aAS λb cs e kk hb hh=>k15' b cs e kk hb (by
      rintro ⟨h1,h2⟩
      subst h1 h2;rcases hh with⟨h1,_⟩|⟨h1,_⟩|⟨h1,_⟩<;>revert h1<;>decide),by simp[hi.len],by have:=hi.cnt;simp at this ⊢; omega,?_,?_,hm5,?_,?_,?_,hi.b1,hi.b2⟩
    · rw[List.map_append,List.nodup_append]
      refine⟨hi.nd,by simp,λy hy z hz hyz=> ?_⟩
      simp at hz;obtain⟨e,he,rfl⟩:=aRN.mp hy;obtain⟨q',d',hs⟩:=hi.full e he;obtain⟨d'',hf⟩:=(hi.pool.full k).mp (by simp)
      rw[hyz,hz,hf] at hs;cases hs
    · intro e he
      rcases List.mem_append.mp he with he|he
      · obtain⟨q',d',hs⟩:=hi.full e he
        have hne:k≠e.2.1:=λhh=>by
          obtain⟨d'',hf⟩:=(hi.pool.full k).mp (by simp)
          rw[hh,hs] at hf;cases hf
        exact⟨q',d',by rw[aRb hne,hs]⟩
      · rw[List.mem_singleton] at he
        subst he
        exact⟨q,d,aRg hkl⟩
    · intro w' hw'
      unfold upd at hw';by_cases hww:w'=w
      · rw[if_pos hww] at hw'
        cases hw'
      · rw[if_neg hww] at hw'
        rw[Pp,if_neg (λhh=>hww hh.symm)]
        exact hi.no w' hw'
    · intro w' v hw'
      unfold upd at hw';by_cases hww:w'=w
      · rw[if_pos hww] at hw'
        cases hw';subst hww;rw[Pp,if_pos rfl];refine⟨?_,by simp⟩
        rw[List.map_append];refine hrow.tV λb hb=>o0 λhh=> ?_
        subst hh;obtain⟨xs,hxs⟩:=hrow.blk hb;rw[hX4,hX] at hxs;cases hxs
      · rw[if_neg hww] at hw'
        rw[Pp,if_neg (λhh=>hww hh.symm)]
        refine⟨(hq1 w' v hw').tV λb hb=> ?_,(hi.yes w' v hw').2⟩
        obtain⟨xs,hxs⟩:=(hq1 w' v hw').blk hb;rw[hxs,k15 b _ _ _ hxs λv2 hf2 hh=>hi.sep w' w v v2 b hw' hf2 hww hb hh]
    · intro w1 w2 v1 v2 b hf1 hf2 hne hh1 hh2
      have old: ∀w' v,f w'=some v->cP v b->b<H1.length:=λw' v hf hh=>by
        obtain⟨xs,hxs⟩:=(hq1 w' v hf).blk hh
        exact(aRa.mp hxs).1
      unfold upd at hf1 hf2;by_cases e1:w1=w
      · rw[if_pos e1] at hf1
        cases hf1;rw[if_neg (λhh=>hne (e1.trans hh.symm))] at hf2
        rcases hhome b hh1 with⟨v,hf,hh⟩|hh
        · exact hi.sep w w2 v v2 b hf hf2 (by rw[<-e1];exact hne) hh hh2
        · have:=old w2 v2 hf2 hh2
          omega
      · rw[if_neg e1] at hf1
        by_cases e2:w2=w
        · rw[if_pos e2] at hf2
          cases hf2;rcases hhome b hh2 with⟨v,hf,hh⟩|hh
          · exact hi.sep w1 w v1 v b hf1 hf e1 hh1 hh
          · have:=old w1 v1 hf1 hh1
            omega
        · rw[if_neg e2] at hf2
          exact hi.sep w1 w2 v1 v2 b hf1 hf2 hne hh1 hh2
end
section
variable {H : aE} {a n ports lanes m : Nat} {L : List En}
theorem RI.aMQ {p s mb:Nat}{l:List kF}{top free:Int}{fl:List Nat}{f:lB->Option Value}(hi:RI H a L n ports lanes p s mb l top free fl f){b:Nat}{y x:Pkt}(hb:H[b]? =some (pkB y))(hq: ∀(i q:Nat)(z:Pkt)(d:Int),l[i]? =some (some (q,z),d)->q≠b):
  RI (H.set b (pkB x)) a L n ports lanes p s mb l top free fl f:=by
 have keep: ∀(c:Nat)(z:Blk),H[c]? =some z->(∀cs,z≠ .cells cs 39 .fix)->(H.set b (pkB x))[c]? =some z:=λc z hc hz=>by
  rw[o0 (λhh=>by subst hh;rw[hb] at hc;cases hc;exact hz _ rfl),hc]
 refine⟨keep _ _ hi.hd (λcs hh=>by cases hh),⟨⟨keep _ _ hi.pool.pool.hp (λcs hh=>by cases hh),keep _ _ hi.pool.pool.hs (λcs hh=>by cases hh),λi q z d hl=>by
  rw[o0 (hq i q z d hl),hi.pool.pool.hq i q z d hl]⟩,hi.pool.chain,hi.pool.nodup,hi.pool.full,hi.pool.cnt,hi.pool.len⟩,hi.len,hi.cnt,hi.nd,hi.full,?_,hi.no,λw v hv=>⟨?_,(hi.yes w v hv).2⟩,hi.sep,hi.b1,hi.b2⟩
 ·obtain⟨es,c,h1,h2⟩:=hi.mp
  exact⟨es,c,keep _ _ h1 (λcs hh=>by cases hh),h2⟩
 ·refine(hi.yes w v hv).1.tV λc hc=> ?_
  obtain⟨xs,hx⟩:=(hi.yes w v hv).1.blk hc;rw[hx];exact keep _ _ hx (λcs hh=>by cases hh)
theorem aMR (h:IsRings H a L n ports lanes)(hm:100<m)(i o k:Int)(hp:oI L (i,o,k)=[]):
  ∃H',lvl prog pk8 m (.func 102) [.Q a 0,.I i,.I o,.I k] H=some (vE [],H')/\Ext H H':=by
 obtain⟨H1,g1,g2⟩:=aAT (h.app [pkB pk0]) (m:=m-1) U i o k
 rw[hp] at g1;have hv:vE []= .tuple #[pk0.dV,.bool false]:=rfl;rw[hv] at g1;have hb0:H1[H.length]? =some (pkB pk0):=by rw[g2.2 H.length (by simp) id];simp
 have hl1:H.length<H1.length:=by have:=g2.1;simp at this;omega
 have hst:stN 4 (.Q H1.length 0) pk0.dV (H1++[pkB pk0])=some (undef,H1++[pkB pk0]):=Pw H1 pk0;have hld:ldN 4 (.Q H1.length 0) (H1++[pkB pk0])=some (pk0.dV,H1++[pkB pk0]):=wR (by simp)
 have hb1:(H1++[pkB pk0])[H.length]? =some (pkB pk0):=by rw[aRd hl1,hb0]
 have hst2:stN 4 (.Q H.length 0) pk0.dV (H1++[pkB pk0])=some (undef,H1++[pkB pk0]):=by
  rw[Px (y:=pk0) hb1,Je hb1]
 have hld2:ldN 4 (.pointer (some ⟨H.length,0,none⟩)) (H1++[pkB pk0])=some (pk0.dV,H1++[pkB pk0]):=wR hb1;refine⟨H1++[pkB pk0],dH (cV rfl) U ?_,⟨by simp;omega,λb hb _=> ?_⟩⟩
 ·rw[Pc]
  simp -implicitDefEqProofs only[yL,x_newB,g1,ext_0,ext_1,hst,hld,hst2,hld2,r_opt,ob_some,iteV_false,oneOf_two];rfl
 ·rw[aRd U,g2.2 b (by simp;omega) id,aRd hb]
theorem aMS (h:IsRings H a L n ports lanes)(hm:100<m)(i o k:Int){x:Pkt}{xs:List Pkt}(hp:oI L (i,o,k)=x::xs):
    ∃H',lvl prog pk8 m (.func 102) [.Q a 0,.I i,.I o,.I k] H=some (.tuple #[x.dV,.bool true],H')/\Ch AR H H'/\IsRings H' a (oA L (i,o,k)) n ports lanes:=by
  obtain⟨H1,g1,g2⟩:=aAT (h.app [pkB pk0]) (m:=m-1) U i o k
  rw[hp] at g1;have hv:vE (x::xs)= .tuple #[x.dV,.bool true]:=rfl;rw[hv] at g1;obtain⟨w,hw⟩: ∃w:lB,w=(i,o,k):=⟨_,rfl⟩;obtain⟨p,s,mb,l,top,free,fl,f,hi0⟩:=h;have hqlt: ∀(j q:Nat)(z:Pkt)(d:Int),l[j]? =some (some (q,z),d)->q<H.length:=λj q z d hl=>(aRa.mp (hi0.pool.pool.hq j q z d hl)).1
  have hl1:H.length<H1.length:=by have:=g2.1;simp at this;omega
  have hi1:RI H1 a L n ports lanes p s mb l top free fl f:=hi0.Hv λb y hb _=>by
    have hlt:=(aRa.mp hb).1;rw[g2.2 b (by simp;omega) id,aRd hlt,hb]
  have hb0:H1[H.length]? =some (pkB pk0):=by rw[g2.2 H.length (by simp) id];simp
  obtain⟨WB,hWB⟩: ∃WB:Blk,WB= .cells [.int .i64 i,.int .i64 o,.int .i64 k] 173 .fix:=⟨_,rfl⟩;obtain⟨H5,hH5⟩:=aD (H1++[pkB x]++[WB]);have hst1:stN 4 (.pointer (some ⟨H1.length,0,none⟩)) x.dV (H1++[pkB pk0])=some (undef,H1++[pkB x]):=Pw H1 x;have hst2:=Py (i,o,k) (H1++[pkB x]);simp only at hst2;rw[<-hWB,<-hH5] at hst2;have hi:RI H5 a L n ports lanes p s mb l top free fl f:=by rw[hH5];exact(hi1.app _).app _
  have hc5:Ch AR H H5:=by
    refine(Ch.app AR H [pkB pk0]).xR ((Ch.ext g2).xR ?_);rw[hH5,aRh];exact Ch.app _ _ _
  have at0:H5[H.length]? =some (pkB pk0):=by rw[hH5,aRh,aRd hl1,hb0]
  have at4:H5[H1.length]? =some (pkB x):=by rw[hH5,aRh,aRu (aRf _)];simp
  have atW:H5[(H1++[pkB x]).length]? =some WB:=by rw[hH5,vX]
  have l0:=hi.ld0;have l1:=hi.ld1;have hldw:ldN 3 (.Q ((H1++[pkB x]).length) 0) H5=some (nS (i,o,k),H5):=An (by rw[atW,hWB])
  -- the queue
  obtain⟨v,hf⟩: ∃v,f w=some v:=by
    cases hf:f w with
    |some v=>exact⟨v,rfl⟩
    |none=>
      have:=hi.no w hf;have h2:=Pt L w;rw[this,hw,hp] at h2;simp at h2
  have hg:=hi.mp.yN wQ w (.slice none 0 0);rw[hf] at hg;simp only[aRD] at hg;obtain⟨hr,hne⟩:=hi.yes w v hf;obtain⟨k0,ks,hq⟩: ∃k0 ks,qOf L w=k0::ks:=by
    cases hx:qOf L w with
    |nil=>exact absurd hx hne
    |cons a b=>exact⟨a,b,rfl⟩
  obtain⟨x',xs',hp',hin,hlen,hrest⟩:=Po hq;rw[hw,hp] at hp';cases hp';rw[hq] at hr;obtain⟨bb,oo,a1,a2,a3⟩:=hr.Vk (i:=0) (x:=nC k0) rfl .i64;have a1':bS 1 v (.I 0)=some (.Q bb oo):=a1;have hk0:nC k0= .I k0:=rfl;obtain⟨q0,d0,hslot⟩:=hi.full _ hin;obtain⟨H6,hd,hM6,hmore⟩:=hi.pool.aMB (pr:=pk8) (cV rfl) (cV rfl) (m:=m-1) U k0 (q0,x) d0 hslot
  have keep6:=hi.aAV hmore.same;have c6:Ch AR H5 H6:=⟨hmore.len,λb y hy hn'=>keep6 b y hy (λcs hh=>hn' (by rw[hh];exact .inl ⟨rfl,rfl⟩)) (λcs hh=>hn' (by rw[hh];exact .inr (.inl ⟨rfl,rfl⟩)))⟩
  have hd6:=keep6 _ _ hi.hd (λcs hh=>by cases hh) (λcs hh=>by cases hh)
  have l16:ld1 (.Q a 1) H6=some (.map (some mb),H6):=by rw[j9,hd6];rfl
  have at06:=keep6 _ _ at0 (λcs hh=>by cases hh) (λcs hh=>by cases hh)
  have at46:=keep6 _ _ at4 (λcs hh=>by cases hh) (λcs hh=>by cases hh)
  have atW6:H6[(H1++[pkB x]).length]? =some WB:=keep6 _ _ atW (λcs hh=>by rw[hWB] at hh;cases hh) (λcs hh=>by rw[hWB] at hh;cases hh)
  have hldw6:ldN 3 (.Q ((H1++[pkB x]).length) 0) H6=some (nS (i,o,k),H6):=An (by rw[atW6,hWB])
  have hm6:IsMap nS H6 mb f:=by
    obtain⟨es,c,e1,e2⟩:=hi.mp
    exact⟨es,c,keep6 _ _ e1 (λcs hh=>by cases hh) (λcs hh=>by cases hh),e2⟩
  have hq6: ∀w' v',f w'=some v'->RowO 3 H6 v' ((qOf L w').map nC):=λw' v' hf'=>by
    have:=(hi.yes w' v' hf').1;refine this.tV λb hb=> ?_
    obtain⟨ys,hys⟩:=this.blk hb;rw[hys,keep6 _ _ hys (λcs hh=>by cases hh) (λcs hh=>by cases hh)]
  have hg6:=hm6.yN wQ w (.slice none 0 0);rw[hf] at hg6;simp only[aRD] at hg6;have hr6:=hq6 w v hf;rw[hq] at hr6;obtain⟨v',hcut,hrow',hhome⟩:=RowO.aF1 (P:=prog) (x:=nC k0) (cs:=ks.map nC) hr6 szI;obtain⟨X,hset,hm7,⟨xe,xc,hX⟩⟩:=hm6.aMI wQ w v' (by rw[hf];simp)
  obtain⟨H7,hH7⟩:=aD (H6.set mb X);rw[<-hH7] at hset hm7;have hmb6: ∃es c,H6[mb]? =some (.map es c):=by
    obtain⟨es,c,e1,e2⟩:=hm6
    exact⟨_,_,e1⟩
  have k67: ∀(b:Nat)(cs:List Value)(e:TypeId)(kk:Kind),H6[b]? =some (.cells cs e kk)->H7[b]? =some (.cells cs e kk):=λb cs e kk hb=>by
    have hne:b≠mb:=λhh=>by
      subst hh;obtain⟨es,c,e1⟩:=hmb6;rw[hb] at e1;cases e1
    rw[hH7,o0 hne,hb]
  have len7:H7.length=H6.length:=by rw[hH7];simp
  have l17:ld1 (.Q a 1) H7=some (.map (some mb),H7):=by rw[j9,k67 _ _ _ _ hd6];rfl
  have hldw7:ldN 3 (.Q ((H1++[pkB x]).length) 0) H7=some (nS (i,o,k),H7):=An (by rw[hWB] at atW6;rw[k67 _ _ _ _ atW6])
  have hg7:=hm7.yN wQ w (.slice none 0 0);have hupd:upd f w (some v') w=some v':=by unfold upd;rw[if_pos rfl]
  rw[hupd] at hg7;simp only[aRD] at hg7;have hlen':=hrow'.Kv;have c7:Ch AR H6 H7:=by
    obtain⟨es,c,e1⟩:=hmb6;rw[hH7];exact Ch.Vj e1 trivial _
  -- the ending: from a heap H8 that is H7 but for the map
  have fin: ∀(H8:aE)(f8:lB->Option Value),Ch AR H7 H8->(∀(b:Nat)(cs:List Value)(e:TypeId)(kk:Kind),H6[b]? =some (.cells cs e kk)->H8[b]? =some (.cells cs e kk))->H6.length<=H8.length->IsMap nS H8 mb f8->
      (∀w',w'≠w->f8 w'=f w')->(f8 w=some v'/\ks≠[]∨f8 w=none/\ks=[])->
      ldN 4 (.Q H1.length 0) H8=some (x.dV,H8)/\stN 4 (.Q H.length 0) x.dV H8=some (undef,H8.set H.length (pkB x))/\ldN 4 (.Q H.length 0) (H8.set H.length (pkB x))=some (x.dV,H8.set H.length (pkB x))/\Ch AR H (H8.set H.length (pkB x))/\IsRings (H8.set H.length (pkB x)) a (oA L w) n ports lanes:=by
    intro H8 f8 c8 k68 hl8 hm8 hoth hself;have at48:=k68 _ _ _ _ at46;have at08:=k68 _ _ _ _ at06;have at08':H8[H.length]? =some (pkB pk0):=at08;have hlt8:=(aRa.mp at08).1;refine⟨wR at48,Px at08',wR (aRg hlt8),?_,?_⟩
    · refine⟨by simp;omega,λb y hy hn'=> ?_⟩
      have hltb:=(aRa.mp hy).1;rw[o0 U]
      exact(((hc5.xR c6).xR c7).xR c8).2 b y hy hn'
    · have hRI:RI H8 a (oA L w) n ports lanes p s mb (l.set k0 (none,top)) k0 (free+1) (k0::fl) f8:=by
        refine⟨k68 _ _ _ _ hd6,hM6.aAS λb cs e kk hb _=>k68 b cs e kk hb,by simp[hi.len],by have:=hi.cnt;simp;omega,?_,?_,hm8,?_,?_,?_,hi.b1,hi.b2⟩
        · exact(List.Sublist.map _ (List.eraseP_sublist)).nodup hi.nd
        · intro e he
          obtain⟨h1,h2⟩:=hrest e he;obtain⟨q',d',hs⟩:=hi.full e h1
          exact⟨q',d',by rw[aRb (λhh=>h2 hi.nd hh.symm),hs]⟩
        · intro w' hw'
          by_cases hww:w'=w
          · subst hww
            rw[C6,if_pos rfl,hq];rcases hself with⟨h1,_⟩|⟨_,h2⟩
            · rw[h1] at hw';cases hw'
            · exact h2
          · rw[hoth w' hww] at hw'
            rw[C6,if_neg (λhh=>hww hh.symm)]
            exact hi.no w' hw'
        · intro w' u hw'
          by_cases hww:w'=w
          · subst hww
            rw[C6,if_pos rfl,hq];rcases hself with⟨h1,h2⟩|⟨h1,_⟩
            · rw[h1] at hw'
              cases hw';refine⟨hrow'.tV λb hb=> ?_,h2⟩
              obtain⟨ys,hys⟩:=hrow'.blk hb;rw[hys,k68 _ _ _ _ hys]
            · rw[h1] at hw';cases hw'
          · rw[hoth w' hww] at hw'
            rw[C6,if_neg (λhh=>hww hh.symm)]
            refine⟨(hq6 w' u hw').tV λb hb=> ?_,(hi.yes w' u hw').2⟩
            obtain⟨ys,hys⟩:=(hq6 w' u hw').blk hb;rw[hys,k68 _ _ _ _ hys]
        · intro w1 w2 v1 v2 b hf1 hf2 hne' hh1 hh2
          by_cases e1:w1=w
          · rw[hoth w2 (λhh=>hne' (e1.trans hh.symm))] at hf2
            rw[e1] at hf1;rcases hself with⟨h1,_⟩|⟨h1,_⟩
            · rw[h1] at hf1
              cases hf1;exact hi.sep w w2 v v2 b hf hf2 (by rw[<-e1];exact hne') (hhome b hh1) hh2
            · rw[h1] at hf1;cases hf1
          · rw[hoth w1 e1] at hf1
            by_cases e2:w2=w
            · rw[e2] at hf2
              rcases hself with⟨h1,_⟩|⟨h1,_⟩
              · rw[h1] at hf2
                cases hf2;exact hi.sep w1 w v1 v b hf1 hf e1 hh1 (hhome b hh2)
              · rw[h1] at hf2;cases hf2
            · rw[hoth w2 e2] at hf2
              exact hi.sep w1 w2 v1 v2 b hf1 hf2 hne' hh1 hh2
      refine⟨_,_,_,_,_,_,_,_,hRI.aMQ at08' λj q z d hl=> ?_⟩
      by_cases hj:k0=j
      · subst hj
        have hlt:=(aRa.mp hslot).1;rw[aRg hlt] at hl;cases hl
      · rw[aRb hj] at hl
        have:=hqlt j q z d hl;omega
  rw[hw] at hg hg6 hset hg7;cases hks:ks with
  |nil=>
    subst hks;have e1:((([]:List Nat).map nC).length:Int)=0:=rfl;have e2:((((([]:List Nat).map nC).length:Nat):Int)==0)=true:=rfl;obtain⟨X8,hdel,hm8,⟨ye,yc,hX8⟩⟩:=hm7.aMG wQ w (by rw[hupd];simp)
    have hmb7: ∃es c,H7[mb]? =some (.map es c):=by
      obtain⟨es,c,e1,e2⟩:=hm7
      exact⟨_,_,e1⟩
    obtain⟨r1,r2,r3,r4,r5⟩:=fin (H7.set mb X8) _ (by
      obtain⟨es,c,e1⟩:=hmb7;exact Ch.Vj e1 trivial _) (λb cs e kk hb=>by
        have h7:=k67 b cs e kk hb;have hne:b≠mb:=λhh=>by
          subst hh;obtain⟨es,c,e1⟩:=hmb7;rw[h7] at e1;cases e1
        rw[o0 hne,h7]) (by simp[len7]) hm8 (λw' hww=>by simp[upd,hww]) (.inr ⟨by simp[upd],rfl⟩)
    rw[hw] at hdel r5;refine⟨_,dH (cV rfl) U ?_,r4,r5⟩
    rw[Pc];simp -implicitDefEqProofs only[yL,x_newB,g1,ext_0,ext_1,hst1,bW,hst2,r_nil,r_fAddr,aRv,l0,l1,hldw,hg,a1',a3 H5 rfl,hk0,hd,l16,hldw6,hg6,hcut,hset,l17,hldw7,hg7,hlen',b_eql,e2,hdel,r1,r2,r3,r_opt,ob_some,ifB_true,iteV_true,oneOf_two]
  |cons k1 ks1=>
    subst hks;have e2:(((((k1::ks1).map nC).length:Nat):Int)==0)=false:=by simp;omega
    obtain⟨r1,r2,r3,r4,r5⟩:=fin H7 _ (Ch.aFZ _ _) k67 U hm7 (λw' hww=>by simp[upd,hww]) (.inl ⟨hupd,by simp⟩)
    rw[hw] at r5;refine⟨_,dH (cV rfl) U ?_,r4,r5⟩
    rw[Pc];simp -implicitDefEqProofs only[yL,x_newB,g1,ext_0,ext_1,hst1,bW,hst2,r_nil,r_fAddr,aRv,l0,l1,hldw,hg,a1',a3 H5 rfl,hk0,hd,l16,hldw6,hg6,hcut,hset,l17,hldw7,hg7,hlen',b_eql,e2,r1,r2,r3,r_opt,ob_some,ifB_true,iteV_true,iteV_false,oneOf_two]
end
section
variable {H : aE} {a n ports lanes m : Nat} {L : List En}
theorem aMU (h:IsRings H a L n ports lanes)(hm:100<m)(w:lB)(x:Pkt): ∃H' L',lvl prog pk8 m (.func 94) [.Q a 0,.I w.1,.I w.2.1,.I w.2.2,x.dV] H=some (.bool (sL w ports lanes&&decide (L.length<n)),H')/\Ch AR H H'/\IsRings H' a L' n ports lanes/\
  ((sL w ports lanes&&decide (L.length<n))=true/\(∃k,L'=L++[(w,k,x)])∨(sL w ports lanes&&decide (L.length<n))=false/\L'=L):=by
 by_cases hv:(sL w ports lanes&&decide (L.length<n))=true
 ·rw[aRi,decide_eq_true_eq] at hv
  obtain⟨H',k,g1,g2,g3⟩:=aMP h hm w x hv.1 hv.2;rw[hv.1,aRU hv.2]
  exact⟨H',_,g1,g2,g3,.inl ⟨rfl,k,rfl⟩⟩
 ·have hf:(sL w ports lanes&&decide (L.length<n))=false:=by simpa using hv
  obtain⟨H',g1,g2⟩:=aMO h hm w x (by
   rw[Bool.and_eq_false_iff] at hf;exact hf.imp id λh=>by have:=of_decide_eq_false h;omega)
  rw[hf];have hc:Ch AR H H':=Ch.ext g2;obtain⟨p,s,mb,l,top,free,fl,f,hi⟩:=h
  exact⟨H',L,g1,hc,⟨p,s,mb,l,top,free,fl,f,hi.Hv λb x hx _=>by rw[g2.2 b (aRa.mp hx).1 id,hx]⟩,.inr ⟨rfl,rfl⟩⟩
theorem IsRings.ext {H':aE}(h:IsRings H a L n ports lanes)(he:Ext H H'):IsRings H' a L n ports lanes:=by
 obtain⟨p,s,mb,l,top,free,fl,f,hi⟩:=h
 exact⟨p,s,mb,l,top,free,fl,f,hi.Hv λb x hx _=>by rw[he.2 b (aRa.mp hx).1 id,hx]⟩
theorem aMT (h:IsRings H a L n ports lanes)(hm:100<m)(w:lB): ∃H',lvl prog pk8 m (.func 102) [.Q a 0,.I w.1,.I w.2.1,.I w.2.2] H=some (vE (oI L w),H')/\Ch AR H H'/\IsRings H' a (oA L w) n ports lanes:=by
 cases hp:oI L w with
 |nil=>
  obtain⟨H',g1,g2⟩:=aMR h hm w.1 w.2.1 w.2.2 hp;have hL:oA L w=L:=by
   unfold oA;apply List.eraseP_of_forall_not;intro e he hd;have:e∈L.filter λe=>decide (e.1=w):=List.mem_filter.mpr ⟨he,hd⟩
   have hl:(oI L w).length=0:=by rw[hp];rfl
   unfold oI at hl;rw[aRo] at hl;rw[aRs.mp hl] at this;cases this
  rw[hL]
  exact⟨H',g1,Ch.ext g2,h.ext g2⟩
 |cons x xs=>
  obtain⟨H',g1,g2,g3⟩:=aMS h hm w.1 w.2.1 w.2.2 hp
  exact⟨H',g1,g2,g3⟩
end
end Go.Proofs.YtndnnndnhnlkdaaGreatDoor.Rg
namespace Go.Proofs.YtndnnndnhnlkdaaGreatDoor
open Go.Proofs.Tryz
open Go.Abs Go.Abs.M
def vF (L:List Rg.En):List (Go.Abs.fW×Pkt):=L.map λe=>(e.1,e.2.2)
theorem aAW (L:List Rg.En)(w:Go.Abs.fW):Rg.oI L w=oR (vF L) w:=by
 unfold Rg.oI oR vF;induction L with
 |nil=>rfl
 |cons e L ih=>
  rw[aRF,List.filter_cons,List.filter_cons];by_cases h:e.1=w
  ·simp only[h,decide_true,if_true,aRF]
   rw[ih]
  ·simp only[h,decide_false]
   exact ih
theorem aMV (L:List Rg.En)(w:Go.Abs.fW):vF (Rg.oA L w)=pC (vF L) w:=by
 unfold Rg.oA pC vF;induction L with
 |nil=>rfl
 |cons e L ih=>
  rw[aRF,List.eraseP_cons,List.eraseP_cons];by_cases h:e.1=w
  ·simp only[h,decide_true,if_true,cond_true]
  ·simp only[h,decide_false,cond_false,aRF]
   rw[ih]
def RingsN (D:aE)(a:Nat)(L:List (Go.Abs.fW×Pkt))(cap ports lanes:Nat):Prop:= ∃Le:List Rg.En,Rg.IsRings D a Le cap ports lanes/\vF Le=L
theorem aM0 (w:Go.Abs.fW)(ports lanes:Nat):Rg.sL w ports lanes=Gy w ports lanes:=by
 unfold Rg.sL Gy;rw[Bool.eq_iff_iff];simp only[aRi,decide_eq_true_eq];omega
section
variable {D : aE} {m a cap ports lanes : Nat} {L : List (Go.Abs.fW × Pkt)}
theorem RingsN.ext {D':aE}(h:RingsN D a L cap ports lanes)(he:Ext D D'):RingsN D' a L cap ports lanes:=by
 obtain⟨Le,h1,h2⟩:=h
 exact⟨Le,h1.ext he,h2⟩
theorem aMX (hm:300<m)(po la sl:Nat)(h:1<=po/\po<=16/\1<=la/\la<=3/\1<=sl/\sl<=200): ∃a H',lvl prog pkN m (.func 55) [.I po,.I la,.I sl] D=some (.Q a 0,H')/\RingsN H' a [] sl po la/\Ext D H'/\D.length<=a:=by
 obtain⟨a,H',h1,h2,h3,h4⟩:=Rg.aMN (H:=D) hm po la sl h
 exact⟨a,H',h1,⟨[],h3,rfl⟩,h2,h4⟩
theorem aMW (h:RingsN D a L cap ports lanes)(hm:0<m)(i o k:Int):lvl prog pkN m (.func 62) [.Q a 0,.I i,.I o,.I k] D=some (.I (oR L (i,o,k)).length,D):=by
 obtain⟨Le,h1,rfl⟩:=h;rw[<-aAW,<-Rg.Pt];exact Rg.aMM h1 hm i o k
theorem aMZ (h:RingsN D a L cap ports lanes)(hm:100<m)(w:Go.Abs.fW)(x:Pkt): ∃r H',lvl prog pkN m (.func 94) [.Q a 0,.I w.1,.I w.2.1,.I w.2.2,x.dV] D=some (r,H')/\RingsN H' a (if Gy w ports lanes=true/\L.length<cap then L++[(w,x)] else L) cap ports lanes:=by
 obtain⟨Le,h1,rfl⟩:=h;have hl:(vF Le).length=Le.length:=by simp[vF]
 obtain⟨H',L',g1,g2,g3,g4⟩:=Rg.aMU h1 hm w x;rw[aM0,aRi,decide_eq_true_eq] at g4;refine⟨_,H',g1,⟨L',g3,?_⟩⟩;rw[hl];rcases g4 with⟨hv,k,rfl⟩|⟨hv,rfl⟩
 ·rw[if_pos hv]
  simp[vF]
 ·rw[if_neg (by intro hh;rw[hh.1,aRU hh.2] at hv;cases hv)]
theorem aMY (h:RingsN D a L cap ports lanes)(hm:100<m)(i o k:Int): ∃H',lvl prog pkN m (.func 102) [.Q a 0,.I i,.I o,.I k] D=some (Rg.vE (oR L (i,o,k)),H')/\RingsN H' a (pC L (i,o,k)) cap ports lanes:=by
 obtain⟨Le,h1,rfl⟩:=h;obtain⟨H',g1,g2,g3⟩:=Rg.aMT h1 hm (i,o,k);rw[<-aAW,<-aMV]
 exact⟨H',g1,_,g3,rfl⟩
end
section
variable {D : aE} {m a lanes queue : Nat} {L G : List Pkt} {w0 w1 w2 cv : Value}
theorem aM4:bld prog 39 []=some pk0.dV:=rfl
theorem Pz {H:aE}{b:Nat}{y:Pkt}(x:Pkt)(hb:H[b]? =some (eT y)):stN 4 (.Q b 0) x.dV H=some (undef,H.set b (eT x)):=uG hb aC rfl rfl (aRf 4) rfl
theorem aM1:prog.cellsOf 39=4:=by kernel_rfl
theorem aM2 (h:HostI D a L G lanes queue w0 w1 w2 cv)(hm:3<m)(k:Nat)(hk:k<lanes)(hw:eV L k=[]): ∃H',lvl prog pkN m (.func 93) [.Q a 0,.I k] D=some (.tuple #[pk0.dV,.bool false],H')/\HostAt H' a L G lanes queue:=by
 refine mF (cV rfl) U ?_
 rw[Zq];obtain⟨u0,u1,u2,cu,h'⟩:HostAt (D++[eT pk0]) a L G lanes queue:=HostAt.ext ⟨w0,w1,w2,cv,h⟩ (Fr.app _ _ _);have e0: ∀H:aE,H++[Blk.cells [Value.int .i64 0,.int .i64 0,.int .i64 0,.int .u32 0] 39 .fix]=H++[eT pk0]:=λ_=>rfl
 have e1:=Pa h' (m:=m-1) U k hk
 rw[hw] at e1;have st:stN 4 (.Q D.length 0) pk0.dV (D++[eT pk0])=some (undef,D++[eT pk0]):=by
  rw[Pz pk0 (eC _ _),lO]
 have l4:=(sK (eC D (eT pk0))).2;have c1:((([]:List Pkt).length:Int)==0)=true:=rfl;simp only[gsR,e0,e1,c1,aM4,st,l4]
 exact⟨_,rfl,_,_,_,_,h'⟩
theorem HostI.ext {D':aE}(h:HostI D a L G lanes queue w0 w1 w2 cv)(he:Ext D D'):HostI D' a L G lanes queue w0 w1 w2 cv:=
 ⟨by rw[he.2 a (dT h.blk) id,h.blk],h.lanes,h.queue,λk hk=>(h.q k hk).ext he,h.came.ext he,h.apart,h.apartC⟩
theorem aM3 (h:HostI D a L G lanes queue w0 w1 w2 cv)(hm:3<m)(k:Nat)(hk:k<lanes){x:Pkt}{xs:List Pkt}(hw:eV L k=x::xs): ∃H',lvl prog pkN m (.func 93) [.Q a 0,.I k] D=some (.tuple #[x.dV,.bool true],H')/\HostAt H' a (sD L k) G lanes queue:=by
 have h3:k<3:=aRp hk h.lanes.2;refine mF (cV rfl) U ?_
 rw[Zq];have e0: ∀H:aE,H++[Blk.cells [Value.int .i64 0,.int .i64 0,.int .i64 0,.int .u32 0] 39 .fix]=H++[eT pk0]:=λ_=>rfl
 obtain⟨D1,hD1⟩:=aD (D++[eT pk0]);obtain⟨D3,hD3⟩:=aD (D1++[eT x]);have h1l:D1.length=D.length+1:=by rw[hD1];simp
 have i1:HostI D1 a L G lanes queue w0 w1 w2 cv:=h.ext (by rw[hD1];exact Fr.app _ _ _)
 have i3:HostI D3 a L G lanes queue w0 w1 w2 cv:=i1.ext (by rw[hD3];exact Fr.app _ _ _)
 have e1:=Pa i1 (m:=m-1) U k hk
 rw[hw] at e1;have c1:(((x::xs).length:Int)==0)=false:=by simp;omega
 have e2:=Hm 3 1 a 0 .i64 k h3;rw[Nat.mul_one,aRv] at e2;have q1:=i1.q k h3;rw[hw] at q1;obtain⟨b,o,a1,_,a3⟩:=q1.rs.fV C3 (i:=0) (x:=x) rfl .i64;have a1:bS 4 (w3 w0 w1 w2 k) (.I 0)=some (.Q b o):=a1;have a3:=(a3 D1 rfl).1;have a3':ldN 4 (.Q b o) D1=some (x.dV,D1):=a3;have st0:stN 4 (.Q D1.length 0) x.dV (D1++[eT pk0])=some (undef,D3):=by
  rw[Pz x (eC _ _),lO,hD3]
 have q3:=i3.q k h3;rw[hw] at q3;obtain⟨v',g1,g2,g3⟩:=q3.aLT (P:=prog) C3 aM1;have g1:=g1 D3 q3;have st1:stN 1 (.Q a k) v' D3=some (undef,D3.set a (.cells (([w0,w1,w2,cv,.I lanes,.I queue]:List Value).set k v') 161 .fix)):=pP i3.blk aC (by simp;omega) g2.Aj.1 g2.Aj.2
 obtain⟨Y,hY⟩:=aD (Blk.cells (([w0,w1,w2,cv,.int .i64 lanes,.int .i64 queue]:List Value).set k v') 161 .fix);rw[<-hY] at st1;have hal:a<D.length:=dT h.blk;have b12:(D3.set a Y)[D1.length]? =some (eT x):=by rw[aRb U,hD3,eC]
 have b00:(D3.set a Y)[D.length]? =some (eT pk0):=by rw[aRb U,hD3,hD1,aRd (by simp),eC]
 have l12:=(sK b12).2;have st2:stN 4 (.Q D.length 0) x.dV (D3.set a Y)=some (undef,(D3.set a Y).set D.length (eT x)):=uG b00 aC rfl rfl (aRf 4) rfl
 have l00:=(sK (fS (y:=eT x) b00)).2;simp only[gsR,e0,<-hD1,e1,c1,e2,C2 i1 h3,a1,a3',st0,C2 i3 h3,g1,st1,l12,st2,l00];refine⟨_,rfl,?_⟩;have hE:(D3.set a Y).set D.length (eT x)=(D++[eT x]++[eT x]).set a Y:=by
  rw[List.set_comm _ _ U,hD3,hD1]
  congr 1
  simp
 rw[hE,hY];have he1:Ext D (D++[eT x]):=Fr.app _ _ _;have he:Ext D (D++[eT x]++[eT x]):=he1.tr (Fr.app _ _ _);have q0:=h.q k h3;rw[hw] at q0;refine h.aAj h3 (he.Bw λ_ h=>h.elim) ?_ (λb hb=> .inl (g3 b hb)) λj hj hjk=> ?_
 ·rw[Hn,if_pos rfl,hw]
  refine g2.yK λb hb=> ?_
  have hb2:=(h.q k h3).wO (g3 b hb);rw[hD3,hD1,aRh,aRd hb2,aRh,aRd hb2]
 ·rw[Hn,if_neg U]
end
def eM (b n:Nat):Value:= .slice (some ⟨b,0,none⟩) n n
section
variable {H : aE} {m : Nat}
theorem aAY:prog.underlying 200=some (.int .u64):=by kernel_rfl
theorem aM5 (hm:1<m)(n:Nat)(hn:n<=16):lvl prog pkN m (.func 119) [.int .u64 1,.int .u64 n] H=some (.tuple #[.int .u64 0,.int .u64 n],H):=by
 have main:lvl prog pkN (m-1) (.func 140) [.int .u64 1,.int .u64 n] H=some (.tuple #[.int .u64 0,.int .u64 n],H):=by
  refine dH (cV rfl) U ?_
  rw[aKt];have p1:bin prog .and 82 (.int .u64 1) (.int .u64 4294967295)=some (.int .u64 1):=by kernel_rfl
  have p2:bin prog .shr 82 (.int .u64 1) (.int .u64 32)=some (.int .u64 0):=by kernel_rfl
  have p3:bin prog .and 82 (.int .u64 n) (.int .u64 4294967295)=some (.int .u64 n):=by
   have:=xX (P:=prog) .u64 rfl 82 (a:=n) (b:=4294967295) (by show _<18446744073709551616;omega) (by show _<18446744073709551616;omega)
   rw[show n&&&4294967295=n by rw[show(4294967295:Nat)=2 ^ 32-1 from rfl,Nat.and_two_pow_sub_one_eq_mod];exact aRI U] at this
   exact this
  have p4:bin prog .shr 82 (.int .u64 n) (.int .u64 32)=some (.int .u64 0):=by
   have:=E9 (P:=prog) .u64 .u64 82 n 32 aC
   rw[Nat.shiftRight_eq_div_pow,Nat.div_eq_of_lt U] at this
   exact this
  have q1:IntKind.u64.wrap (1*(n:Int))=n:=by rw[Int.one_mul];exact Ad n U
  have q2:IntKind.u64.wrap (0*(n:Int))=0:=by rw[Int.zero_mul];rfl
  have q3:IntKind.u64.wrap (0+0)=0:=rfl;have q4:IntKind.u64.wrap (1*0)=0:=rfl;have q5:IntKind.u64.wrap (0*0)=0:=rfl;have p5:bin prog .and 82 (.int .u64 0) (.int .u64 4294967295)=some (.int .u64 0):=by kernel_rfl
  have p6:bin prog .shr 82 (.int .u64 0) (.int .u64 32)=some (.int .u64 0):=by kernel_rfl
  simp only[gsR,p1,p2,p3,p4,Tx,q1,q2,cU,q3,q4,q5,p5,p6]
 refine dH (cV rfl) U ?_
 rw[aKo];simp only[gsR,main]
def lP (n k:Nat):Blk:= .cells (List.replicate k (.int .i64 (-1))++List.replicate (n-k) (.int .i64 0)) 3 .row
theorem aM6 (k:Nat):dX (List.replicate k (Value.I (-1)))=true:=by
 unfold dX;rw[List.all_replicate]
 split<;>rfl
theorem aAX {n k j:Nat}(hj:k+j<=n):eS (List.replicate k (Value.I (-1))++List.replicate (n-k) (.I 0)) k (List.replicate j (.I (-1)))=List.replicate (k+j) (.I (-1))++List.replicate (n-(k+j)) (.I 0):=by
 have:=wA (List.replicate j (Value.I (-1))) (List.replicate j (.I 0)) (List.replicate k (Value.I (-1))) (List.replicate (n-(k+j)) (.I 0)) (by simp)
 rw[aRQ] at this;rw[show List.replicate (n-k) (Value.I 0)=List.replicate j (.I 0)++List.replicate (n-(k+j)) (.I 0) by rw[List.replicate_append_replicate];congr 1;omega]
 rw[<-aRh,this,List.replicate_append_replicate]
theorem aM7 {n k:Nat}(G:aE)(hk:k<=n)(h1:1<=k)(c:Nat):cpy 1 (.slice (some ⟨G.length,k,none⟩) (n-k) c) (.slice (some ⟨G.length,0,none⟩) k n) (G++[lP n k])=some (.I (min k (n-k):Nat),G++[lP n (k+min k (n-k))]):=by
 have hb:(G++[lP n k])[G.length]? =some (lP n k):=eC _ _;have hs:gU 1 (.slice (some ⟨G.length,0,none⟩) k n) (min k (n-k)) (G++[lP n k])=some (List.replicate (min k (n-k)) (.I (-1))):=by
  unfold gU;by_cases h0:min k (n-k)=0
  ·simp[h0]
  ·simp only
   rw[if_neg h0,hb];unfold lP;simp only;rw[if_pos (by simp;omega)]
   congr 1
   rw[List.drop_zero,List.take_append_of_le_length (by simp;omega),List.take_replicate]
   congr 1
   omega
 unfold cpy;have h2:mL (.slice (some ⟨G.length,0,none⟩) k n)=some k:=rfl;rw[h2];simp only;rw[hs];simp only;rw[hb];unfold lP;simp only;rw[if_pos ⟨by decide,by simp;omega,aM6 _⟩,aAX U,lO]
theorem aM9 {n:Nat}(hn:n<=16){G:aE}: ∀(q k l:Nat),n-k=q->k<=n->1<=k->q<l-> ∀(x0 x1 x2 x3 x4 x5 x6 x9 bQ cG aS aP aQ aO bB bI aR bJ bM bT bN bP aU aV aW aX aY aZ bA bH bO bV cH cJ bX cC bY b9 cA cD cF cM cN cO cQ cW:Value),
  aK l (aM prog (lvl prog pkN m) (aK m) Oq) (Ot (lvl prog pkN m) (aK m)) [x0,x1,x2,x3,x4,x5,x6,(eM G.length n),(.I (k:Nat)),x9,bQ,cG,aS,aP,aQ,aO,bB,bI,aR,bJ,bM,bT,bN,bP,aU,aV,aW,aX,aY,aZ,bA,bH,bO,bV,cH,cJ,bX,cC,bY,b9,cA,cD,cF,cM,cN,cO,cQ,cW] (G++[lP n k])=some (eM G.length n,G++[lP n n]):=by
 intro q;induction q using Nat.strongRecOn with
 |ind q ih=>
  intro k l hq hk h1 hl;intros;obtain⟨l,rfl⟩: ∃l',l=l'+1:=⟨l-1,by omega⟩
  have e1:cK (eM G.length n)=some (.I n):=rfl;rw[aK,aK9];by_cases hc:k=n
  ·subst hc
   have c1:decide ((k:Int)<(k:Int))=false:=by simp
   simp only[gsR,e1,c1];rw[aLd];simp only[gsR]
  ·have c1:decide ((k:Int)<(n:Int))=true:=by rw[decide_eq_true_eq];omega
   have hb:(G++[lP n k])[G.length]? =some (lP n k):=eC _ _;have s1:slc prog 1 (eM G.length n) (some (.I (k:Nat))) none none (G++[lP n k])=some (.slice (some ⟨G.length,k,none⟩) (n-k) (n-k),G++[lP n k]):=by
    have:=uZ (P:=prog) (sz:=1) (b:=G.length) (o:=0) (len:=n) (cap:=n) (lo:=some (.I (k:Nat))) (hi:=none) (mx:=none) hb (λ_=>by kernel_rfl) (oE 0 .i64 k) rfl rfl hk (aRf _) (aRf _)
    rw[aRv,Nat.mul_one] at this;exact this
   have s2:slc prog 1 (eM G.length n) none (some (.I (k:Nat))) none (G++[lP n k])=some (.slice (some ⟨G.length,0,none⟩) k n,G++[lP n k]):=by
    have:=uZ (P:=prog) (sz:=1) (b:=G.length) (o:=0) (len:=n) (cap:=n) (lo:=none) (hi:=some (.I (k:Nat))) (mx:=none) hb (λ_=>by kernel_rfl) rfl (oE n .i64 k) rfl (Nat.zero_le _) hk (aRf _)
    rw[Nat.zero_mul] at this;exact this
   have s3:=aM7 G hk h1 (n-k);have e4:IntKind.i64.wrap ((k:Int)+((min k (n-k):Nat):Int))=((k+min k (n-k):Nat):Int):=by rw[dJ U U];omega
   simp only[gsR,e1,c1,s1,s2,s3,cU,e4];exact ih (n-(k+min k (n-k))) U (k+min k (n-k)) l rfl U U U ..
theorem aM8 (hm:40<m)(n:Nat)(h1:1<=n)(hn:n<=16){b c:Nat}{e:TypeId}{kk:Kind}(hb:H[b]? =some (.cells [.I (-1)] e kk)):lvl prog pkN m (.func 96) [.slice (some ⟨b,0,none⟩) 1 c,.I n] H=some (eM H.length n,H++[lP n n]):=by
 refine dH (cV rfl) U ?_
 rw[aLe];have c1:decide ((n:Int)<0)=false:=by rw[decide_eq_false_iff_not];omega
 have c2:decide ((0:Int)<0)=false:=rfl;have c3:decide ((9223372036854775807:Int)<(n:Int))=false:=by rw[decide_eq_false_iff_not];omega
 have e0:cK (.slice (some ⟨b,0,none⟩) 1 c)=some (.I 1):=rfl;have e1:IntKind.u64.wrap (1:Int)=1:=rfl;have e2:IntKind.u64.wrap (n:Int)=n:=Ad n U
 have e3:=aM5 (H:=H) (m:=m-1) U n hn
 have x0:ext 0 (.tuple #[.int .u64 0,.int .u64 n])=some (.int .u64 0):=rfl;have x1:ext 1 (.tuple #[.int .u64 0,.int .u64 n])=some (.int .u64 n):=rfl;have e4:IntKind.i64.wrap (n:Int)=n:=Zt n U
 have mk:=vY (H:=H) 3 1 8 [.I 0] .i64 .i64 (n:Int) U U U rfl
 have hz:H++[Blk.cells (List.replicate (n:Int).toNat [Value.int .i64 0]).flatten 3 .row]=H++[lP n 0]:=by
  have: ∀n,(List.replicate n [Value.I 0]).flatten=List.replicate n (.I 0):=by
   intro n;induction n with
   |zero=>rfl
   |succ n ih=>rw[List.replicate_succ,aRK,ih];rfl
  rw[aRC,this];rfl
 rw[hz,aRC] at mk;have cp:cpy 1 (.slice (some ⟨H.length,0,none⟩) n n) (.slice (some ⟨b,0,none⟩) 1 c) (H++[lP n 0])=some (.I (1:Nat),H++[lP n 1]):=by
  have hs:gU 1 (.slice (some ⟨b,0,none⟩) 1 c) 1 (H++[lP n 0])=some [.I (-1)]:=by
   unfold gU;simp only;rw[if_neg aC,oO hb]
   rfl
  unfold cpy;have h2:mL (.slice (some ⟨b,0,none⟩) 1 c)=some 1:=rfl;rw[h2];simp only;rw[Nat.min_eq_left h1,hs];simp only;rw[eC];unfold lP;simp only;rw[if_pos ⟨by decide,by simp;omega,rfl⟩]
  have:=aAX (n:=n) (k:=0) (j:=1) U
  rw[show List.replicate 1 (Value.I (-1))=[.I (-1)] from rfl] at this
  rw[this,lO];rfl
 simp only[gsR,c1,c2,c3,e0,hZ _ _ iU aAY,e1,e2,e3,x0,x1,hZ _ _ aAY iU,e4,mk,cp];exact aM9 hn (n-1) 1 (m-1) rfl h1 (aRf _) U ..
end
end Go.Proofs.YtndnnndnhnlkdaaGreatDoor
namespace Go.Abs
open M
open Classical
def Blks (l:List (Nat×Blk))(D:aE):Prop:= ∀p∈l,D[p.1]? =some p.2
def InB (l:List (Nat×Blk))(b:Nat):Prop:= ∃p∈l,p.1=b
def tD (l:List (Nat×Blk)):Prop:= ∀p∈l,p.2≠Blk.dead
theorem Blks.dx (l:List (Nat×Blk)):DX (Blks l):=λD D' h he p hp=>by
 have h1:=h p hp;rw[he.2 p.1 (aRa.mp h1).1 id,h1]
theorem Blks.aNa {l:List (Nat×Blk)}(hl:tD l):Pos (Blks l):=λD H hs h p hp=>hs.2 p.1 p.2 (h p hp) (hl p hp)
theorem Has.inB {l:List (Nat×Blk)}{F:Nat->Prop}{H:aE}(h:Has (Blks l) F H)(hl:tD l){b:Nat}(hb:InB l b):F b:=by
 obtain⟨p,hp,rfl⟩:=hb;have h1:=h.at_ p hp;refine Classical.byContradiction λhF=> ?_
 have hlt:=(aRa.mp h1).1;rw[tX] at hlt;rw[wE hF hlt] at h1;exact hl p hp (aRM h1).symm
theorem Has.Hx {l:List (Nat×Blk)}{F:Nat->Prop}{H:aE}(hb:Blks l H)(hF: ∀p∈l,F p.1)(hlt: ∀b,F b->b<H.length):Has (Blks l) F H:=
 ⟨λp hp=>by rw[Bz (hF p hp),hb p hp],hlt⟩
theorem Mv.aNb {F:Nat->Prop}{A:Nat->Prop}{H H':aE}(h:Fr A H H')(hA: ∀b,A b->F b):Mv F F H H':=⟨h.1,λ_ hb=> .inl hb,λb hb hF=>h.2 b hb λhh=>hF (hA b hh)⟩
theorem aNd {ι α:Type}(f:ι->α)(i:ι):updI f i (f i)=f:=by
 funext j
 unfold updI;split
 ·rename_i h
  rw[h]
 ·rfl
theorem Sep.aNc {ι:Type}{A:ι->aE->Prop}{F:ι->Nat->Prop}{H H':aE}(h:Sep A F H)(i:ι)(hA: ∀j,j≠i->DX (A j)){l l':List (Nat×Blk)}(hi:A i=Blks l)(hl:tD l)(hsub: ∀p∈l',InB l p.1)(hf:Fr (InB l) H H')(hB:Blks l' H'):
  Sep (updI A i (Blks l')) F H'/\Mv (Un F) (Un F) H H':=by
 have h0:=h.own i;rw[hi] at h0;have hm:Mv (F i) (F i) H H':=Mv.aNb hf λb hb=>h0.inB hl hb
 have h1:Has (Blks l') (F i) H':=Has.Hx hB (λp hp=>h0.inB hl (hsub p hp)) λb hb=>aRp (h0.lt b hb) hf.1
 have h2:=h.Kx i hA h1 hm;rw[aNd] at h2;exact h2
theorem Sep.see {ι:Type}{A:ι->aE->Prop}{F:ι->Nat->Prop}{H:aE}(h:Sep A F H)(i:ι){l:List (Nat×Blk)}(hi:A i=Blks l)(hl:tD l):Blks l H:=by
 have h0:=h.own i;rw[hi] at h0;exact h0.aF8 (Blks.aNa hl)
theorem Sep.yP {ι:Type}{A:ι->aE->Prop}{F:ι->Nat->Prop}{H:aE}(h:Sep A F H)(i:ι){l:List (Nat×Blk)}(hi:A i=Blks l)(hl:tD l){b:Nat}{x:Blk}(hm:(b,x)∈l):H[b]? =some x:=h.see i hi hl _ hm
theorem Sep.Hy {ι:Type}{A:ι->aE->Prop}{F:ι->Nat->Prop}{H H':aE}(h:Sep A F H)(i:ι)(hA: ∀j,DX (A j))(hi: ∀b,¬F i b){B:aE->Prop}{G:Nat->Prop}(hB:Has B G H')(he:Ext H H')(hn: ∀b,G b->H.length<=b):
  Sep (updI A i B) (updI F i G) H':=by
 have hm:Mv (F i) G H H':=⟨he.1,λb hb=> .inr (hn b hb),λb hb _=>he.2 b hb id⟩
 exact(h.Kx i (λj _=>hA j) hB hm).1
theorem Has.aAZ {A:aE->Prop}{H:aE}{P:Program}{pr:gQ}(hp:FrP pr){n:Nat}{fn:Fn}{args:List Value}{B:Value->aE->Prop}
  (hc: ∀D:aE,D.length=H.length->(∀(b:Nat)(x:Blk),D[b]? =some x->x=Blk.dead)-> ∃r D',lvl P pr n fn args D=some (r,D')/\B r D'):
  ∃r H' G,lvl P pr n fn args H=some (r,H')/\Has (B r) G H'/\Ext H H'/\ ∀b,G b->H.length<=b:=by
 obtain⟨r,D',h1,h2⟩:=hc (rst (λ_=>False) H) (tX _ _) λb x hb=>by
  have hlt:=(aRa.mp hb).1;rw[tX] at hlt;rw[wE (λh=>h) hlt] at hb
  cases hb;rfl
 obtain⟨H',F',h3,rfl,h4,h5⟩:=Vs hp h1
 exact⟨r,H',F',h3,⟨h2,h5⟩,h4.Vp.2,h4.Vp.1⟩
end Go.Abs
namespace Go.Abs
open M
theorem sM (p:Nat->Bool){n:Nat}(hn:n<=16):dS p n<65536:=aRp (B6 p n) (show 2 ^ n<=2 ^ 16 from Nat.pow_le_pow_right U hn)
def fF (m:List Int)(n:Nat):Nat:=dS (λi=>decide (m.getD i 0= -1)) n
def kP (m:List Int)(n:Nat):Nat:=dS (λk=>decide ((k:Int)∉m)) n
theorem P0 (n:Nat):dS (λ_=>true) n=2 ^ n-1:=by
 induction n with
 |zero=>rfl
 |succ n ih=>
  rw[dS,ih,if_pos rfl,Nat.pow_succ];have:0<2 ^ n:=Nat.pow_pos U
  omega
theorem aNm (n:Nat):fF (List.replicate n (-1)) n=2 ^ n-1:=by
 rw[<-P0];refine Fc λi hi=> ?_
 rw[decide_eq_true_eq,aRe,List.getElem?_replicate_of_lt hi];rfl
theorem aNp (n:Nat):kP (List.replicate n (-1)) n=2 ^ n-1:=by
 rw[<-P0];refine Fc λi hi=> ?_
 rw[decide_eq_true_eq];intro h;have:=List.eq_of_mem_replicate h;omega
theorem aNl {m:List Int}{n i k:Nat}(hi:i<n)(hl:m.length=n):fF (m.set i (k:Int)) n=lN (fF m n) (2 ^ i):=by
 apply Nat.eq_of_testBit_eq;intro j;rw[Ky,fF,fF,lI,lI,Nat.testBit_two_pow];by_cases hj:i=j
 ·subst hj
  have:(m.set i (k:Int)).getD i 0=k:=by rw[aRe,aRg U,aRD]
  rw[this];simp
 ·rw[aRe,aRb hj,<-aRe]
  simp[hj]
theorem aNn {m:List Int}{n i k:Nat}(hi:i<n)(hl:m.length=n)(hf:m.getD i 0= -1):kP (m.set i (k:Int)) n=lN (kP m n) (2 ^ k):=by
 apply Nat.eq_of_testBit_eq;intro j;rw[Ky,kP,kP,lI,lI,Nat.testBit_two_pow];have hi':i<m.length:=U
 have key:((j:Int)∈m.set i (k:Int))↔((j:Int)∈m∨j=k):=by
  constructor
  ·intro h
   rcases List.mem_or_eq_of_mem_set h with h|h
   ·exact .inl h
   ·exact .inr U
  ·intro h
   rcases h with h|h
   ·obtain⟨l,hl,he⟩:=List.mem_iff_getElem.mp h
    have hne:l≠i:=by
     intro hh;subst hh;rw[aRe,aRc hl,aRD,he] at hf;omega
    refine List.mem_iff_getElem.mpr ⟨l,by simpa using hl,?_⟩
    rw[List.getElem_set_ne (λhh=>hne hh.symm),he]
   ·subst h
    exact List.mem_set hi' _
 rw[show(decide ((j:Int)∉m.set i (k:Int)))=(decide ((j:Int)∉m)&& !decide (k=j)) by
  rw[Bool.eq_iff_iff];simp only[decide_eq_true_eq,aRi,Bool.not_eq_true',decide_eq_false_iff_not];rw[key];constructor
  ·intro h
   exact⟨λhh=>h (.inl hh),λhh=>h (.inr hh.symm)⟩
  ·rintro ⟨h1,h2⟩ h
   rcases h with h|h
   ·exact h1 h
   ·exact h2 h.symm]
 rw[Bool.and_assoc]
def k8 (rows:List Nat)(i k:Nat):Bool:=(rows.getD i 0).testBit k
def grM (gr:Nat->Option Nat)(kk i:Nat):Nat:=dS (λk=>gr k==some i) kk
def grL (gr:Nat->Option Nat)(n kk:Nat):List Nat:=(List.range n).map (grM gr kk)
theorem yQ (gr:Nat->Option Nat)(n kk:Nat):(grL gr n kk).length=n:=by simp[grL]
theorem C7 {gr:Nat->Option Nat}{n kk i:Nat}(hi:i<n):(grL gr n kk)[i]? =some (grM gr kk i):=by simp[grL,hi]
theorem aNi (gr:Nat->Option Nat)(n:Nat):grL gr n 0=List.replicate n 0:=by
 apply aRL;intro i;by_cases hi:i<n
 ·rw[C7 hi,List.getElem?_replicate_of_lt hi]
  rfl
 ·rw[aRl (by rw[yQ];omega),aRl (by simp;omega)]
theorem aA4 {gr:Nat->Option Nat}{kk i:Nat}(h:gr kk≠some i):grM gr (kk+1) i=grM gr kk i:=by
 unfold grM;rw[dS,if_neg (by simpa using h),Nat.add_zero]
theorem aNj {gr:Nat->Option Nat}{kk i:Nat}(h:gr kk=some i):grM gr (kk+1) i=grM gr kk i|||2 ^ kk:=by
 apply Nat.eq_of_testBit_eq;intro j;rw[V0,grM,grM,lI,lI];by_cases hj:j=kk
 ·subst hj
  simp[h]
 ·by_cases hlt:j<kk
  ·simp[hlt,show j<kk+1 by omega,show¬kk=j by omega]
  ·simp[hlt,show¬j<kk+1 by omega,show¬kk=j by omega]
theorem aA2 {gr:Nat->Option Nat}{n kk:Nat}(h: ∀i,i<n->gr kk≠some i):grL gr n (kk+1)=grL gr n kk:=by
 unfold grL;refine List.map_congr_left λi hi=>aA4 (h i (aRO.mp hi))
theorem aNh {gr:Nat->Option Nat}{n kk i:Nat}(hi:i<n)(h:gr kk=some i):grL gr n (kk+1)=(grL gr n kk).set i (grM gr kk i|||2 ^ kk):=by
 apply aRL;intro j;by_cases hj:j<n
 ·rw[C7 hj]
  by_cases hij:i=j
  ·subst hij
   rw[aRg (by rw[yQ];exact hi),aNj h]
  ·rw[aRb hij,C7 hj,aA4 (by rw[h];simp;exact hij)]
 ·rw[aRl (by rw[yQ];omega),aRl (by rw[List.length_set,yQ];omega)]
theorem aA3 (gr:Nat->Option Nat){kk:Nat}(hk:kk<=16)(i:Nat):grM gr kk i<65536:=sM _ hk
theorem aNk {rows:List Nat}{m:List Int}{G:List Nat}{n k:Nat}(hr:rows.length=n)(hk:k<n):
  oF (k8 rows) m G n k=if(k:Int)∈m then none else kC (λi=>((kD rows n).getD k 0&&&fF m n).testBit i) (G.getD k 0) n:=by
 unfold oF;split
 ·rfl
 ·refine Fb λi hi=> ?_
  have hc:(kD rows n).getD k 0=dS (λi=>(rows.getD i 0).testBit k) rows.length:=by
   rw[aRe,kD,aRn,aRS hk];rfl
  rw[Nat.testBit_and,hc,fF,lI,lI,hr,aRU hi,aRx,aRx,k8,Bool.and_comm]
theorem aNo {m:List Int}{n k:Nat}(hk:k<n):(kP m n).testBit k=decide ((k:Int)∉m):=by rw[kP,lI,aRU hk,aRx]
theorem aNg {rows:List Nat}{n k:Nat}(hr:rows.length<=16)(hk:k<n):(kD rows n).getD k 0<65536:=by
 rw[aRe,kD,aRn,aRS hk];exact sM _ hr
theorem aA5 {req:Nat->Nat->Bool}{m:List Int}{G:List Nat}{n k i:Nat}(h:oF req m G n k=some i):m.getD i 0= -1/\i<n:=by
 unfold oF at h
 split at h
 ·cases h
 ·have:=wF h
  rw[aRi,decide_eq_true_eq] at this
  exact⟨this.2.1,this.1⟩
theorem aNe {req:Nat->Nat->Bool}{n:Nat}{first:Bool}{m0:List Int}{g0:List Nat}{s:Mat}{i:Nat}(hm:s.m.getD i 0=m0.getD i 0):
  acc (oF req m0 g0 n) n first s i=match kC (λk=>(grM (oF req m0 g0 n) n i).testBit k) (s.a.getD i 0) n with
   |none=>s
   |some k=>⟨s.m.set i (k:Int),if first=true then s.g.set k ((i+1)%n) else s.g,if first=true then s.a.set i ((k+1)%n) else s.a⟩:=by
 have e:kC (λk=>(grM (oF req m0 g0 n) n i).testBit k) (s.a.getD i 0) n=kC (λk=>oF req m0 g0 n k==some i) (s.a.getD i 0) n:=Fb λk hk=>by
  rw[grM,lI,aRU hk,aRx]
 rw[e];unfold acc;split
 ·rfl
 ·rename_i hn
  have:kC (λk=>oF req m0 g0 n k==some i) (s.a.getD i 0) n=none:=by
   rw[Vy];intro k hk;rw[beq_eq_false_iff_ne];intro hh;exact hn (hm.trans (aA5 hh).1)
  rw[this]
theorem aA0 {gr:Nat->Option Nat}{n:Nat}{first:Bool}: ∀(l:List Nat)(s:Mat),l.Nodup->(∀i∈l,i<s.m.length)->(∀i∈l,s.m.getD i 0= -1->(l.foldl (acc gr n first) s).m.getD i 0= -1)->l.foldl (acc gr n first) s=s
 |[],s,_,_,_=>rfl
 |i::l,s,hn,hl,h=>by
  rw[List.foldl_cons] at h⊢;have hi:=hl i (aRj ..);rw[List.nodup_cons] at hn;rcases K1 (gr:=gr) (n:=n) (first:=first) (s:=s) hi with h1|⟨h1,h2⟩
  ·rw[h1] at h⊢
   exact aA0 l s hn.2 (λj hj=>hl j (aRr _ hj)) λj hj=>h j (aRr _ hj)
  ·have h3:=B5 (gr:=gr) (n:=n) (first:=first) (j:=i) l (acc gr n first s i) hn.1
   exact absurd (h3.symm.trans (h i (aRj ..) h2)) h1
theorem aNr {req:Nat->Nat->Bool}{n:Nat}{first:Bool}{s:Mat}(hl:s.m.length=n)(h:fF (rnd req n first s).m n=fF s.m n):rnd req n first s=s:=by
 refine aA0 _ _ List.nodup_range (λi hi=>by rw[aRO] at hi;omega) λi hi h0=> ?_
 rw[aRO] at hi;have h1:(fF (rnd req n first s).m n).testBit i=(fF s.m n).testBit i:=by rw[h]
 rw[fF,fF,lI,lI,aRU hi,aRx,aRx,aRU h0,decide_eq_true_eq] at h1;exact h1
theorem aNf (M n:Nat):M&&&(2 ^ n-1)=dS (λi=>M.testBit i) n:=by
 apply Nat.eq_of_testBit_eq;intro i;rw[Nat.testBit_and,lI,<-P0,lI,Bool.and_true,Bool.and_comm]
theorem aA1 (p q:Nat->Bool)(n:Nat):dS p n&&&dS q n=dS (λi=>p i&&q i) n:=by
 apply Nat.eq_of_testBit_eq;intro i;rw[Nat.testBit_and,lI,lI,lI];cases decide (i<n)<;>simp
theorem Ao (p:Nat->Bool)(n:Nat):dS p n=0↔oL p n=false:=by
 rw[aGs];constructor
 ·intro h
  cases hw:oL p n with
  |false=>rfl
  |true=>
   obtain⟨i,h1,h2⟩:=zU.mp hw;rw[h i h1] at h2;cases h2
 ·intro h i hi
  cases hp:p i with
  |false=>rfl
  |true=>
   rw[zU.mpr ⟨i,hi,hp⟩] at h;cases h
theorem aNq (p:Nat->Bool)(fr n:Nat):kC (λi=>(dS p n).testBit i) fr n=kC p fr n:=Fb λi hi=>by rw[lI,aRU hi,aRx]
theorem Ia {p:Nat->Bool}{k:Nat}(h:p k=true):dS p (k+1)=dS p k|||2 ^ k:=by
 apply Nat.eq_of_testBit_eq;intro j;rw[V0,lI,lI];by_cases hj:j=k
 ·subst hj
  simp[h]
 ·by_cases hlt:j<k
  ·simp[hlt,show j<k+1 by omega,show¬k=j by omega]
  ·simp[hlt,show¬j<k+1 by omega,show¬k=j by omega]
theorem Hz {p:Nat->Bool}{k:Nat}(h:p k=false):dS p (k+1)=dS p k:=by rw[dS,h];simp
theorem aA6 {p q:Nat->Bool}{n:Nat}(h: ∀i,i<n->p i=q i):oL p n=oL q n:=by
 rw[Bool.eq_iff_iff,zU,zU];constructor
 ·rintro ⟨i,h1,h2⟩
  exact⟨i,h1,by rw[<-h i h1];exact h2⟩
 ·rintro ⟨i,h1,h2⟩
  exact⟨i,h1,by rw[h i h1];exact h2⟩
theorem aNs {W:List Int}{s:Whl}{p q:Nat->Bool}(h: ∀i,i<W.length->p i=q i):lH W s p=lH W s q:=by
 have h1:oL p W.length=oL q W.length:=aA6 h;have h2: ∀l:List Int,∀i,i<W.length->nL l p i=nL l q i:=λl i hi=>by unfold nL;rw[h i hi]
 have h3:mG W s p=mG W s q:=by unfold mG;rw[aA6 (h2 s.l)]
 unfold lH;rw[h1,h3,Fb (h2 _)]
end Go.Abs
namespace Go.Proofs.YtndnnndnhnlkdaaGreatDoor
open Go.Proofs.Tryz
open Go.Abs Go.Abs.M
def fH (zs:List Int)(rest:List Value):Blk:= .cells (zs.map (λz:Int=> .int .i64 z)++rest) 3 .row
def kQ (b n c:Nat):Value:= .slice (some ⟨b,0,none⟩) n c
def sN (ww wl wc lc n:Nat)(fr:Nat):Blk:= .cells [kQ ww n wc,kQ wl n lc,.int .i64 fr] 164 .fix
def lQ (wh ww wl wc lc:Nat)(wr lr:List Value)(W:List Int)(x:Whl):List (Nat×Blk):=
 [(wh,sN ww wl wc lc W.length x.fr),(ww,fH W wr),(wl,fH x.l lr)]
theorem aA7: ∀W:List Int,dX (W.map λz:Int=>Value.I z)=true
 |[]=>rfl
 |_::W=>aA7 W
theorem aA9 {ww wl wc lc n fr:Nat}{zs:List Int}{lr:List Value}:sN ww wl wc lc n fr≠fH zs lr:=λh=>by
 injection h with _ h2
 revert h2
 decide
section
variable {H : aE} {m : Nat}
theorem aNu (hm:0<m)(M i:Nat)(hM:M<65536)(hi:i<16):lvl prog pkN m (.func 122) [.int .u16 M,.I i] H=some (.bool (M.testBit i),H):=by
 refine dH (cV rfl) U ?_
 rw[aKp];have c1:decide ((0:Int)<=(i:Int))=true:=by rw[decide_eq_true_eq];omega
 have c2:decide ((i:Int)<16)=true:=by rw[decide_eq_true_eq];omega
 have e1:bin prog .shr 23 (.int .u16 (M:Int)) (.I (i:Int))=some (.int .u16 ((M>>>i:Nat):Int)):=E9 .u16 .i64 23 M i (by show i<=16;omega)
 have hlt:M>>>i<65536:=Nat.lt_of_le_of_lt (Nat.shiftRight_le M i) hM;have e2:bin prog .and 23 (.int .u16 ((M>>>i:Nat):Int)) (.int .u16 ((1:Nat):Int))=some (.int .u16 (((M>>>i)&&&1:Nat):Int)):=xX .u16 rfl 23 (by show _<65536;exact hlt) (by show(1:Nat)<65536;omega)
 have e2':bin prog .and 23 (.int .u16 ((M>>>i:Nat):Int)) (.int .u16 1)=some (.int .u16 (((M>>>i)&&&1:Nat):Int)):=e2;have e3:((((M>>>i)&&&1:Nat):Int)==1)=M.testBit i:=by
  rw[Nat.testBit,Nat.and_comm 1];rw[Nat.and_one_is_mod];rcases Nat.mod_two_eq_zero_or_one (M>>>i) with h|h<;>rw[h]<;>rfl
 simp only[gsR,c1,c2,e1,e2',e3]
theorem wS {a i:Nat}(ha:a<65536)(hi:i<16):bin prog .shl 23 (.int .u16 1) (.I (i:Int))=some (.int .u16 ((2 ^ i:Nat):Int))/\bin prog .or 23 (.int .u16 (a:Int)) (.int .u16 ((2 ^ i:Nat):Int))=some (.int .u16 ((a|||2 ^ i:Nat):Int)):=by
 have hp:=Fe hi;constructor
 ·have:=E8 (P:=prog) .u16 .i64 rfl 23 1 i (by show i<=16;omega)
  rw[Nat.one_mul] at this;rw[show(2:Nat) ^ i%2 ^ IntKind.u16.bits=2 ^ i from aRI hp] at this
  exact this
 ·exact Kz .u16 rfl _ (by show _<65536;exact ha) (by show _<65536;exact hp)
theorem Ap {wl n c:Nat}{zs:List Int}{lr:List Value}(hb:H[wl]? =some (fH zs lr))(hn:zs.length=n){i:Nat}(hi:i<n):bS 1 (kQ wl n c) (.I (i:Int))=some (.Q wl i)/\ld1 (.Q wl i) H=some (.I (zs.getD i 0),H):=by
 constructor
 ·have:=pM 1 wl 0 n c .i64 (i:Int) U U
  simpa[kQ] using this
 ·refine dI hb ?_
  rw[aRd (by simp;omega),aRn,aRe,aRc U]
  rfl
theorem aNv {wl lc:Nat}{zs:List Int}{lr:List Value}(hb:H[wl]? =some (fH zs lr))(h3:zs.length<=3): ∀(q i k:Nat),zs.length-i=q->i<=zs.length->q<k-> ∀(x0 x1 x2 x4 x5 x6 x7 x8 aS aP aQ aO bB bI aR bJ bM bT bN bP:Value),
  aK k (aM prog (lvl prog pkN m) (aK m) Nn) (No (lvl prog pkN m) (aK m)) [x0,x1,x2,(.int .u16 (dS (λj=>decide (0<zs.getD j 0)) i:Nat)),x4,x5,x6,x7,x8,(kQ wl zs.length lc),(.I zs.length),(.I (i:Nat)),aS,aP,aQ,aO,bB,bI,aR,bJ,bM,bT,bN,bP] H=some (.int .u16 (dS (λj=>decide (0<zs.getD j 0)) zs.length:Nat),H):=by
 intro q;induction q with
 |zero=>
  intro i k hq hi hk;intros;obtain⟨k,rfl⟩: ∃k',k=k'+1:=⟨k-1,by omega⟩
  have hie:i=zs.length:=U
  subst hie;have c1:decide ((zs.length:Int)<(zs.length:Int))=false:=by simp
  rw[aK,Y9];simp only[gsR,c1];rw[aKq];simp only[gsR]
 |succ q ih=>
  intro i k hq hi hk;intros;obtain⟨k,rfl⟩: ∃k',k=k'+1:=⟨k-1,by omega⟩
  have c1:decide ((i:Int)<(zs.length:Int))=true:=by rw[decide_eq_true_eq];omega
  obtain⟨a1,a2⟩:=Ap (c:=lc) hb rfl (i:=i) U
  have e4:=aA (i:=i) U
  rw[aK,Y9];by_cases hp:0<zs.getD i 0
  ·obtain⟨e1,e2⟩:=wS (a:=dS (λj=>decide (0<zs.getD j 0)) i) (i:=i) (sM _ U) U
   rw[<-Ia (p:=λj=>decide (0<zs.getD j 0)) (k:=i) (aRU hp)] at e2
   simp only[gsR,c1,a1,a2,aRU hp,e1,e2,cU,e4];exact ih (i+1) k U U U ..
  ·have e2:=Hz (p:=λj=>decide (0<zs.getD j 0)) (k:=i) (aRV hp)
   simp only[gsR,c1,a1,a2,aRV hp,cU,e4];rw[<-e2];exact ih (i+1) k U U U ..
theorem aA8 (hm:10<m){wh ww wl wc lc n fr:Nat}{zs:List Int}{lr:List Value}(h0:H[wh]? =some (sN ww wl wc lc n fr))(hb:H[wl]? =some (fH zs lr))(hn:zs.length=n)(h3:n<=3):
  lvl prog pkN m (.func 123) [.pointer (some ⟨wh,0,none⟩)] H=some (.int .u16 (dS (λj=>decide (0<zs.getD j 0)) n:Nat),H):=by
 subst hn;refine dH (cV rfl) U ?_
 rw[aKr];have l1:ld1 (.Q wh 1) H=some (kQ wl zs.length lc,H):=dI h0 rfl;have l2:cK (kQ wl zs.length lc)=some (.I zs.length):=rfl;simp only[gsR,l1,l2];exact aNv hb h3 zs.length 0 (m-1) U U U ..
theorem aNt {wl ww n lc wc:Nat}{l W:List Int}{lr wr:List Value}(hn:n=W.length)(b2:H[wl]? =some (fH l lr))(b1:H[ww]? =some (fH W wr))(hl:l.length=W.length):cpy 1 (kQ wl n lc) (kQ ww n wc) H=some (.I n,H.set wl (fH W lr)):=by
 subst hn;have hs:gU 1 (kQ ww W.length wc) W.length H=some (W.map λz:Int=> .I z):=by
  unfold gU kQ;simp only;split
  ·rename_i h0
   rw[aRs.mp h0];rfl
  ·rw[b1]
   unfold fH;simp only;rw[if_pos ⟨aRf _,by simp⟩,List.drop_zero,List.take_append_of_le_length (by simp)]
   congr 1
   rw[List.take_of_length_le (by simp)]
 unfold cpy;have h2:mL (kQ ww W.length wc)=some W.length:=rfl;rw[h2];simp only[kQ];have hs':=hs;unfold kQ at hs';rw[Nat.min_self,hs'];simp only;rw[b2];unfold fH;simp only;have:=wA (W.map λz:Int=>Value.I z) (l.map λz:Int=>Value.I z) [] lr (by simp[hl])
 rw[List.nil_append,List.nil_append,List.length_nil] at this;rw[if_pos ⟨by decide,by simp;omega,aA7 W⟩,this]
def pQ (o:Option Nat):Value:= .int .i64 (match o with|some k=>(k:Int)|none=> -1)
theorem Ib (k:IntKind)(n:Int)(H':aE):chk (some (Value.int k n,H')) (.int k n)=true:=by simp[chk,veq]
theorem aNw (hm:20<m){wh ww wl wc lc:Nat}{wr lr:List Value}{W:List Int}{x:Whl}(hB:Blks (lQ wh ww wl wc lc wr lr W x) H)(hne:ww≠wl)(hx:WhlI W.length x)(hW: ∀y∈W,0<y/\y<=5)(h1:1<=W.length)(h3:W.length<=3)(M:Nat)(hM:M<65536):
  ∃H',lvl prog pkN m (.func 101) [.pointer (some ⟨wh,0,none⟩),.int .u16 M] H=some (pQ (lH W x λi=>M.testBit i).1,H')/\Fr (λb=>b=wh∨b=wl) H H'/\Blks (lQ wh ww wl wc lc wr lr W (lH W x λi=>M.testBit i).2) H':=by
 have b0:H[wh]? =some (sN ww wl wc lc W.length x.fr):=hB _ (aRj ..);have b1:H[ww]? =some (fH W wr):=hB (ww,fH W wr) (by simp[lQ])
 have b2:H[wl]? =some (fH x.l lr):=hB (wl,fH x.l lr) (by simp[lQ])
 have n01:wh≠ww:=λh=>by rw[h,b1] at b0;exact aA9 (aRM b0).symm
 have n02:wh≠wl:=λh=>by rw[h,b2] at b0;exact aA9 (aRM b0).symm
 obtain⟨n,hn⟩:=aD W.length;have hxl:=hx.len;have hxf:=hx.fr;obtain⟨p,hp⟩: ∃p:Nat->Bool,p=λi=>M.testBit i:=⟨_,rfl⟩
 rw[<-hp];refine mF (cV rfl) U ?_
 rw[aKb];have l0:ld1 (.Q wh 0) H=some (kQ ww W.length wc,H):=dI b0 rfl;have l0':cK (kQ ww W.length wc)=some (.I W.length):=rfl;have hpow:2 ^ W.length<65536:=Fe U
 have hpos:0<2 ^ W.length:=Nat.pow_pos U
 have e1:=(wS (a:=0) (i:=W.length) U U).1
 have e2:IntKind.u16.wrap ((2 ^ W.length:Nat)-(1:Int))=((2 ^ W.length-1:Nat):Int):=by rw[B3];omega
 have e3:bin prog .and 23 (.int .u16 (M:Int)) (.int .u16 ((2 ^ W.length-1:Nat):Int))=some (.int .u16 ((dS p W.length:Nat):Int)):=by
  rw[xX .u16 rfl _ (by show _<65536;exact hM) (by show _<65536;omega),aNf,hp]
 have hml: ∀q:Nat->Bool,dS q W.length<65536:=λq=>sM q U
 by_cases ha:oL p W.length=true
 ·have c1:(((dS p W.length:Nat):Int)==0)=false:=by
   rw[beq_eq_false_iff_ne];intro h;have:=(Ao p W.length).mp U
   rw[ha] at this;cases this
  have s1:=aA8 (m:=m-1) U b0 b2 hxl h3
  have a1:bin prog .and 23 (.int .u16 ((dS p W.length:Nat):Int)) (.int .u16 ((dS (λj=>decide (0<x.l.getD j 0)) W.length:Nat):Int))=some (.int .u16 ((dS (nL x.l p) W.length:Nat):Int)):=by
   rw[xX .u16 rfl _ (by show _<65536;exact hml _) (by show _<65536;exact hml _),aA1]
   rfl
  obtain⟨i,hi,hil,hip,hip2⟩:=aGo (s:=x) (λy hy=>(hW y hy).1) ha
  have hres:lH W x p=(some i,⟨(mG W x p).set i ((mG W x p).getD i 0-1),(i+1)%W.length⟩):=by
   unfold lH;rw[if_pos ha,hi]
  have hpk: ∀G:aE,lvl prog pkN (m-1) (.func 99) [.int .u16 ((dS (nL (mG W x p) p) W.length:Nat):Int),.I x.fr,.I W.length] G=some (.I i,G):=λG=>by
   rw[Lx _ U,K2 (hml _) U hxf,aNq,hi]
  have e5:=aA (i:=i) U
  have e6:bin prog .rem 3 (.I ((i+1:Nat):Int)) (.I W.length)=some (.I (((i+1)%W.length:Nat):Int)):=yC (i+1) W.length _ rfl U
  rw[hres];by_cases hc:oL (nL x.l p) W.length=true
  ·have hf:mG W x p=x.l:=by unfold mG;rw[if_pos hc]
   rw[hf] at hpk hip2⊢;have c2:(((dS (nL x.l p) W.length:Nat):Int)==0)=false:=by
    rw[beq_eq_false_iff_ne];intro h;have:=(Ao (nL x.l p) W.length).mp U
    rw[hc] at this;cases this
   have l2:ld1 (.Q wh 2) H=some (.I x.fr,H):=dI b0 rfl;have l1:ld1 (.Q wh 1) H=some (kQ wl W.length lc,H):=dI b0 rfl;obtain⟨g1,g2⟩:=Ap (c:=lc) b2 hxl hil;have hle:x.l.getD i 0<=5:=by
    have:i<x.l.length:=U
    rw[aRe,aRc this,aRD]
    exact(hx.wt _ (List.getElem_mem this)).2
   have e7:IntKind.i64.wrap (x.l.getD i 0-1)=x.l.getD i 0-1:=dJ U U
   have st1:stN 1 (.Q wl i) (.I (x.l.getD i 0-1)) H=some (undef,H.set wl (fH (x.l.set i (x.l.getD i 0-1)) lr)):=by
    rw[mZ b2 aC (by simp;omega),List.set_append_left _ _ (by simp;omega),<-List.map_set]
    rfl
   have b0':(H.set wl (fH (x.l.set i (x.l.getD i 0-1)) lr))[wh]? =some (sN ww wl wc lc W.length x.fr):=by rw[aRb (λh=>n02 h.symm),b0]
   have st2:stN 1 (.Q wh 2) (.I (((i+1)%W.length:Nat):Int)) (H.set wl (fH (x.l.set i (x.l.getD i 0-1)) lr))=some (undef,(H.set wl (fH (x.l.set i (x.l.getD i 0-1)) lr)).set wh (sN ww wl wc lc W.length ((i+1)%W.length))):=mZ b0' aC (by simp)
   simp only[gsR,l0,l0',e1,j8,e2,e3,c1,s1,a1,c2,l2,Ib,hpk,l1,g1,g2,e7,st1,cU,e5,e6,st2];refine⟨_,rfl,⟨by simp,λb hb hbn=> ?_⟩,λq hq=> ?_⟩
   ·rw[aRb (λh=>hbn (.inl h.symm)),aRb (λh=>hbn (.inr h.symm))]
   ·simp only[lQ,aRt,aRA,or_false] at hq
    rcases hq with rfl|rfl|rfl
    ·exact fS b0'
    ·rw[aRb n01,aRb hne.symm,b1]
    ·rw[aRb n02]
     exact fS b2
  ·have hf:mG W x p=W:=by unfold mG;rw[if_neg hc]
   rw[hf] at hpk hip2⊢;have c2:(((dS (nL x.l p) W.length:Nat):Int)==0)=true:=by
    rw[beq_iff_eq];have:=(Ao (nL x.l p) W.length).mpr (by simpa using hc)
    omega
   have l1:ld1 (.Q wh 1) H=some (kQ wl W.length lc,H):=dI b0 rfl;obtain⟨H1,hH1⟩:=aD (H.set wl (fH W lr));have cp:cpy 1 (kQ wl W.length lc) (kQ ww W.length wc) H=some (.I W.length,H1):=by rw[hH1];exact aNt rfl b2 b1 hxl
   have b01:H1[wh]? =some (sN ww wl wc lc W.length x.fr):=by rw[hH1,aRb (λh=>n02 h.symm),b0]
   have b11:H1[ww]? =some (fH W wr):=by rw[hH1,aRb hne.symm,b1]
   have b21:H1[wl]? =some (fH W lr):=by rw[hH1];exact fS b2
   have s2:=aA8 (m:=m-1) U b01 b21 rfl h3
   have a2:bin prog .and 23 (.int .u16 ((dS p W.length:Nat):Int)) (.int .u16 ((dS (λj=>decide (0<W.getD j 0)) W.length:Nat):Int))=some (.int .u16 ((dS (nL W p) W.length:Nat):Int)):=by
    rw[xX .u16 rfl _ (by show _<65536;exact hml _) (by show _<65536;exact hml _),aA1]
    rfl
   have l2:ld1 (.Q wh 2) H1=some (.I x.fr,H1):=dI b01 rfl;have l11:ld1 (.Q wh 1) H1=some (kQ wl W.length lc,H1):=dI b01 rfl;obtain⟨g1,g2⟩:=Ap (c:=lc) b21 rfl hil;have hle:W.getD i 0<=5:=by
    rw[aRe,aRc hil,aRD]
    exact(hW _ (List.getElem_mem hil)).2
   have e7:IntKind.i64.wrap (W.getD i 0-1)=W.getD i 0-1:=dJ U U
   have st1:stN 1 (.Q wl i) (.I (W.getD i 0-1)) H1=some (undef,H1.set wl (fH (W.set i (W.getD i 0-1)) lr)):=by
    rw[mZ b21 aC (by simp;omega),List.set_append_left _ _ (by simp;omega),<-List.map_set]
    rfl
   have b0':(H1.set wl (fH (W.set i (W.getD i 0-1)) lr))[wh]? =some (sN ww wl wc lc W.length x.fr):=by rw[aRb (λh=>n02 h.symm),b01]
   have st2:stN 1 (.Q wh 2) (.I (((i+1)%W.length:Nat):Int)) (H1.set wl (fH (W.set i (W.getD i 0-1)) lr))=some (undef,(H1.set wl (fH (W.set i (W.getD i 0-1)) lr)).set wh (sN ww wl wc lc W.length ((i+1)%W.length))):=mZ b0' aC (by simp)
   simp only[gsR,l0,l0',e1,j8,e2,e3,c1,s1,a1,c2,l1,cp,s2,a2,l2,Ib,hpk,l11,g1,g2,e7,st1,cU,e5,e6,st2];refine⟨_,rfl,⟨by simp[hH1],λb hb hbn=> ?_⟩,λq hq=> ?_⟩
   ·rw[aRb (λh=>hbn (.inl h.symm)),aRb (λh=>hbn (.inr h.symm)),hH1,aRb (λh=>hbn (.inr h.symm))]
   ·simp only[lQ,aRt,aRA,or_false] at hq
    rcases hq with rfl|rfl|rfl
    ·exact fS b0'
    ·rw[aRb n01,aRb hne.symm,b11]
    ·rw[aRb n02]
     exact fS b21
 ·have c1:(((dS p W.length:Nat):Int)==0)=true:=by
   rw[beq_iff_eq];have:=(Ao p W.length).mpr (by simpa using ha)
   omega
  have hres:lH W x p=(none,x):=by
   unfold lH;rw[if_neg ha]
  rw[hres];simp only[gsR,l0,l0',e1,j8,e2,e3,c1]
  exact⟨_,rfl,Fr.gR _ _,hB⟩
end
def vG (zs:List Nat):List Int:=zs.map λz:Nat=>(z:Int)
def gJ (zs:List Nat):Blk:=fH (vG zs) []
def gK (zs:List Nat):Blk:= .cells (zs.map λz:Nat=> .int .u16 (z:Int)) 23 .row
def q9 (ga aa n:Nat):Blk:= .cells [eM ga n,eM aa n] 166 .fix
def j6 (ab ga aa:Nat)(g a:List Nat):List (Nat×Blk):=[(ab,q9 ga aa g.length),(ga,gJ g),(aa,gJ a)]
def stB (mb n ins outs:Nat):Blk:= .cells [eM mb n,.int .u16 ins,.int .u16 outs] 183 .fix
theorem aBb (zs:List Nat):(vG zs).length=zs.length:=by simp[vG]
theorem aNz (zs:List Nat)(i:Nat):(vG zs).getD i 0=((zs.getD i 0:Nat):Int):=by
 unfold vG;rw[aRe,aRe,aRn];cases zs[i]? <;>rfl
theorem aNA (zs:List Nat)(i z:Nat):vG (zs.set i z)=(vG zs).set i (z:Int):=by simp[vG,List.map_set]
theorem aBa {zs:List Nat}{n i:Nat}(h: ∀z∈zs,z<n)(hi:i<zs.length):zs.getD i 0<n:=by
 rw[aRe,aRc hi];exact h _ (List.getElem_mem hi)
section
variable {H : aE} {m : Nat}
theorem Ic {b n:Nat}{zs:List Nat}(hb:H[b]? =some (gJ zs))(hn:zs.length=n){i:Nat}(hi:i<n):bS 1 (eM b n) (.I (i:Int))=some (.Q b i)/\ld1 (.Q b i) H=some (.I (zs.getD i 0:Nat),H):=by
 have:=Ap (c:=n) hb ((aBb zs).trans hn) hi;rw[aNz] at this;exact this
theorem Ie {b n c:Nat}{zs:List Nat}(hb:H[b]? =some (gK zs))(hn:zs.length=n){i:Nat}(hi:i<n):bS 1 (.slice (some ⟨b,0,none⟩) n c) (.I (i:Int))=some (.Q b i)/\ld1 (.Q b i) H=some (.int .u16 (zs.getD i 0:Nat),H):=by
 constructor
 ·have:=pM 1 b 0 n c .i64 (i:Int) U U
  simpa using this
 ·refine dI hb ?_
  rw[aRn,aRe,aRc U]
  rfl
theorem aBc {b i:Nat}{zs:List Int}{lr:List Value}(z:Int)(hb:H[b]? =some (fH zs lr))(hi:i<zs.length):stN 1 (.Q b i) (.I z) H=some (undef,H.set b (fH (zs.set i z) lr)):=by
 rw[mZ hb aC (by simp;omega),List.set_append_left _ _ (by simp;omega),<-List.map_set]
 rfl
theorem aBd {b i:Nat}{zs:List Nat}(z:Nat)(hb:H[b]? =some (gJ zs))(hi:i<zs.length):stN 1 (.Q b i) (.I z) H=some (undef,H.set b (gJ (zs.set i z))):=by
 rw[aBc (z:Int) hb (by rw[aBb];exact hi),<-aNA]
 rfl
theorem aBe {b i:Nat}{zs:List Nat}(z:Nat)(hb:H[b]? =some (gK zs))(hi:i<zs.length):stN 1 (.Q b i) (.int .u16 z) H=some (undef,H.set b (gK (zs.set i z))):=by
 rw[mZ hb aC (by simp;omega),<-List.map_set]
 rfl
theorem pE (i:Nat)(hi:i<1000):IntKind.i64.wrap ((i:Int)+1)=((i+1:Nat):Int):=by rw[dJ U U];omega
section
variable {ab ga aa sb mb cb : Nat} {rows : List Nat} {M : List Int} {g a : List Nat} {n : Nat}
theorem aNy (hB:Blks (j6 ab ga aa g a) H)(hs:H[sb]? =some (stB mb n (fF M n) (kP M n)))(hc:H[cb]? =some (gK (kD rows n)))(hg:g.length=n)(hgl: ∀z∈g,z<n)(hr:rows.length=n)(hM:M.length=n)(h1:1<=n)(h16:n<=16)(hm:2<m):
  ∀(q i k:Nat),n-i=q->i<=n->q<k-> ∀(x3 x4 x5 x6 x8 x9 bQ cG aS aP bI aR bJ bM bT bN bP aU aV aW aX aY aZ bA bH bO bV cH cJ bX cC bY b9 cA cD cF cM cN cO cQ cW cX cY cS cT cZ dA dE dB dC:Value),
  aK k (aM prog (lvl prog pkN m) (aK m) Ou) (Ov (lvl prog pkN m) (aK m)) [(.Q ab 0),(.Q sb 0),(eM cb n),x3,x4,x5,x6,(eM H.length n),x8,x9,bQ,cG,aS,aP,(eM cb n),(.I n),(.I (i:Nat)),bI,aR,bJ,bM,bT,bN,bP,aU,aV,aW,aX,aY,aZ,bA,bH,bO,bV,cH,cJ,bX,cC,bY,b9,cA,cD,cF,cM,cN,cO,cQ,cW,cX,cY,cS,cT,cZ,dA,dE,dB,dC] (H++[gK (grL (oF (k8 rows) M g n) n i)])=some (eM H.length n,H++[gK (grL (oF (k8 rows) M g n) n n)]):=by
 obtain⟨gr,hgr⟩:=aD (oF (k8 rows) M g n);rw[<-hgr];have b0:H[ab]? =some (q9 ga aa n):=by rw[<-hg];exact hB _ (aRj ..)
 have b1:H[ga]? =some (gJ g):=hB (ga,gJ g) (by simp[j6])
 intro q;induction q with
 |zero=>
  intro i k hq hi hk;intros;obtain⟨k,rfl⟩: ∃k',k=k'+1:=⟨k-1,by omega⟩
  have hie:i=n:=U
  subst hie;have c1:decide ((i:Int)<(i:Int))=false:=by simp
  rw[aK,Zr];simp only[gsR,c1];rw[aLi];simp only[gsR]
 |succ q ih=>
  intro i k hq hi hk;intros;obtain⟨k,rfl⟩: ∃k',k=k'+1:=⟨k-1,by omega⟩
  have hin:i<n:=U
  have c1:decide ((i:Int)<(n:Int))=true:=by rw[decide_eq_true_eq];omega
  obtain⟨G,hG⟩:=aD (H++[gK (grL gr n i)]);have e0:G[ab]? =some (q9 ga aa n):=by rw[hG];exact oO b0 _
  have e1:G[ga]? =some (gJ g):=by rw[hG];exact oO b1 _
  have e2:G[sb]? =some (stB mb n (fF M n) (kP M n)):=by rw[hG];exact oO hs _
  have e3:G[cb]? =some (gK (kD rows n)):=by rw[hG];exact oO hc _
  have e4:G[H.length]? =some (gK (grL gr n i)):=by rw[hG];exact eC _ _
  obtain⟨a1,a2⟩:=Ie (c:=n) e3 (aGp _ _) hin;have a1:bS 1 (eM cb n) (.I (i:Int))=some (.Q cb i):=a1;have l1:ld1 (.Q sb 1) G=some (.int .u16 (fF M n:Nat),G):=dI e2 rfl;have l2:ld1 (.Q sb 2) G=some (.int .u16 (kP M n:Nat),G):=dI e2 rfl;have l0:ld1 (.Q ab 0) G=some (eM ga n,G):=dI e0 rfl;obtain⟨a3,a4⟩:=Ic e1 hg hin;have hcl:(kD rows n).getD i 0<65536:=aNg U hin
  have hil:fF M n<65536:=sM _ h16;have hol:kP M n<65536:=sM _ h16;have a5:bin prog .and 23 (.int .u16 ((kD rows n).getD i 0:Nat)) (.int .u16 (fF M n:Nat))=some (.int .u16 ((kD rows n).getD i 0&&&fF M n:Nat)):=xX .u16 rfl _ (by show _<65536;exact hcl) (by show _<65536;exact hil)
  have hal:(kD rows n).getD i 0&&&fF M n<65536:=Nat.lt_of_le_of_lt Nat.and_le_left hcl;have a6:cK (eM cb n)=some (.I n):=rfl;have hgi:g.getD i 0<n:=aBa hgl U
  have a7:lvl prog pkN m (.func 99) [.int .u16 ((kD rows n).getD i 0&&&fF M n:Nat),.I (g.getD i 0:Nat),.I n] G=some (pQ (kC (λj=>((kD rows n).getD i 0&&&fF M n).testBit j) (g.getD i 0) n),G):=by
   rw[Lx _ U,K2 hal h16 hgi]
   rfl
  have hgm:gr i=if(i:Int)∈M then none else kC (λj=>((kD rows n).getD i 0&&&fF M n).testBit j) (g.getD i 0) n:=by rw[hgr];exact aNk hr hin
  have e9:=pE i U
  rw[aK,Zr];rw[<-hG];cases hp:kC (λj=>((kD rows n).getD i 0&&&fF M n).testBit j) (g.getD i 0) n with
  |none=>
   rw[hp] at a7 hgm;have hno:gr i=none:=by rw[hgm];split<;>rfl
   have c2:((-1:Int)!= -1)=false:=rfl;have hL:=aA2 (gr:=gr) (n:=n) (kk:=i) (λj _=>by rw[hno];simp)
   simp only[gsR,c1,a1,a2,l1,a5,l0,a3,a4,a6,a7,pQ,c2,cU,e9];rw[hG,<-hL];exact ih (i+1) k U U U ..
  |some j=>
   rw[hp] at a7 hgm;have hjn:=(wF hp).1;have c2:(((j:Int))!= -1)=true:=by rw[bne_iff_ne];omega
   have c3:=aNu (H:=G) (m:=m) U (kP M n) i hol U
   rw[aNo hin] at c3;by_cases hmem:(i:Int)∈M
   ·have hno:gr i=none:=by rw[hgm,if_pos hmem]
    have hL:=aA2 (gr:=gr) (n:=n) (kk:=i) (λj _=>by rw[hno];simp)
    rw[aRV (not_not_intro hmem)] at c3;simp only[gsR,c1,a1,a2,l1,a5,l0,a3,a4,a6,a7,pQ,c2,l2,c3,cU,e9];rw[hG,<-hL];exact ih (i+1) k U U U ..
   ·have hyes:gr i=some j:=by rw[hgm,if_neg hmem]
    have hL:=aNh (n:=n) (kk:=i) hjn hyes;rw[aRU hmem] at c3;obtain⟨a8,a9⟩:=Ie (c:=n) e4 (yQ _ _ _) hjn;have hv:(grL gr n i).getD j 0=grM gr i j:=by rw[aRe,C7 hjn];rfl
    rw[hv] at a9;obtain⟨s1,s2⟩:=wS (a:=grM gr i j) (i:=i) (aA3 _ U _) U
    have st:=aBe (grM gr i j|||2 ^ i) e4 (i:=j) (by rw[yQ];exact hjn)
    rw[<-hL] at st;have a8':bS 1 (eM H.length n) (.I (j:Int))=some (.Q H.length j):=a8;simp only[gsR,c1,a1,a2,l1,a5,l0,a3,a4,a6,a7,pQ,c2,l2,c3,a8',a9,s1,s2,st,cU,e9];rw[hG,lO];exact ih (i+1) k U U U ..
theorem aNx (hB:Blks (j6 ab ga aa g a) H)(hs:H[sb]? =some (stB mb n (fF M n) (kP M n)))(hc:H[cb]? =some (gK (kD rows n)))(hg:g.length=n)(hgl: ∀z∈g,z<n)(hr:rows.length=n)(hM:M.length=n)(h1:1<=n)(h16:n<=16)(hm:30<m):
  lvl prog pkN m (.func 98) [.Q ab 0,.Q sb 0,eM cb n] H=some (eM H.length n,H++[gK (grL (oF (k8 rows) M g n) n n)]):=by
 refine dH (cV rfl) U ?_
 rw[aLj];have a6:cK (eM cb n)=some (.I n):=rfl;have mk:=vY (H:=H) 23 1 2 [.int .u16 0] .i64 .i64 (n:Int) U U U rfl
 have hz:H++[Blk.cells (List.replicate (n:Int).toNat [Value.int .u16 0]).flatten 23 .row]=H++[gK (grL (oF (k8 rows) M g n) n 0)]:=by
  have: ∀n,(List.replicate n [Value.int .u16 0]).flatten=List.replicate n (.int .u16 0):=by
   intro n;induction n with
   |zero=>rfl
   |succ n ih=>rw[List.replicate_succ,aRK,ih];rfl
  rw[aRC,this,aNi,gK,List.map_replicate];rfl
 rw[hz,aRC] at mk;simp only[gsR,a6,mk];exact aNy hB hs hc hg hgl hr hM h1 h16 U n 0 (m-1) rfl U U ..
end
end
structure RunS (H:aE)(ab ga aa sb mb cb:Nat)(rows:List Nat)(n:Nat)(s:Mat):Prop where
 arb:Blks (j6 ab ga aa s.g s.a) H
 st:H[sb]? =some (stB mb n (fF s.m n) (kP s.m n))
 mt:H[mb]? =some (fH s.m [])
 cols:H[cb]? =some (gK (kD rows n))
section
variable {H : aE} {m : Nat} {ab ga aa sb mb cb : Nat} {rows : List Nat} {n : Nat} {s : Mat}
theorem RunS.ext {H':aE}(h:RunS H ab ga aa sb mb cb rows n s)(he:Ext H H'):RunS H' ab ga aa sb mb cb rows n s:=
 ⟨Blks.dx _ _ _ h.arb he,by rw[he.2 _ (dT h.st) id,h.st],by rw[he.2 _ (dT h.mt) id,h.mt],by rw[he.2 _ (dT h.cols) id,h.cols]⟩
theorem Aq {zs:List Nat}{ws:List Int}{lr:List Value}:gK zs≠fH ws lr:=λh=>by
 injection h with _ h2
 revert h2
 decide
theorem P2 {mb n i o:Nat}{ws:List Int}{lr:List Value}:stB mb n i o≠fH ws lr:=λh=>by
 injection h with _ h2
 revert h2
 decide
theorem aBg {mb n i o:Nat}{zs:List Nat}:stB mb n i o≠gK zs:=λh=>by
 injection h with _ h2
 revert h2
 decide
theorem P1 {ga aa n:Nat}{ws:List Int}{lr:List Value}:q9 ga aa n≠fH ws lr:=λh=>by
 injection h with _ h2
 revert h2
 decide
theorem aNC {ga aa n mb k i o:Nat}:q9 ga aa n≠stB mb k i o:=λh=>by
 injection h with _ h2
 revert h2
 decide
theorem aBf {a i:Nat}(ha:a<65536)(hi:i<16):bin prog .andNot 23 (.int .u16 (a:Int)) (.int .u16 ((2 ^ i:Nat):Int))=some (.int .u16 ((lN a (2 ^ i):Nat):Int)):=
 Vu .u16 rfl _ (by show _<65536;exact ha) (by show _<65536;exact Fe hi)
theorem RunS.aNB (h:RunS H ab ga aa sb mb cb rows n s)(hI:MatI n s)(hn:1<=n)(hne:ga≠aa)(hma:mb≠ga)(hmb:mb≠aa)(first:Bool){i k:Nat}(hi:i<n)(hk:k<n)(hf:s.m.getD i 0= -1):
  let H1:=H.set mb (fH (s.m.set i (k:Int)) [])
  let H2:=H1.set sb (stB mb n (lN (fF s.m n) (2 ^ i)) (kP s.m n))
  let H3:=H2.set sb (stB mb n (lN (fF s.m n) (2 ^ i)) (lN (kP s.m n) (2 ^ k)))
  let H4:=H3.set ga (gJ (s.g.set k ((i+1)%n)))
  let H5:=H4.set aa (gJ (s.a.set i ((k+1)%n)))
  H1[sb]? =some (stB mb n (fF s.m n) (kP s.m n))/\H2[sb]? =some (stB mb n (lN (fF s.m n) (2 ^ i)) (kP s.m n))/\
  RunS H3 ab ga aa sb mb cb rows n ⟨s.m.set i (k:Int),s.g,s.a⟩/\H4[aa]? =some (gJ s.a)/\RunS H5 ab ga aa sb mb cb rows n ⟨s.m.set i (k:Int),s.g.set k ((i+1)%n),s.a.set i ((k+1)%n)⟩:=by
 intro H1 H2 H3 H4 H5;have b0:H[ab]? =some (q9 ga aa s.g.length):=h.arb _ (aRj ..);have b1:H[ga]? =some (gJ s.g):=h.arb (ga,gJ s.g) (by simp[j6])
 have b2:H[aa]? =some (gJ s.a):=h.arb (aa,gJ s.a) (by simp[j6])
 have nsm:sb≠mb:=λhh=>by have:=h.st;rw[hh,h.mt] at this;exact P2 (aRM this).symm
 have nsg:sb≠ga:=λhh=>by have:=h.st;rw[hh,b1] at this;exact P2 (aRM this).symm
 have nsa:sb≠aa:=λhh=>by have:=h.st;rw[hh,b2] at this;exact P2 (aRM this).symm
 have nsc:sb≠cb:=λhh=>by have:=h.st;rw[hh,h.cols] at this;exact aBg (aRM this).symm
 have ncm:cb≠mb:=λhh=>by have:=h.cols;rw[hh,h.mt] at this;exact Aq (aRM this).symm
 have ncg:cb≠ga:=λhh=>by have:=h.cols;rw[hh,b1] at this;exact Aq (aRM this).symm
 have nca:cb≠aa:=λhh=>by have:=h.cols;rw[hh,b2] at this;exact Aq (aRM this).symm
 have nam:ab≠mb:=λhh=>by have:=h.mt;rw[<-hh,b0] at this;exact P1 (aRM this)
 have nag:ab≠ga:=λhh=>by have:=b1;rw[<-hh,b0] at this;exact P1 (aRM this)
 have naa:ab≠aa:=λhh=>by have:=b2;rw[<-hh,b0] at this;exact P1 (aRM this)
 have nas:ab≠sb:=λhh=>by have:=h.st;rw[<-hh,b0] at this;exact aNC (aRM this)
 have s1:H1[sb]? =some (stB mb n (fF s.m n) (kP s.m n)):=by rw[aRb nsm.symm,h.st]
 have s2:H2[sb]? =some (stB mb n (lN (fF s.m n) (2 ^ i)) (kP s.m n)):=fS s1;have k3: ∀b,b≠sb->b≠mb->H3[b]? =H[b]? :=λb h1 h2=>by rw[aRb h1.symm,aRb h1.symm,aRb h2.symm]
 have hins:=aNl (k:=k) hi hI.ml;have houts:=aNn (k:=k) hi hI.ml hf;have m3:H3[mb]? =some (fH (s.m.set i (k:Int)) []):=by
  rw[aRb nsm,aRb nsm];exact fS h.mt
 have s3:H3[sb]? =some (stB mb n (fF (s.m.set i (k:Int)) n) (kP (s.m.set i (k:Int)) n)):=by rw[hins,houts];exact fS s2
 have g3:H3[ga]? =some (gJ s.g):=by rw[k3 ga nsg.symm hma.symm,b1]
 have a3:H3[aa]? =some (gJ s.a):=by rw[k3 aa nsa.symm hmb.symm,b2]
 have r3:H3[ab]? =some (q9 ga aa s.g.length):=by rw[k3 ab nas nam,b0]
 have c3:H3[cb]? =some (gK (kD rows n)):=by rw[k3 cb nsc.symm ncm,h.cols]
 have a4:H4[aa]? =some (gJ s.a):=by rw[aRb hne,a3]
 have k5: ∀b,b≠ga->b≠aa->H5[b]? =H3[b]? :=λb h1 h2=>by rw[aRb h2.symm,aRb h1.symm]
 refine⟨s1,s2,⟨λp hp=> ?_,s3,m3,c3⟩,a4,⟨λp hp=> ?_,by rw[k5 sb nsg nsa,s3],by rw[k5 mb hma hmb,m3],by rw[k5 cb ncg nca,c3]⟩⟩
 ·simp only[j6,aRt,aRA,or_false] at hp
  rcases hp with rfl|rfl|rfl
  ·exact r3
  ·exact g3
  ·exact a3
 ·simp only[j6,aRt,aRA,or_false] at hp
  rcases hp with rfl|rfl|rfl
  ·rw[k5 ab nag naa,r3,List.length_set]
  ·rw[aRb hne.symm]
   exact fS g3
  ·exact fS a4
end
section
variable {H : aE} {m : Nat} {ab ga aa sb mb cb : Nat} {rows : List Nat} {n : Nat} {s0 : Mat}
theorem aND {H0:aE}{rounds rd was:Nat}(hI0:MatI n s0)(h1:1<=n)(h16:n<=16)(hne:ga≠aa)(hma:mb≠ga)(hmb:mb≠aa)(hsb:H0.length<=sb)(hmb0:H0.length<=mb)(hm:2<m){K:Ex->K (Value×aE)}{Q:aE->Value->Prop}
  (hK: ∀H',RunS H' ab ga aa sb mb cb rows n (rnd (k8 rows) n (rd==0) s0)->Fr (λb=>b=ga∨b=aa) H0 H'-> ∀(x1 x2 x3 x4 x5 x6 x8 cG aP aQ aO bB bI aR bJ bM bT bN bP aU aV aW aX aY aZ bA bH bO bV cH cJ bX cC bY b9 cA cD cF cM cN cO cX cY cS cT cZ dA dE dB dC dF dL dM dN dQ dZ eA eE eF eG eH eK eN eO eZ fA fB fC fD fE fI fJ fK fL fM fN fX fY fZ gC gF gG gH gI iF iG iH iI iJ iK iL iM iN iO iP iQ iR iS iT iV iW iX iY iZ jA jB jC jD jE jH jI jJ jK jL jM jO jQ lS lT lU lV lW lX lY lZ mA mB mC:Value),∃H2 r,N8 (lvl prog pkN m) (aK m) K (.Q ab 0) x1 x2 x3 x4 x5 x6 (.I n) x8 (.Q sb 0) (eM cb n) cG (.int .u16 was) aP aQ aO bB bI aR bJ bM bT bN bP aU aV aW aX aY aZ bA bH bO bV cH cJ bX cC bY b9 cA cD cF cM cN cO (.I rounds) (.I (rd:Nat)) cX cY cS cT cZ dA dE dB dC dF dL dM dN dQ dZ eA eE eF eG eH eK eN eO eZ fA fB fC fD fE fI fJ fK fL fM fN fX fY fZ gC gF gG gH gI iF iG iH iI iJ iK iL iM iN iO iP iQ iR iS iT iV iW iX iY iZ jA jB jC jD jE jH jI jJ jK jL jM jO jQ lS lT lU lV lW lX lY lZ mA mB mC H'=some (r,H2)/\Q H2 r):
  ∀(q i k:Nat)(H:aE)(gb:Nat),n-i=q->i<=n->q<k->RunS H ab ga aa sb mb cb rows n ((List.range i).foldl (acc (oF (k8 rows) s0.m s0.g n) n (rd==0)) s0)->Fr (λb=>b=ga∨b=aa) H0 H->H[gb]? =some (gK (grL (oF (k8 rows) s0.m s0.g n) n n))->
  ∀(x1 x2 x3 x4 x5 x6 x8 aP aQ aO bB bI aR bJ bM bT bN bP aU aV aW aX aY aZ bA bH bO bV cH cJ bX cC bY b9 cA cD cF cM cN cO cX cY cS cT cZ dA dE dB dC dN dQ dZ eA eE eF eG eH eK eN eO eZ fA fB fC fD fE fI fJ fK fL fM fN fX fY fZ gC gF gG gH gI iF iG iH iI iJ iK iL iM iN iO iP iQ iR iS iT iV iW iX iY iZ jA jB jC jD jE jH jI jJ jK jL jM jO jQ lS lT lU lV lW lX lY lZ mA mB mC:Value),∃H2 r,aK k (aM prog (lvl prog pkN m) (aK m) N6) (Oa (lvl prog pkN m) (aK m) K) [(.Q ab 0),x1,x2,x3,x4,x5,x6,(.I n),x8,(.Q sb 0),(eM cb n),(.I (rd:Nat)),(.int .u16 was),aP,aQ,aO,bB,bI,aR,bJ,bM,bT,bN,bP,aU,aV,aW,aX,aY,aZ,bA,bH,bO,bV,cH,cJ,bX,cC,bY,b9,cA,cD,cF,cM,cN,cO,(.I rounds),(.I (rd:Nat)),cX,cY,cS,cT,cZ,dA,dE,dB,dC,(eM gb n),(.I n),(.I (i:Nat)),dN,dQ,dZ,eA,eE,eF,eG,eH,eK,eN,eO,eZ,fA,fB,fC,fD,fE,fI,fJ,fK,fL,fM,fN,fX,fY,fZ,gC,gF,gG,gH,gI,iF,iG,iH,iI,iJ,iK,iL,iM,iN,iO,iP,iQ,iR,iS,iT,iV,iW,iX,iY,iZ,jA,jB,jC,jD,jE,jH,jI,jJ,jK,jL,jM,jO,jQ,lS,lT,lU,lV,lW,lX,lY,lZ,mA,mB,mC] H=some (r,H2)/\Q H2 r:=by
 intro q;induction q with
 |zero=>
  intro i k H gb hq hi hk hS hfr hgb;intros;obtain⟨k,rfl⟩: ∃k',k=k'+1:=⟨k-1,by omega⟩
  have hie:i=n:=U
  subst hie;have c1:decide ((i:Int)<(i:Int))=false:=by simp
  rw[aK,Zh];simp only[gsR,c1];rw[aKT];exact hK H hS hfr ..
 |succ q ih=>
  intro i k H gb hq hi hk hS hfr hgb;intros;obtain⟨k,rfl⟩: ∃k',k=k'+1:=⟨k-1,by omega⟩
  have hin:i<n:=U
  obtain⟨gr,hgr⟩:=aD (oF (k8 rows) s0.m s0.g n);obtain⟨s,hs⟩:=aD ((List.range i).foldl (acc gr n (rd==0)) s0);rw[<-hgr] at hS hgb ih;rw[<-hs] at hS;have hI:MatI n s:=by rw[hs];exact MatI.Pb U _ hI0
  have hmi:s.m.getD i 0=s0.m.getD i 0:=by rw[hs];exact B5 _ _ (by simp)
  have hnext:(List.range (i+1)).foldl (acc gr n (rd==0)) s0=match kC (λk=>(grM gr n i).testBit k) (s.a.getD i 0) n with
   |none=>s
   |some k=>⟨s.m.set i (k:Int),if(rd==0)=true then s.g.set k ((i+1)%n) else s.g,if(rd==0)=true then s.a.set i ((k+1)%n) else s.a⟩:=by
   rw[aRJ,List.foldl_append,List.foldl_cons,List.foldl_nil,<-hs,hgr];exact aNe hmi
  have c1:decide ((i:Int)<(n:Int))=true:=by rw[decide_eq_true_eq];omega
  have b0:H[ab]? =some (q9 ga aa s.g.length):=hS.arb _ (aRj ..);have b1:H[ga]? =some (gJ s.g):=hS.arb (ga,gJ s.g) (by simp[j6])
  have b2:H[aa]? =some (gJ s.a):=hS.arb (aa,gJ s.a) (by simp[j6])
  rw[hI.gl] at b0;obtain⟨a1,a2⟩:=Ie (c:=n) hgb (yQ _ _ _) hin;have a1:bS 1 (eM gb n) (.I (i:Int))=some (.Q gb i):=a1;have hv:(grL gr n n).getD i 0=grM gr n i:=by rw[aRe,C7 hin];rfl
  rw[hv] at a2;have l1:ld1 (.Q ab 1) H=some (eM aa n,H):=dI b0 rfl;obtain⟨a3,a4⟩:=Ic b2 hI.al hin;have hai:s.a.getD i 0<n:=aBa hI.a (by rw[hI.al];exact hin)
  have a5:lvl prog pkN m (.func 99) [.int .u16 (grM gr n i:Nat),.I (s.a.getD i 0:Nat),.I n] H=some (pQ (kC (λj=>(grM gr n i).testBit j) (s.a.getD i 0) n),H):=by
   rw[Lx _ U,K2 (aA3 gr h16 i) h16 hai]
   rfl
  have e9:=pE i U
  rw[aK,Zh];cases hp:kC (λk=>(grM gr n i).testBit k) (s.a.getD i 0) n with
  |none=>
   rw[hp] at a5 hnext;have c2:((-1:Int)== -1)=true:=rfl;simp only[gsR,c1,a1,a2,l1,a3,a4,a5,pQ,c2,cU,e9];exact ih (i+1) k H gb U U U (by rw[hnext];exact hS) hfr hgb ..
  |some j=>
   rw[hp] at a5 hnext;have hjn:=(wF hp).1;have hjb:=(wF hp).2;have hfree:s.m.getD i 0= -1:=by
    have:gr j=some i:=by
     rw[grM,lI,aRU hjn,aRx,beq_iff_eq] at hjb;exact hjb
    rw[hgr] at this;exact hmi.trans (aA5 this).1
   have c2:((j:Int)== -1)=false:=by rw[beq_eq_false_iff_ne];omega
   obtain⟨t1,t2,t3,t4,t5⟩:=hS.aNB hI h1 hne hma hmb (rd==0) hin hjn hfree;have l2:ld1 (.Q sb 0) H=some (eM mb n,H):=dI hS.st rfl;have i2:bS 1 (eM mb n) (.I (i:Int))=some (.Q mb i):=(Ap (c:=n) hS.mt hI.ml hin).1;have st1:=aBc (i:=i) (j:Int) hS.mt (by rw[hI.ml];exact hin)
   obtain⟨H1,hH1⟩:=aD (H.set mb (fH (s.m.set i (j:Int)) []));rw[<-hH1] at t1 t2 t3 t4 t5 st1;have l3:ld1 (.Q sb 1) H1=some (.int .u16 (fF s.m n:Nat),H1):=dI t1 rfl;have hil:fF s.m n<65536:=sM _ h16;have hol:kP s.m n<65536:=sM _ h16;have hi1:=(wS (a:=0) (i:=i) U U).1
   have hj1:=(wS (a:=0) (i:=j) U U).1
   have hi2:=aBf (i:=i) hil U
   have hj2:=aBf (i:=j) hol U
   have st2:stN 1 (.Q sb 1) (.int .u16 (lN (fF s.m n) (2 ^ i):Nat)) H1=some (undef,H1.set sb (stB mb n (lN (fF s.m n) (2 ^ i)) (kP s.m n))):=mZ t1 aC (by simp)
   obtain⟨H2,hH2⟩:=aD (H1.set sb (stB mb n (lN (fF s.m n) (2 ^ i)) (kP s.m n)));rw[<-hH2] at t2 t3 t4 t5 st2;have l4:ld1 (.Q sb 2) H2=some (.int .u16 (kP s.m n:Nat),H2):=dI t2 rfl;have st3:stN 1 (.Q sb 2) (.int .u16 (lN (kP s.m n) (2 ^ j):Nat)) H2=some (undef,H2.set sb (stB mb n (lN (fF s.m n) (2 ^ i)) (lN (kP s.m n) (2 ^ j)))):=mZ t2 aC (by simp)
   obtain⟨H3,hH3⟩:=aD (H2.set sb (stB mb n (lN (fF s.m n) (2 ^ i)) (lN (kP s.m n) (2 ^ j))));rw[<-hH3] at t3 t4 t5 st3;have ngs:gb≠sb:=λhh=>by have:=hS.st;rw[<-hh,hgb] at this;exact aBg (aRM this).symm
   have ngm:gb≠mb:=λhh=>by have:=hS.mt;rw[<-hh,hgb] at this;exact Aq (aRM this)
   have ngg:gb≠ga:=λhh=>by have:=b1;rw[<-hh,hgb] at this;exact Aq (aRM this)
   have nga:gb≠aa:=λhh=>by have:=b2;rw[<-hh,hgb] at this;exact Aq (aRM this)
   have k3: ∀b,b≠sb->b≠mb->H3[b]? =H[b]? :=λb h1 h2=>by rw[hH3,hH2,hH1,aRb h1.symm,aRb h1.symm,aRb h2.symm]
   have hl3:H3.length=H.length:=by rw[hH3,hH2,hH1];simp
   have f3:Fr (λb=>b=ga∨b=aa) H0 H3:=⟨by rw[hl3];exact hfr.1,λb hb hn=>by rw[k3 b U U,hfr.2 b hb hn]⟩
   have g3:H3[gb]? =some (gK (grL gr n n)):=by rw[k3 gb ngs ngm,hgb]
   by_cases hrd:rd=0
   ·subst hrd
    have c3:(((0:Nat):Int)==0)=true:=rfl;have q0:H3[ab]? =some (q9 ga aa s.g.length):=t3.arb _ (aRj ..);rw[hI.gl] at q0;have q1:H3[ga]? =some (gJ s.g):=t3.arb (ga,gJ s.g) (by simp[j6])
    have l5:ld1 (.Q ab 0) H3=some (eM ga n,H3):=dI q0 rfl;have l6:ld1 (.Q ab 1) H3=some (eM aa n,H3):=dI q0 rfl;have e10:=pE j U
    have r1:bin prog .rem 3 (.I ((i+1:Nat):Int)) (.I n)=some (.I (((i+1)%n:Nat):Int)):=yC (i+1) n _ rfl U
    have r2:bin prog .rem 3 (.I ((j+1:Nat):Int)) (.I n)=some (.I (((j+1)%n:Nat):Int)):=yC (j+1) n _ rfl U
    have i5:=(Ic q1 hI.gl hjn).1;have i6:=(Ic (b:=aa) (H:=H) b2 hI.al hin).1;have st4:=aBd (i:=j) ((i+1)%n) q1 (by rw[hI.gl];exact hjn)
    obtain⟨H4,hH4⟩:=aD (H3.set ga (gJ (s.g.set j ((i+1)%n))));rw[<-hH4] at t4 t5 st4;have st5:=aBd (i:=i) ((j+1)%n) t4 (by rw[hI.al];exact hin)
    obtain⟨H5,hH5⟩:=aD (H4.set aa (gJ (s.a.set i ((j+1)%n))));rw[<-hH5] at t5 st5;simp only[gsR,c1,a1,a2,l1,a3,a4,a5,pQ,c2,l2,i2,st1,l3,hi1,hi2,st2,l4,hj1,hj2,st3,c3,l5,l6,cU,e9,e10,r1,r2,i5,i6,st4,st5];refine ih (i+1) k H5 gb U U U (by rw[hnext];exact t5) ?_ ?_ ..
    ·refine⟨by rw[hH5,hH4];simp;exact f3.1,λb hb hn=> ?_⟩
     rw[hH5,hH4,aRb (λhh=>hn (.inr hh.symm)),aRb (λhh=>hn (.inl hh.symm)),f3.2 b hb hn]
    ·rw[hH5,hH4,aRb nga.symm,aRb ngg.symm,g3]
   ·have c3:((rd:Int)==0)=false:=by rw[beq_eq_false_iff_ne];omega
    have c4:(rd==0)=false:=by simpa using hrd
    rw[c4] at hnext;simp only[gsR,c1,a1,a2,l1,a3,a4,a5,pQ,c2,l2,i2,st1,l3,hi1,hi2,st2,l4,hj1,hj2,st3,c3,cU,e9];refine ih (i+1) k H3 gb U U U ?_ f3 g3 ..
    rw[c4,hnext];exact t3
end
section
variable {H : aE} {m : Nat} {ab ga aa sb mb cb : Nat} {rows : List Nat} {n : Nat}
def oS (rows:List Nat)(n:Nat)(s:Mat):Nat->Mat
 |0=>s
 |k+1=>rnd (k8 rows) n (k==0) (oS rows n s k)
theorem P3 {s:Mat}(h:MatI n s)(hn:1<=n): ∀k,MatI n (oS rows n s k)
 |0=>h
 |k+1=>(P3 h hn k).rnd U
theorem aBi (req:Nat->Nat->Bool): ∀(k:Nat)(s:Mat),xZ req n (k+1) s=rnd req n false (xZ req n k s)
 |0,s=>rfl
 |k+1,s=>by
  rw[xZ,aBi req k,xZ]
theorem P4 (g a:List Nat): ∀k,oS rows n ⟨List.replicate n (-1),g,a⟩ (k+1)=o6 (k8 rows) n (k+1) g a
 |0=>rfl
 |k+1=>by
  rw[oS,P4 g a k];unfold o6;have:(k+1==0)=false:=rfl;rw[this,show k+1+1-1=k+1 by omega,aBi]
  rfl
theorem aBh {s:Mat}(h:MatI n s)(hn:1<=n){k:Nat}(he:oS rows n s (k+1)=oS rows n s k): ∀j,oS rows n s (k+j)=oS rows n s k
 |0=>rfl
 |j+1=>by
  rw[<-Nat.add_assoc,oS,aBh h hn he j];rw[oS] at he;exact aGn (by rw[(P3 h hn k).ml];exact aRf _) _ he
theorem aNG {H0:aE}{rounds:Nat}{g a:List Nat}(hI0:MatI n ⟨List.replicate n (-1),g,a⟩)(h1:1<=n)(h16:n<=16)(hne:ga≠aa)(hma:mb≠ga)(hmb:mb≠aa)(hsb:H0.length<=sb)(hmb0:H0.length<=mb)(hr:rows.length=n)(hrd:1<=rounds)(hr16:rounds<=16)(hm:80<m){Q:aE->Value->Prop}
  (hK: ∀H',RunS H' ab ga aa sb mb cb rows n (oS rows n ⟨List.replicate n (-1),g,a⟩ rounds)->Fr (λb=>b=ga∨b=aa) H0 H'->Q H' (eM mb n)):
  ∀(q i k:Nat)(H:aE),rounds-i=q->i<=rounds->q<k->RunS H ab ga aa sb mb cb rows n (oS rows n ⟨List.replicate n (-1),g,a⟩ i)->Fr (λb=>b=ga∨b=aa) H0 H->
  ∀(x1 x2 x3 x4 x5 x6 x8 cG aS aP aQ aO bB bI aR bJ bM bT bN bP aU aV aW aX aY aZ bA bH bO bV cH cJ bX cC bY b9 cA cD cF cM cN cO cX cY cS cT cZ dA dE dB dC dF dL dM dN dQ dZ eA eE eF eG eH eK eN eO eZ fA fB fC fD fE fI fJ fK fL fM fN fX fY fZ gC gF gG gH gI iF iG iH iI iJ iK iL iM iN iO iP iQ iR iS iT iV iW iX iY iZ jA jB jC jD jE jH jI jJ jK jL jM jO jQ lS lT lU lV lW lX lY lZ mA mB mC:Value),∃H2 r,aK k (aM prog (lvl prog pkN m) (aK m) N5) (N9 (lvl prog pkN m) (aK m)) [(.Q ab 0),x1,x2,x3,x4,x5,x6,(.I n),x8,(.Q sb 0),(eM cb n),cG,aS,aP,aQ,aO,bB,bI,aR,bJ,bM,bT,bN,bP,aU,aV,aW,aX,aY,aZ,bA,bH,bO,bV,cH,cJ,bX,cC,bY,b9,cA,cD,cF,cM,cN,cO,(.I rounds),(.I (i:Nat)),cX,cY,cS,cT,cZ,dA,dE,dB,dC,dF,dL,dM,dN,dQ,dZ,eA,eE,eF,eG,eH,eK,eN,eO,eZ,fA,fB,fC,fD,fE,fI,fJ,fK,fL,fM,fN,fX,fY,fZ,gC,gF,gG,gH,gI,iF,iG,iH,iI,iJ,iK,iL,iM,iN,iO,iP,iQ,iR,iS,iT,iV,iW,iX,iY,iZ,jA,jB,jC,jD,jE,jH,jI,jJ,jK,jL,jM,jO,jQ,lS,lT,lU,lV,lW,lX,lY,lZ,mA,mB,mC] H=some (r,H2)/\Q H2 r:=by
 have out: ∀(H:aE),RunS H ab ga aa sb mb cb rows n (oS rows n ⟨List.replicate n (-1),g,a⟩ rounds)->Fr (λb=>b=ga∨b=aa) H0 H-> ∀(x0 x1 x2 x3 x4 x5 x6 x7 x8 bQ cG aS aP aQ aO bB bI aR bJ bM bT bN bP aU aV aW aX aY aZ bA bH bO bV cH cJ bX cC bY b9 cA cD cF cM cN cO cQ cW cX cY cS cT cZ dA dE dB dC dF dL dM dN dQ dZ eA eE eF eG eH eK eN eO eZ fA fB fC fD fE fI fJ fK fL fM fN fX fY fZ gC gF gG gH gI iF iG iH iI iJ iK iL iM iN iO iP iQ iR iS iT iV iW iX iY iZ jA jB jC jD jE jH jI jJ jK jL jM jO jQ lS lT lU lV lW lX lY lZ mA mB mC:Value),∃H2 r,N7 (lvl prog pkN m) (aK m) x0 x1 x2 x3 x4 x5 x6 x7 x8 (.Q sb 0) bQ cG aS aP aQ aO bB bI aR bJ bM bT bN bP aU aV aW aX aY aZ bA bH bO bV cH cJ bX cC bY b9 cA cD cF cM cN cO cQ cW cX cY cS cT cZ dA dE dB dC dF dL dM dN dQ dZ eA eE eF eG eH eK eN eO eZ fA fB fC fD fE fI fJ fK fL fM fN fX fY fZ gC gF gG gH gI iF iG iH iI iJ iK iL iM iN iO iP iQ iR iS iT iV iW iX iY iZ jA jB jC jD jE jH jI jJ jK jL jM jO jQ lS lT lU lV lW lX lY lZ mA mB mC H=some (r,H2)/\Q H2 r:=by
  intro H hS hfr;intros;have l2:ld1 (.Q sb 0) H=some (eM mb n,H):=dI hS.st rfl;unfold N7;simp only[gsR,l2]
  exact⟨_,_,rfl,hK H hS hfr⟩
 intro q;induction q with
 |zero=>
  intro i k H hq hi hk hS hfr;intros;obtain⟨k,rfl⟩: ∃k',k=k'+1:=⟨k-1,by omega⟩
  have hie:i=rounds:=U
  subst hie;have c1:decide ((i:Int)<(i:Int))=false:=by simp
  rw[aK,Zg];simp only[gsR,c1];rw[Zi];exact out H hS hfr ..
 |succ q ih=>
  intro i k H hq hi hk hS hfr;intros;obtain⟨k,rfl⟩: ∃k',k=k'+1:=⟨k-1,by omega⟩
  have c1:decide ((i:Int)<(rounds:Int))=true:=by rw[decide_eq_true_eq];omega
  obtain⟨s0,hs0⟩:=aD (oS rows n ⟨List.replicate n (-1),g,a⟩ i);have hI:MatI n s0:=by rw[hs0];exact P3 hI0 h1 i
  rw[<-hs0] at hS;have l1:ld1 (.Q sb 1) H=some (.int .u16 (fF s0.m n:Nat),H):=dI hS.st rfl;have a1:=aNx (m:=m) hS.arb hS.st hS.cols hI.gl hI.g hr hI.ml h1 h16 U
  have a2:cK (eM H.length n)=some (.I n):=rfl;rw[aK,Zg];simp only[gsR,c1,l1,a1,a2];refine aND (H0:=H0) (s0:=s0) (was:=fF s0.m n) (rd:=i) (rounds:=rounds) hI h1 h16 hne hma hmb hsb hmb0 U ?_ n 0 m _ H.length U U U (hS.ext (Fr.app _ _ _)) ⟨by have:=hfr.1;simp;omega,λb hb hn=>by rw[aRd (aRp hb hfr.1),hfr.2 b hb hn]⟩ (eC _ _) ..
  intro H' hS' hfr';intros;have l3:ld1 (.Q sb 1) H'=some (.int .u16 (fF (rnd (k8 rows) n (i==0) s0).m n:Nat),H'):=dI hS'.st rfl;have hrk:rnd (k8 rows) n (i==0) s0=oS rows n ⟨List.replicate n (-1),g,a⟩ (i+1):=by rw[oS,hs0]
  have e9:=pE i U
  unfold N8;by_cases hst:fF (rnd (k8 rows) n (i==0) s0).m n=fF s0.m n
  ·have c2:(((fF (rnd (k8 rows) n (i==0) s0).m n:Nat):Int)==((fF s0.m n:Nat):Int))=true:=by rw[hst];simp
   have hsame:=aNr hI.ml hst;simp only[gsR,l3,c2];rw[Zi];refine out H' ?_ hfr' ..;have:oS rows n ⟨List.replicate n (-1),g,a⟩ rounds=rnd (k8 rows) n (i==0) s0:=by
    have:=aBh (rows:=rows) hI0 h1 (k:=i) (by rw[<-hrk,hsame,hs0]) (rounds-i)
    rw[show i+(rounds-i)=rounds by omega] at this
    rw[this,hsame,hs0]
   rw[this];exact hS'
  ·have c2:(((fF (rnd (k8 rows) n (i==0) s0).m n:Nat):Int)==((fF s0.m n:Nat):Int))=false:=by rw[beq_eq_false_iff_ne];omega
   rw[hrk] at hS';simp only[gsR,l3,c2,cU,e9];exact ih (i+1) k H' U U U hS' hfr' ..
theorem aNF {g a:List Nat}{qb rounds:Nat}(hB:Blks (j6 ab ga aa g a) H)(hne:ga≠aa)(hg:g.length=n)(ha:a.length=n)(hgl: ∀z∈g,z<n)(hal: ∀z∈a,z<n)(h1:1<=n)(h15:n<=15)(hq:H[qb]? =some (gK rows))(hr:rows.length=n)(hrl: ∀z∈rows,z<65536)(hrd:1<=rounds)(hr16:rounds<=16)(hm:100<m):
  ∃H' mb,lvl prog pkN m (.func 66) [.pointer (some ⟨ab,0,none⟩),eM qb n,.int .i64 rounds] H=some (eM mb n,H')/\H'[mb]? =some (fH (o6 (k8 rows) n rounds g a).m [])/\H.length<=mb/\Fr (λb=>b=ga∨b=aa) H H'/\Blks (j6 ab ga aa (o6 (k8 rows) n rounds g a).g (o6 (k8 rows) n rounds g a).a) H':=by
 have main: ∃H' r,lvl prog pkN m (.func 66) [.pointer (some ⟨ab,0,none⟩),eM qb n,.int .i64 rounds] H=some (r,H')/\(r=eM (H.length+1) n/\H'[H.length+1]? =some (fH (o6 (k8 rows) n rounds g a).m [])/\Fr (λb=>b=ga∨b=aa) H H'/\Blks (j6 ab ga aa (o6 (k8 rows) n rounds g a).g (o6 (k8 rows) n rounds g a).a) H'):=by
  have h16:n<=16:=U
  have b0:H[ab]? =some (q9 ga aa g.length):=hB _ (aRj ..);have b1:H[ga]? =some (gJ g):=hB (ga,gJ g) (by simp[j6])
  have b2:H[aa]? =some (gJ a):=hB (aa,gJ a) (by simp[j6])
  rw[hg] at b0;refine iB (cV rfl) U ?_
  rw[aKU];have l0:ld1 (.pointer (some ⟨ab,0,none⟩)) H=some (eM ga n,H):=dI b0 rfl;have e0: ∀b,cK (eM b n)=some (.int .i64 n):=λ_=>rfl
  have c1:((n:Int)!=(n:Int))=false:=by simp
  have c2:decide ((rounds:Int)<1)=false:=by rw[decide_eq_false_iff_not];omega
  have c3:decide ((16:Int)<(rounds:Int))=false:=by rw[decide_eq_false_iff_not];omega
  have e1:=(wS (a:=0) (i:=n) U U).1
  have hpow:2 ^ n<2 ^ 17:=Nat.pow_lt_pow_right U U
  have hpos:0<2 ^ n:=Nat.pow_pos U
  have hpl:2 ^ n<65536:=Fe U
  have e2:IntKind.u16.wrap ((2 ^ n:Nat)-(1:Int))=((2 ^ n-1:Nat):Int):=by rw[B3];omega
  have e3:dR 3 1 1 [.int .i64 0] [(0,.int .i64 (-1))] H=some (.slice (some ⟨H.length,0,none⟩) 1 1,H++[.cells [.int .i64 (-1)] 3 .row]):=rfl;obtain⟨H1,hH1⟩:=aD (H++[Blk.cells [.int .i64 (-1)] 3 .row]);rw[<-hH1] at e3;have h1l:H1.length=H.length+1:=by rw[hH1];simp
  have e4:=aM8 (H:=H1) (m:=m-1) U n h1 h16 (c:=1) (by rw[hH1];exact eC H _)
  obtain⟨H2,hH2⟩:=aD (H1++[lP n n]);rw[<-hH2] at e4;have h2l:H2.length=H.length+2:=by rw[hH2];simp;omega
  have e5:bld prog 183 [(0,eM H1.length n),(1,.int .u16 (2 ^ n-1:Nat)),(2,.int .u16 (2 ^ n-1:Nat))]=some (.agg #[eM H1.length n,.int .u16 (2 ^ n-1:Nat),.int .u16 (2 ^ n-1:Nat)]):=rfl;have e6:H2++[Blk.cells (Value.cells (.agg #[eM H1.length n,.int .u16 (2 ^ n-1:Nat),.int .u16 (2 ^ n-1:Nat)])).toList 183 .fix]=H2++[stB H1.length n (2 ^ n-1) (2 ^ n-1)]:=rfl;obtain⟨H3,hH3⟩:=aD (H2++[stB H1.length n (2 ^ n-1) (2 ^ n-1)]);have h3l:H3.length=H.length+3:=by rw[hH3];simp;omega
  have x3:Ext H H3:=by
   have y1:Ext H H1:=by rw[hH1];exact Fr.app _ _ _
   have y2:Ext H1 H2:=by rw[hH2];exact Fr.app _ _ _
   have y3:Ext H2 H3:=by rw[hH3];exact Fr.app _ _ _
   exact(y1.tr y2).tr y3
  have hq3:H3[qb]? =some (gK rows):=by rw[x3.2 _ (dT hq) id,hq]
  have e7:lvl prog pkN (m-1) (.func 97) [eM qb n,.I n] H3=some (eM H3.length n,H3++[gK (kD rows n)]):=by
   rw[aHD _ U]
   unfold u6 eM;simp only;rw[if_pos U,hq3]
   unfold gK;simp only;rw[if_pos (by simp;omega),List.drop_zero,List.take_of_length_le (by simp;omega),V1 rows hrl]
   simp only[aRC]
  simp only[gsR,l0,e0,c1,c2,c3,e1,j8,e2,e3,e4,e5,e6,<-hH3,e7];have hI0:MatI n ⟨List.replicate n (-1),g,a⟩:=MatI.aAn hg ha hgl hal;have x4:Ext H (H3++[gK (kD rows n)]):=by
   have y4:Ext H3 (H3++[gK (kD rows n)]):=Fr.app _ _ _;exact x3.tr y4
  have x4':Ext H3 (H3++[gK (kD rows n)]):=Fr.app _ _ _;have hm3:H3[H1.length]? =some (fH (List.replicate n (-1)) []):=by
   have:H2[H1.length]? =some (lP n n):=by rw[hH2];exact eC _ _
   rw[hH3,oO this];unfold lP fH;rw[Nat.sub_self,List.map_replicate];rfl
  have hs3:H3[H2.length]? =some (stB H1.length n (2 ^ n-1) (2 ^ n-1)):=by rw[hH3];exact eC _ _
  have hS:RunS (H3++[gK (kD rows n)]) ab ga aa H2.length H1.length H3.length rows n ⟨List.replicate n (-1),g,a⟩:=by
   refine⟨Blks.dx _ _ _ hB x4,?_,by rw[x4'.2 _ (dT hm3) id,hm3],eC _ _⟩
   rw[x4'.2 _ (dT hs3) id,hs3];simp only;rw[aNm,aNp]
  have hgal:=dT b1;have haal:=dT b2;refine aNG (H0:=H) (rounds:=rounds) hI0 h1 h16 hne U U U U hr hrd hr16 U ?_ rounds 0 (m-1) _ U U U hS (x4.Bw λ_ h=>h.elim) ..
  intro H' hS' hfr';have hmt:=hS'.mt;obtain⟨r',hr'⟩: ∃r',rounds=r'+1:=⟨rounds-1,by omega⟩
  have harb:=hS'.arb;rw[hr',P4,<-hr',h1l] at hmt;rw[hr',P4,<-hr'] at harb
  exact⟨by rw[h1l],hmt,hfr',harb⟩
 obtain⟨H',r,g1,rfl,g2,g3,g4⟩:=main
 exact⟨H',H.length+1,g1,g2,by omega,g3,g4⟩
theorem aNE (h1:1<=n)(h16:n<=16)(hm:0<m): ∃ab ga aa H',lvl prog pkN m (.func 54) [.int .i64 n] H=some (.pointer (some ⟨ab,0,none⟩),H')/\Blks (j6 ab ga aa (List.replicate n 0) (List.replicate n 0)) H'/\ga≠aa/\Ext H H'/\H.length<=ab/\H.length<=ga/\H.length<=aa:=by
 have mk:=λH:aE=>vY (H:=H) 3 1 8 [.I 0] .i64 .i64 (n:Int) U U U rfl
 have hz: ∀H:aE,H++[Blk.cells (List.replicate (n:Int).toNat [Value.int .i64 0]).flatten 3 .row]=H++[gJ (List.replicate n 0)]:=λH=>by
  have: ∀n,(List.replicate n [Value.I 0]).flatten=List.replicate n (.I 0):=by
   intro n;induction n with
   |zero=>rfl
   |succ n ih=>rw[List.replicate_succ,aRK,ih];rfl
  rw[aRC,this,gJ,fH,vG,List.map_replicate,List.map_replicate,List.append_nil];rfl
 have mk': ∀H:aE,lD 3 1 8 [.I 0] (.I (n:Int)) (.I (n:Int)) H=some (eM H.length n,H++[gJ (List.replicate n 0)]):=λH=>by
  have:=mk H;rw[hz,aRC] at this;exact this
 obtain⟨H1,hH1⟩:=aD (H++[gJ (List.replicate n 0)]);obtain⟨H2,hH2⟩:=aD (H1++[gJ (List.replicate n 0)]);have h1l:H1.length=H.length+1:=by rw[hH1];simp
 have h2l:H2.length=H.length+2:=by rw[hH2];simp;omega
 have e5:bld prog 166 [(0,eM H.length n),(1,eM H1.length n)]=some (.agg #[eM H.length n,eM H1.length n]):=rfl;have c2:decide ((n:Int)<1)=false:=by rw[decide_eq_false_iff_not];omega
 have c3:decide ((16:Int)<(n:Int))=false:=by rw[decide_eq_false_iff_not];omega
 have e6:H2++[Blk.cells (Value.cells (.agg #[eM H.length n,eM H1.length n])).toList 166 .fix]=H2++[q9 H.length H1.length n]:=rfl;have y1:Ext H H1:=by rw[hH1];exact Fr.app _ _ _
 have y2:Ext H1 H2:=by rw[hH2];exact Fr.app _ _ _
 have y3:Ext H2 (H2++[q9 H.length H1.length n]):=Fr.app _ _ _;refine⟨H2.length,H.length,H1.length,H2++[q9 H.length H1.length n],dH (cV rfl) U ?_,λp hp=> ?_,by omega,(y1.tr y2).tr y3,by omega,by omega,by omega⟩
 ·rw[aKK]
  simp only[gsR,c2,c3,mk',<-hH1,<-hH2,e5,e6]
 ·have q1:H1[H.length]? =some (gJ (List.replicate n 0)):=by rw[hH1];exact eC _ _
  have q2:H2[H1.length]? =some (gJ (List.replicate n 0)):=by rw[hH2];exact eC _ _
  simp only[j6,aRt,aRA,or_false,aRQ] at hp;rcases hp with rfl|rfl|rfl
  ·exact eC _ _
  ·simp only
   rw[y3.2 _ (by rw[h2l];omega) id,y2.2 _ U id,q1]
  ·simp only
   rw[y3.2 _ (by rw[h2l,h1l];omega) id,q2]
end
end Go.Proofs.YtndnnndnhnlkdaaGreatDoor
namespace Go.Proofs.YtndnnndnhnlkdaaGreatDoor
open Go.Proofs.Tryz
open Go.Abs Go.Abs.M
open Classical
def eW (p:PlanD)(me:Nat):Cfg where
 nodes:=p.nodes.toNat
 lanes:=p.lanes.toNat
 room:=p.room.toNat
 queue:=p.queue.toNat
 rounds:=p.rounds.toNat
 every:=p.every.toNat
 weights:=p.weights
 start:=p.start.toNat
 me:=me
 by':=(bes p.edges me).map Int.toNat
 port:=λd=>if d=me then 0 else match ((bes p.edges me).map Int.toNat).findIdx? λw:Nat=>decide ((w:Int)=nx p me d) with
  |some j=>j+1
  |none=>0
structure Lay where
 nb:Nat
 pb:Nat
 pcap:Nat
 prest:List Value
 lb:Nat->Nat
 lcap:Nat->Nat
 lrest:Nat->List Value
 wh:Nat->Nat
 ww:Nat->Nat
 wl:Nat->Nat
 wc:Nat->Nat
 lc:Nat->Nat
 wr:Nat->List Value
 lr:Nat->List Value
 sb:Nat->Nat->Nat
 rb:Nat->Nat->Nat
 ab:Nat
 ga:Nat
 aa:Nat
 hb:Nat
 rg:Nat
inductive Part where
 |node
 |host
 |rings
 |arb
 |whl (i:Nat)
 |snd (i k:Nat)
 |rcv (i k:Nat)
abbrev pt (b:Nat):Value:= .Q b 0
def lL (c:Cfg)(i:Nat):Nat:=if i=0 then c.me else c.by'.getD (i-1) 0
def nD (y:Lay)(c:Cfg)(i:Nat):Value:=if i=0 then .slice none 0 0 else .slice (some ⟨y.lb i,0,none⟩) c.lanes (y.lcap i)
def fR (y:Lay)(c:Cfg)(i:Nat):List Value:=[.I (lL c i),nD y c i,pt (y.wh i)]
def mQ (y:Lay)(i k:Nat):List Value:=[pt (y.sb i k),pt (y.rb i k)]
def iD (y:Lay)(c:Cfg):Value:= .slice (some ⟨y.pb,0,none⟩) c.aI y.pcap
def P8 (bag:Int)(ev wv nv:Value)(y:Lay)(c:Cfg)(ticks:Nat):List Value:=
 [pt y.ab,.I c.nodes,ev,.I c.lanes,.I c.room,.I c.queue,.I c.rounds,.I c.every,.I bag,wv,.int .u16 c.start,nv,.I c.me,iD y c,pt y.hb,pt y.rg,.I ticks]
def wT (bag:Int)(ev wv nv:Value)(y:Lay)(c:Cfg)(ticks:Nat):Blk:= .cells (P8 bag ev wv nv y c ticks) 109 .fix
def yT (y:Lay)(c:Cfg):Blk:= .cells (((List.range c.aI).map (fR y c)).flatten++y.prest) 114 .row
def oT (y:Lay)(c:Cfg)(i:Nat):Blk:= .cells (((List.range c.lanes).map (mQ y i)).flatten++y.lrest i) 118 .row
def mR (bag:Int)(ev wv nv:Value)(y:Lay)(c:Cfg)(ticks:Nat):List (Nat×Blk):=
 (y.nb,wT bag ev wv nv y c ticks)::(y.pb,yT y c)::(List.range c.by'.length).map λj=>(y.lb (j+1),oT y c (j+1))
def lR (bag:Int)(ev wv nv:Value)(y:Lay)(c:Cfg)(s:NS):Part->aE->Prop
 | .node=>Blks (mR bag ev wv nv y c s.ticks)
 | .host=>λD=>HostAt D y.hb s.hL s.hG c.lanes c.queue
 | .rings=>λD=>RingsN D y.rg s.rL (c.aI*c.lanes*c.room) c.aI c.lanes
 | .arb=>Blks (j6 y.ab y.ga y.aa s.g s.a)
 | .whl i=>Blks (if i<c.aI then lQ (y.wh i) (y.ww i) (y.wl i) (y.wc i) (y.lc i) (y.wr i) (y.lr i) c.weights (s.whl i) else [])
 | .snd i k=>Blks (if 1<=i/\i<c.aI/\k<c.lanes then [(y.sb i k,nB (s.snd i k))] else [])
 | .rcv i k=>Blks (if 1<=i/\i<c.aI/\k<c.lanes then [(y.rb i k,nA (s.rcv i k) c.room)] else [])
structure LayOk (y:Lay)(c:Cfg):Prop where
 pcap:c.aI<=y.pcap
 lcap: ∀i,1<=i->i<c.aI->c.lanes<=y.lcap i
 ga:y.ga≠y.aa
 ww: ∀i,i<c.aI->y.ww i≠y.wl i
structure NodeAt (H0 H:aE)(F:Part->Nat->Prop)(y:Lay)(p:PlanD)(ev wv nv:Value)(c:Cfg)(t:Nat)(s:NS):Prop where
 ok:c.ok
 hc:c=eW p c.me
 hp: ∃n,OkP p n
 lay:LayOk y c
 ext:Ext H0 H
 old: ∀b,Un F b->H0.length<=b
 plan:PV H0 p ev wv nv
 inv:NInv c t s
 sep:Sep (lR p.bag ev wv nv y c s) F H
theorem vH (bag:Int)(ev wv nv:Value)(y:Lay)(c:Cfg)(s:NS)(i:Part):DX (lR bag ev wv nv y c s i):=by
 cases i with
 |host=>exact λD D' h he=>h.ext he
 |rings=>exact λD D' h he=>h.ext he
 |_=>exact Blks.dx _
theorem Ig {l:List (Nat×Blk)}(h: ∀p∈l,∃cs e k,p.2= .cells cs e k):tD l:=λp hp hd=>by
 obtain⟨cs,e,k,he⟩:=h p hp;rw[he] at hd;cases hd
theorem yS {bag:Int}{ev wv nv:Value}{y:Lay}{c:Cfg}{ticks:Nat}:tD (mR bag ev wv nv y c ticks):=Ig λp hp=>by
 simp only[mR,aRt,aRN] at hp;rcases hp with rfl|rfl|⟨j,_,rfl⟩<;>exact⟨_,_,_,rfl⟩
theorem aBm {ab ga aa:Nat}{g a:List Nat}:tD (j6 ab ga aa g a):=Ig λp hp=>by
 simp only[j6,aRt,aRA,or_false] at hp;rcases hp with rfl|rfl|rfl<;>exact⟨_,_,_,rfl⟩
theorem aBn {wh ww wl wc lc:Nat}{wr lr:List Value}{W:List Int}{x:Whl}:tD (lQ wh ww wl wc lc wr lr W x):=Ig λp hp=>by
 simp only[lQ,aRt,aRA,or_false] at hp;rcases hp with rfl|rfl|rfl<;>exact⟨_,_,_,rfl⟩
theorem Ih {b:Nat}{cs:List Value}{e:TypeId}{k:Kind}:tD [(b,Blk.cells cs e k)]:=Ig λp hp=>by
 simp only[aRt,aRA,or_false] at hp;subst hp
 exact⟨_,_,_,rfl⟩
section
variable {H0 H : aE} {F : Part → Nat → Prop} {y : Lay} {p : PlanD} {ev wv nv : Value} {c : Cfg} {t : Nat} {s : NS}
theorem NodeAt.pR {H':aE}(h:NodeAt H0 H F y p ev wv nv c t s)(he:Ext H H'):NodeAt H0 H' F y p ev wv nv c t s:=
 {h with ext:=h.ext.tr he,sep:=h.sep.ext (vH _ _ _ _ _ _ _) he}
theorem NodeAt.nbB (h:NodeAt H0 H F y p ev wv nv c t s):H[y.nb]? =some (wT p.bag ev wv nv y c s.ticks):=h.sep.yP .node rfl yS (aRj ..)
theorem NodeAt.ld (h:NodeAt H0 H F y p ev wv nv c t s)(j:Nat)(v:Value)(hv:(P8 p.bag ev wv nv y c s.ticks)[j]? =some v):ld1 (.Q y.nb j) H=some (v,H):=dI h.nbB hv
theorem Db (y:Lay)(c:Cfg)(i:Nat):(fR y c i).length=3:=rfl
theorem aBo (y:Lay)(i k:Nat):(mQ y i k).length=2:=rfl
theorem NodeAt.aBk (h:NodeAt H0 H F y p ev wv nv c t s):Rs (fR y c) 114 H (iD y c) (List.range c.aI):=by
 have hb:H[y.pb]? =some (yT y c):=h.sep.yP .node rfl yS (by simp[mR])
 refine .inr ⟨y.pb,0,y.pcap,by rw[aRE];rfl,by rw[aRE];exact h.lay.pcap,λ_=>⟨_,_,[],y.prest,rfl,λ_=>rfl,by rw[hb,List.nil_append];rfl⟩⟩
theorem NodeAt.aNH (h:NodeAt H0 H F y p ev wv nv c t s){i:Nat}(h1:1<=i)(h2:i<c.aI):Rs (mQ y i) 118 H (nD y c i) (List.range c.lanes):=by
 have hb:H[y.lb i]? =some (oT y c i):=h.sep.yP .node rfl yS (by
  simp only[mR,aRt,aRN,aRO];exact .inr (.inr ⟨i-1,by unfold Cfg.aI at h2;omega,by rw[Nat.sub_add_cancel h1]⟩))
 unfold nD;rw[if_neg U]
 refine .inr ⟨y.lb i,0,y.lcap i,by rw[aRE],by rw[aRE];exact h.lay.lcap i h1 h2,λ_=>⟨_,_,[],y.lrest i,rfl,λ_=>rfl,by rw[hb,List.nil_append];rfl⟩⟩
theorem NodeAt.yR (h:NodeAt H0 H F y p ev wv nv c t s){i:Nat}(hi:i<c.aI): ∃b o,bS 3 (iD y c) (.I (i:Int))=some (.Q b o)/\ ∀H',NodeAt H0 H' F y p ev wv nv c t s∨H'[b]? =H[b]? ->
  ldN 3 (.Q b o) H'=some (.agg ⟨fR y c i⟩,H')/\ld1 (.Q b o) H'=some (.I (lL c i),H')/\ld1 (.Q b (o+1)) H'=some (nD y c i,H')/\ld1 (.Q b (o+2)) H'=some (pt (y.wh i),H'):=by
 obtain⟨b,o,g1,g2,g3⟩:=h.aBk.fV (Db y c) (i:=i) (x:=i) (by simp[hi]) .i64
 have hb:b=y.pb:=by
  obtain⟨o',n',c',hh⟩:=g2;unfold iD at hh;injection hh with hh;injection hh with hh;injection hh with hh;exact hh.symm
 refine⟨b,o,g1,λH' hH'=> ?_⟩
 have hsame:H'[b]? =H[b]? :=by
  rcases hH' with h'|h'
  ·have q1:H[y.pb]? =some (yT y c):=h.sep.yP .node rfl yS (by simp[mR])
   have q2:H'[y.pb]? =some (yT y c):=h'.sep.yP .node rfl yS (by simp[mR])
   rw[hb,q1,q2]
  ·exact h'
 obtain⟨q1,q2,_⟩:=g3 H' hsame
 exact⟨q1,q2 0 _ rfl,q2 1 _ rfl,q2 2 _ rfl⟩
theorem NodeAt.C9 (h:NodeAt H0 H F y p ev wv nv c t s){i k:Nat}(h1:1<=i)(hi:i<c.aI)(hk:k<c.lanes): ∃b o,bS 2 (nD y c i) (.I (k:Int))=some (.Q b o)/\
  ldN 2 (.Q b o) H=some (.agg ⟨mQ y i k⟩,H)/\ld1 (.Q b o) H=some (pt (y.sb i k),H)/\ld1 (.Q b (o+1)) H=some (pt (y.rb i k),H):=by
 obtain⟨b,o,g1,g2,g3⟩:=(h.aNH h1 hi).fV (aBo y i) (i:=k) (x:=k) (by simp[hk]) .i64
 obtain⟨q1,q2,_⟩:=g3 H rfl
 exact⟨b,o,g1,q1,q2 0 _ rfl,q2 1 _ rfl⟩
theorem NodeAt.If (h:NodeAt H0 H F y p ev wv nv c t s){i k:Nat}(h1:1<=i)(hi:i<c.aI)(hk:k<c.lanes):H[y.sb i k]? =some (nB (s.snd i k)):=
 h.sep.yP (.snd i k) (l:=[(y.sb i k,Go.Proofs.YtndnnndnhnlkdaaGreatDoor.nB (s.snd i k))]) (by simp only[lR];rw[if_pos ⟨h1,hi,hk⟩]) Ih (aRj ..)
theorem NodeAt.P5 (h:NodeAt H0 H F y p ev wv nv c t s){i k:Nat}(h1:1<=i)(hi:i<c.aI)(hk:k<c.lanes):H[y.rb i k]? =some (nA (s.rcv i k) c.room):=
 h.sep.yP (.rcv i k) (l:=[(y.rb i k,Go.Proofs.YtndnnndnhnlkdaaGreatDoor.nA (s.rcv i k) c.room)]) (by simp only[lR];rw[if_pos ⟨h1,hi,hk⟩]) Ih (aRj ..)
theorem NodeAt.aNK (h:NodeAt H0 H F y p ev wv nv c t s){i:Nat}(hi:i<c.aI):Blks (lQ (y.wh i) (y.ww i) (y.wl i) (y.wc i) (y.lc i) (y.wr i) (y.lr i) c.weights (s.whl i)) H:=
 h.sep.see (.whl i) (by simp only[lR];rw[if_pos hi]) aBn
theorem NodeAt.P7 (h:NodeAt H0 H F y p ev wv nv c t s)(ht:t<1000000000)(i k:Nat):SndOk (s.snd i k):=by
 have:=h.inv.snd i k
 exact⟨this.le,this.wide,by have h1:=this.big;have h2:=this.wide;omega⟩
theorem NodeAt.P6 (h:NodeAt H0 H F y p ev wv nv c t s)(ht:t<1000000000)(i k:Nat):RcvOk (s.rcv i k) c.room:=by
 have:=h.inv.rcv i k
 exact⟨this.h,h.ok.room.2,by have:=this.big;omega⟩
theorem NodeAt.aBl {H':aE}{F':Part->Nat->Prop}{t':Nat}{s':NS}(h:NodeAt H0 H F y p ev wv nv c t s)(hi:NInv c t' s')(hs:Sep (lR p.bag ev wv nv y c s') F' H')(hm:Mv (Un F) (Un F') H H'):NodeAt H0 H' F' y p ev wv nv c t' s':=
 {h with inv:=hi,sep:=hs,ext:=⟨aRq h.ext.1 hm.le,λb hb _=>by
   rw[hm.keep b (aRp hb h.ext.1) (λhu=>by have:=h.old b hu;omega),h.ext.2 b hb id]⟩,old:=λb hb=>(hm.own b hb).elim (h.old b) λhl=>aRq h.ext.1 hl}
theorem NodeAt.aBj {H':aE}{F':Nat->Prop}{t':Nat}{s':NS}(h:NodeAt H0 H F y p ev wv nv c t s)(i:Part){B:aE->Prop}(hB:Has B F' H')(hm:Mv (F i) F' H H')(hi:NInv c t' s')
  (hBi: ∀D,B D->lR p.bag ev wv nv y c s' i D)(hj: ∀j,j≠i-> ∀D,lR p.bag ev wv nv y c s j D->lR p.bag ev wv nv y c s' j D):NodeAt H0 H' (updI F i F') y p ev wv nv c t' s'/\Mv (Un F) (Un (updI F i F')) H H':=by
 obtain⟨h1,h2⟩:=h.sep.Kx i (λj _=>vH _ _ _ _ _ _ _ j) hB hm
 refine⟨h.aBl hi (h1.xV λj D hD=> ?_) h2,h2⟩
 by_cases hji:j=i
 ·rw[hji,iC] at hD
  rw[hji];exact hBi D hD
 ·rw[eJ _ _ hji] at hD
  exact hj j hji D hD
theorem NodeAt.C8 {H':aE}{t':Nat}{s':NS}(h:NodeAt H0 H F y p ev wv nv c t s)(i:Part){l l':List (Nat×Blk)}(hA:lR p.bag ev wv nv y c s i=Blks l)(hl:tD l)(hsub: ∀q∈l',InB l q.1)(hf:Fr (InB l) H H')(hB:Blks l' H')(hi:NInv c t' s')
  (hBi:lR p.bag ev wv nv y c s' i=Blks l')(hj: ∀j,j≠i->lR p.bag ev wv nv y c s' j=lR p.bag ev wv nv y c s j):NodeAt H0 H' F y p ev wv nv c t' s'/\Mv (Un F) (Un F) H H':=by
 obtain⟨h1,h2⟩:=h.sep.aNc i (λj _=>vH _ _ _ _ _ _ _ j) hA hl hsub hf hB
 refine⟨h.aBl hi (h1.xV λj D hD=> ?_) h2,h2⟩
 by_cases hji:j=i
 ·rw[hji,iC] at hD
  rw[hji,hBi];exact hD
 ·rw[eJ _ _ hji] at hD
  rw[hj j hji];exact hD
theorem NodeAt.aNJ {H':aE}{t':Nat}{i k:Nat}{x':Snd}(h:NodeAt H0 H F y p ev wv nv c t s)(h1:1<=i)(h2:i<c.aI)(hk:k<c.lanes)(hp:Put1 H (y.sb i k) (Go.Proofs.YtndnnndnhnlkdaaGreatDoor.nB x') H')(hi:NInv c t' {s with snd:=up2 s.snd i k x'}):
  NodeAt H0 H' F y p ev wv nv c t' {s with snd:=up2 s.snd i k x'}/\Mv (Un F) (Un F) H H':=by
 refine h.C8 (.snd i k) (l:=[(y.sb i k,Go.Proofs.YtndnnndnhnlkdaaGreatDoor.nB (s.snd i k))]) (l':=[(y.sb i k,Go.Proofs.YtndnnndnhnlkdaaGreatDoor.nB x')]) (by simp only[lR];rw[if_pos ⟨h1,h2,hk⟩]) Ih ?_ ?_ ?_ hi ?_ ?_
 ·intro q hq
  simp only[aRt,aRA,or_false] at hq;subst hq
  exact⟨_,aRj ..,rfl⟩
 ·exact⟨hp.le,λb hb hn=>hp.keep b hb λhh=>hn ⟨_,aRj ..,hh.symm⟩⟩
 ·intro q hq
  simp only[aRt,aRA,or_false] at hq;subst hq;exact hp.at_
 ·simp only[lR]
  rw[if_pos ⟨h1,h2,hk⟩,up2,if_pos ⟨rfl,rfl⟩]
 ·intro j hj
  cases j with
  |snd i' k'=>
   have e:up2 s.snd i k x' i' k'=s.snd i' k':=if_neg λhh=>hj (by rw[hh.1,hh.2])
   simp only[lR];rw[e]
  |_=>rfl
theorem NodeAt.aNI {H':aE}{t':Nat}{i k:Nat}{x':Rcv}(h:NodeAt H0 H F y p ev wv nv c t s)(h1:1<=i)(h2:i<c.aI)(hk:k<c.lanes)(hp:Put1 H (y.rb i k) (Go.Proofs.YtndnnndnhnlkdaaGreatDoor.nA x' c.room) H')(hi:NInv c t' {s with rcv:=up2 s.rcv i k x'}):
  NodeAt H0 H' F y p ev wv nv c t' {s with rcv:=up2 s.rcv i k x'}/\Mv (Un F) (Un F) H H':=by
 refine h.C8 (.rcv i k) (l:=[(y.rb i k,Go.Proofs.YtndnnndnhnlkdaaGreatDoor.nA (s.rcv i k) c.room)]) (l':=[(y.rb i k,Go.Proofs.YtndnnndnhnlkdaaGreatDoor.nA x' c.room)]) (by simp only[lR];rw[if_pos ⟨h1,h2,hk⟩]) Ih ?_ ?_ ?_ hi ?_ ?_
 ·intro q hq
  simp only[aRt,aRA,or_false] at hq;subst hq
  exact⟨_,aRj ..,rfl⟩
 ·exact⟨hp.le,λb hb hn=>hp.keep b hb λhh=>hn ⟨_,aRj ..,hh.symm⟩⟩
 ·intro q hq
  simp only[aRt,aRA,or_false] at hq;subst hq;exact hp.at_
 ·simp only[lR]
  rw[if_pos ⟨h1,h2,hk⟩,up2,if_pos ⟨rfl,rfl⟩]
 ·intro j hj
  cases j with
  |rcv i' k'=>
   have e:up2 s.rcv i k x' i' k'=s.rcv i' k':=if_neg λhh=>hj (by rw[hh.1,hh.2])
   simp only[lR];rw[e]
  |_=>rfl
end
def Dc:Value:= .agg #[.pointer none,.pointer none]
def iE (a b:Value):Blk:= .cells [a,b] 118 .fix
section
variable {H0 H : aE} {F : Part → Nat → Prop} {y : Lay} {p : PlanD} {ev wv nv : Value} {c : Cfg} {t : Nat} {s : NS} {m : Nat}
theorem Ii:bld prog 118 []=some Dc:=rfl
theorem Dd {b:Nat}{a0 b0:Value}(a1 b1:Value)(h:H[b]? =some (iE a0 b0))(ha:dX [a1,b1]=true):stN 2 (.Q b 0) (.agg #[a1,b1]) H=some (undef,H.set b (iE a1 b1)):=uG h aC rfl rfl (aRf 2) ha
theorem Ar {b:Nat}{a0 b0:Value}(h:H[b]? =some (iE a0 b0)):ldN 2 (.Q b 0) H=some (.agg #[a0,b0],H)/\ld1 (.Q b 0) H=some (a0,H)/\ld1 (.Q b 1) H=some (b0,H):=⟨qA h (aRf 2),dI h rfl,dI h rfl⟩
theorem aQ9 (h:NodeAt H0 H F y p ev wv nv c t s)(hm:0<m)(i k:Int)(hno: ¬(1<=i/\i<c.aI/\0<=k/\k<c.lanes)): ∃H',lvl prog pkN m (.func 71) [pt y.nb,.I i,.I k] H=some (.tuple #[Dc,.bool false],H')/\Ext H H':=by
 refine mF (cV rfl) U ?_
 rw[Zn];have e0: ∀H:aE,H++[Blk.cells [Value.pointer none,.pointer none] 118 .fix]=H++[iE (.pointer none) (.pointer none)]:=λ_=>rfl
 have h1:=h.pR (H':=H++[iE (.pointer none) (.pointer none)]) (Fr.app _ _ _);have l13:=h1.ld 13 (iD y c) rfl;have l3:=h1.ld 3 (.I c.lanes) rfl;have e1:cK (iD y c)=some (.I c.aI):=rfl;have st:stN 2 (.Q H.length 0) Dc (H++[iE (.pointer none) (.pointer none)])=some (undef,H++[iE (.pointer none) (.pointer none)]):=by
  rw[Dc,Dd _ _ (eC _ _) rfl,lO]
 have ld:=(Ar (eC H (iE (.pointer none) (.pointer none)))).1;have fin: ∃H',(some (Value.tuple #[.agg #[.pointer none,.pointer none],.bool false],H++[iE (.pointer none) (.pointer none)]):Option (Value×aE))=some (.tuple #[Dc,.bool false],H')/\Ext H H':=⟨_,rfl,Fr.app _ _ _⟩;by_cases c1:i<1
 ·simp only[gsR,e0,aRU c1,Ii,st,ld]
  exact fin
 ·by_cases c2:(c.aI:Int)<=i
  ·simp only[gsR,e0,aRV c1,l13,e1,aRU c2,Ii,st,ld]
   exact fin
  ·by_cases c3:k<0
   ·simp only[gsR,e0,aRV c1,l13,e1,aRV c2,aRU c3,Ii,st,ld]
    exact fin
   ·have c4:(c.lanes:Int)<=k:=U
    simp only[gsR,e0,aRV c1,l13,e1,aRV c2,aRV c3,l3,aRU c4,Ii,st,ld];exact fin
theorem aBp (h:NodeAt H0 H F y p ev wv nv c t s)(hm:0<m){i k:Nat}(h1:1<=i)(h2:i<c.aI)(hk:k<c.lanes): ∃H',lvl prog pkN m (.func 71) [pt y.nb,.I i,.I k] H=some (.tuple #[.agg #[pt (y.sb i k),pt (y.rb i k)],.bool true],H')/\Ext H H':=by
 refine mF (cV rfl) U ?_
 rw[Zn];have e0: ∀H:aE,H++[Blk.cells [Value.pointer none,.pointer none] 118 .fix]=H++[iE (.pointer none) (.pointer none)]:=λ_=>rfl
 have g1:=h.pR (H':=H++[iE (.pointer none) (.pointer none)]) (Fr.app _ _ _);have l13:=g1.ld 13 (iD y c) rfl;have l3:=g1.ld 3 (.I c.lanes) rfl;have e1:cK (iD y c)=some (.I c.aI):=rfl;obtain⟨b,o,a1,a2⟩:=g1.yR h2;obtain⟨_,_,a3,_⟩:=a2 _ (.inl g1);obtain⟨b',o',a4,a5,_,_⟩:=g1.C9 h1 h2 hk;have a5:ldN 2 (.Q b' o') (H++[iE (.pointer none) (.pointer none)])=some (.agg #[pt (y.sb i k),pt (y.rb i k)],H++[iE (.pointer none) (.pointer none)]):=a5;have st:stN 2 (.Q H.length 0) (.agg #[pt (y.sb i k),pt (y.rb i k)]) (H++[iE (.pointer none) (.pointer none)])=some (undef,H++[iE (pt (y.sb i k)) (pt (y.rb i k))]):=by
  rw[Dd _ _ (eC _ _) rfl,lO]
 have ld:=(Ar (eC H (iE (pt (y.sb i k)) (pt (y.rb i k))))).1;have c1:decide ((i:Int)<1)=false:=by rw[decide_eq_false_iff_not];omega
 have c2:decide ((c.aI:Int)<=(i:Int))=false:=by rw[decide_eq_false_iff_not];omega
 have c3:decide ((k:Int)<0)=false:=by rw[decide_eq_false_iff_not];omega
 have c4:decide ((c.lanes:Int)<=(k:Int))=false:=by rw[decide_eq_false_iff_not];omega
 simp only[gsR,e0,c1,l13,e1,c2,c3,l3,c4,a1,a3,a4,a5,st,ld]
 exact⟨_,rfl,Fr.app _ _ _⟩
theorem pS (a b:Value):ext 0 (.tuple #[a,b])=some a/\ext 1 (.tuple #[a,b])=some b:=⟨rfl,rfl⟩
theorem aNU (h:NodeAt H0 H F y p ev wv nv c t s)(hm:1<m){i k:Nat}(h1:1<=i)(h2:i<c.aI)(hk:k<c.lanes): ∃H',lvl prog pkN m (.func 28) [pt y.nb,.I i,.I k] H=some (pt (y.sb i k),H')/\Ext H H':=by
 obtain⟨H1,g1,x1⟩:=aBp h (m:=m-1) U h1 h2 hk
 have e0: ∀H:aE,H++[Blk.cells [Value.pointer none,.pointer none] 118 .fix]=H++[iE (.pointer none) (.pointer none)]:=λ_=>rfl
 have st:stN 2 (.Q H1.length 0) (.agg #[pt (y.sb i k),pt (y.rb i k)]) (H1++[iE (.pointer none) (.pointer none)])=some (undef,H1++[iE (pt (y.sb i k)) (pt (y.rb i k))]):=by
  rw[Dd _ _ (eC _ _) rfl,lO]
 have ld:=(Ar (eC H1 (iE (pt (y.sb i k)) (pt (y.rb i k))))).2.1;refine mF (cV rfl) U ⟨H1++[iE (pt (y.sb i k)) (pt (y.rb i k))],?_,x1.tr (Fr.app _ _ _)⟩
 rw[aKz];simp only[gsR,g1,pS,e0,st,ld]
theorem aNS (h:NodeAt H0 H F y p ev wv nv c t s)(hm:1<m){i k:Nat}(h1:1<=i)(h2:i<c.aI)(hk:k<c.lanes): ∃H',lvl prog pkN m (.func 30) [pt y.nb,.I i,.I k] H=some (pt (y.rb i k),H')/\Ext H H':=by
 obtain⟨H1,g1,x1⟩:=aBp h (m:=m-1) U h1 h2 hk
 have e0: ∀H:aE,H++[Blk.cells [Value.pointer none,.pointer none] 118 .fix]=H++[iE (.pointer none) (.pointer none)]:=λ_=>rfl
 have st:stN 2 (.Q H1.length 0) (.agg #[pt (y.sb i k),pt (y.rb i k)]) (H1++[iE (.pointer none) (.pointer none)])=some (undef,H1++[iE (pt (y.sb i k)) (pt (y.rb i k))]):=by
  rw[Dd _ _ (eC _ _) rfl,lO]
 have ld:=(Ar (eC H1 (iE (pt (y.sb i k)) (pt (y.rb i k))))).2.2;refine mF (cV rfl) U ⟨H1++[iE (pt (y.sb i k)) (pt (y.rb i k))],?_,x1.tr (Fr.app _ _ _)⟩
 rw[aKA];simp only[gsR,g1,pS,e0,st,ld]
theorem aNP (h:NodeAt H0 H F y p ev wv nv c t s)(hm:0<m):lvl prog pkN m (.func 59) [pt y.nb] H=some (pt y.hb,H):=by
 refine dH (cV rfl) U ?_
 rw[aKL];simp only[gsR,h.ld 14 (pt y.hb) rfl]
theorem aNT (h:NodeAt H0 H F y p ev wv nv c t s)(hm:0<m):lvl prog pkN m (.func 61) [pt y.nb] H=some (pt y.rg,H):=by
 refine dH (cV rfl) U ?_
 rw[aKN];simp only[gsR,h.ld 15 (pt y.rg) rfl]
def fiI (l:List Nat)(z:Int):Int:=match l.findIdx? (λw:Nat=>decide ((w:Int)=z)) with
 |some j=>(j:Int)
 |none=> -1
theorem aNN {l:List Nat}{z:Int}{i:Nat}(hi:i<l.length)(h1:(l.getD i 0:Int)=z)(h2: ∀j,j<i->(l.getD j 0:Int)≠z):fiI l z=i:=by
 have:l.findIdx? (λw:Nat=>decide ((w:Int)=z))=some i:=by
  rw[List.findIdx?_eq_some_iff_getElem];refine⟨hi,?_,λj hj=> ?_⟩
  ·rw[aRe,aRc hi] at h1
   simpa using h1
  ·have:=h2 j hj
   rw[aRe,aRc U] at this
   simpa using this
 unfold fiI;rw[this]
theorem aNO {l:List Nat}{z:Int}(h: ∀j,j<l.length->(l.getD j 0:Int)≠z):fiI l z= -1:=by
 have:l.findIdx? (λw:Nat=>decide ((w:Int)=z))=none:=by
  rw[List.findIdx?_eq_none_iff];intro x hx;obtain⟨j,hj,rfl⟩:=List.mem_iff_getElem.mp hx;have:=h j hj;rw[aRe,aRc hj] at this;simpa using this
 unfold fiI;rw[this]
def rA (y:Lay)(c:Cfg)(i:Nat):Blk:= .cells (fR y c i) 114 .fix
theorem aNV (hm:0<m){cb:Nat}{z:Int}(i:Nat)(hc:H[cb]? =some (.cells [.I z] 3 .fix)):lvl prog pkN m (.func 118) [.agg ⟨fR y c i⟩,pt cb] H=some (.bool ((lL c i:Int)==z),H++[rA y c i]):=by
 refine dH (cV rfl) U ?_
 rw[aKn];have e0:H++[Blk.cells (Value.cells (.agg ⟨fR y c i⟩)).toList 114 .fix]=H++[rA y c i]:=rfl;have l0:ld1 (.pointer (some ⟨H.length,0,none⟩)) (H++[rA y c i])=some (.int .i64 (lL c i),H++[rA y c i]):=dI (eC _ _) rfl;have l1:ld1 (pt cb) (H++[rA y c i])=some (.int .i64 z,H++[rA y c i]):=dI (oO hc _) rfl;simp only[gsR,e0,l0,l1]
theorem aNR {fid:FuncId}{cb:Nat}{z:Int}{v:Value}(hf: ∀(H:aE)(i:Nat),H[cb]? =some (.cells [.I z] 3 .fix)->lvl prog pkN m (.func fid) [.agg ⟨fR y c i⟩,pt cb] H=some (.bool ((lL c i:Int)==z),H++[rA y c i]))
  (hb:c.by'.length<=5): ∀(q i k:Nat)(H:aE),c.by'.length-i=q->i<=c.by'.length->q<k->Rs (fR y c) 114 H v ((List.range c.aI).drop 1)->H[cb]? =some (.cells [.I z] 3 .fix)->(∀j,j<i->(c.by'.getD j 0:Int)≠z)-> ∀(x2 x3 x4 x5 x6 x9 bQ cG aS aP aQ aO bB bI aR:Value),
  ∃H2,aK k (aM prog (lvl prog pkN m) (aK m) Nm) (Gs (lvl prog pkN m) (aK m)) [v,(.func (.func fid) #[] #[pt cb]),x2,x3,x4,x5,x6,(.I c.by'.length),(.I (i:Nat)),x9,bQ,cG,aS,aP,aQ,aO,bB,bI,aR] H=some (.I (fiI c.by' z),H2)/\Ext H H2:=by
 intro q;induction q with
 |zero=>
  intro i k H hq hi hk hv hc hno;intros;obtain⟨k,rfl⟩: ∃k',k=k'+1:=⟨k-1,by omega⟩
  have c1:decide ((i:Int)<(c.by'.length:Int))=false:=by rw[decide_eq_false_iff_not];omega
  rw[aK,Y8];simp only[gsR,c1];rw[aKk];rw[aNO λj hj=>hno j U]
  simp only[gsR]
  exact⟨_,rfl,Fr.gR _ _⟩
 |succ q ih=>
  intro i k H hq hi hk hv hc hno;intros;obtain⟨k,rfl⟩: ∃k',k=k'+1:=⟨k-1,by omega⟩
  have c1:decide ((i:Int)<(c.by'.length:Int))=true:=by rw[decide_eq_true_eq];omega
  have hx:((List.range c.aI).drop 1)[i]? =some (i+1):=by
   rw[List.getElem?_drop,aRS (by unfold Cfg.aI;omega),Nat.add_comm]
  obtain⟨b,o,a1,_,a3⟩:=hv.fV (Db y c) hx .i64;have a3:=(a3 H rfl).1;have hcall:=hf H (i+1) hc;have hto:lL c (i+1)=c.by'.getD i 0:=by unfold lL;rw[if_neg U];rfl
  rw[hto] at hcall;have e9:=pE i U
  have hcv:nT (lvl prog pkN m) (.func (.func fid) #[] #[pt cb]) [.agg ⟨fR y c (i+1)⟩] H=some (.bool ((c.by'.getD i 0:Int)==z),H++[rA y c (i+1)]):=hcall;rw[aK,Y8];by_cases he:(c.by'.getD i 0:Int)=z
  ·have c2:((c.by'.getD i 0:Int)==z)=true:=by simpa using he
   rw[c2] at hcv;simp only[gsR,c1,a1,a3,hcv];rw[aKm];rw[aNN U he hno]
   simp only[gsR]
   exact⟨_,rfl,Fr.app _ _ _⟩
  ·have c2:((c.by'.getD i 0:Int)==z)=false:=by simpa using he
   rw[c2] at hcv;simp only[gsR,c1,a1,a3,hcv,cU,e9];obtain⟨H2,g1,g2⟩:=ih (i+1) k (H++[rA y c (i+1)]) U U U (hv.ext (Fr.app _ _ _)) (oO hc _) (λj hj=>by
    by_cases hji:j=i
    ·rw[hji];exact he
    ·exact hno j U) ..
   exact⟨H2,g1,(show Ext H (H++[rA y c (i+1)]) from Fr.app _ _ _).tr g2⟩
theorem aNQ {fid:FuncId}{cb:Nat}{z:Int}{v:Value}(hm:20<m)(hf: ∀(H:aE)(i:Nat),H[cb]? =some (.cells [.I z] 3 .fix)->lvl prog pkN (m-1) (.func fid) [.agg ⟨fR y c i⟩,pt cb] H=some (.bool ((lL c i:Int)==z),H++[rA y c i]))
  (hb:c.by'.length<=5)(hv:Rs (fR y c) 114 H v ((List.range c.aI).drop 1))(hc:H[cb]? =some (.cells [.I z] 3 .fix)): ∃H2,lvl prog pkN m (.func 117) [v,.func (.func fid) #[] #[pt cb]] H=some (.I (fiI c.by' z),H2)/\Ext H H2:=by
 refine mF (cV rfl) U ?_
 rw[aKl];have hl:=hv.jX;have:((List.range c.aI).drop 1).length=c.by'.length:=by simp[Cfg.aI]
 rw[this] at hl;simp only[gsR,hl];exact aNR hf hb c.by'.length 0 (m-1) H U U U hv hc (λj hj=>by omega) ..
theorem aNM:prog.cellsOf 114=3:=by kernel_rfl
theorem NodeAt.aNL (h:NodeAt H0 H F y p ev wv nv c t s): ∃v,slc prog 3 (iD y c) (some (.I 1)) none none H=some (v,H)/\Rs (fR y c) 114 H v ((List.range c.aI).drop 1):=by
 have hne:List.range c.aI≠[]:=by unfold Cfg.aI;simp
 obtain⟨v',g1,g2,_⟩:=h.aBk.E5 (P:=prog) (Db y c) aNM hne (l:=1) (r:=c.aI) (lo:=some (.I 1)) (hi:=none) (oE 0 .i64 1) (by rw[aRE];rfl) (by unfold Cfg.aI;omega) (by rw[aRE];exact aRf _)
 rw[List.take_of_length_le (by rw[aRE];exact aRf _)] at g2
 exact⟨v',g1,g2⟩
end
section
variable {H0 H : aE} {F : Part → Nat → Prop} {y : Lay} {p : PlanD} {ev wv nv : Value} {c : Cfg} {t : Nat} {s : NS} {m : Nat}
def De (z:Int):Blk:= .cells [.int .i64 z] 3 .fix
theorem aNZ (h:NodeAt H0 H F y p ev wv nv c t s)(hm:40<m)(d:Nat)(hd:d<c.nodes): ∃H',lvl prog pkN m (.func 95) [pt y.nb,.I d] H=some (.I (c.port d:Nat),H')/\Ext H H':=by
 have hport:c.port d=if d=c.me then 0 else match c.by'.findIdx? λw:Nat=>decide ((w:Int)=nx p c.me d) with
   |some j=>j+1
   |none=>0:=by
  have:=congrArg Cfg.port h.hc;have h2:=congrArg Cfg.by' h.hc;rw[this,h2];rfl
 refine mF (cV rfl) U ?_
 rw[aK8];have l12:=h.ld 12 (.I c.me) rfl;by_cases hme:d=c.me
 ·have c1:((d:Int)==(c.me:Int))=true:=by rw[hme];simp
  rw[if_pos hme] at hport;rw[hport];simp only[gsR,l12,c1]
  exact⟨_,rfl,Fr.gR _ _⟩
 ·have c1:((d:Int)==(c.me:Int))=false:=by rw[beq_eq_false_iff_ne];omega
  rw[if_neg hme] at hport;obtain⟨n,hn⟩:=h.hp;have hnn:c.nodes=n:=by
   have:=congrArg Cfg.nodes h.hc;rw[this];show p.nodes.toNat=n
   rw[hn.hn];simp
  have hmen:c.me<n:=by rw[<-hnn];exact h.ok.me
  obtain⟨row,hrow⟩: ∃row,p.next[c.me]? =some row:=⟨_,aRc (by rw[hn.nl];exact hmen)⟩
  have l11:=h.ld 11 nv rfl;obtain⟨pp,u,r1,r2,r3⟩:=(h.plan.ext h.ext).n.Fo hrow .i64;have hrl:row.length=n:=hn.rl _ (aRk hrow);have hx:row[d]? =some (nx p c.me d):=by
   unfold nx;rw[aRC,aRC,aRe,aRe,hrow,aRD];rw[aRc (by rw[hrl];omega)]
   rfl
  obtain⟨b,o,i1,_,i3⟩:=r3.fV gW hx .i64;have i3:=(i3 H rfl).2.1 0 _ rfl;have i3:ld1 (.pointer (some ⟨b,o,none⟩)) H=some (.int .i64 (nx p c.me d),H):=i3;have e0: ∀H:aE,H++[Blk.cells [Value.int .i64 0] 3 .fix]=H++[De 0]:=λ_=>rfl
  have st:stN 1 (.Q H.length 0) (.I (nx p c.me d)) (H++[De 0])=some (undef,H++[De (nx p c.me d)]):=by
   rw[mZ (eC H (De 0)) aC (by simp),lO]
   rfl
  obtain⟨H1,hH1⟩:=aD (H++[De (nx p c.me d)]);have x1:Ext H H1:=by rw[hH1];exact Fr.app _ _ _
  have h1:=h.pR x1;have l13:=h1.ld 13 (iD y c) rfl;obtain⟨v,t1,t2⟩:=h1.aNL;obtain⟨H2,g1,g2⟩:=aNQ (m:=m-1) (fid:=118) (cb:=H.length) (z:=nx p c.me d) U (λG i hG=>aNV U i hG) h.ok.by' t2 (by rw[hH1];exact eC _ _)
  have e1:IntKind.i64.wrap (fiI c.by' (nx p c.me d)+1)=(c.port d:Nat):=by
   rw[hport];unfold fiI;cases hf:c.by'.findIdx? λw:Nat=>decide ((w:Int)=nx p c.me d) with
   |none=>rfl
   |some j=>
    have:=(List.findIdx?_eq_some_iff_getElem.mp hf).1;have:=h.ok.by';exact pE j U
  simp only[gsR,l12,c1,l11,r1,r2,i1,i3,e0,st,<-hH1,l13,t1,g1,cU,e1]
  exact⟨_,rfl,x1.tr g2⟩
theorem aNY (x:Pkt):(sI c x s).2={s with hL:=(sI c x s).2.hL}:=by
 unfold sI;split
 ·rfl
 ·split<;>rfl
theorem aNW {D:aE}{hb:Nat}(hm:2<m)(x:Pkt)(hq: ∀k:Int,(eV s.hL k).length<=c.queue)(h8:c.queue<=8)(h:HostAt D hb s.hL s.hG c.lanes c.queue):
  ∃r D',lvl prog pkN m (.func 57) [pt hb,x.dV] D=some (r,D')/\(r= .int .u16 (sI c x s).1/\HostAt D' hb (sI c x s).2.hL s.hG c.lanes c.queue):=by
 obtain⟨w0,w1,w2,cv,h⟩:=h;unfold sI;by_cases h1:0<=x.lane/\x.lane<c.lanes
 ·rw[if_neg (not_not_intro h1)]
  by_cases h2:(eV s.hL x.lane).length=c.queue
  ·rw[if_pos h2]
   exact⟨_,_,aLV h hm x h1 h2,rfl,HostAt.ext ⟨w0,w1,w2,cv,h⟩ (Fr.app _ _ _)⟩
  ·rw[if_neg h2]
   obtain⟨H',g1,g2⟩:=aLX h hm x h1 h2 (gX (n:=1000) aC (by have:=hq x.lane;omega))
   exact⟨_,_,g1,rfl,g2⟩
 ·rw[if_pos h1]
  exact⟨_,_,aLW h hm x h1,rfl,HostAt.ext ⟨w0,w1,w2,cv,h⟩ (Fr.app _ _ _)⟩
theorem NodeAt.Ij {H':aE}{F':Nat->Prop}{t':Nat}{L G:List Pkt}(h:NodeAt H0 H F y p ev wv nv c t s)(hB:Has (λD=>HostAt D y.hb L G c.lanes c.queue) F' H')(hm:Mv (F .host) F' H H')(hi:NInv c t' {s with hL:=L,hG:=G}):
  NodeAt H0 H' (updI F .host F') y p ev wv nv c t' {s with hL:=L,hG:=G}/\Mv (Un F) (Un (updI F .host F')) H H':=
 h.aBj .host hB hm hi (λD hD=>hD) λj hj D hD=>by
  cases j with
  |host=>exact absurd rfl hj
  |_=>exact hD
theorem NodeAt.aBq {H':aE}{F':Nat->Prop}{t':Nat}{L:List (Go.Abs.fW×Pkt)}(h:NodeAt H0 H F y p ev wv nv c t s)(hB:Has (λD=>RingsN D y.rg L (c.aI*c.lanes*c.room) c.aI c.lanes) F' H')(hm:Mv (F .rings) F' H H')(hi:NInv c t' {s with rL:=L}):
  NodeAt H0 H' (updI F .rings F') y p ev wv nv c t' {s with rL:=L}/\Mv (Un F) (Un (updI F .rings F')) H H':=
 h.aBj .rings hB hm hi (λD hD=>hD) λj hj D hD=>by
  cases j with
  |rings=>exact absurd rfl hj
  |_=>exact hD
theorem Has.yU {A B:aE->Prop}{F:Nat->Prop}{H:aE}(h:Has A F H)(hAB: ∀D,A D->B D):Has B F H:=⟨hAB _ h.at_,h.lt⟩
theorem aNX (h:NodeAt H0 H F y p ev wv nv c t s)(hm:10<m)(x:Pkt)(hb:0<=x.body/\x.body<4294967296): ∃H' F',lvl prog pkN m (.func 22) [pt y.nb,x.dV] H=some (.int .u16 (qE c x s).1,H')/\NodeAt H0 H' F' y p ev wv nv c t (qE c x s).2/\Mv (Un F) (Un F') H H':=by
 have hinv:=h.inv.aL1 h.ok hb;obtain⟨H1,hH1⟩:=aD (H++[eT x]);have x1:Ext H H1:=by rw[hH1];exact Fr.app _ _ _
 have h1:=h.pR x1;have b1:H1[H.length]? =some (eT x):=by rw[hH1];exact eC _ _
 have e0:H++[Blk.cells (Value.cells x.dV).toList 39 .fix]=H1:=by rw[hH1];rfl
 have l0:ld1 (.Q H.length 0) H1=some (.I x.src,H1):=dI b1 rfl;have l1:ld1 (.Q H.length 1) H1=some (.I x.dst,H1):=dI b1 rfl;have l4:=(sK b1).2;have n1:=h1.ld 1 (.I c.nodes) rfl;have n12:=h1.ld 12 (.I c.me) rfl;have n14:=h1.ld 14 (pt y.hb) rfl;have mvx:Mv (Un F) (Un F) H H1:=Mv.wD x1 _;by_cases hno:x.src≠c.me∨x.dst<0∨(c.nodes:Int)<=x.dst∨x.dst=c.me
 ·have hr:qE c x s=(1,s):=by unfold qE;rw[if_pos hno]
  rw[hr];refine⟨H1,F,dH (cV rfl) U ?_,h1,mvx⟩
  rw[Zc];by_cases c1:x.src=c.me
  ·have c1':(x.src !=(c.me:Int))=false:=by simp[c1]
   by_cases c2:x.dst<0
   ·simp only[gsR,e0,l0,n12,c1',l1,aRU c2]
    rfl
   ·by_cases c3:(c.nodes:Int)<=x.dst
    ·simp only[gsR,e0,l0,n12,c1',l1,aRV c2,n1,aRU c3]
     rfl
    ·have c4:x.dst=c.me:=by
      rcases hno with h|h|h|h
      ·exact absurd c1 h
      ·exact absurd h c2
      ·exact absurd h c3
      ·exact h
     have c4':(x.dst==(c.me:Int))=true:=by simp[c4]
     simp only[gsR,e0,l0,n12,c1',l1,aRV c2,n1,aRV c3,c4'];rfl
  ·have c1':(x.src !=(c.me:Int))=true:=by simpa using c1
   simp only[gsR,e0,l0,n12,c1'];rfl
 ·have hr:qE c x s=sI c x s:=by unfold qE;rw[if_neg hno]
  rw[hr] at hinv⊢;rw[aNY] at hinv⊢;obtain⟨r,H2,F',g1,g2,g3⟩:=(h1.sep.own .host).Bx uA (n:=m-1) (λD hD=>aNW (m:=m-1) U x h1.inv.hQ h.ok.queue.2 hD)
  obtain⟨hrv,_⟩:=g2.at_;obtain⟨k1,k2⟩:=h1.Ij (Has.yU g2 λD hD=>hD.2) g3 hinv
  have c1:(x.src !=(c.me:Int))=false:=by
   simp only[bne_eq_false_iff_eq];exact Classical.byContradiction λhh=>hno (.inl hh)
  have c2:decide (x.dst<0)=false:=by rw[decide_eq_false_iff_not];exact λhh=>hno (.inr (.inl hh))
  have c3:decide ((c.nodes:Int)<=x.dst)=false:=by rw[decide_eq_false_iff_not];exact λhh=>hno (.inr (.inr (.inl hh)))
  have c4:(x.dst==(c.me:Int))=false:=by rw[beq_eq_false_iff_ne];exact λhh=>hno (.inr (.inr (.inr hh)))
  refine⟨H2,_,dH (cV rfl) U ?_,k1,mvx.xU k2⟩
  rw[Zc];have g1:lvl prog pkN (m-1) (.func 57) [pt y.hb,x.dV] H1=some (.int .u16 (sI c x s).1,H2):=by rw[<-hrv];exact g1
  simp only[gsR,e0,l0,n12,c1,l1,c2,n1,c3,c4,n14,l4,g1]
end
theorem aN1 (a b c d:UInt8):gT [a,b,c,d]<4294967296:=O7 4 _ rfl
theorem aBr (a b:UInt8):gT [a,b]<65536:=O7 2 _ rfl
theorem aN0 {bs:List UInt8}{f:Frm}(h:qB bs=some f):f.ok:=by
 have h1:(nP bs).ok:=⟨UInt8.toNat_lt _,UInt8.toNat_lt _,aBr _ _,by show 0<256;decide,by show 0<256;decide,by show 0<4294967296;decide⟩
 have h2:(rZ bs).ok:=⟨UInt8.toNat_lt _,UInt8.toNat_lt _,aBr _ _,UInt8.toNat_lt _,UInt8.toNat_lt _,aN1 _ _ _ _⟩;unfold qB Ae at h
 split at h
 ·split at h
  ·cases h;exact h1
  ·cases h
 ·split at h
  ·split at h
   ·cases h;exact h2
   ·cases h
  ·cases h
theorem yV (b:Nat)(H':aE):chk (some (pt b,H')) (pt b)=true:=by simp[chk,veq]
theorem aN3 (x:Pkt)(H':aE):chk (some (x.dV,H')) x.dV=true:=by simp[chk,veq,tK,Pkt.dV,Pkt.pA]
theorem aN2 {n:Nat}(h:n≠0):((n:Int)!=0)=true:=by
 rw[bne_iff_ne];omega
section
variable {H0 H : aE} {F : Part → Nat → Prop} {y : Lay} {p : PlanD} {ev wv nv : Value} {c : Cfg} {t : Nat} {s : NS} {m : Nat}
end
section
variable {H0 H : aE} {F : Part → Nat → Prop} {y : Lay} {p : PlanD} {ev wv nv : Value} {c : Cfg} {t : Nat} {s : NS} {m : Nat}
theorem As (H:aE):H++[Blk.cells [Value.int .u8 0,.int .u8 0,.int .u16 0,.int .u8 0,.int .u8 0,.int .u32 0] 130 .fix]=H++[zfB]:=rfl
theorem aN6 (H:aE):H++[Blk.cells [Value.pointer none,.pointer none] 118 .fix]=H++[iE (.pointer none) (.pointer none)]:=rfl
theorem Au (H:aE)(f:Frm):stN 6 (.Q H.length 0) (frV f) (H++[zfB])=some (undef,H++[frB f]):=by
 rw[Hf f (eC H zfB),lO]
theorem aN7 (H:aE)(a b:Value)(ha:dX [a,b]=true):stN 2 (.Q H.length 0) (.agg #[a,b]) (H++[iE (.pointer none) (.pointer none)])=some (undef,H++[iE a b]):=by
 rw[Dd a b (eC _ _) ha,lO]
theorem aN5 {bs:List UInt8}{f:Frm}(h:qB bs=some f):n9 bs= .tuple #[frV f,.int .u16 0]:=by
 unfold n9;rw[h]
theorem aN4 {bs:List UInt8}(h:qB bs=none):n9 bs= .tuple #[frV Frm.pB,.int .u16 30]:=by
 unfold n9;rw[h]
end
theorem aOf {H H':aE}{a n ports lanes p s mb:Nat}{L:List Rg.En}{l:List Rg.kF}{top free:Int}{fl:List Nat}{f:Rg.lB->Option Value}(h:Rg.RI H a L n ports lanes p s mb l top free fl f)(hk: ∀(b:Nat)(x:Blk),H[b]? =some x->x≠ .dead->H'[b]? =some x):Rg.RI H' a L n ports lanes p s mb l top free fl f:=by
 refine⟨hk _ _ h.hd (λhd=>by cases hd),⟨⟨hk _ _ h.pool.pool.hp (λhd=>by cases hd),hk _ _ h.pool.pool.hs (λhd=>by cases hd),λi q x d hi=>hk _ _ (h.pool.pool.hq i q x d hi) (λhd=>by cases hd)⟩,h.pool.chain,h.pool.nodup,h.pool.full,h.pool.cnt,h.pool.len⟩,
  h.len,h.cnt,h.nd,h.full,?_,h.no,λw v hv=>⟨?_,(h.yes w v hv).2⟩,h.sep,h.b1,h.b2⟩
 ·obtain⟨es,c,h1,h2⟩:=h.mp
  exact⟨es,c,hk _ _ h1 (λhd=>by cases hd),h2⟩
 ·refine(h.yes w v hv).1.tV λb hb=> ?_
  obtain⟨xs,hx⟩:=(h.yes w v hv).1.blk hb;rw[hx];exact hk _ _ hx (λhd=>by cases hd)
theorem RingsN.aOc {D H:aE}{a cap ports lanes:Nat}{L:List (Go.Abs.fW×Pkt)}(hs:Sub D H)(h:RingsN D a L cap ports lanes):RingsN H a L cap ports lanes:=by
 obtain⟨Le,⟨p,s,mb,l,top,free,fl,f,hi⟩,h2⟩:=h
 exact⟨Le,⟨p,s,mb,l,top,free,fl,f,aOf hi hs.2⟩,h2⟩
theorem HostAt.aN8 {D H:aE}{a lanes queue:Nat}{L G:List Pkt}(hs:Sub D H)(h:HostAt D a L G lanes queue):HostAt H a L G lanes queue:=by
 obtain⟨w0,w1,w2,cv,h⟩:=h;have key: ∀w (xs:List Pkt),Pq D w xs->Pq H w xs:=λw xs hw=>hw.yK λb hb=>by
  obtain⟨cs,hc⟩:=hw.blk hb;rw[hc];exact hs.2 b _ hc (λhd=>by cases hd)
 exact⟨w0,w1,w2,cv,hs.2 a _ h.blk (λhd=>by cases hd),h.lanes,h.queue,λk hk=>key _ _ (h.q k hk),key _ _ h.came,h.apart,h.apartC⟩
section
variable {H0 H : aE} {F : Part → Nat → Prop} {y : Lay} {p : PlanD} {ev wv nv : Value} {c : Cfg} {t : Nat} {s : NS} {m : Nat}
theorem NodeAt.aOb (h:NodeAt H0 H F y p ev wv nv c t s):RingsN H y.rg s.rL (c.aI*c.lanes*c.room) c.aI c.lanes:=RingsN.aOc (E7 _ _) (h.sep.own .rings).at_
theorem NodeAt.aN9 (h:NodeAt H0 H F y p ev wv nv c t s):HostAt H y.hb s.hL s.hG c.lanes c.queue:=HostAt.aN8 (E7 _ _) (h.sep.own .host).at_
theorem P9 (h:NodeAt H0 H F y p ev wv nv c t s)(hm:0<m)(i o k:Nat):lvl prog pkN m (.func 62) [pt y.rg,.I i,.I o,.I k] H=some (.I (mJ s.rL i o k),H):=aMW h.aOb hm i o k
theorem aOe {i o:Nat}(hi:i<c.aI)(ho:o<c.aI)(h3:c.lanes<=3)(ht:t<1000000000)(hm:10<m): ∀(q k l:Nat)(H:aE),c.lanes-k=q->k<=c.lanes->q<l->NodeAt H0 H F y p ev wv nv c t s-> ∀(x3 x4 x5 x6 x8 x9 bQ cG aS aO bB bI aR bJ bM bT bN bP aU aV aW aX aY aZ bA bH bO bV cH cJ bX cC bY b9 cA cD cF cM cN cO cQ cW cX cY:Value),
  ∃H2,aK l (aM prog (lvl prog pkN m) (aK m) Ng) (Nh (lvl prog pkN m) (aK m)) [(pt y.nb),(.I (i:Nat)),(.I (o:Nat)),x3,x4,x5,x6,(.int .u16 (dS (jZ c s i o) k:Nat)),x8,x9,bQ,cG,aS,(.I c.lanes),(.I (k:Nat)),aO,bB,bI,aR,bJ,bM,bT,bN,bP,aU,aV,aW,aX,aY,aZ,bA,bH,bO,bV,cH,cJ,bX,cC,bY,b9,cA,cD,cF,cM,cN,cO,cQ,cW,cX,cY] H=some (.int .u16 (dS (jZ c s i o) c.lanes:Nat),H2)/\Ext H H2:=by
 intro q;induction q with
 |zero=>
  intro k l H hq hk hl h;intros;obtain⟨l,rfl⟩: ∃l',l=l'+1:=⟨l-1,by omega⟩
  have hke:k=c.lanes:=U
  have c1:decide ((k:Int)<(c.lanes:Int))=false:=by rw[decide_eq_false_iff_not];omega
  rw[aK,Y5];simp only[gsR,c1];rw[aJ9];simp only[gsR]
  exact⟨_,by rw[hke],Fr.gR _ _⟩
 |succ q ih=>
  intro k l H hq hk hl h;intros;obtain⟨l,rfl⟩: ∃l',l=l'+1:=⟨l-1,by omega⟩
  have hkl:k<c.lanes:=U
  have c1:decide ((k:Int)<(c.lanes:Int))=true:=by rw[decide_eq_true_eq];omega
  have l15:=h.ld 15 (pt y.rg) rfl;have r1:=P9 h (m:=m) U i o k
  have e9:=pE k U
  rw[aK,Y5];by_cases hz:mJ s.rL i o k=0
  ·have c2:(((mJ s.rL i o k:Nat):Int)==0)=true:=by rw[hz];rfl
   have hno:jZ c s i o k=false:=by unfold jZ;rw[hz];simp
   simp only[gsR,c1,l15,r1,c2,cU,e9];rw[<-Hz hno];exact ih (k+1) l H U U U h ..
  ·have c2:(((mJ s.rL i o k:Nat):Int)==0)=false:=by rw[beq_eq_false_iff_ne];omega
   obtain⟨s1,s2⟩:=wS (a:=dS (jZ c s i o) k) (i:=k) (sM _ U) U
   by_cases ho0:o=0
   ·have c3:((o:Int)==0)=true:=by rw[ho0];rfl
    have hyes:jZ c s i o k=true:=by unfold jZ;simp[hkl,ho0];rw[<-ho0];omega
    simp only[gsR,c1,l15,r1,c2,c3,s1,s2,cU,e9];rw[<-Ia hyes];exact ih (k+1) l H U U U h ..
   ·have c3:((o:Int)==0)=false:=by rw[beq_eq_false_iff_ne];omega
    have l13:=h.ld 13 (iD y c) rfl;obtain⟨b,oo,a1,a2⟩:=h.yR ho;obtain⟨_,_,a3,_⟩:=a2 _ (.inl h);obtain⟨b',o',a4,_,a5,_⟩:=h.C9 U ho hkl
    have u1:=Z7 (m:=m) U (h.If U ho hkl) (h.P7 ht o k)
    obtain⟨H1,hH1⟩:=aD (H++[Blk.cells [.int .u64 (s.snd o k).s,.int .u64 (s.snd o k).l] 144 .fix]);rw[<-hH1] at u1;have x1:Ext H H1:=by rw[hH1];exact Fr.app _ _ _
    by_cases hu:0<(s.snd o k).mH
    ·have c4:decide (0<((s.snd o k).mH:Int))=true:=by rw[decide_eq_true_eq];omega
     have hyes:jZ c s i o k=true:=by unfold jZ;simp[hkl,hu];omega
     simp only[gsR,Nat.add_zero,c1,l15,r1,c2,c3,l13,a1,a3,a4,a5,u1,c4,s1,s2,cU,e9];rw[<-Ia hyes];obtain⟨H2,k1,k2⟩:=ih (k+1) l H1 U U U (h.pR x1) ..
     exact⟨H2,k1,x1.tr k2⟩
    ·have c4:decide (0<((s.snd o k).mH:Int))=false:=by rw[decide_eq_false_iff_not];omega
     have hno:jZ c s i o k=false:=by unfold jZ;simp[hkl,hu,ho0]
     simp only[gsR,Nat.add_zero,c1,l15,r1,c2,c3,l13,a1,a3,a4,a5,u1,c4,cU,e9];rw[<-Hz hno];obtain⟨H2,k1,k2⟩:=ih (k+1) l H1 U U U (h.pR x1) ..
     exact⟨H2,k1,x1.tr k2⟩
theorem aBs (h:NodeAt H0 H F y p ev wv nv c t s)(ht:t<1000000000)(hm:20<m){i o:Nat}(hi:i<c.aI)(ho:o<c.aI): ∃H2,lvl prog pkN m (.func 100) [pt y.nb,.I i,.I o] H=some (.int .u16 (dS (jZ c s i o) c.lanes:Nat),H2)/\Ext H H2:=by
 refine mF (cV rfl) U ?_
 rw[aKa];have l3:=h.ld 3 (.I c.lanes) rfl;simp only[gsR,l3];exact aOe hi ho h.ok.lanes.2 ht U c.lanes 0 (m-1) H U U (by have:=h.ok.lanes;omega) h ..
theorem NodeAt.aOa (h:NodeAt H0 H F y p ev wv nv c t s){b:Nat}(hb: ¬Un F b)(hb0:H0.length<=b)(x:Blk):NodeAt H0 (H.set b x) F y p ev wv nv c t s:=by
 have hm:Mv (λa=>a=b) (λa=>a=b) H (H.set b x):=⟨by simp,λ_ h=> .inl h,λa _ ha=>aRb λhh=>ha hh.symm⟩
 refine {h with ext:=⟨by simp;exact h.ext.1,λa ha _=> ?_⟩,sep:=h.sep.xW (vH _ _ _ _ _ _ _) hm λa ha hh=>hb (by rw[<-hh];exact ha)}
 rw[aRb U,h.ext.2 a ha id]
def lC (c:Cfg)(s:NS)(i o:Nat):List Nat:=(List.range c.aI).map λj=>if j<i then dS (mI c s j) c.aI else if j=i then dS (mI c s i) o else 0
theorem vI (c:Cfg)(s:NS)(i o:Nat):(lC c s i o).length=c.aI:=by simp[lC]
theorem yW {c:Cfg}{s:NS}{i o j:Nat}(hj:j<c.aI):(lC c s i o)[j]? =some (if j<i then dS (mI c s j) c.aI else if j=i then dS (mI c s i) o else 0):=by simp[lC,hj]
theorem aOg (c:Cfg)(s:NS)(i:Nat):lC c s i c.aI=lC c s (i+1) 0:=by
 unfold lC;refine List.map_congr_left λj hj=> ?_
 by_cases h1:j<i
 ·rw[if_pos h1,if_pos U]
 ·by_cases h2:j=i
  ·rw[if_neg h1,if_pos h2,if_pos U,h2]
  ·rw[if_neg h1,if_neg h2,if_neg U]
   split<;>rfl
theorem aOh (c:Cfg)(s:NS):lC c s 0 0=List.replicate c.aI 0:=by
 apply aRL;intro j;by_cases hj:j<c.aI
 ·rw[yW hj,List.getElem?_replicate_of_lt hj,if_neg U]
  split<;>rfl
 ·rw[aRl (by rw[vI];omega),aRl (by simp;omega)]
theorem aBt {c:Cfg}{s:NS}{i o v:Nat}(hi:i<c.aI)(hv:dS (mI c s i) (o+1)=v):lC c s i (o+1)=(lC c s i o).set i v:=by
 apply aRL;intro j;by_cases hj:j<c.aI
 ·by_cases hij:i=j
  ·subst hij
   rw[aRg (by rw[vI];exact hi),yW hj,if_neg U,if_pos rfl,hv]
  ·rw[aRb hij,yW hj,yW hj,if_neg (show¬j=i by omega),if_neg (show¬j=i by omega)]
 ·rw[aRl (by rw[vI];omega),aRl (by rw[List.length_set,vI];omega)]
theorem aOj (c:Cfg)(s:NS):k8 (lC c s c.aI 0)=mI c s:=by
 funext i k
 unfold k8;by_cases hi:i<c.aI
 ·rw[aRe,yW hi,if_pos hi,aRD,lI]
  unfold mI;cases decide (k<c.aI)<;>simp
 ·rw[aRe,aRl (by rw[vI];omega)]
  unfold mI;simp[hi]
theorem aOi {c:Cfg}{s:NS}(h6:c.aI<=16): ∀z∈lC c s c.aI 0,z<65536:=λz hz=>by
 unfold lC at hz;obtain⟨j,hj,rfl⟩:=aRN.mp hz;rw[if_pos (aRO.mp hj)];exact sM _ h6
theorem aOd {c:Cfg}{s:NS}{i o:Nat}(hi:i<c.aI)(ho:o<c.aI):mI c s i o=oL (jZ c s i o) c.lanes:=by
 unfold mI oL;simp[hi,ho]
end
section
variable {H0 H : aE} {F : Part → Nat → Prop} {y : Lay} {p : PlanD} {ev wv nv : Value} {c : Cfg} {t : Nat} {s : NS} {m : Nat}
theorem aOk {Ha:aE}{i:Nat}(hi:i<c.aI)(hun: ¬Un F Ha.length)(hb0:H0.length<=Ha.length)(ht:t<1000000000)(hm:30<m)(h6:c.aI<=6){K:Ex->K (Value×aE)}{Q:aE->Value->Prop}
  (hK: ∀H',NodeAt H0 H' F y p ev wv nv c t s->H'[Ha.length]? =some (gK (lC c s i c.aI))->Ext Ha H'-> ∀(x1 x2 x4 x5 x6 x7 x8 x9 bQ cG aS aP aQ aO aR bJ bM bT bN bP aU aV aW aX aY aZ bA bH bO bV cH cJ bX cC bY b9 cA cD cF cM:Value),∃H2 r,Od (lvl prog pkN m) (aK m) K (pt y.nb) x1 x2 (eM Ha.length c.aI) x4 x5 x6 x7 x8 x9 bQ cG aS aP aQ aO (.I c.aI) (.I (i:Nat)) aR bJ bM bT bN bP aU aV aW aX aY aZ bA bH bO bV cH cJ bX cC bY b9 cA cD cF cM H'=some (r,H2)/\Q H2 r):
  ∀(q o k:Nat)(H:aE),c.aI-o=q->o<=c.aI->q<k->NodeAt H0 H F y p ev wv nv c t s->H[Ha.length]? =some (gK (lC c s i o))->Ext Ha H-> ∀(x1 x2 x5 x6 x7 x8 x9 bQ cG aS aP aQ aO aR bJ bM bT bN bP aW aX aY aZ bA bH bO bV cH cJ bX cC bY b9 cA cD cF cM:Value),
  ∃H2 r,aK k (aM prog (lvl prog pkN m) (aK m) Oc) (Of (lvl prog pkN m) (aK m) K) [(pt y.nb),x1,x2,(eM Ha.length c.aI),(.I (i:Nat)),x5,x6,x7,x8,x9,bQ,cG,aS,aP,aQ,aO,(.I c.aI),(.I (i:Nat)),aR,bJ,bM,bT,bN,bP,(.I c.aI),(.I (o:Nat)),aW,aX,aY,aZ,bA,bH,bO,bV,cH,cJ,bX,cC,bY,b9,cA,cD,cF,cM] H=some (r,H2)/\Q H2 r:=by
 intro q;induction q with
 |zero=>
  intro o k H hq ho hk h hb he;intros;obtain⟨k,rfl⟩: ∃k',k=k'+1:=⟨k-1,by omega⟩
  have hoe:o=c.aI:=U
  subst hoe;have c1:decide ((c.aI:Int)<(c.aI:Int))=false:=by simp
  rw[aK,Zk];simp only[gsR,c1];rw[aKW];exact hK H h hb he ..
 |succ q ih=>
  intro o k H hq ho hk h hb he;intros;obtain⟨k,rfl⟩: ∃k',k=k'+1:=⟨k-1,by omega⟩
  have hol:o<c.aI:=U
  have c1:decide ((o:Int)<(c.aI:Int))=true:=by rw[decide_eq_true_eq];omega
  obtain⟨H1,m1,x1⟩:=aBs h ht (m:=m) U hi hol
  have h1:=h.pR x1;have b1:H1[Ha.length]? =some (gK (lC c s i o)):=by rw[x1.2 _ (dT hb) id,hb]
  have e9:=pE o U
  have hask:=aOd (c:=c) (s:=s) hi hol;rw[aK,Zk];by_cases hz:dS (jZ c s i o) c.lanes=0
  ·have c2:(((dS (jZ c s i o) c.lanes:Nat):Int)!=0)=false:=by rw[hz];rfl
   have hno:mI c s i o=false:=by rw[hask];exact(Ao _ _).mp hz
   have hr:lC c s i (o+1)=lC c s i o:=by
    rw[aBt hi (Hz hno)];apply aRL;intro j;by_cases hij:i=j
    ·subst hij
     rw[aRg (by rw[vI];exact hi),yW hi,if_neg U,if_pos rfl]
    ·rw[aRb hij]
   simp only[gsR,c1,m1,c2,cU,e9];exact ih (o+1) k H1 U U U h1 (by rw[hr];exact b1) (he.tr x1) ..
  ·have c2:(((dS (jZ c s i o) c.lanes:Nat):Int)!=0)=true:=aN2 hz
   have hyes:mI c s i o=true:=by
    rw[hask];cases hw:oL (jZ c s i o) c.lanes with
    |true=>rfl
    |false=>exact absurd ((Ao _ _).mpr hw) hz
   obtain⟨a1,a2⟩:=Ie (c:=c.aI) b1 (vI _ _ _ _) hi;have a1:bS 1 (eM Ha.length c.aI) (.I (i:Int))=some (.Q Ha.length i):=a1;have hv:(lC c s i o).getD i 0=dS (mI c s i) o:=by rw[aRe,yW hi,if_neg U,if_pos rfl];rfl
   rw[hv] at a2;obtain⟨s1,s2⟩:=wS (a:=dS (mI c s i) o) (i:=o) (sM _ U) U
   have st:=aBe (dS (mI c s i) o|||2 ^ o) b1 (i:=i) (by rw[vI];exact hi)
   rw[<-aBt hi (Ia hyes)] at st;simp only[gsR,c1,m1,c2,a1,a2,s1,s2,st,cU,e9];refine ih (o+1) k _ U U U (h1.aOa hun hb0 _) (fS b1) ?_ ..
   have he1:=he.tr x1
   exact⟨by simp;exact he1.1,λb hb hn=>by rw[aRb U,he1.2 b hb id]⟩
theorem aOm {Ha:aE}(hun: ¬Un F Ha.length)(hb0:H0.length<=Ha.length)(ht:t<1000000000)(hm:40<m)(h6:c.aI<=6):
  ∀(q i k:Nat)(H:aE),c.aI-i=q->i<=c.aI->q<k->NodeAt H0 H F y p ev wv nv c t s->H[Ha.length]? =some (gK (lC c s i 0))->Ext Ha H-> ∀(x1 x2 x4 x5 x6 x7 x8 x9 bQ cG aS aP aQ aO aR bJ bM bT bN bP aU aV aW aX aY aZ bA bH bO bV cH cJ bX cC bY b9 cA cD cF cM:Value),
  ∃H2 r,aK k (aM prog (lvl prog pkN m) (aK m) Ob) (Oe (lvl prog pkN m) (aK m)) [(pt y.nb),x1,x2,(eM Ha.length c.aI),x4,x5,x6,x7,x8,x9,bQ,cG,aS,aP,aQ,aO,(.I c.aI),(.I (i:Nat)),aR,bJ,bM,bT,bN,bP,aU,aV,aW,aX,aY,aZ,bA,bH,bO,bV,cH,cJ,bX,cC,bY,b9,cA,cD,cF,cM] H=some (r,H2)/\(r=eM Ha.length c.aI/\H2[Ha.length]? =some (gK (lC c s c.aI 0))/\Ext Ha H2/\NodeAt H0 H2 F y p ev wv nv c t s):=by
 intro q;induction q with
 |zero=>
  intro i k H hq hi hk h hb he;intros;obtain⟨k,rfl⟩: ∃k',k=k'+1:=⟨k-1,by omega⟩
  have hie:i=c.aI:=U
  subst hie;have c1:decide ((c.aI:Int)<(c.aI:Int))=false:=by simp
  rw[aK,Zj];simp only[gsR,c1];rw[aKV];simp only[gsR]
  exact⟨_,_,rfl,rfl,hb,he,h⟩
 |succ q ih=>
  intro i k H hq hi hk h hb he;intros;obtain⟨k,rfl⟩: ∃k',k=k'+1:=⟨k-1,by omega⟩
  have hil:i<c.aI:=U
  have c1:decide ((i:Int)<(c.aI:Int))=true:=by rw[decide_eq_true_eq];omega
  have l13:=h.ld 13 (iD y c) rfl;have e1:cK (iD y c)=some (.I c.aI):=rfl;rw[aK,Zj];simp only[gsR,c1,l13,e1];refine aOk hil hun hb0 ht U h6 ?_ c.aI 0 m H U U U h hb he ..
  intro H' h' hb' he';intros;have e9:=pE i U
  unfold Od;simp only[gsR,cU,e9];rw[aOg] at hb';exact ih (i+1) k H' U U U h' hb' he' ..
theorem aOl (h:NodeAt H0 H F y p ev wv nv c t s)(ht:t<1000000000)(hm:50<m): ∃H2,lvl prog pkN m (.func 67) [pt y.nb] H=some (eM H.length c.aI,H2)/\H2[H.length]? =some (gK (lC c s c.aI 0))/\Ext H H2:=by
 have h6:c.aI<=6:=by have:=h.ok.by';unfold Cfg.aI;omega
 have main: ∃H2 r,lvl prog pkN m (.func 67) [pt y.nb] H=some (r,H2)/\(r=eM H.length c.aI/\H2[H.length]? =some (gK (lC c s c.aI 0))/\Ext H H2/\NodeAt H0 H2 F y p ev wv nv c t s):=by
  refine iB (cV rfl) U ?_
  rw[aKX];have l13:=h.ld 13 (iD y c) rfl;have e1:cK (iD y c)=some (.I c.aI):=rfl;have mk:=vY (H:=H) 23 1 2 [.int .u16 0] .i64 .i64 (c.aI:Int) U U U rfl
  have hz:H++[Blk.cells (List.replicate (c.aI:Int).toNat [Value.int .u16 0]).flatten 23 .row]=H++[gK (lC c s 0 0)]:=by
   have: ∀n,(List.replicate n [Value.int .u16 0]).flatten=List.replicate n (.int .u16 0):=by
    intro n;induction n with
    |zero=>rfl
    |succ n ih=>rw[List.replicate_succ,aRK,ih];rfl
   rw[aRC,this,aOh,gK,List.map_replicate];rfl
  rw[hz,aRC] at mk;have x1:Ext H (H++[gK (lC c s 0 0)]):=Fr.app _ _ _;have h1:=h.pR x1;have l13':=h1.ld 13 (iD y c) rfl;simp only[gsR,l13,e1,mk,l13'];exact aOm (λhu=>by have:=h.sep.qU _ hu;omega) h.ext.1 ht U h6 c.aI 0 (m-1) _ U U U h1 (eC _ _) x1 ..
 obtain⟨H2,r,g1,rfl,g2,g3,_⟩:=main
 exact⟨H2,g1,g2,g3⟩
theorem aBw (L:List (Go.Abs.fW×Pkt))(i o k:Nat):mJ L i o k<=L.length:=by
 unfold mJ oR;rw[aRo];exact List.length_filter_le _ _
def vJ (L:List (Go.Abs.fW×Pkt))(k o:Nat):Nat:=((List.range o).map λo=>mJ L 0 o k).sum
theorem aBv (L:List (Go.Abs.fW×Pkt))(k o:Nat):vJ L k (o+1)=vJ L k o+mJ L 0 o k:=by
 unfold vJ;rw[aRJ,List.map_append,List.sum_append];simp
theorem aBu (L:List (Go.Abs.fW×Pkt))(k:Nat): ∀o,vJ L k o<=o*L.length
 |0=>by simp[vJ]
 |o+1=>by
  have:=aBu L k o;have:=aBw L 0 o k;rw[aBv,Nat.succ_mul];omega
theorem aBx (h:c.ok):c.aI*c.lanes*c.room<=144:=by
 have h1:c.aI<=6:=by have:=h.by';unfold Cfg.aI;omega
 have h2:=h.lanes.2;have h3:=h.room.2
 calc c.aI*c.lanes*c.room<=6*3*8:=Nat.mul_le_mul (Nat.mul_le_mul h1 h2) h3
  _=144:=rfl
theorem aOn {kk:Nat}(hm:30<m){K:Ex->K (Value×aE)}{Q:aE->Value->Prop}(h:NodeAt H0 H F y p ev wv nv c t s)
  (hK: ∀(x1 x4 x5 x6 x7 x8 x9 bQ aP aQ aO bB bI aR bJ bM bT bN bP aU aV aW aX aY aZ bA bH bO bV cH cJ bX cC bY b9 cA cD cF cM cN cO cQ cW cX cY cS cT cZ dA dE dB dC dF dL dM dN dQ:Value),∃H2 r,Gu (lvl prog pkN m) (aK m) K (pt y.nb) x1 (.I (kk:Nat)) (.I (Af c s.rL kk:Nat)) x4 x5 x6 x7 x8 x9 bQ (.I c.lanes) (.I (kk:Nat)) aP aQ aO bB bI aR bJ bM bT bN bP aU aV aW aX aY aZ bA bH bO bV cH cJ bX cC bY b9 cA cD cF cM cN cO cQ cW cX cY cS cT cZ dA dE dB dC dF dL dM dN dQ H=some (r,H2)/\Q H2 r):
  ∀(q o k:Nat),c.aI-o=q->o<=c.aI->q<k-> ∀(x1 x4 x5 x6 x7 x8 x9 bQ aP aQ aO bB bI aR bT bN bP aU aV aW aX aY aZ bA bH bO bV cH cJ bX cC bY b9 cA cD cF cM cN cO cQ cW cX cY cS cT cZ dA dE dB dC dF dL dM dN dQ:Value),
  ∃H2 r,aK k (aM prog (lvl prog pkN m) (aK m) N0) (N4 (lvl prog pkN m) (aK m) K) [(pt y.nb),x1,(.I (kk:Nat)),(.I (vJ s.rL kk o:Nat)),x4,x5,x6,x7,x8,x9,bQ,(.I c.lanes),(.I (kk:Nat)),aP,aQ,aO,bB,bI,aR,(.I c.aI),(.I (o:Nat)),bT,bN,bP,aU,aV,aW,aX,aY,aZ,bA,bH,bO,bV,cH,cJ,bX,cC,bY,b9,cA,cD,cF,cM,cN,cO,cQ,cW,cX,cY,cS,cT,cZ,dA,dE,dB,dC,dF,dL,dM,dN,dQ] H=some (r,H2)/\Q H2 r:=by
 intro q;induction q with
 |zero=>
  intro o k hq ho hk;intros;obtain⟨k,rfl⟩: ∃k',k=k'+1:=⟨k-1,by omega⟩
  have hoe:o=c.aI:=U
  subst hoe;have c1:decide ((c.aI:Int)<(c.aI:Int))=false:=by simp
  rw[aK,Zf];simp only[gsR,c1];rw[aKR];exact hK ..
 |succ q ih=>
  intro o k hq ho hk;intros;obtain⟨k,rfl⟩: ∃k',k=k'+1:=⟨k-1,by omega⟩
  have h6:c.aI<=6:=by have:=h.ok.by';unfold Cfg.aI;omega
  have c1:decide ((o:Int)<(c.aI:Int))=true:=by rw[decide_eq_true_eq];omega
  have l15:=h.ld 15 (pt y.rg) rfl;have r1:=P9 h (m:=m) U 0 o kk
  have e9:=pE o U
  have hrl:=aRq h.inv.rN (aBx h.ok);have hb1:vJ s.rL kk o<=6*144:=aRq (aBu _ _ _) (Nat.mul_le_mul U hrl)
  have hb2:=aBw s.rL 0 o kk;have e8:IntKind.i64.wrap ((vJ s.rL kk o:Nat)+((mJ s.rL 0 o kk:Nat):Int))=(vJ s.rL kk (o+1):Nat):=by
   rw[aBv,dJ U U]
   omega
  have r1:lvl prog pkN m (.func 62) [pt y.rg,.I 0,.I o,.I kk] H=some (.I (mJ s.rL 0 o kk),H):=r1;rw[aK,Zf];simp only[gsR,c1,l15,r1,cU,e8,e9];exact ih (o+1) k U U U ..
def aOq (w:List Pkt):Value:=match w with
 |[]=> .tuple #[pk0.dV,.bool false]
 |x::_=> .tuple #[x.dV,.bool true]
def yX (L:List Pkt)(k:Nat):List Pkt:=if eV L k=[] then L else sD L k
theorem aOo {D:aE}{hb:Nat}(hm:3<m){k:Nat}(hk:k<c.lanes)(h:HostAt D hb s.hL s.hG c.lanes c.queue):
  ∃r D',lvl prog pkN m (.func 93) [pt hb,.I k] D=some (r,D')/\(r=aOq (eV s.hL k)/\HostAt D' hb (yX s.hL k) s.hG c.lanes c.queue):=by
 obtain⟨w0,w1,w2,cv,h⟩:=h;cases hw:eV s.hL k with
 |nil=>
  obtain⟨H',g1,g2⟩:=aM2 h hm k hk hw
  exact⟨_,_,g1,rfl,by unfold yX;rw[if_pos hw];exact g2⟩
 |cons x xs=>
  obtain⟨H',g1,g2⟩:=aM3 h hm k hk hw
  exact⟨_,_,g1,rfl,by unfold yX;rw[if_neg (by rw[hw];simp)];exact g2⟩
end
theorem Av (H:aE):H++[Blk.cells [Value.int .i64 0,.int .i64 0,.int .i64 0,.int .u32 0] 39 .fix]=H++[eT pk0]:=rfl
theorem Qa (H:aE)(x:Pkt):stN 4 (.Q H.length 0) x.dV (H++[eT pk0])=some (undef,H++[eT x]):=by rw[Pz x (eC _ _),lO]
theorem aOu {c:Cfg}{t:Nat}{s:NS}(h:NInv c t s)(k:Int):NInv c t {s with hL:=sD s.hL k}:=by
 refine {h with hL:=λx hx=>h.hL x (aAr hx),hQ:=λj=> ?_}
 have e:=Hn s.hL k j
 show(eV (sD s.hL k) j).length<=c.queue
 rw[e];by_cases hj:j=k
 ·rw[if_pos hj,List.length_tail]
  have:=h.hQ k;omega
 ·rw[if_neg hj]
  exact h.hQ j
section
variable {H0 H : aE} {F : Part → Nat → Prop} {y : Lay} {p : PlanD} {ev wv nv : Value} {c : Cfg} {t : Nat} {s : NS} {m : Nat}
theorem aOs {K:Ex->K (Value×aE)}{Q:aE->Value->Prop}{k:Nat}(hk:k<c.lanes)(hm:200<m)(h:NodeAt H0 H F y p ev wv nv c t s)
  (hK: ∀H' F',NodeAt H0 H' F' y p ev wv nv c t (oH c s k)->Mv (Un F) (Un F') H H'-> ∀(x1 x2 x3 x4 x5 x6 x7 x8 x9 bQ aP aQ aO bB bI aR bJ bM bT bN bP aU aV aW aX aY aZ bA bH bO bV cH cJ bX cC bY b9 cA cD cF cM cN cO cQ cW cX cY cS cT cZ dA dE dB dC dF dL dM dN dQ:Value),∃H2 r,K .normal [(pt y.nb),x1,x2,x3,x4,x5,x6,x7,x8,x9,bQ,(.I c.lanes),(.I (k+1:Nat)),aP,aQ,aO,bB,bI,aR,bJ,bM,bT,bN,bP,aU,aV,aW,aX,aY,aZ,bA,bH,bO,bV,cH,cJ,bX,cC,bY,b9,cA,cD,cF,cM,cN,cO,cQ,cW,cX,cY,cS,cT,cZ,dA,dE,dB,dC,dF,dL,dM,dN,dQ] H'=some (r,H2)/\Q H2 r):
  ∀(x1 x4 x5 x6 x7 x8 x9 bQ aP aQ aO bB bI aR bJ bM bT bN bP aU aV aW aX aY aZ bA bH bO bV cH cJ bX cC bY b9 cA cD cF cM cN cO cQ cW cX cY cS cT cZ dA dE dB dC dF dL dM dN dQ:Value),∃H2 r,Gu (lvl prog pkN m) (aK m) K (pt y.nb) x1 (.I (k:Nat)) (.I (Af c s.rL k:Nat)) x4 x5 x6 x7 x8 x9 bQ (.I c.lanes) (.I (k:Nat)) aP aQ aO bB bI aR bJ bM bT bN bP aU aV aW aX aY aZ bA bH bO bV cH cJ bX cC bY b9 cA cD cF cM cN cO cQ cW cX cY cS cT cZ dA dE dB dC dF dL dM dN dQ H=some (r,H2)/\Q H2 r:=by
 intros;have h3:=h.ok.lanes.2;have e9:=pE k U
 have l4:=h.ld 4 (.I c.room) rfl;unfold Gu;by_cases c1:c.room<=Af c s.rL k
 ·have c1':decide ((c.room:Int)<=(Af c s.rL k:Nat))=true:=by rw[decide_eq_true_eq];omega
  have hr:oH c s k=s:=by unfold oH;rw[if_pos c1]
  rw[hr] at hK;simp only[gsR,l4,c1',cU,e9];exact hK H F h (Mv.Vq _ _) ..
 ·have c1':decide ((c.room:Int)<=(Af c s.rL k:Nat))=false:=by rw[decide_eq_false_iff_not];omega
  have l14:=h.ld 14 (pt y.hb) rfl;obtain⟨r,H1,F1,n1,n2,n3⟩:=(h.sep.own .host).Bx uA (n:=m) (λD hD=>aOo (m:=m) U hk hD)
  obtain⟨hrv,_⟩:=n2.at_;rw[hrv] at n1;cases hw:eV s.hL k with
  |nil=>
   have hr:oH c s k=s:=by unfold oH;rw[if_neg c1,hw]
   rw[hr] at hK;have hnl:yX s.hL k=s.hL:=by unfold yX;rw[if_pos hw]
   obtain⟨g1,mv1⟩:=h.Ij (L:=s.hL) (G:=s.hG) (Has.yU n2 λD hD=>by rw[<-hnl];exact hD.2) n3 h.inv
   rw[hw] at n1;have n1:lvl prog pkN m (.func 93) [pt y.hb,.I k] H=some (.tuple #[pk0.dV,.bool false],H1):=n1;have x2:Ext H1 (H1++[eT pk0]):=Fr.app _ _ _;simp only[gsR,l4,c1',l14,n1,pS,Av,Qa,cU,e9];exact hK (H1++[eT pk0]) _ (g1.pR x2) (mv1.xU (Mv.wD x2 _)) ..
  |cons x xs=>
   have hr:oH c s k={s with hL:=sD s.hL k,rL:=yI c s.rL (0,(c.port x.dst.toNat:Int),k) x}:=by unfold oH;rw[if_neg c1,hw]
   have hinv:=h.inv.aAo h.ok k;rw[hr] at hK hinv;have hnl:yX s.hL k=sD s.hL k:=by unfold yX;rw[if_neg (by rw[hw];simp)]
   obtain⟨g1,mv1⟩:=h.Ij (L:=sD s.hL k) (G:=s.hG) (Has.yU n2 λD hD=>by rw[<-hnl];exact hD.2) n3 (aOu h.inv k)
   rw[hw] at n1;have n1:lvl prog pkN m (.func 93) [pt y.hb,.I k] H=some (.tuple #[x.dV,.bool true],H1):=n1;obtain⟨H2,hH2⟩:=aD (H1++[eT x]);have x2:Ext H1 H2:=by rw[hH2];exact Fr.app _ _ _
   have g2:=g1.pR x2;have b2:H2[H1.length]? =some (eT x):=by rw[hH2];exact eC _ _
   have hxm:x∈s.hL:=by
    have:x∈eV s.hL k:=by rw[hw];exact aRj ..
    exact(List.mem_filter.mp this).1
   have hxd:=(h.inv.hL x hxm).dst;obtain⟨d,hd⟩: ∃d:Nat,x.dst=d:=⟨x.dst.toNat,by omega⟩
   have hdt:x.dst.toNat=d:=U
   rw[hdt] at hK hinv;have q1:ld1 (.Q H1.length 1) H2=some (.I d,H2):=dI b2 (by rw[<-hd];rfl)
   have l15:=g2.ld 15 (pt y.rg) rfl;obtain⟨H3,t1,x3⟩:=aNZ g2 (m:=m) U d U
   have g3:=g2.pR x3;have l15':=g3.ld 15 (pt y.rg) rfl;have b3:H3[H1.length]? =some (eT x):=by rw[x3.2 _ (dT b2) id,b2]
   have q3:=(sK b3).2;have q3':=(sK b2).2;obtain⟨r',H4,F4,p1,p2,p3⟩:=(g3.sep.own .rings).Bx uA (n:=m) (λD hD=>aMZ (m:=m) hD U (0,(c.port d:Int),(k:Int)) x)
   obtain⟨g4,mv4⟩:=g3.aBq (L:=yI c s.rL (0,(c.port d:Int),k) x) p2 p3 hinv;have p1:lvl prog pkN m (.func 94) [pt y.rg,.I 0,.I (c.port d:Nat),.I k,x.dV] H3=some (r',H4):=p1;simp only[gsR,l4,c1',l14,n1,pS,Av,Qa,<-hH2,l15,q1,t1,l15',yV,q3,q3',aN3,p1,cU,e9];exact hK H4 _ g4 ((mv1.xU (Mv.wD (x2.tr x3) _)).xU mv4) ..
theorem aOt {Hs:aE}{Fs:Part->Nat->Prop}{s0:NS}(h3:c.lanes<=3)(hm:300<m)(h6:c.aI<=6):
  ∀(q k l:Nat)(H:aE)(F:Part->Nat->Prop),c.lanes-k=q->k<=c.lanes->q<l->NodeAt H0 H F y p ev wv nv c t ((List.range k).foldl (oH c) s0)->Mv (Un Fs) (Un F) Hs H-> ∀(x1 x2 x3 x4 x5 x6 x7 x8 x9 bQ aP aQ aO bB bI aR bJ bM bT bN bP aU aV aW aX aY aZ bA bH bO bV cH cJ bX cC bY b9 cA cD cF cM cN cO cQ cW cX cY cS cT cZ dA dE dB dC dF dL dM dN dQ:Value),
  ∃H2 r,aK l (aM prog (lvl prog pkN m) (aK m) Nz) (N3 (lvl prog pkN m) (aK m)) [(pt y.nb),x1,x2,x3,x4,x5,x6,x7,x8,x9,bQ,(.I c.lanes),(.I (k:Nat)),aP,aQ,aO,bB,bI,aR,bJ,bM,bT,bN,bP,aU,aV,aW,aX,aY,aZ,bA,bH,bO,bV,cH,cJ,bX,cC,bY,b9,cA,cD,cF,cM,cN,cO,cQ,cW,cX,cY,cS,cT,cZ,dA,dE,dB,dC,dF,dL,dM,dN,dQ] H=some (r,H2)/\(r=aL []/\ ∃F2,NodeAt H0 H2 F2 y p ev wv nv c t (lA c s0)/\Mv (Un Fs) (Un F2) Hs H2):=by
 intro q;induction q with
 |zero=>
  intro k l H F hq hk hl h hmv;intros;obtain⟨l,rfl⟩: ∃l',l=l'+1:=⟨l-1,by omega⟩
  have hke:k=c.lanes:=U
  have c1:decide ((k:Int)<(c.lanes:Int))=false:=by rw[decide_eq_false_iff_not];omega
  rw[aK,Ze];simp only[gsR,c1];rw[aKQ];rw[hke] at h
  exact⟨_,_,rfl,rfl,F,h,hmv⟩
 |succ q ih=>
  intro k l H F hq hk hl h hmv;intros;obtain⟨l,rfl⟩: ∃l',l=l'+1:=⟨l-1,by omega⟩
  have hkl:k<c.lanes:=U
  have c1:decide ((k:Int)<(c.lanes:Int))=true:=by rw[decide_eq_true_eq];omega
  have l13:=h.ld 13 (iD y c) rfl;have e1:cK (iD y c)=some (.I c.aI):=rfl;rw[aK,Ze];simp only[gsR,c1,l13,e1];refine aOn (kk:=k) U h ?_ c.aI 0 m U U U ..
  refine aOs hkl U h ?_
  intro H' F' h' hmv';intros;have hn:(List.range (k+1)).foldl (oH c) s0=oH c ((List.range k).foldl (oH c) s0) k:=by rw[aRJ,List.foldl_append];rfl
  rw[<-hn] at h';exact ih (k+1) l H' F' U U U h' (hmv.xU hmv') ..
theorem aOr (h:NodeAt H0 H F y p ev wv nv c t s)(hm:400<m): ∃H2 F2,lvl prog pkN m (.func 65) [pt y.nb] H=some (aL [],H2)/\NodeAt H0 H2 F2 y p ev wv nv c t (lA c s)/\Mv (Un F) (Un F2) H H2:=by
 have h6:c.aI<=6:=by have:=h.ok.by';unfold Cfg.aI;omega
 have main: ∃H2 r,lvl prog pkN m (.func 65) [pt y.nb] H=some (r,H2)/\(r=aL []/\ ∃F2,NodeAt H0 H2 F2 y p ev wv nv c t (lA c s)/\Mv (Un F) (Un F2) H H2):=by
  refine iB (cV rfl) U ?_
  rw[aKS];have l3:=h.ld 3 (.I c.lanes) rfl;simp only[gsR,l3];exact aOt h.ok.lanes.2 U h6 c.lanes 0 (m-1) H F U U (by have:=h.ok.lanes;omega) h (Mv.Vq _ _) ..
 obtain⟨H2,r,g1,rfl,F2,g2,g3⟩:=main
 exact⟨H2,F2,g1,g2,g3⟩
end
def slV (v:Value):Value:=if dX [v]=true then v else .slice none 0 0
theorem aOA (v:Value):dX [slV v]=true:=by
 unfold slV;split
 ·assumption
 ·rfl
def pT (u:Nat×Value):List Value:=[.I u.1,slV u.2]
theorem aBz (u:Nat×Value):(pT u).length=2:=rfl
theorem aBy (u:Nat×Value):dX (pT u)=true:=by
 have:=aOA u.2;unfold dX pT at*;simp only[List.all_cons,List.all_nil,Bool.and_true] at*;rw[this];rfl
theorem aOy {H:aE}{v:Value}{bs:List UInt8}(h:By H v bs):slV v=v/\dR 74 2 1 [.int .i64 0,.slice none 0 0] [(0,.agg #[.int .i64 0,v])] []=some (.slice (some ⟨0,0,none⟩) 1 1,[Blk.cells [.int .i64 0,v] 74 .row]):=by
 obtain⟨_,⟨rfl,_⟩|⟨c,cap,rest,rfl,_⟩⟩:=h<;>exact⟨rfl,rfl⟩
theorem aOw {H:aE}{v:Value}{bs:List UInt8}(h:By H v bs)(to:Nat)(G:aE):dR 74 2 1 [.I 0,.slice none 0 0] [(0,.agg #[.I to,v])] G=some (.slice (some ⟨G.length,0,none⟩) 1 1,G++[.cells (pT (to,v)) 74 .row]):=by
 obtain⟨_,⟨rfl,_⟩|⟨c,cap,rest,rfl,_⟩⟩:=h<;>rfl
theorem aOx {H:aE}{v:Value}{bs:List UInt8}(h:By H v bs)(to:Nat):bld prog 74 [(0,.I to),(1,v)]=some (.agg #[.I to,v]):=by
 obtain⟨_,⟨rfl,_⟩|⟨c,cap,rest,rfl,_⟩⟩:=h<;>rfl
theorem Aw {α:Type}{el:α->List Value}{e:TypeId}{sz:Nat}{H:aE}{v:Value}{xs:List α}(h:Rw el e sz H v xs):v.cells.toList=[v]/\dX [v]=true:=by
 obtain⟨_,⟨rfl,_⟩|⟨c,cap,rest,rfl,_⟩⟩:=h<;>exact⟨rfl,rfl⟩
theorem aBA {α:Type}{el:α->List Value}{e:TypeId}{sz:Nat}{H:aE}{v:Value}{xs:List α}(h:Rw el e sz H v xs)(H':aE):chk (some (v,H')) v=true:=by
 obtain⟨_,⟨rfl,_⟩|⟨c,cap,rest,rfl,_⟩⟩:=h<;>simp[chk,veq]
def wU (v:Value):Blk:= .cells [v] 72 .fix
def pnB (nb:Nat):Blk:= .cells [pt nb] 62 .fix
def tE (vb cb:Nat):Value:= .func (.func 63) #[] #[pt vb,pt cb]
structure OutR (H:aE)(A:Nat->Prop)(v:Value)(us:List (Nat×Value))(outs:kO):Prop where
 rw_:Rw pT 74 2 H v us
 home: ∀b,cP v b->A b
 len:us.length=outs.length
 at_: ∀(i:Nat)(u:Nat×Value)(o:Nat×List UInt8),us[i]? =some u->outs[i]? =some o->u.1=o.1/\By H u.2 o.2/\ ∀b,Go.Abs.cP u.2 b->A b
structure TickS (H0 Hs H:aE)(Fs F:Part->Nat->Prop)(y:Lay)(p:PlanD)(ev wv nv:Value)(c:Cfg)(t:Nat)(s:NS)(vb cb:Nat)(outs:kO):Prop where
 node:NodeAt H0 H F y p ev wv nv c t s
 mv:Mv (Un Fs) (Un F) Hs H
 h0:H0.length<=Hs.length
 cell:H[cb]? =some (pnB y.nb)
 cbF: ¬Un F cb
 vbF: ¬Un F vb
 vb0:Hs.length<=vb
 rows: ∃v us,H[vb]? =some (wU v)/\OutR H (λb=>Hs.length<=b/\ ¬Un F b) v us outs
theorem OutR.yY {H H':aE}{A A':Nat->Prop}{v:Value}{us:List (Nat×Value)}{outs:kO}(h:OutR H A v us outs)(hk: ∀b,b<H.length->A b->H'[b]? =H[b]? /\A' b):OutR H' A' v us outs where
 rw_:=h.rw_.eX λb hb=>(hk b (h.rw_.gM hb) (h.home b hb)).1
 home:=λb hb=>(hk b (h.rw_.gM hb) (h.home b hb)).2
 len:=h.len
 at_:=λi u o hu ho=>by
  obtain⟨g1,g2,g3⟩:=h.at_ i u o hu ho
  exact⟨g1,g2.eX λb hb=>(hk b (g2.gM hb) (g3 b hb)).1,λb hb=>(hk b (g2.gM hb) (g3 b hb)).2⟩
section
variable {H0 Hs H : aE} {Fs F : Part → Nat → Prop} {y : Lay} {p : PlanD} {ev wv nv : Value} {c : Cfg} {t : Nat} {s : NS} {m : Nat} {vb cb : Nat} {outs : kO}
theorem TickS.vK {H':aE}{F':Part->Nat->Prop}{t':Nat}{s':NS}(h:TickS H0 Hs H Fs F y p ev wv nv c t s vb cb outs)(hn:NodeAt H0 H' F' y p ev wv nv c t' s')(hm:Mv (Un F) (Un F') H H'):TickS H0 Hs H' Fs F' y p ev wv nv c t' s' vb cb outs:=by
 have key: ∀b,b<H.length-> ¬Un F b->H'[b]? =H[b]? /\ ¬Un F' b:=λb hb hF=>⟨hm.keep b hb hF,λhF'=>(hm.own b hF').elim hF λhl=>by omega⟩
 obtain⟨v,us,r1,r2⟩:=h.rows
 exact⟨hn,h.mv.xU hm,h.h0,by rw[(key cb (dT h.cell) h.cbF).1,h.cell],(key cb (dT h.cell) h.cbF).2,(key vb (dT r1) h.vbF).2,h.vb0,v,us,by rw[(key vb (dT r1) h.vbF).1,r1],
  r2.yY λb hb hA=>⟨(key b hb hA.2).1,hA.1,(key b hb hA.2).2⟩⟩
theorem TickS.ext {H':aE}(h:TickS H0 Hs H Fs F y p ev wv nv c t s vb cb outs)(he:Ext H H'):TickS H0 Hs H' Fs F y p ev wv nv c t s vb cb outs:=h.vK (h.node.pR he) (Mv.wD he _)
theorem NodeAt.aOv {H':aE}{N:Nat->Prop}(h:NodeAt H0 H F y p ev wv nv c t s)(hf:Fr N H H')(hN: ∀b,N b-> ¬Un F b/\H0.length<=b):NodeAt H0 H' F y p ev wv nv c t s:=by
 have hm:Mv N N H H':=⟨hf.1,λ_ h=> .inl h,λb hb hn=>hf.2 b hb hn⟩
 refine {h with ext:=⟨aRq h.ext.1 hf.1,λa ha _=> ?_⟩,sep:=h.sep.xW (vH _ _ _ _ _ _ _) hm λa ha hh=>(hN a hh).1 ha}
 rw[hf.2 a (aRp ha h.ext.1) (λhh=>by have:=(hN a hh).2;omega),h.ext.2 a ha id]
theorem aOz {n:Nat}(h:n<3000):hP n 32=true:=gX (n:=3000) aC U
theorem Qb (h:TickS H0 Hs H Fs F y p ev wv nv c t s vb cb outs)(hm:200<m){o:Nat}(ho:o<c.aI){f:Frm}(hf:f.ok)(hl:outs.length<1000):
  ∃H',nT (lvl prog pkN m) (tE vb cb) [.I o,frV f] H=some (aL [],H')/\TickS H0 Hs H' Fs F y p ev wv nv c t s vb cb (outs++[(lL c o,sH f)])/\
   ∀(b:Nat)(cs:List Value)(e:TypeId)(k:Kind),H[b]? =some (.cells cs e k)->e≠74->b≠vb->H'[b]? =some (.cells cs e k):=by
 show∃H',lvl prog pkN m (.func 63) [.I o,frV f,pt vb,pt cb] H=_/\_
 obtain⟨H1,hH1⟩:=aD (H++[frB f]);have x1:Ext H H1:=by rw[hH1];exact Fr.app _ _ _
 have e0:H++[Blk.cells (Value.cells (frV f)).toList 130 .fix]=H1:=by rw[hH1];rfl
 have b1:H1[H.length]? =some (frB f):=by rw[hH1];exact eC _ _
 have l6:=(qG b1).2.2.2.2.2.2;obtain⟨H2,w,n1,x2,n2,n3⟩:=aLH (H:=H1) (m:=m-1) U f hf
 have h2:=(h.ext x1).ext x2;obtain⟨v,us,r1,r2⟩:=h2.rows;have lv:ld1 (pt vb) H2=some (v,H2):=dI r1 rfl;have lc:ld1 (pt cb) H2=some (pt y.nb,H2):=dI h2.cell rfl;have l13:=h2.node.ld 13 (iD y c) rfl;obtain⟨b,oo,a1,a2⟩:=h2.node.yR ho;obtain⟨_,a3,_,_⟩:=a2 _ (.inl h2.node);have eb:=aOx n2 (lL c o);have es:=aOw n2 (lL c o) H2;have hw:Rr pT 74 (H2++[.cells (pT (lL c o,w)) 74 .row]) (.slice (some ⟨H2.length,0,none⟩) 1 1) [(lL c o,w)]:=xS (el:=pT) _ H2;obtain⟨H3,hH3⟩:=aD (H2++[Blk.cells (pT (lL c o,w)) 74 .row]);have hul:us.length<1000:=by have:=r2.len;omega
 obtain⟨v',H4,k1,k2,k3,k4,k5⟩:=(r2.rw_.wC [Blk.cells (pT (lL c o,w)) 74 .row]).xT aBz aBy aC (by':=32) hw.rs (aOz (by show us.length+1<3000;omega))
 rw[<-hH3] at k1 k3 k4 k5 es;have h3l:H3.length=H2.length+1:=by rw[hH3];simp
 have hvb:vb<H2.length:=dT r1;have hvh: ¬cP v vb:=λhh=>by
  obtain⟨cs,hc⟩:=r2.rw_.blk hh;rw[r1] at hc;injection hc with hc;injection hc with _ h2 _
  revert h2
  decide
 have r4:H4[vb]? =some (wU v):=by
  rw[k4 vb U hvh,hH3,aRd hvb,r1]
 have sh:=Aw k2;have st:stN 1 (pt vb) v' H4=some (undef,H4.set vb (wU v')):=pP r4 aC (by simp) sh.1 sh.2
 refine mF (cV rfl) U ⟨H4.set vb (wU v'),?_,?_,?_⟩
 ·rw[aKO]
  simp only[gsR,Nat.add_zero,e0,l6,n1,pS,lv,lc,l13,a1,a3,eb,es,k1,st]
 ·have hfr:Fr (λb=>b=vb∨cP v b) H2 (H4.set vb (wU v')):=⟨by simp;omega,λb hb hn=>by
   rw[aRb (λhh=>hn (.inl hh.symm)),k4 b U (λhh=>hn (.inr hh)),hH3,aRd hb]⟩
  have hN: ∀b,(b=vb∨cP v b)-> ¬Un F b/\Hs.length<=b:=λb hb=>by
   rcases hb with rfl|hb
   ·exact⟨h2.vbF,h2.vb0⟩
   ·exact⟨(r2.home b hb).2,(r2.home b hb).1⟩
  have hnF: ∀b,H2.length<=b-> ¬Un F b:=λb hb hu=>by have:=h2.node.sep.qU b hu;omega
  have hs2:=h2.mv.le;refine⟨h2.node.aOv hfr λb hb=>⟨(hN b hb).1,aRq h2.h0 (hN b hb).2⟩,⟨aRq hs2 hfr.1,h2.mv.own,λb hb hF=> ?_⟩,h2.h0,?_,h2.cbF,h2.vbF,h2.vb0,v',us++[(lL c o,w)],fS r4,?_⟩
  ·rw[hfr.2 b (aRp hb hs2) (λhh=>by have:=(hN b hh).2;omega),h2.mv.keep b hb hF]
  ·rw[hfr.2 cb (dT h2.cell) (λhh=> ?_),h2.cell]
   rcases hh with hh|hh
   ·have:=h2.cell
    rw[hh,r1] at this;injection this with this;injection this with _ h2 _
    revert h2
    decide
   ·obtain⟨cs,hc⟩:=r2.rw_.blk hh
    rw[h2.cell] at hc;injection hc with hc;injection hc with _ h2 _
    revert h2
    decide
  ·have hv'vb: ¬cP v' vb:=λhh=>by
    rcases k5 vb hh with hh|hh
    ·exact hvh hh
    ·omega
   have keepB: ∀(bv:Value)(bs:List UInt8),By H2 bv bs->By (H4.set vb (wU v')) bv bs:=λbv bs hb=>hb.eX λb hhb=>hfr.2 b (hb.gM hhb) λhh=>by
    obtain⟨cs,hc⟩:=hb.blk hhb;rcases hh with rfl|hh
    ·rw[r1] at hc
     injection hc with hc;injection hc with _ h2 _
     revert h2
     decide
    ·obtain⟨cs',hc'⟩:=r2.rw_.blk hh
     rw[hc] at hc';injection hc' with hc';injection hc' with _ h2 _
     revert h2
     decide
   refine⟨k2.eX λb hb=>aRb λhh=>hv'vb (by rw[hh];exact hb),λb hb=> ?_,by simp[r2.len],λi u oo hu hoo=> ?_⟩
   ·rcases k5 b hb with hh|hh
    ·exact r2.home b hh
    ·exact⟨by omega,hnF b U⟩
   ·by_cases hi:i<us.length
    ·rw[aRd hi] at hu
     rw[aRd (by rw[<-r2.len];exact hi)] at hoo
     obtain⟨g1,g2,g3⟩:=r2.at_ i u oo hu hoo
     exact⟨g1,keepB _ _ g2,g3⟩
    ·have hi2:i=us.length:=by
      have:=(aRa.mp hu).1;simp at this;omega
     subst hi2;rw[aRu (aRf _),Nat.sub_self] at hu;rw[aRu (by rw[r2.len];exact aRf _),r2.len,Nat.sub_self] at hoo
     simp only[List.getElem?_cons_zero,aRB] at hu hoo;subst hu hoo;refine⟨rfl,keepB _ _ n2,λb hb=> ?_⟩
     have hbn:=n3 b hb;have hsb:Hs.length<=b:=by
      have:=h.mv.le;have:=x1.1;omega
     refine⟨hsb,λhu=> ?_⟩
     have:=h.node.sep.qU b hu;have:=x1.1;omega
 ·intro b cs e k hb hne hbv
  have hb2:H2[b]? =some (.cells cs e k):=by rw[(x1.tr x2).2 _ (dT hb) id,hb]
  rw[aRb (λhh=>hbv hh.symm),k4 b (by rw[h3l];have:=dT hb2;omega) (λhh=> ?_),hH3,aRd (dT hb2),hb2]
  obtain⟨cs',hc'⟩:=r2.rw_.blk hh;rw[hb2] at hc';injection hc' with hc';injection hc' with _ h2 _;exact hne h2
end
theorem aOF {W:List Int}{x w:Whl}{may:Nat->Bool}(h:lH W x may=(none,w)):w=x:=by
 unfold lH at h
 split at h
 ·split at h
  ·cases h
  ·cases h;rfl
 ·cases h;rfl
theorem aOE {α:Type}(f:Nat->α)(i:Nat):up1 f i (f i)=f:=by
 funext j
 unfold up1;split
 ·rename_i h
  rw[h]
 ·rfl
theorem Df (y:Lay)(c:Cfg)(H':aE):chk (some (iD y c,H')) (iD y c)=true:=by simp[chk,veq,iD]
section
variable {H0 Hs H : aE} {Fs F : Part → Nat → Prop} {y : Lay} {p : PlanD} {ev wv nv : Value} {c : Cfg} {t : Nat} {s : NS} {m : Nat} {vb cb : Nat} {outs : kO}
theorem NodeAt.aOB {H':aE}{t' o:Nat}{x':Whl}(h:NodeAt H0 H F y p ev wv nv c t s)(ho:o<c.aI)(hf:Fr (λb=>b=y.wh o∨b=y.wl o) H H')(hB:Blks (lQ (y.wh o) (y.ww o) (y.wl o) (y.wc o) (y.lc o) (y.wr o) (y.lr o) c.weights x') H')(hi:NInv c t' {s with whl:=up1 s.whl o x'}):
  NodeAt H0 H' F y p ev wv nv c t' {s with whl:=up1 s.whl o x'}/\Mv (Un F) (Un F) H H':=by
 refine h.C8 (.whl o) (l:=lQ (y.wh o) (y.ww o) (y.wl o) (y.wc o) (y.lc o) (y.wr o) (y.lr o) c.weights (s.whl o)) (l':=lQ (y.wh o) (y.ww o) (y.wl o) (y.wc o) (y.lc o) (y.wr o) (y.lr o) c.weights x') (by simp only[lR];rw[if_pos ho]) aBn ?_ ?_ hB hi ?_ ?_
 ·intro q hq
  simp only[lQ,aRt,aRA,or_false] at hq;rcases hq with rfl|rfl|rfl
  ·exact⟨_,aRj ..,rfl⟩
  ·exact⟨_,aRr _ (aRj ..),rfl⟩
  ·exact⟨_,aRr _ (aRr _ (aRj ..)),rfl⟩
 ·refine hf.Bw λb hb=> ?_
  rcases hb with rfl|rfl
  ·exact⟨_,aRj ..,rfl⟩
  ·exact⟨_,aRr _ (aRr _ (aRj ..)),rfl⟩
 ·have e:up1 s.whl o x' o=x':=if_pos rfl
  simp only[lR];rw[if_pos ho,e]
 ·intro j hj
  cases j with
  |whl i'=>
   have e:up1 s.whl o x' i'=s.whl i':=if_neg λhh=>hj (by rw[hh])
   simp only[lR];rw[e]
  |_=>rfl
theorem aOG (h:NodeAt H0 H F y p ev wv nv c t s)(hm:30<m){i o:Nat}(ho:o<c.aI)(hi:NInv c (t+1) {s with whl:=up1 s.whl o (lH c.weights (s.whl o) (jZ c s i o)).2}):
  ∃H',lvl prog pkN m (.func 101) [pt (y.wh o),.int .u16 (dS (jZ c s i o) c.lanes:Nat)] H=some (pQ (lH c.weights (s.whl o) (jZ c s i o)).1,H')/\NodeAt H0 H' F y p ev wv nv c (t+1) {s with whl:=up1 s.whl o (lH c.weights (s.whl o) (jZ c s i o)).2}/\Mv (Un F) (Un F) H H':=by
 have hw:=h.ok.wlen;have hl:=h.ok.lanes;have hx:=h.inv.whl o;rw[<-hw] at hx;obtain⟨H',g1,g2,g3⟩:=aNw (m:=m) U (h.aNK ho) (h.lay.ww o ho) hx (λy hy=>by have:=h.ok.wts y hy;omega) U U (dS (jZ c s i o) c.lanes) (sM _ U)
 have hc:lH c.weights (s.whl o) (λj=>(dS (jZ c s i o) c.lanes).testBit j)=lH c.weights (s.whl o) (jZ c s i o):=aNs λj hj=>by
  rw[lI,aRU U,aRx]
 rw[hc] at g1 g3;obtain⟨k1,k2⟩:=h.aOB ho g2 g3 hi
 exact⟨H',g1,k1,k2⟩
theorem aOD (h:NodeAt H0 H F y p ev wv nv c t s)(hm:100<m)(i o k:Nat)(hi:NInv c t {s with rL:=pC s.rL ((i:Int),(o:Int),(k:Int))}):
  ∃H' F',lvl prog pkN m (.func 102) [pt y.rg,.I i,.I o,.I k] H=some (Rg.vE (oR s.rL ((i:Int),(o:Int),(k:Int))),H')/\NodeAt H0 H' F' y p ev wv nv c t {s with rL:=pC s.rL ((i:Int),(o:Int),(k:Int))}/\Mv (Un F) (Un F') H H':=by
 obtain⟨r,H',F',p1,p2,p3⟩:=(h.sep.own .rings).Bx uA (n:=m) (B:=λr D'=>r=Rg.vE (oR s.rL ((i:Int),(o:Int),(k:Int)))/\RingsN D' y.rg (pC s.rL ((i:Int),(o:Int),(k:Int))) (c.aI*c.lanes*c.room) c.aI c.lanes) (λD hD=>by
  obtain⟨D',g1,g2⟩:=aMY (m:=m) hD U i o k
  exact⟨_,D',g1,rfl,g2⟩)
 obtain⟨hr,_⟩:=p2.at_;rw[hr] at p1;obtain⟨g4,mv4⟩:=h.aBq (Has.yU p2 λD hD=>hD.2) p3 hi
 exact⟨H',_,p1,g4,mv4⟩
theorem aOC (h:NodeAt H0 H F y p ev wv nv c t s)(hm:10<m)(x:Pkt)(hl:s.hG.length<1000000000)(hi:NInv c t {s with hG:=s.hG++[x]}):
  ∃H' F',lvl prog pkN m (.func 104) [pt y.hb,x.dV] H=some (aL [],H')/\NodeAt H0 H' F' y p ev wv nv c t {s with hG:=s.hG++[x]}/\Mv (Un F) (Un F') H H':=by
 obtain⟨r,H',F',p1,p2,p3⟩:=(h.sep.own .host).Bx uA (n:=m) (B:=λr D'=>r=aL []/\HostAt D' y.hb s.hL (s.hG++[x]) c.lanes c.queue) (λD hD=>by
  obtain⟨w0,w1,w2,cv,hI⟩:=hD;obtain⟨D',g1,g2⟩:=aLZ hI (m:=m) U x (gX (n:=1000000001) aC U)
  exact⟨_,D',g1,rfl,g2⟩)
 obtain⟨hr,_⟩:=p2.at_;rw[hr] at p1;obtain⟨g4,mv4⟩:=h.Ij (L:=s.hL) (Has.yU p2 λD hD=>hD.2) p3 hi
 exact⟨H',_,p1,g4,mv4⟩
end
section
variable {H0 Hs H : aE} {Fs F : Part → Nat → Prop} {y : Lay} {p : PlanD} {ev wv nv : Value} {c : Cfg} {t : Nat} {s : NS} {m : Nat} {vb cb : Nat} {outs : kO}
def Qc (s:NS)(o k:Nat)(x:Pkt):Frm:=⟨1,k,(s.snd o k).oP.1%65536,(x.src%256).toNat,(x.dst%256).toNat,x.body.toNat⟩
theorem aOJ (s:NS)(o k:Nat)(x:Pkt)(hk:k<3)(hb:0<=x.body/\x.body<4294967296):(Qc s o k x).ok where
 kind:=by show 1<256;decide
 lane:=by show k<256;omega
 seq:=Nat.mod_lt _ aC
 src:=by show(x.src%256).toNat<256;omega
 dst:=by show(x.dst%256).toNat<256;omega
 body:=by show x.body.toNat<4294967296;omega
theorem aOI (s:NS)(o k:Nat)(x:Pkt)(hb:0<=x.body)(hk:k<3):
  bld prog 130 [(0,.int .u8 1),(1,.int .u8 k),(2,.int .u16 ((s.snd o k).oP.1%65536:Nat)),(3,.int .u8 (x.src%256)),(4,.int .u8 (x.dst%256)),(5,.int .u32 x.body)]=some (frV (Qc s o k x)):=by
 have e1:(((x.src%256).toNat:Nat):Int)=x.src%256:=Int.toNat_of_nonneg (Int.emod_nonneg _ aC)
 have e2:(((x.dst%256).toNat:Nat):Int)=x.dst%256:=Int.toNat_of_nonneg (Int.emod_nonneg _ aC)
 have e3:((x.body.toNat:Nat):Int)=x.body:=Int.toNat_of_nonneg hb;rw[<-e1,<-e2,<-e3];rfl
theorem TickS.b15 {H':aE}{F':Part->Nat->Prop}{b:Nat}{x:Blk}(hm:Mv (Un F) (Un F') H H')(hb:H[b]? =some x)(hF: ¬Un F b):H'[b]? =some x/\ ¬Un F' b:=
 ⟨by rw[hm.keep b (dT hb) hF,hb],λhF'=>(hm.own b hF').elim hF λhl=>by have:=dT hb;omega⟩
def aOH (H0 Hs:aE)(Fs:Part->Nat->Prop)(y:Lay)(p:PlanD)(ev wv nv:Value)(c:Cfg)(t:Nat)(vb cb:Nat)(outs:kO)(r:NS×kO)(mb:Nat)(X:Blk)(H':aE)(v:Value):Prop:=
 v=aL []/\H'[mb]? =some X/\ ∃F',TickS H0 Hs H' Fs F' y p ev wv nv c (t+1) r.1 vb cb (outs++r.2)/\ ¬Un F' mb
theorem aOK (h:TickS H0 Hs H Fs F y p ev wv nv c t s vb cb outs)(ht:t<100000000)(hm:300<m){i o:Nat}(hi:i<c.aI)(ho:o<c.aI)(hl:outs.length<1000){mb:Nat}{zs:List Int}(hmb:H[mb]? =some (fH zs []))(hmF: ¬Un F mb)(hmv:mb≠vb):
    ∃H' v,lvl prog pkN m (.func 68) [pt y.nb,.I i,.I o,tE vb cb] H=some (v,H')/\aOH H0 Hs Fs y p ev wv nv c t vb cb outs (oQ c s i o) mb (fH zs []) H' v:=by
  have hm0:0<m:=U
  have hn:=h.node;have hlanes:=hn.ok.lanes;have hmono:=hn.inv.Ak (Nat.le_succ t);have l13:=hn.ld 13 (iD y c) rfl;obtain⟨b,oo,a1,a2⟩:=hn.yR ho;obtain⟨_,_,_,a3⟩:=a2 _ (.inl hn);obtain⟨H1,m1,x1⟩:=aBs hn U (m:=m-1) U hi ho
  have h1:=h.ext x1;obtain⟨_,_,_,a4⟩:=a2 _ (.inl h1.node);have l13':=h1.node.ld 13 (iD y c) rfl;have hwi:NInv c (t+1) {s with whl:=up1 s.whl o (lH c.weights (s.whl o) (jZ c s i o)).2}:={hmono with whl:=aMd hmono.whl (aMf hn.ok (hmono.whl o) _)};obtain⟨H2,w1,g2,mv2⟩:=aOG h1.node (m:=m-1) U ho hwi
  have h2:=h1.vK g2 mv2;have hb2:=TickS.b15 ((Mv.wD x1 (Un F)).xU mv2) hmb hmF;cases hpk:(lH c.weights (s.whl o) (jZ c s i o)).1 with
  |none=>
    obtain⟨w',hw'⟩: ∃w',lH c.weights (s.whl o) (jZ c s i o)=(none,w'):=⟨_,Prod.ext hpk rfl⟩;have hr:oQ c s i o=(s,[]):=by unfold oQ;rw[hw']
    have hww:=aOF hw';rw[hw'] at h2 w1;simp only at h2 w1;rw[hww,aOE] at h2;have c1:decide ((-1:Int)<0)=true:=rfl;refine⟨H2,_,dH (cV rfl) hm0 ?_,rfl,hb2.1,F,?_,hb2.2⟩
    · rw[Og]
      simp only[gsR,l13,a1,a3,m1,a4,yV,l13',Df,w1,pQ,c1]
    · rw[hr]
      rw[List.append_nil];exact h2
  |some k=>
    obtain⟨w',hw'⟩: ∃w',lH c.weights (s.whl o) (jZ c s i o)=(some k,w'):=⟨_,Prod.ext hpk rfl⟩;rw[hw'] at h2 w1 hwi;simp only at h2 w1 hwi;obtain⟨hkl,hmk⟩:=aMe hw';rw[hn.ok.wlen] at hkl;have c1:decide ((k:Int)<0)=false:=by rw[decide_eq_false_iff_not];omega
    -- the queue has one
    have hq0:0<mJ s.rL i o k:=by
      unfold jZ at hmk;rw[aRi,aRi,decide_eq_true_eq,decide_eq_true_eq] at hmk;exact hmk.1.2
    obtain⟨x,xs,hq⟩: ∃x xs,oR s.rL ((i:Int),(o:Int),(k:Int))=x::xs:=by
      unfold mJ at hq0;cases hh:oR s.rL ((i:Int),(o:Int),(k:Int)) with
      |nil=>rw[hh] at hq0;simp at hq0
      |cons x xs=>exact⟨x,xs,rfl⟩
    have hxm:x∈oR s.rL ((i:Int),(o:Int),(k:Int)):=by rw[hq];exact aRj ..
    obtain⟨e,he1,he2,_⟩:=aMc hxm;have hpk0:=hn.inv.rL e he1;rw[he2] at hpk0;have hr:oQ c s i o=if o=0 then({s with whl:=up1 s.whl o w',rL:=pC s.rL ((i:Int),(o:Int),(k:Int)),rcv:=uH s i k,hG:=s.hG++[x]},[])
        else({s with whl:=up1 s.whl o w',rL:=pC s.rL ((i:Int),(o:Int),(k:Int)),rcv:=uH s i k,snd:=up2 s.snd o k (s.snd o k).oP.2},[(lL c o,sH (Qc s o k x))]):=by
      unfold oQ;rw[hw'];simp only;rw[hq];by_cases h0:o=0
      · rw[if_pos h0,if_pos h0]
        rfl
      · rw[if_neg h0,if_neg h0]
        unfold uI lL;rw[if_neg h0];rfl
    have hi3:NInv c (t+1) {s with whl:=up1 s.whl o w',rL:=pC s.rL ((i:Int),(o:Int),(k:Int))}:={hwi with rL:=λe he=>hwi.rL e (aL9 he),rN:=aRq (aL8 _ _) hwi.rN}
    obtain⟨H3,F3,p1,g3,mv3⟩:=aOD h2.node (m:=m-1) U i o k hi3
    have h3:=h2.vK g3 mv3;have hb3:=TickS.b15 mv3 hb2.1 hb2.2;have p1:lvl prog pkN (m-1) (.func 102) [pt y.rg,.I i,.I o,.I k] H2=some (.tuple #[x.dV,.bool true],H3):=by
      rw[p1];show some (Rg.vE (oR s.rL ((i:Int),(o:Int),(k:Int))),H3)=_
      rw[hq];rfl
    obtain⟨H4,hH4⟩:=aD (H3++[eT x]);have x4:Ext H3 H4:=by rw[hH4];exact Fr.app _ _ _
    have h4:=h3.ext x4;have q4:H4[H3.length]? =some (eT x):=by rw[hH4];exact eC _ _
    have qF4: ¬Un F3 H3.length:=λhu=>by have:=h3.node.sep.qU _ hu;omega
    have hb4:=TickS.b15 (Mv.wD x4 (Un F3)) hb3.1 hb3.2;have l15:=h2.node.ld 15 (pt y.rg) rfl
    -- behind the pop: the lane of the input is free
    have free: ∃H5,TickS H0 Hs H5 Fs F3 y p ev wv nv c (t+1) {s with whl:=up1 s.whl o w',rL:=pC s.rL ((i:Int),(o:Int),(k:Int)),rcv:=uH s i k} vb cb outs/\H5[H3.length]? =some (eT x)/\H5[mb]? =some (fH zs [])/\
        ((i=0/\H5=H4)∨(0<i/\ ∃u,lvl prog pkN (m-1) (.func 103) [pt (y.rb i k)] H4=some (u,H5))):=by
      by_cases hi0:i=0
      · refine⟨H4,?_,q4,hb4.1,.inl ⟨hi0,rfl⟩⟩
        have:uH s i k=s.rcv:=by unfold uH;rw[if_pos hi0]
        rw[this];exact h4
      · obtain⟨H5,u,r1,r2⟩:=aLA (m:=m-1) U (h4.node.P5 U hi hkl) (h4.node.P6 U i k)
        have hfr:uH s i k=up2 s.rcv i k (s.rcv i k).vB:=by unfold uH;rw[if_neg hi0]
        have hi5:NInv c (t+1) {s with whl:=up1 s.whl o w',rL:=pC s.rL ((i:Int),(o:Int),(k:Int)),rcv:=up2 s.rcv i k (s.rcv i k).vB}:={hi3 with rcv:=aAs hi3.rcv (hi3.rcv i k).aL4};obtain⟨g5,mv5⟩:=h4.node.aNI U hi hkl r2 hi5
        refine⟨H5,?_,(TickS.b15 mv5 q4 qF4).1,(TickS.b15 mv5 hb4.1 hb4.2).1,.inr ⟨by omega,u,r1⟩⟩
        rw[hfr];exact h4.vK g5 mv5
    obtain⟨H5,h5,q5,hb5,hfree⟩:=free
    -- behind that: it is at the host, or on its way
    have hi5:=h5.node.inv;obtain⟨l0,l1,l2,l3,l4⟩:ld1 (.pointer (some ⟨H3.length,0,none⟩)) H5=some (.int .i64 x.src,H5)/\ld1 (.pointer (some ⟨H3.length,1,none⟩)) H5=some (.int .i64 x.dst,H5)/\ld1 (.pointer (some ⟨H3.length,2,none⟩)) H5=some (.int .i64 x.lane,H5)/\ld1 (.pointer (some ⟨H3.length,3,none⟩)) H5=some (.int .u32 x.body,H5)/\ldN 4 (.pointer (some ⟨H3.length,0,none⟩)) H5=some (x.dV,H5):=⟨dI q5 rfl,dI q5 rfl,dI q5 rfl,dI q5 rfl,(sK q5).2⟩;have hst:=Qa H3 x;rw[<-hH4] at hst;have ifree:0<i-> ∃bi oi bj oj,bS 3 (iD y c) (.int .i64 (i:Int))=some (.pointer (some ⟨bi,oi,none⟩))/\ld1 (.pointer (some ⟨bi,oi+1,none⟩)) H4=some (nD y c i,H4)/\bS 2 (nD y c i) (.int .i64 (k:Int))=some (.pointer (some ⟨bj,oj,none⟩))/\ld1 (.pointer (some ⟨bj,oj+1,none⟩)) H4=some (pt (y.rb i k),H4):=λhpos=>by
      obtain⟨bi,oi,j1,j2⟩:=h4.node.yR hi;obtain⟨_,_,j3,_⟩:=j2 _ (.inl h4.node);obtain⟨bj,oj,j4,_,_,j5⟩:=h4.node.C9 U hi hkl
      exact⟨bi,oi,bj,oj,j1,j3,j4,j5⟩
    have l13'':=h4.node.ld 13 (iD y c) rfl;by_cases ho0:o=0
    · rw[if_pos ho0] at hr
      have c3:((o:Int)==0)=true:=by rw[ho0];rfl
      have hgl:s.hG.length<=t:=hn.inv.hG;have hi6:NInv c (t+1) {s with whl:=up1 s.whl o w',rL:=pC s.rL ((i:Int),(o:Int),(k:Int)),rcv:=uH s i k,hG:=s.hG++[x]}:={hi5 with hG:=by simp;omega}
      obtain⟨H6,F6,k1,g6,mv6⟩:=aOC h5.node (m:=m-1) U x (by show s.hG.length<_;omega) hi6
      have h6:=h5.vK g6 mv6;have hb6:=TickS.b15 mv6 hb5 hb4.2;have l14:=h5.node.ld 14 (pt y.hb) rfl;refine⟨H6,aL [],dH (cV rfl) hm0 ?_,rfl,hb6.1,F6,by rw[hr,List.append_nil];exact h6,hb6.2⟩
      rw[Og];rcases hfree with⟨hi0,hH5⟩|⟨hpos,u,r1⟩
      · have c2:decide ((0:Int)<(i:Int))=false:=by rw[decide_eq_false_iff_not];omega
        rw[hH5] at l14 l4 k1;simp only[gsR,l13,a1,a3,m1,a4,yV,l13',Df,w1,pQ,c1,l15,p1,pS,Av,hst,<-hH4,c2,c3,l14,l4,k1]
      · have c2:decide ((0:Int)<(i:Int))=true:=by rw[decide_eq_true_eq];omega
        obtain⟨bi,oi,bj,oj,j1,j2,j3,j4⟩:=ifree hpos;simp only[gsR,l13,a1,a3,m1,a4,yV,l13',Df,w1,pQ,c1,l15,p1,pS,Av,hst,<-hH4,c2,l13'',j1,j2,j3,j4,r1,c3,l14,l4,k1]
    · rw[if_neg ho0] at hr
      have c3:((o:Int)==0)=false:=by rw[beq_eq_false_iff_ne];omega
      obtain⟨H6,r6,p6⟩:=aLF (m:=m-1) U (h5.node.If U ho hkl) (h5.node.P7 U o k)
      have hi6:NInv c (t+1) {s with whl:=up1 s.whl o w',rL:=pC s.rL ((i:Int),(o:Int),(k:Int)),rcv:=uH s i k,snd:=up2 s.snd o k (s.snd o k).oP.2}:={hi5 with snd:=aAs hi5.snd (hn.inv.snd o k).aL6};obtain⟨g6,mv6⟩:=h5.node.aNJ U ho hkl p6 hi6
      have h6:=h5.vK g6 mv6;have q6:=(TickS.b15 mv6 q5 qF4).1;have hb6:=TickS.b15 mv6 hb5 hb4.2;obtain⟨n0,n1,n3⟩:ld1 (.Q H3.length 0) H6=some (.I x.src,H6)/\ld1 (.Q H3.length 1) H6=some (.I x.dst,H6)/\ld1 (.Q H3.length 3) H6=some (.int .u32 x.body,H6):=⟨dI q6 rfl,dI q6 rfl,dI q6 rfl⟩;obtain⟨H7,s7,h7,hk7⟩:=Qb h6 (m:=m-1) U ho (aOJ s o k x U hpk0.body) hl
      have hb7:=hk7 mb _ _ _ hb6.1 aC hmv
      obtain⟨bi',oi',i1,i2⟩:=h5.node.yR ho;obtain⟨_,_,i3,_⟩:=i2 _ (.inl h5.node);obtain⟨rfl,rfl⟩:bi'=b/\oi'=oo:=by
        have:=i1.symm.trans a1;simpa using this
      obtain⟨bj',oj',i4,_,i5,_⟩:=h5.node.C9 U ho hkl
      have l13c:=h5.node.ld 13 (iD y c) rfl;have ek:IntKind.u8.wrap (k:Int)=(k:Int):=by rw[B4];omega
      have eq:IntKind.u16.wrap ((s.snd o k).oP.1:Int)=(((s.snd o k).oP.1%65536:Nat):Int):=Cu _;have ebl:=aOI s o k x hpk0.body.1 U
      have r6:lvl prog pkN (m-1) (.func 105) [pt (y.sb o k)] H5=some (.tuple #[.int .u64 (s.snd o k).oP.1,.bool (decide ((s.snd o k).l≠(s.snd o k).s))],H6):=r6;refine⟨H7,aL [],dH (cV rfl) hm0 ?_,rfl,hb7,F3,by rw[hr];exact h7,hb6.2⟩
      rw[Og];rcases hfree with⟨hi0,hH5⟩|⟨hpos,u,r1⟩
      · have c2:decide ((0:Int)<(i:Int))=false:=by rw[decide_eq_false_iff_not];omega
        rw[hH5] at l13c i3 i5 r6;simp only[gsR,Nat.add_zero,l13,a1,a3,m1,a4,yV,l13',Df,w1,pQ,c1,l15,p1,pS,Av,hst,<-hH4,c2,c3,l13c,i1,i3,i4,i5,r6,hZ _ _ iU u8U,hZ _ _ vD nQ,ek,eq,n0,n1,n3,B4,ebl,s7]
      · have c2:decide ((0:Int)<(i:Int))=true:=by rw[decide_eq_true_eq];omega
        obtain⟨bi,oi,bj,oj,j1,j2,j3,j4⟩:=ifree hpos;simp only[gsR,Nat.add_zero,l13,a1,a3,m1,a4,yV,l13',Df,w1,pQ,c1,l15,p1,pS,Av,hst,<-hH4,c2,l13'',j1,j2,j3,j4,r1,c3,l13c,i1,i3,i4,i5,r6,hZ _ _ iU u8U,hZ _ _ vD nQ,ek,eq,n0,n1,n3,B4,ebl,s7]
end
def exF (s:NS)(c:Cfg)(i k:Nat):kO:=[uI c i ⟨3,k,(s.snd i k).s%65536,0,0,0⟩,uI c i ⟨2,k,(s.rcv i k).sA c.room%65536,0,0,0⟩]
def tF (s:NS)(c:Cfg)(i k:Nat):kO:=(List.range k).flatMap (exF s c i)
def exP (s:NS)(c:Cfg)(i:Nat):kO:=if i=0 then [] else tF s c i c.lanes
def qI (s:NS)(c:Cfg)(i:Nat):kO:=(List.range i).flatMap (exP s c)
theorem aBB (s:NS)(c:Cfg)(i k:Nat):tF s c i (k+1)=tF s c i k++exF s c i k:=by
 unfold tF;rw[aRJ,List.flatMap_append];simp
theorem Qe (s:NS)(c:Cfg)(i:Nat):qI s c (i+1)=qI s c i++exP s c i:=by
 unfold qI;rw[aRJ,List.flatMap_append];simp
theorem Qd (s:NS)(c:Cfg)(i:Nat): ∀k,(tF s c i k).length=2*k
 |0=>rfl
 |k+1=>by
  rw[aBB,aRm,Qd s c i k];simp[exF];omega
theorem aBC (s:NS)(c:Cfg)(h3:c.lanes<=3): ∀i,(qI s c i).length<=6*i
 |0=>by simp[qI]
 |i+1=>by
  rw[Qe,aRm];have:=aBC s c h3 i;have:(exP s c i).length<=6:=by
   unfold exP;split
   ·simp
   ·rw[Qd]
    omega
  omega
theorem aON (s:NS)(c:Cfg):qD c s=qI s c c.aI:=by
 unfold qD qI Cfg.aI;rw[List.range_succ_eq_map,List.flatMap_cons,List.flatMap_map];have:exP s c 0=[]:=rfl;rw[this,List.nil_append];rfl
section
variable {H0 Hs H : aE} {Fs F : Part → Nat → Prop} {y : Lay} {p : PlanD} {ev wv nv : Value} {c : Cfg} {t : Nat} {s : NS} {m : Nat} {vb cb : Nat} {outs : kO}
theorem aOM (k q:Nat):bld prog 130 [(0,.int .u8 3),(1,.int .u8 k),(2,.int .u16 q)]=some (frV ⟨3,k,q,0,0,0⟩):=rfl
theorem aOL (k q:Nat):bld prog 130 [(0,.int .u8 2),(1,.int .u8 k),(2,.int .u16 q)]=some (frV ⟨2,k,q,0,0,0⟩):=rfl
theorem aBD (a k q:Nat)(ha:a<256)(hk:k<256):(⟨a,k,q%65536,0,0,0⟩:Frm).ok:=⟨ha,hk,Nat.mod_lt _ aC,by show 0<256;decide,by show 0<256;decide,by show 0<4294967296;decide⟩
theorem aOO {i:Nat}(h1:1<=i)(hi:i<c.aI)(h3:c.lanes<=3)(ht:t<100000000)(hol:outs.length<900)(hm:220<m){K:Ex->K (Value×aE)}{Q:aE->Value->Prop}
  (hK: ∀H',TickS H0 Hs H' Fs F y p ev wv nv c t s vb cb (outs++tF s c i c.lanes)-> ∀(x2 x3 x4 x5 x6 x7 x8 x9 bQ aQ aO bB bI aR bJ bM bT bN bP aU aV aW aX aY aZ bA bH bO bV cH cJ bX cC bY b9 cA cD cF cM cN cO cQ cW:Value),∃H2 r,Gv (lvl prog pkN m) (aK m) K (pt y.nb) (tE vb cb) x2 x3 x4 x5 x6 x7 x8 x9 bQ (iD y c) (.I c.aI) (.I (i:Nat)) aQ aO bB bI aR bJ bM bT bN bP aU aV aW aX aY aZ bA bH bO bV cH cJ bX cC bY b9 cA cD cF cM cN cO cQ cW H'=some (r,H2)/\Q H2 r):
  ∀(q k l:Nat)(H:aE),c.lanes-k=q->k<=c.lanes->q<l->TickS H0 Hs H Fs F y p ev wv nv c t s vb cb (outs++tF s c i k)-> ∀(x2 x3 x5 x6 x7 x8 x9 bQ aQ aO bB bI aR bN bP aU aV aW aX aY aZ bA bH bO bV cH cJ bX cC bY b9 cA cD cF cM cN cO cQ cW:Value),
  ∃H2 r,aK l (aM prog (lvl prog pkN m) (aK m) Oj) (Om (lvl prog pkN m) (aK m) K) [(pt y.nb),(tE vb cb),x2,x3,(.I (i:Nat)),x5,x6,x7,x8,x9,bQ,(iD y c),(.I c.aI),(.I (i:Nat)),aQ,aO,bB,bI,aR,(nD y c i),(.I c.lanes),(.I (k:Nat)),bN,bP,aU,aV,aW,aX,aY,aZ,bA,bH,bO,bV,cH,cJ,bX,cC,bY,b9,cA,cD,cF,cM,cN,cO,cQ,cW] H=some (r,H2)/\Q H2 r:=by
 intro q;induction q with
 |zero=>
  intro k l H hq hk hl h;intros;obtain⟨l,rfl⟩: ∃l',l=l'+1:=⟨l-1,by omega⟩
  have hke:k=c.lanes:=U
  subst hke;have c1:decide ((c.lanes:Int)<(c.lanes:Int))=false:=by simp
  rw[aK,Oh];simp only[gsR,c1];rw[Zm];exact hK H h ..
 |succ q ih=>
  intro k l H hq hk hl h;intros;obtain⟨l,rfl⟩: ∃l',l=l'+1:=⟨l-1,by omega⟩
  have hkl:k<c.lanes:=U
  have c1:decide ((k:Int)<(c.lanes:Int))=true:=by rw[decide_eq_true_eq];omega
  have hil:=Qd s c i k;obtain⟨b,o,a1,a2,_,_⟩:=h.node.C9 h1 hi hkl;have a2:ldN 2 (.Q b o) H=some (.agg #[pt (y.sb i k),pt (y.rb i k)],H):=a2;obtain⟨H1,hH1⟩:=aD (H++[iE (pt (y.sb i k)) (pt (y.rb i k))]);have x1:Ext H H1:=by rw[hH1];exact Fr.app _ _ _
  have g1:=h.ext x1;have st:=aN7 H (pt (y.sb i k)) (pt (y.rb i k)) rfl;rw[<-hH1] at st;have b1:H1[H.length]? =some (iE (pt (y.sb i k)) (pt (y.rb i k))):=by rw[hH1];exact eC _ _
  have l0:=(Ar b1).2.1;have s1:=Oz (m:=m) U (g1.node.If h1 hi hkl)
  have ek:IntKind.u8.wrap (k:Int)=(k:Int):=by rw[B4];omega
  have e1:IntKind.u16.wrap ((s.snd i k).s:Int)=(((s.snd i k).s%65536:Nat):Int):=Cu _;obtain⟨H2,r1,g2,k2⟩:=Qb g1 (m:=m) U hi (aBD 3 k (s.snd i k).s aC U) (by rw[aRm];omega)
  have hvb:H.length≠vb:=λhh=>by
   obtain⟨v,us,r,_⟩:=h.rows;have:=dT r;omega
  have b2:H2[H.length]? =some (iE (pt (y.sb i k)) (pt (y.rb i k))):=k2 _ _ _ _ b1 aC hvb
  have l1:=(Ar b2).2.2;have s2:=Z5 (m:=m) U (g2.node.P5 h1 hi hkl) (g2.node.P6 U i k)
  have e2:IntKind.u16.wrap (((s.rcv i k).sA c.room:Nat):Int)=(((s.rcv i k).sA c.room%65536:Nat):Int):=Cu _;obtain⟨H3,r2,g3,_⟩:=Qb g2 (m:=m) U hi (aBD 2 k ((s.rcv i k).sA c.room) aC U) (by simp only[aRm,aRw,List.length_nil];omega)
  have e9:=pE k U
  have hto:lL c i=c.by'.getD (i-1) 0:=by unfold lL;rw[if_neg U]
  have hnext:outs++tF s c i k++[(lL c i,sH ⟨3,k,(s.snd i k).s%65536,0,0,0⟩)]++[(lL c i,sH ⟨2,k,(s.rcv i k).sA c.room%65536,0,0,0⟩)]=outs++tF s c i (k+1):=by
   rw[aBB,hto];simp[exF,uI]
  rw[hnext] at g3;rw[aK,Oh];simp only[gsR,c1,a1,a2,aN6,st,hZ _ _ iU u8U,ek,l0,s1,hZ _ _ vD nQ,e1,aOM,r1,l1,s2,e2,aOL,r2,cU,e9];exact ih (k+1) l H3 U U U g3 ..
theorem aOQ (h3:c.lanes<=3)(h6:c.aI<=6)(ht:t<100000000)(hol:outs.length<800)(hm:300<m):
  ∀(q i l:Nat)(H:aE),c.aI-i=q->i<=c.aI->q<l->TickS H0 Hs H Fs F y p ev wv nv c t s vb cb (outs++qI s c i)-> ∀(x2 x3 x4 x5 x6 x7 x8 x9 bQ aQ aO bB bI aR bJ bM bT bN bP aU aV aW aX aY aZ bA bH bO bV cH cJ bX cC bY b9 cA cD cF cM cN cO cQ cW:Value),
  ∃H2 r,aK l (aM prog (lvl prog pkN m) (aK m) Oi) (Ol (lvl prog pkN m) (aK m)) [(pt y.nb),(tE vb cb),x2,x3,x4,x5,x6,x7,x8,x9,bQ,(iD y c),(.I c.aI),(.I (i:Nat)),aQ,aO,bB,bI,aR,bJ,bM,bT,bN,bP,aU,aV,aW,aX,aY,aZ,bA,bH,bO,bV,cH,cJ,bX,cC,bY,b9,cA,cD,cF,cM,cN,cO,cQ,cW] H=some (r,H2)/\(r=aL []/\TickS H0 Hs H2 Fs F y p ev wv nv c t s vb cb (outs++qD c s)):=by
 intro q;induction q with
 |zero=>
  intro i l H hq hi hl h;intros;obtain⟨l,rfl⟩: ∃l',l=l'+1:=⟨l-1,by omega⟩
  have hie:i=c.aI:=U
  subst hie;have c1:decide ((c.aI:Int)<(c.aI:Int))=false:=by simp
  rw[aK,Zl];simp only[gsR,c1];rw[aKY];rw[aON]
  exact⟨_,_,rfl,rfl,h⟩
 |succ q ih=>
  intro i l H hq hi hl h;intros;obtain⟨l,rfl⟩: ∃l',l=l'+1:=⟨l-1,by omega⟩
  have hil:i<c.aI:=U
  have c1:decide ((i:Int)<(c.aI:Int))=true:=by rw[decide_eq_true_eq];omega
  have hul:=aBC s c h3 i;obtain⟨b,o,a1,a2⟩:=h.node.yR hil;obtain⟨a3,_,_,_⟩:=a2 _ (.inl h.node);obtain⟨H1,hH1⟩:=aD (H++[rA y c i]);have x1:Ext H H1:=by rw[hH1];exact Fr.app _ _ _
  have g1:=h.ext x1;have hlv:dX [nD y c i]=true:=by unfold nD;split<;>rfl
  have st:stN 3 (.pointer (some ⟨H.length,0,none⟩)) (.agg ⟨fR y c i⟩) (H++[Blk.cells [Value.int .i64 0,.slice none 0 0,.pointer none] 114 .fix])=some (undef,H1):=by
   rw[uG (n:=3) (vs:=fR y c i) (eC H _) aC rfl rfl (aRf 3) (by unfold fR nD;split<;>rfl),lO,hH1]
   rfl
  have b1:H1[H.length]? =some (rA y c i):=by rw[hH1];exact eC _ _
  have l1:ld1 (.Q H.length 1) H1=some (nD y c i,H1):=dI b1 rfl;have e9:=pE i U
  rw[aK,Zl];by_cases hi0:i=0
  ·have e1:cK (nD y c i)=some (.I 0):=by unfold nD;rw[if_pos hi0];rfl
   simp only[gsR,c1,a1,a3,st,l1,e1];have hx:outs++qI s c (i+1)=outs++qI s c i:=by rw[Qe];unfold exP;rw[if_pos hi0,List.append_nil]
   obtain⟨m',hm'⟩: ∃m',m=m'+1:=⟨m-1,by omega⟩
   have c2:decide ((0:Int)<0)=false:=rfl;rw[show aK m=aK (m'+1) by rw[hm'],aK,<-hm',Oh]
   simp only[gsR,c2];rw[Zm];unfold Gv;simp only[gsR,cU,e9];exact ih (i+1) l H1 U U U (by rw[hx];exact g1) ..
  ·have e1:cK (nD y c i)=some (.I c.lanes):=by unfold nD;rw[if_neg hi0];rfl
   simp only[gsR,c1,a1,a3,st,l1,e1];refine aOO (outs:=outs++qI s c i) U hil h3 ht (by rw[aRm];omega) U ?_ c.lanes 0 m H1 U U U (by unfold tF;simpa using g1) ..
   intro H' h';intros;unfold Gv;simp only[gsR,cU,e9];have hx:outs++qI s c (i+1)=outs++qI s c i++tF s c i c.lanes:=by rw[Qe];unfold exP;rw[if_neg hi0,aRh]
   exact ih (i+1) l H' U U U (by rw[hx];exact h') ..
theorem aOP (h:TickS H0 Hs H Fs F y p ev wv nv c t s vb cb outs)(ht:t<100000000)(hol:outs.length<800)(hm:400<m):
  ∃H2,lvl prog pkN m (.func 69) [pt y.nb,tE vb cb] H=some (aL [],H2)/\TickS H0 Hs H2 Fs F y p ev wv nv c t s vb cb (outs++qD c s):=by
 have h6:c.aI<=6:=by have:=h.node.ok.by';unfold Cfg.aI;omega
 have main: ∃H2 r,lvl prog pkN m (.func 69) [pt y.nb,tE vb cb] H=some (r,H2)/\(r=aL []/\TickS H0 Hs H2 Fs F y p ev wv nv c t s vb cb (outs++qD c s)):=by
  refine iB (cV rfl) U ?_
  rw[aKZ];have l13:=h.node.ld 13 (iD y c) rfl;have e1:cK (iD y c)=some (.I c.aI):=rfl;simp only[gsR,l13,e1];exact aOQ h.node.ok.lanes.2 h6 ht hol U c.aI 0 (m-1) H U U U (by unfold qI;simpa using h) ..
 obtain⟨H2,r,g1,rfl,g2⟩:=main
 exact⟨H2,g1,g2⟩
end
theorem aBE (c:Cfg)(m:List Int): ∀(l1 l2:List Nat)(s:NS×kO),qF c m (l1++l2) s=qF c m l2 (qF c m l1 s)
 |[],_,_=>rfl
 |i::l1,l2,s=>by rw[List.cons_append,qF,qF,aBE c m l1 l2]
def gO (c:Cfg)(m:List Int)(s:NS)(i:Nat):NS×kO:=qF c m (List.range i) (s,[])
theorem Qh (c:Cfg)(m:List Int)(s:NS)(i:Nat):gO c m s (i+1)=if 0<=m.getD i 0 then((oQ c (gO c m s i).1 i (m.getD i 0).toNat).1,(gO c m s i).2++(oQ c (gO c m s i).1 i (m.getD i 0).toNat).2) else gO c m s i:=by
 unfold gO;rw[aRJ,aBE];rfl
theorem aOV (c:Cfg)(s:NS)(i o:Nat):(oQ c s i o).2.length<=1:=by
 unfold oQ;split
 ·simp
 ·simp only
  split<;>simp
theorem aOW (c:Cfg)(s:NS)(i o:Nat):(oQ c s i o).1.ticks=s.ticks:=by
 unfold oQ;split
 ·rfl
 ·simp only
  split<;>rfl
theorem Qg (c:Cfg)(m:List Int)(s:NS): ∀i,(gO c m s i).2.length<=i
 |0=>by simp[gO,qF]
 |i+1=>by
  have:=Qg c m s i;have:=aOV c (gO c m s i).1 i (m.getD i 0).toNat;rw[Qh];split
  ·simp only[aRm]
   omega
  ·omega
theorem Qi (c:Cfg)(m:List Int)(s:NS): ∀i,(gO c m s i).1.ticks=s.ticks
 |0=>rfl
 |i+1=>by
  rw[Qh];split
  ·simp only
   rw[aOW,Qi c m s i]
  ·exact Qi c m s i
theorem aOT (c:Cfg)(s:NS)(k:Nat):(oH c s k).ticks=s.ticks:=by
 unfold oH;split
 ·rfl
 ·split<;>rfl
theorem aOU (c:Cfg)(s:NS):(lA c s).ticks=s.ticks:=by
 unfold lA;have: ∀(l:List Nat)(s:NS),(l.foldl (oH c) s).ticks=s.ticks:=by
  intro l;induction l with
  |nil=>intro s;rfl
  |cons k l ih=>intro s;rw[List.foldl_cons,ih,aOT]
 exact this _ _
theorem aOS (i:Nat)(hi:i<1000000000):IntKind.i64.wrap ((i:Int)+1)=((i+1:Nat):Int):=by rw[dJ U U];omega
section
variable {H0 Hs H : aE} {Fs F : Part → Nat → Prop} {y : Lay} {p : PlanD} {ev wv nv : Value} {c : Cfg} {t : Nat} {s : NS} {m : Nat} {vb cb : Nat} {outs : kO}
def Qf (H0 Hs:aE)(Fs:Part->Nat->Prop)(y:Lay)(p:PlanD)(ev wv nv:Value)(c:Cfg)(t:Nat)(s':NS)(vb cb:Nat)(outs:kO)(H':aE)(v:Value):Prop:=
 ∃F' us,TickS H0 Hs H' Fs F' y p ev wv nv c t s' vb cb outs/\OutR H' (λb=>Hs.length<=b/\ ¬Un F' b) v us outs
theorem NodeAt.aOR (h:NodeAt H0 H F y p ev wv nv c t s)(hi:NInv c t {s with ticks:=s.ticks+1}):
  NodeAt H0 (H.set y.nb (wT p.bag ev wv nv y c (s.ticks+1))) F y p ev wv nv c t {s with ticks:=s.ticks+1}/\Mv (Un F) (Un F) H (H.set y.nb (wT p.bag ev wv nv y c (s.ticks+1))):=by
 have hB:=h.sep.see .node rfl yS;refine h.C8 .node (l:=mR p.bag ev wv nv y c s.ticks) (l':=mR p.bag ev wv nv y c (s.ticks+1)) rfl yS ?_ ?_ ?_ hi rfl ?_
 ·intro q hq
  simp only[mR,aRt,aRN] at hq;rcases hq with rfl|rfl|⟨j,hj,rfl⟩
  ·exact⟨_,aRj ..,rfl⟩
  ·exact⟨_,aRr _ (aRj ..),rfl⟩
  ·exact⟨(y.lb (j+1),oT y c (j+1)),by simp only[mR,aRt,aRN];exact .inr (.inr ⟨j,hj,rfl⟩),rfl⟩
 ·exact⟨by simp,λb hb hn=>aRb λhh=>hn ⟨_,aRj ..,hh⟩⟩
 ·intro q hq
  have hnb:=h.nbB;simp only[mR,aRt,aRN] at hq;rcases hq with rfl|rfl|⟨j,hj,rfl⟩
  ·exact fS hnb
  ·have h2:H[y.pb]? =some (yT y c):=hB (y.pb,yT y c) (by simp[mR])
   simp only;rw[aRb (λhh=> ?_),h2]
   rw[<-hh,hnb] at h2;injection h2 with h2;injection h2 with _ h2 _
   revert h2
   decide
  ·have h2:H[y.lb (j+1)]? =some (oT y c (j+1)):=hB (y.lb (j+1),oT y c (j+1)) (by simp only[mR,aRt,aRN];exact .inr (.inr ⟨j,hj,rfl⟩))
   simp only;rw[aRb (λhh=> ?_),h2]
   rw[<-hh,hnb] at h2;injection h2 with h2;injection h2 with _ h2 _
   revert h2
   decide
 ·intro j hj
  cases j with
  |node=>exact absurd rfl hj
  |_=>rfl
theorem aOX (h:TickS H0 Hs H Fs F y p ev wv nv c t s vb cb outs)(ht:t<10000000)(hol:outs.length<700)(hm:500<m)(htk:s.ticks+1<=t+1):
  ∀(x0 x2 x5 x6 x7 x8 x9 bQ cG aS aP aQ aO bB bI aR bJ bM bT bN bP aU aV aW aX aY aZ bA bH bO bV cH cJ bX cC bY b9 cA cD cF cM cN cO cQ cW cX cY cS cT cZ dA dE dB dC dF:Value),∃H2 r,Gt (lvl prog pkN m) (aK m) x0 (pt cb) x2 (pt vb) (tE vb cb) x5 x6 x7 x8 x9 bQ cG aS aP aQ aO bB bI aR bJ bM bT bN bP aU aV aW aX aY aZ bA bH bO bV cH cJ bX cC bY b9 cA cD cF cM cN cO cQ cW cX cY cS cT cZ dA dE dB dC dF H=some (r,H2)/\
   Qf H0 Hs Fs y p ev wv nv c (t+1) {s with ticks:=s.ticks+1} vb cb (if(s.ticks+1)%c.every=0 then outs++qD c s else outs) H2 r:=by
 intros;have lc:ld1 (pt cb) H=some (pt y.nb,H):=dI h.cell rfl;have l16:=h.node.ld 16 (.I s.ticks) rfl;have e1:=aOS s.ticks U
 have hi:NInv c (t+1) {s with ticks:=s.ticks+1}:={h.node.inv.Ak (Nat.le_succ t) with ticks:=htk};have hn:NodeAt H0 H F y p ev wv nv c (t+1) s:={h.node with inv:=h.node.inv.Ak (Nat.le_succ t)};obtain⟨H1,hH1⟩:=aD (H.set y.nb (wT p.bag ev wv nv y c (s.ticks+1)));have st:stN 1 (.Q y.nb 16) (.I ((s.ticks+1:Nat):Int)) H=some (undef,H1):=by rw[hH1];exact mZ h.node.nbB aC (by simp[P8])
 obtain⟨g1,mv1⟩:=hn.aOR hi;rw[<-hH1] at g1 mv1;have h1:=h.vK g1 mv1;have lc1:ld1 (pt cb) H1=some (pt y.nb,H1):=dI h1.cell rfl;have l16':=h1.node.ld 16 (.I (s.ticks+1:Nat)) rfl;have l7:=h1.node.ld 7 (.I c.every) rfl;have hev:=h.node.ok.every;have r1:bin prog .rem 3 (.I ((s.ticks+1:Nat):Int)) (.I c.every)=some (.I (((s.ticks+1)%c.every:Nat):Int)):=yC (s.ticks+1) c.every _ rfl U
 unfold Gt;by_cases hz:(s.ticks+1)%c.every=0
 ·have c1:((((s.ticks+1)%c.every:Nat):Int)==0)=true:=by rw[hz];rfl
  obtain⟨H2,x1,h2⟩:=aOP h1 (m:=m) U U U
  obtain⟨v,us,r,hr⟩:=h2.rows;have lv:ld1 (pt vb) H2=some (v,H2):=dI r rfl;simp only[gsR,lc,l16,cU,e1,st,lc1,l16',l7,r1,c1,x1,lv];refine⟨_,_,rfl,F,us,?_,?_⟩
  ·rw[if_pos hz]
   exact h2
  ·rw[if_pos hz]
   exact hr
 ·have c1:((((s.ticks+1)%c.every:Nat):Int)==0)=false:=by rw[beq_eq_false_iff_ne];omega
  obtain⟨v,us,r,hr⟩:=h1.rows;have lv:ld1 (pt vb) H1=some (v,H1):=dI r rfl;simp only[gsR,lc,l16,cU,e1,st,lc1,l16',l7,r1,c1,lv];refine⟨_,_,rfl,F,us,?_,?_⟩
  ·rw[if_neg hz]
   exact h1
  ·rw[if_neg hz]
   exact hr
theorem aOY {mt:List Int}{mb:Nat}{Q:aE->Value->Prop}(hml:mt.length=c.aI)(hmr: ∀z∈mt,z= -1∨0<=z/\z<(c.aI:Int))(ht:t<9000000)(h6:c.aI<=6)(hmv:mb≠vb)(hm:500<m)
  (hK: ∀(H':aE)(F':Part->Nat->Prop),TickS H0 Hs H' Fs F' y p ev wv nv c (t+c.aI) (gO c mt s c.aI).1 vb cb (gO c mt s c.aI).2-> ∀(x0 x2 x5 x6 x7 x8 x9 bQ cG aS aP aQ aO bB bI aR bJ bM bT bN bP aU aV aW aX aY aZ bA bH bO bV cH cJ bX cC bY b9 cA cD cF cM cN cO cQ cW cX cY cS cT cZ dA dE dB dC dF:Value),∃H2 r,Gt (lvl prog pkN m) (aK m) x0 (pt cb) x2 (pt vb) (tE vb cb) x5 x6 x7 x8 x9 bQ cG aS aP aQ aO bB bI aR bJ bM bT bN bP aU aV aW aX aY aZ bA bH bO bV cH cJ bX cC bY b9 cA cD cF cM cN cO cQ cW cX cY cS cT cZ dA dE dB dC dF H'=some (r,H2)/\Q H2 r):
  ∀(q i l:Nat)(H:aE)(F:Part->Nat->Prop),c.aI-i=q->i<=c.aI->q<l->TickS H0 Hs H Fs F y p ev wv nv c (t+i) (gO c mt s i).1 vb cb (gO c mt s i).2->H[mb]? =some (fH mt [])-> ¬Un F mb-> ∀(x0 x2 x5 x6 x7 x8 x9 bQ cG aS aP aQ aO bB bI aR bJ bM aU aV aW aX aY aZ bA bH bO bV cH cJ bX cC bY b9 cA cD cF cM cN cO cQ cW cX cY cS cT cZ dA dE dB dC dF:Value),
  ∃H2 r,aK l (aM prog (lvl prog pkN m) (aK m) Nv) (Nx (lvl prog pkN m) (aK m)) [x0,(pt cb),x2,(pt vb),(tE vb cb),x5,x6,x7,x8,x9,bQ,cG,aS,aP,aQ,aO,bB,bI,aR,bJ,bM,(eM mb c.aI),(.I c.aI),(.I (i:Nat)),aU,aV,aW,aX,aY,aZ,bA,bH,bO,bV,cH,cJ,bX,cC,bY,b9,cA,cD,cF,cM,cN,cO,cQ,cW,cX,cY,cS,cT,cZ,dA,dE,dB,dC,dF] H=some (r,H2)/\Q H2 r:=by
 intro q;induction q with
 |zero=>
  intro i l H F hq hi hl h hmb hmF;intros;obtain⟨l,rfl⟩: ∃l',l=l'+1:=⟨l-1,by omega⟩
  have hie:i=c.aI:=U
  subst hie;have c1:decide ((c.aI:Int)<(c.aI:Int))=false:=by simp
  rw[aK,Zd];simp only[gsR,c1];rw[aKx];exact hK H F h ..
 |succ q ih=>
  intro i l H F hq hi hl h hmb hmF;intros;obtain⟨l,rfl⟩: ∃l',l=l'+1:=⟨l-1,by omega⟩
  have hil:i<c.aI:=U
  have c1:decide ((i:Int)<(c.aI:Int))=true:=by rw[decide_eq_true_eq];omega
  obtain⟨a1,a2⟩:=Ap (c:=c.aI) hmb hml hil;have a1:bS 1 (eM mb c.aI) (.I (i:Int))=some (.Q mb i):=a1;have lc:ld1 (pt cb) H=some (pt y.nb,H):=dI h.cell rfl;have e9:=pE i U
  have hup:=Qh c mt s i;have hul:=Qg c mt s i;have hz:mt.getD i 0= -1∨0<=mt.getD i 0/\mt.getD i 0<(c.aI:Int):=by
   rw[aRe,aRc U,aRD]
   exact hmr _ (List.getElem_mem _)
  rw[aK,Zd];by_cases hneg:0<=mt.getD i 0
  ·obtain⟨o,ho⟩: ∃o:Nat,mt.getD i 0=o:=⟨(mt.getD i 0).toNat,by omega⟩
   have c2:decide ((0:Int)<=(o:Int))=true:=by rw[decide_eq_true_eq];omega
   rw[if_pos hneg,ho,aRC] at hup;rw[ho] at a2 hz;obtain⟨H1,v,g1,rfl,g2,F1,g3,g4⟩:=aOK h (m:=m) (i:=i) (o:=o) U U hil U U hmb hmF hmv
   simp only[gsR,c1,a1,a2,c2,lc,g1,cU,e9];refine ih (i+1) l H1 F1 U U U ?_ g2 g4 ..
   rw[hup];exact g3
  ·have c2:decide ((0:Int)<=mt.getD i 0)=false:=aRV hneg
   rw[if_neg hneg] at hup;simp only[gsR,c1,a1,a2,c2,cU,e9];refine ih (i+1) l H F U U U ?_ hmb hmF ..
   rw[hup];exact {h with node:={h.node with inv:=h.node.inv.Ak U}}
end
section
variable {H0 Hs H : aE} {Fs F : Part → Nat → Prop} {y : Lay} {p : PlanD} {ev wv nv : Value} {c : Cfg} {t : Nat} {s : NS} {m : Nat}
theorem NodeAt.aOZ {H':aE}{g' a':List Nat}(h:NodeAt H0 H F y p ev wv nv c t s)(hg:g'.length=s.g.length)(hf:Fr (λb=>b=y.ga∨b=y.aa) H H')(hB:Blks (j6 y.ab y.ga y.aa g' a') H')(hi:NInv c t {s with g:=g',a:=a'}):
  NodeAt H0 H' F y p ev wv nv c t {s with g:=g',a:=a'}/\Mv (Un F) (Un F) H H':=by
 refine h.C8 .arb (l:=j6 y.ab y.ga y.aa s.g s.a) (l':=j6 y.ab y.ga y.aa g' a') rfl aBm ?_ ?_ hB hi rfl ?_
 ·intro q hq
  simp only[j6,aRt,aRA,or_false] at hq;rcases hq with rfl|rfl|rfl
  ·exact⟨_,aRj ..,rfl⟩
  ·exact⟨_,aRr _ (aRj ..),rfl⟩
  ·exact⟨_,aRr _ (aRr _ (aRj ..)),rfl⟩
 ·refine hf.Bw λb hb=> ?_
  rcases hb with rfl|rfl
  ·exact⟨_,aRr _ (aRj ..),rfl⟩
  ·exact⟨_,aRr _ (aRr _ (aRj ..)),rfl⟩
 ·intro j hj
  cases j with
  |arb=>exact absurd rfl hj
  |_=>rfl
theorem aO0 (h:NodeAt H0 H F y p ev wv nv c t s)(ht:t<8000000)(hm:600<m):
  ∃H' F' v us,lvl prog pkN m (.func 26) [pt y.nb] H=some (v,H')/\NodeAt H0 H' F' y p ev wv nv c (t+7) (sJ c s).1/\Mv (Un F) (Un F') H H'/\OutR H' (λb=>H.length<=b/\ ¬Un F' b) v us (sJ c s).2:=by
 have h6:c.aI<=6:=by have:=h.ok.by';unfold Cfg.aI;omega
 have hp1:1<=c.aI:=by unfold Cfg.aI;omega
 obtain⟨H1,hH1⟩:=aD (H++[pnB y.nb]);obtain⟨H2,hH2⟩:=aD (H1++[wU (.slice none 0 0)]);have e1:H++[Blk.cells (Value.cells (pt y.nb)).toList 62 .fix]=H1:=by rw[hH1];rfl
 have e2:H1++[Blk.cells [Value.slice none 0 0] 72 .fix]=H2:=by rw[hH2];rfl
 have x1:Ext H H1:=by rw[hH1];exact Fr.app _ _ _
 have x2:Ext H1 H2:=by rw[hH2];exact Fr.app _ _ _
 have h1l:H1.length=H.length+1:=by rw[hH1];simp
 have bc:H2[H.length]? =some (pnB y.nb):=by
  have:H1[H.length]? =some (pnB y.nb):=by rw[hH1];exact eC _ _
  rw[x2.2 _ (dT this) id,this]
 have bv:H2[H1.length]? =some (wU (.slice none 0 0)):=by rw[hH2];exact eC _ _
 have hnew: ∀b,H.length<=b-> ¬Un F b:=λb hb hu=>by have:=h.sep.qU b hu;omega
 have g2:=(h.pR x1).pR x2;have T2:TickS H0 H H2 F F y p ev wv nv c t s H1.length H.length []:=
  ⟨g2,Mv.wD (x1.tr x2) _,h.ext.1,bc,hnew _ (aRf _),hnew _ U,by omega,.slice none 0 0,[],bv,⟨Rw.kL,λb ⟨_,_,_,hh⟩=>(by cases hh),rfl,λi u o hu _=>(by cases hu)⟩⟩
 have lc2:ld1 (pt H.length) H2=some (pt y.nb,H2):=dI T2.cell rfl;obtain⟨H3,F3,f1,f2,f3⟩:=aOr g2 (m:=m-1) U
 have T3:=T2.vK f2 f3;obtain⟨s1,hs1⟩:=aD (lA c s);rw[<-hs1] at T3;have lc3:ld1 (pt H.length) H3=some (pt y.nb,H3):=dI T3.cell rfl;have n0:=T3.node.ld 0 (pt y.ab) rfl;obtain⟨H4,k1,k2,x4⟩:=aOl T3.node (m:=m-1) U U
 have T4:=T3.ext x4;have lc4:ld1 (pt H.length) H4=some (pt y.nb,H4):=dI T4.cell rfl;have n0':=T4.node.ld 0 (pt y.ab) rfl;have n6:=T4.node.ld 6 (.I c.rounds) rfl;have n6':=T3.node.ld 6 (.I c.rounds) rfl;have hI:=T4.node.inv;have hr:=T4.node.ok.rounds;obtain⟨H5,mb,r1,r2,r3,r4,r5⟩:=aNF (m:=m-1) (H:=H4) (ab:=y.ab) (ga:=y.ga) (aa:=y.aa) (g:=s1.g) (a:=s1.a) (n:=c.aI) (rows:=lC c s1 c.aI 0) (qb:=H3.length) (rounds:=c.rounds)
  (T4.node.sep.see .arb rfl aBm) h.lay.ga hI.gl hI.al hI.g hI.a hp1 U k2 (vI _ _ _ _) (aOi U) hr.1 U U
 rw[aOj] at r2 r5;obtain⟨mt,hmt⟩:=aD (o6 (mI c s1) c.aI c.rounds s1.g s1.a);rw[<-hmt] at r2 r5;have hM:MatI c.aI mt:=by rw[hmt];exact MatI.aAl U hI.gl hI.al hI.g hI.a
 have hi5:NInv c t {s1 with g:=mt.g,a:=mt.a}:={hI with gl:=hM.gl,al:=hM.al,g:=hM.g,a:=hM.a};obtain⟨g5,mv5⟩:=T4.node.aOZ (hM.gl.trans hI.gl.symm) r4 r5 hi5;have T5:=T4.vK g5 mv5;obtain⟨s2,hs2⟩: ∃s2:NS,s2={s1 with g:=mt.g,a:=mt.a}:=⟨_,rfl⟩;rw[<-hs2] at T5;have hmbF: ¬Un F3 mb:=λhu=>by have:=T4.node.sep.qU mb hu;omega
 have hmbv:mb≠H1.length:=λhh=>by
  obtain⟨v,us,r,_⟩:=T4.rows;have:=dT r;omega
 have e5:cK (eM mb c.aI)=some (.I c.aI):=rfl;have hut:=Qi c mt.m s2 c.aI;have hst:s2.ticks=s.ticks:=by rw[hs2];show s1.ticks=_;rw[hs1,aOU]
 have hres:sJ c s=({(gO c mt.m s2 c.aI).1 with ticks:=(gO c mt.m s2 c.aI).1.ticks+1},if((gO c mt.m s2 c.aI).1.ticks+1)%c.every=0 then(gO c mt.m s2 c.aI).2++qD c (gO c mt.m s2 c.aI).1 else(gO c mt.m s2 c.aI).2):=by
  rw[hut,hst];unfold sJ gO;simp only;rw[hs2,hmt,hs1]
 have main: ∃H' v,lvl prog pkN m (.func 26) [pt y.nb] H=some (v,H')/\
   Qf H0 H F y p ev wv nv c (t+c.aI+1) {(gO c mt.m s2 c.aI).1 with ticks:=(gO c mt.m s2 c.aI).1.ticks+1} H1.length H.length (if((gO c mt.m s2 c.aI).1.ticks+1)%c.every=0 then(gO c mt.m s2 c.aI).2++qD c (gO c mt.m s2 c.aI).1 else(gO c mt.m s2 c.aI).2) H' v:=by
  refine iB (cV rfl) U ?_
  rw[aKy];have e4:(Value.func (.func _) #[] #[pt H1.length,pt H.length])=tE H1.length H.length:=rfl;simp only[gsR,e1,e2,lc2,f1,lc3,n0,k1,n0',yV,lc4,n6,n6',Ib,r1,e5];have T5':TickS H0 H H5 F F3 y p ev wv nv c (t+0) (gO c mt.m s2 0).1 H1.length H.length (gO c mt.m s2 0).2:=T5;refine aOY (Q:=λH' v=>Qf H0 H F y p ev wv nv c (t+c.aI+1) {(gO c mt.m s2 c.aI).1 with ticks:=(gO c mt.m s2 c.aI).1.ticks+1} H1.length H.length (if((gO c mt.m s2 c.aI).1.ticks+1)%c.every=0 then(gO c mt.m s2 c.aI).2++qD c (gO c mt.m s2 c.aI).1 else(gO c mt.m s2 c.aI).2) H' v)
   hM.ml hM.m U h6 hmbv U ?_ c.aI 0 (m-1) H5 F3 U U U T5' r2 hmbF ..
  intro H' F' h';intros;have hul:=Qg c mt.m s2 c.aI;refine aOX h' U U U ?_ ..
  rw[hut,hst];have:=h.inv.ticks;omega
 obtain⟨H',v,q1,F',us,q2,q3⟩:=main;rw[hres];refine⟨H',F',v,us,q1,{q2.node with inv:=q2.node.inv.Ak U},q2.mv,q3⟩
end
theorem aBF: ∀zs:List Int,(zs.map inC).flatten=zs.map λz:Int=>Value.I z
 |[]=>rfl
 |z::zs=>by
  rw[aRF,aRK,aBF zs];rfl
theorem aBG {H:aE}{u:Value}{zs:List Int}(h:Iw H u zs)(hne:zs≠[]): ∃b cap rest,u=kQ b zs.length cap/\H[b]? =some (fH zs rest):=by
 obtain⟨_,⟨rfl,h0⟩|⟨c,cap,rest,rfl,h1,h2,h3⟩⟩:=h
 ·exact absurd (aRs.mp h0) hne
 ·refine⟨c,cap,rest,rfl,?_⟩
  rw[h3,aBF];rfl
section
variable {H : aE} {m : Nat}
theorem aBH {v:Value}{ws:List Int}(hw:Is H v ws)(hok:wOk ws=true)(hm:ws.length+100<m)(hm2:m<=72057594037927936):
  ∃H' wh ww wl wc lc wr lr,lvl prog pkN m (.func 51) [v] H=some (pt wh,H')/\Ext H H'/\Blks (lQ wh ww wl wc lc wr lr ws ⟨ws,0⟩) H'/\ww≠wl/\H.length<=wh/\H.length<=ww/\H.length<=wl:=by
 have hlen:=hw.jX;have hcf:lvl prog pkN (m-1) (.func 86) [v,.func (.func 85) #[] #[]] H=some (.bool (ws.any rW),H):=by
  have:=Wz (H:=H) (m:=m-1) (v:=v) (fv:= .func (.func 85) #[] #[]) (n:=ws.length) (λi=>(ws[i]?.map rW).getD false) hlen U U (λi hi=>by
   have hx:ws[i]? =some ws[i]:=aRc hi;obtain⟨b,o,g1,g2,g3⟩:=hw.fV gW hx .i64;have l1:=(g3 H rfl).2.1 0 _ rfl;refine⟨_,_,g1,l1,?_⟩;have:=W6 (m:=m-1-1-1) U ws[i] H
   rw[hx];exact this)
  rw[this,Cb ws rW _ λi x h=>by rw[h];rfl]
 unfold wOk at hok;simp only[Bool.not_eq_true',Bool.or_eq_false_iff,decide_eq_false_iff_not] at hok;obtain⟨c1,c2,c3⟩:=hok;have e1:((ws.length:Int)==0)=false:=by simpa using c1
 rw[c3] at hcf;have hne:ws≠[]:=λh=>c1 (by rw[h];rfl)
 obtain⟨H1,u1,g1,g2,g3,g4⟩:=Fq (m:=m-1) hw hne U U
 obtain⟨H2,u2,q1,q2,q3,q4⟩:=Fq (m:=m-1) (hw.ext g2) hne U U
 obtain⟨ww,wc,wr,rfl,b1⟩:=aBG g3 hne;obtain⟨wl,lc,lr,rfl,b2⟩:=aBG q3 hne;have n1:=g4 ww ⟨_,_,_,rfl⟩;have n2:=q4 wl ⟨_,_,_,rfl⟩;have hb:bld prog 164 [(0,kQ ww ws.length wc),(1,kQ wl ws.length lc)]=some (.agg #[kQ ww ws.length wc,kQ wl ws.length lc,.int .i64 0]):=rfl;have e6:H2++[Blk.cells (Value.cells (.agg #[kQ ww ws.length wc,kQ wl ws.length lc,.int .i64 0])).toList 164 .fix]=H2++[sN ww wl wc lc ws.length 0]:=rfl;have x3:Ext H2 (H2++[sN ww wl wc lc ws.length 0]):=Fr.app _ _ _;have l1:=dT b1;have l2:=g2.1;have l3:=q2.1;refine⟨H2++[sN ww wl wc lc ws.length 0],H2.length,ww,wl,wc,lc,wr,lr,dH (cV rfl) U ?_,(g2.tr q2).tr x3,λq hq=> ?_,by omega,by omega,n1,by omega⟩
 ·rw[B9]
  simp only[gsR,hlen,e1,c2,decide_false,hcf,g1,q1,hb,e6]
 ·simp only[lQ,aRt,aRA,or_false] at hq
  rcases hq with rfl|rfl|rfl
  ·exact eC _ _
  ·simp only
   rw[x3.2 _ U id,q2.2 _ l1 id,b1]
  ·simp only
   rw[x3.2 _ (dT b2) id,b2]
end
theorem aBJ (y:Lay)(c:Cfg)(i:Nat):dX (fR y c i)=true:=by unfold fR nD;split<;>rfl
theorem aO1 (y:Lay)(i k:Nat):dX (mQ y i k)=true:=rfl
def DnB (c:Cfg)(n x i k:Nat):Prop:=(1<=i/\i<n/\k<c.lanes)∨(i=n/\k<x)
def mS (y:Lay)(c:Cfg)(n nw cs cr:Nat):Part->aE->Prop
 | .host=>λD=>HostAt D y.hb [] [] c.lanes c.queue
 | .whl i=>Blks (if i<nw then lQ (y.wh i) (y.ww i) (y.wl i) (y.wc i) (y.lc i) (y.wr i) (y.lr i) c.weights ⟨c.weights,0⟩ else [])
 | .snd i k=>Blks (if DnB c n cs i k then [(y.sb i k,nB ⟨c.start,c.start+c.room⟩)] else [])
 | .rcv i k=>Blks (if DnB c n cr i k then [(y.rb i k,nA ⟨c.start,0⟩ c.room)] else [])
 |_=>Blks []
def sO (bag:Int)(ev wv nv:Value)(y:Lay)(c:Cfg)(pv:Value):Blk:=
 .cells [.pointer none,.I c.nodes,ev,.I c.lanes,.I c.room,.I c.queue,.I c.rounds,.I c.every,.I bag,wv,.int .u16 c.start,nv,.I c.me,pv,pt y.hb,.pointer none,.I 0] 109 .fix
structure BN (Hs H:aE)(F:Part->Nat->Prop)(bag:Int)(ev wv nv:Value)(y:Lay)(c:Cfg)(n nw cs cr:Nat)(pv:Value):Prop where
 ext:Ext Hs H
 sep:Sep (mS y c n nw cs cr) F H
 new: ∀b,Un F b->Hs.length<=b
 nb:H[y.nb]? =some (sO bag ev wv nv y c pv)
 nbF: ¬Un F y.nb
 nb0:Hs.length<=y.nb
 ports:Rw (fR y c) 114 3 H pv (List.range n)
 pvF: ∀b,cP pv b->Hs.length<=b/\ ¬Un F b
 lanes: ∀i,1<=i->i<n->H[y.lb i]? =some (oT y c i)/\Hs.length<=y.lb i/\ ¬Un F (y.lb i)/\c.lanes<=y.lcap i
 lne: ∀i j,1<=i->i<n->1<=j->j<n->y.lb i=y.lb j->i=j
 ww: ∀i,i<nw->y.ww i≠y.wl i
theorem Dg (y:Lay)(c:Cfg)(n nw cs cr:Nat)(i:Part):DX (mS y c n nw cs cr i):=by
 cases i with
 |host=>exact λD D' h he=>h.ext he
 |_=>exact Blks.dx _
theorem uK {F:Part->Nat->Prop}{i:Part}{G:Nat->Prop}{b:Nat}(h:Un (updI F i G) b):Un F b∨G b:=by
 obtain⟨j,hj⟩:=h;by_cases hji:j=i
 ·rw[hji,iC] at hj
  exact .inr hj
 ·rw[eJ _ _ hji] at hj
  exact .inl ⟨j,hj⟩
section
variable {Hs H : aE} {F : Part → Nat → Prop} {bag : Int} {ev wv nv : Value} {y : Lay} {c : Cfg} {n nw cs cr : Nat} {pv : Value}
theorem BN.aBI {H':aE}(h:BN Hs H F bag ev wv nv y c n nw cs cr pv)(he:Ext H H'):BN Hs H' F bag ev wv nv y c n nw cs cr pv:=by
 refine {h with ext:=h.ext.tr he,sep:=h.sep.ext (Dg _ _ _ _ _ _) he,nb:=by rw[he.2 _ (dT h.nb) id,h.nb],ports:=h.ports.eX λb hb=>he.2 b (h.ports.gM hb) id,lanes:=λi h1 h2=> ?_}
 obtain⟨q1,q2⟩:=h.lanes i h1 h2
 exact⟨by rw[he.2 _ (dT q1) id,q1],q2⟩
theorem BN.Qk {H':aE}{y':Lay}{nw' cs' cr':Nat}(h:BN Hs H F bag ev wv nv y c n nw cs cr pv)(i:Part){l:List (Nat×Blk)}(hB:Blks l H')(he:Ext H H')(hn: ∀q∈l,H.length<=q.1)(hi: ∀b,¬F i b)
  (hcon: ∀j D,updI (mS y c n nw cs cr) i (Blks l) j D->mS y' c n nw' cs' cr' j D)(e1:y'.nb=y.nb)(e2:y'.hb=y.hb)(e3: ∀i,i<n->fR y' c i=fR y c i)(e4:y'.lb=y.lb)(e5:y'.lcap=y.lcap)(e6: ∀i,1<=i->i<n->oT y' c i=oT y c i)(e7: ∀i,i<nw'->y'.ww i≠y'.wl i):
  BN Hs H' (updI F i (InB l)) bag ev wv nv y' c n nw' cs' cr' pv:=by
 have hlt: ∀b,InB l b->b<H'.length:=λb hb=>by
  obtain⟨q,hq,rfl⟩:=hb;exact dT (hB q hq)
 have hge: ∀b,InB l b->H.length<=b:=λb hb=>by
  obtain⟨q,hq,rfl⟩:=hb;exact hn q hq
 have hhas:Has (Blks l) (InB l) H':=Has.Hx hB (λq hq=>⟨q,hq,rfl⟩) hlt
 have hs:=h.sep.Hy i (Dg _ _ _ _ _ _) hi hhas he hge;have hun: ∀b,b<H.length-> ¬Un F b-> ¬Un (updI F i (InB l)) b:=λb hb hF hu=>(uK hu).elim hF λhg=>by have:=hge b hg;omega
 refine⟨h.ext.tr he,hs.xV hcon,λb hb=> ?_,?_,?_,by rw[e1];exact h.nb0,?_,λb hb=>⟨(h.pvF b hb).1,hun b (h.ports.gM hb) (h.pvF b hb).2⟩,λj h1 h2=> ?_,λi j=>by rw[e4];exact h.lne i j,e7⟩
 ·rcases uK hb with hb|hb
  ·exact h.new b hb
  ·exact aRq h.ext.1 (hge b hb)
 ·rw[e1,he.2 _ (dT h.nb) id,h.nb]
  unfold sO;rw[e2]
 ·rw[e1]
  exact hun _ (dT h.nb) h.nbF
 ·have hk:=h.ports.eX (H':=H') λb hb=>he.2 b (h.ports.gM hb) id
  have em:(List.range n).map (fR y' c)=(List.range n).map (fR y c):=List.map_congr_left λi hi=>e3 i (aRO.mp hi)
  unfold Rw at hk⊢;rw[em];exact hk
 ·obtain⟨q1,q2,q3,q4⟩:=h.lanes j h1 h2
  rw[e4,e5,e6 j h1 h2]
  exact⟨by rw[he.2 _ (dT q1) id,q1],q2,hun _ (dT q1) q3,q4⟩
theorem oJ {α:Type}(f:Nat->α)(i:Nat)(x:α):up1 f i x i=x:=if_pos rfl
theorem oB {α:Type}(f:Nat->α){i j:Nat}(x:α)(h:j≠i):up1 f i x j=f j:=if_neg h
theorem Ik {α:Type}(f:Nat->Nat->α)(i k:Nat)(x:α):up2 f i k x i k=x:=if_pos ⟨rfl,rfl⟩
theorem Ax {α:Type}(f:Nat->Nat->α){i k j l:Nat}(x:α)(h: ¬(j=i/\l=k)):up2 f i k x j l=f j l:=if_neg h
theorem BN.whl {H':aE}(h:BN Hs H F bag ev wv nv y c n n 0 0 pv)(hF: ∀i,n<=i-> ∀b,¬F (.whl i) b){wh ww wl wc lc:Nat}{wr lr:List Value}(hB:Blks (lQ wh ww wl wc lc wr lr c.weights ⟨c.weights,0⟩) H')(he:Ext H H')(hne:ww≠wl)(h1:H.length<=wh)(h2:H.length<=ww)(h3:H.length<=wl):
  BN Hs H' (updI F (.whl n) (InB (lQ wh ww wl wc lc wr lr c.weights ⟨c.weights,0⟩))) bag ev wv nv {y with wh:=up1 y.wh n wh,ww:=up1 y.ww n ww,wl:=up1 y.wl n wl,wc:=up1 y.wc n wc,lc:=up1 y.lc n lc,wr:=up1 y.wr n wr,lr:=up1 y.lr n lr} c n (n+1) 0 0 pv:=by
 refine h.Qk (.whl n) hB he (λq hq=> ?_) (hF n (aRf _)) (λj D hD=> ?_) rfl rfl (λi hi=> ?_) rfl rfl (λ_ _ _=>rfl) λi hi=> ?_
 ·simp only[lQ,aRt,aRA,or_false] at hq
  rcases hq with rfl|rfl|rfl
  ·exact h1
  ·exact h2
  ·exact h3
 ·cases j with
  |whl i=>
   by_cases hi:i=n
   ·subst hi
    rw[iC] at hD;simp only[mS];rw[if_pos (Nat.lt_succ_self _),oJ,oJ,oJ,oJ,oJ,oJ,oJ];exact hD
   ·rw[eJ _ _ (λhh=>hi (by injection hh))] at hD
    simp only[mS] at hD⊢;rw[oB _ _ hi,oB _ _ hi,oB _ _ hi,oB _ _ hi,oB _ _ hi,oB _ _ hi,oB _ _ hi];by_cases hin:i<n
    ·rw[if_pos hin] at hD
     rw[if_pos U]
     exact hD
    ·rw[if_neg hin] at hD
     rw[if_neg U]
     exact hD
  |_=>
   rw[eJ _ _ (λhh=>by cases hh)] at hD
   exact hD
 ·unfold fR nD
  simp only;rw[oB _ _ U]
 ·simp only
  by_cases hin:i=n
  ·subst hin
   rw[oJ,oJ];exact hne
  ·rw[oB _ _ hin,oB _ _ hin]
   exact h.ww i U
theorem BN.snd {k b:Nat}(h:BN Hs H F bag ev wv nv y c n (n+1) k k pv)(hF: ∀b,¬F (.snd n k) b)(hb:b=H.length):
  BN Hs (H++[nB ⟨c.start,c.start+c.room⟩]) (updI F (.snd n k) (InB [(b,nB ⟨c.start,c.start+c.room⟩)])) bag ev wv nv {y with sb:=up2 y.sb n k b} c n (n+1) (k+1) k pv:=by
 subst hb;refine h.Qk (.snd n k) (λq hq=> ?_) (Fr.app _ _ _) (λq hq=> ?_) hF (λj D hD=> ?_) rfl rfl (λi hi=>rfl) rfl rfl (λi h1 h2=> ?_) h.ww
 ·simp only[aRt,aRA,or_false] at hq
  subst hq;exact eC _ _
 ·simp only[aRt,aRA,or_false] at hq
  subst hq;exact aRf _
 ·cases j with
  |snd i k'=>
   by_cases hi:i=n/\k'=k
   ·obtain⟨rfl,rfl⟩:=hi
    rw[iC] at hD;simp only[mS];rw[if_pos (.inr ⟨rfl,Nat.lt_succ_self _⟩),Ik];exact hD
   ·rw[eJ _ _ (λhh=>hi (by injection hh with h1 h2;exact⟨h1,h2⟩))] at hD
    simp only[mS] at hD⊢;rw[Ax _ _ hi];by_cases hd:DnB c n k i k'
    ·rw[if_pos hd] at hD
     rw[if_pos (by unfold DnB at hd ⊢; omega)]
     exact hD
    ·rw[if_neg hd] at hD
     rw[if_neg (by unfold DnB at hd ⊢; omega)]
     exact hD
  |_=>
   rw[eJ _ _ (λhh=>by cases hh)] at hD
   exact hD
 ·have: ∀k',mQ {y with sb:=up2 y.sb n k H.length} i k'=mQ y i k':=λk'=>by
   unfold mQ;simp only;rw[Ax _ _ U]
  unfold oT;rw[List.map_congr_left λk' _=>this k']
theorem BN.rcv {k b:Nat}(h:BN Hs H F bag ev wv nv y c n (n+1) (k+1) k pv)(hF: ∀b,¬F (.rcv n k) b)(hb:b=H.length):
  BN Hs (H++[nA ⟨c.start,0⟩ c.room]) (updI F (.rcv n k) (InB [(b,nA ⟨c.start,0⟩ c.room)])) bag ev wv nv {y with rb:=up2 y.rb n k b} c n (n+1) (k+1) (k+1) pv:=by
 subst hb;refine h.Qk (.rcv n k) (λq hq=> ?_) (Fr.app _ _ _) (λq hq=> ?_) hF (λj D hD=> ?_) rfl rfl (λi hi=>rfl) rfl rfl (λi h1 h2=> ?_) h.ww
 ·simp only[aRt,aRA,or_false] at hq
  subst hq;exact eC _ _
 ·simp only[aRt,aRA,or_false] at hq
  subst hq;exact aRf _
 ·cases j with
  |rcv i k'=>
   by_cases hi:i=n/\k'=k
   ·obtain⟨rfl,rfl⟩:=hi
    rw[iC] at hD;simp only[mS];rw[if_pos (.inr ⟨rfl,Nat.lt_succ_self _⟩),Ik];exact hD
   ·rw[eJ _ _ (λhh=>hi (by injection hh with h1 h2;exact⟨h1,h2⟩))] at hD
    simp only[mS] at hD⊢;rw[Ax _ _ hi];by_cases hd:DnB c n k i k'
    ·rw[if_pos hd] at hD
     rw[if_pos (by unfold DnB at hd ⊢; omega)]
     exact hD
    ·rw[if_neg hd] at hD
     rw[if_neg (by unfold DnB at hd ⊢; omega)]
     exact hD
  |_=>
   rw[eJ _ _ (λhh=>by cases hh)] at hD
   exact hD
 ·have: ∀k',mQ {y with rb:=up2 y.rb n k H.length} i k'=mQ y i k':=λk'=>by
   unfold mQ;simp only;rw[Ax _ _ U]
  unfold oT;rw[List.map_congr_left λk' _=>this k']
theorem BN.Qj {H':aE}{N:Nat->Prop}{pv':Value}{n':Nat}(h:BN Hs H F bag ev wv nv y c n nw cs cr pv)(hf:Fr N H H')(hN: ∀b,N b-> ¬Un F b/\Hs.length<=b):
  Ext Hs H'/\Sep (mS y c n nw cs cr) F H':=by
 have hm:Mv N N H H':=⟨hf.1,λ_ h=> .inl h,λb hb hn=>hf.2 b hb hn⟩
 refine⟨⟨aRq h.ext.1 hf.1,λa ha _=> ?_⟩,h.sep.xW (Dg _ _ _ _ _ _) hm λa ha hh=>(hN a hh).1 ha⟩
 rw[hf.2 a (aRp ha h.ext.1) (λhh=>by have:=(hN a hh).2;omega),h.ext.2 a ha id]
end
theorem aBK {α:Type}(f:α->Bool): ∀l:List α,l.length=(l.filter f).length+(l.filter λx=> !f x).length
 |[]=>rfl
 |x::l=>by
  have:=aBK f l;rw[List.filter_cons,List.filter_cons];cases f x
  ·simp
   omega
  ·simp
   omega
theorem aO2 {p:PlanD}{me:Nat}(h:gS p=true)(hm:(me:Int)<p.nodes)(hs:0<=p.start/\p.start<65536):(eW p me).ok/\p.nodes=((eW p me).nodes:Int)/\p.lanes=((eW p me).lanes:Int)/\p.room=((eW p me).room:Int)/\p.queue=((eW p me).queue:Int)/\p.rounds=((eW p me).rounds:Int)/\p.every=((eW p me).every:Int)/\p.start=((eW p me).start:Int)/\
  (∀i,i<(bes p.edges me).length->(bes p.edges me)[i]? =some (((eW p me).by'.getD i 0:Nat):Int))/\wOk p.weights=true:=by
 obtain⟨n,hok⟩:=tB h;have h':=h;unfold gS qW yB wI wi at h;simp only[aRi,decide_eq_true_eq,Bool.not_eq_true'] at h;obtain⟨⟨⟨a1,a2⟩,⟨b1,b2⟩,⟨c1,c2⟩,⟨d1,d2⟩,⟨e1,e2⟩,⟨f1,f2⟩,g1,g2⟩,⟨h3,h4⟩,hwl,hwo,h5,h6⟩:=h;have hw:=hwo;unfold wOk at hwo;simp only[Bool.not_eq_true',Bool.or_eq_false_iff,decide_eq_false_iff_not] at hwo;obtain⟨w1,w2,w3⟩:=hwo;rw[List.any_eq_false] at w3;have hmem: ∀w∈bes p.edges me,0<=w/\w<(n:Int)/\w≠me:=λw hw=>by
  rw[L5] at hw;obtain⟨q1,q2⟩:=hw;rcases q2 with q2|q2
  ·have:=hok.ve.ok _ q2
   unfold okE at this;simp only at this;omega
  ·have:=hok.ve.ok _ q2
   unfold okE at this;simp only at this;omega
 have hn:=hok.hn;have hpw:=Cd p.edges me;have hlen:(bes p.edges me).length<=5:=by
  have k1:=Fw ((bes p.edges me).filter λw=>decide (w<me)) 0 ((me:Int)-1) (hpw.sublist List.filter_sublist) (λx hx=>by
   obtain⟨y1,y2⟩:=List.mem_filter.mp hx;have:=hmem x y1;rw[decide_eq_true_eq] at y2;omega) U
  have k2:=Fw ((bes p.edges me).filter λw=> !decide (w<me)) ((me:Int)+1) ((n:Int)-1) (hpw.sublist List.filter_sublist) (λx hx=>by
   obtain⟨y1,y2⟩:=List.mem_filter.mp hx;have:=hmem x y1;simp only[Bool.not_eq_true',decide_eq_false_iff_not] at y2;omega) U
  have k3:=aBK (λw=>decide (w<(me:Int))) (bes p.edges me)
  have:=hok.h6;omega
 have hget: ∀i,i<(bes p.edges me).length->(bes p.edges me)[i]? =some (((eW p me).by'.getD i 0:Nat):Int):=λi hi=>by
  have hx:=hmem _ (List.getElem_mem hi);show _=some (((((bes p.edges me).map Int.toNat).getD i 0:Nat)):Int)
  rw[aRe,aRn,aRc hi,Option.map_some,aRD,Int.toNat_of_nonneg hx.1]
 have hbl:(eW p me).by'.length=(bes p.edges me).length:=by show((bes p.edges me).map Int.toNat).length=_;simp
 refine⟨⟨?_,?_,?_,?_,?_,?_,?_,?_,?_,?_,?_,?_,?_,?_⟩,?_,?_,?_,?_,?_,?_,?_,hget,hw⟩
 ·show 2<=p.nodes.toNat/\p.nodes.toNat<=6
  omega
 ·show 1<=p.lanes.toNat/\p.lanes.toNat<=3
  omega
 ·show 1<=p.room.toNat/\p.room.toNat<=8
  omega
 ·show 1<=p.queue.toNat/\p.queue.toNat<=8
  omega
 ·show 1<=p.rounds.toNat/\p.rounds.toNat<=4
  omega
 ·show 1<=p.every.toNat/\p.every.toNat<=8
  omega
 ·show p.weights.length=p.lanes.toNat
  omega
 ·intro x hx
  have:=w3 x hx;unfold rW at this;simp only[Bool.or_eq_true,decide_eq_true_eq,not_or] at this;omega
 ·show p.start.toNat<65536
  omega
 ·show me<p.nodes.toNat
  omega
 ·rw[hbl]
  exact hlen
 ·intro w hw
  obtain⟨z,hz,rfl⟩:=aRN.mp hw;have:=hmem z hz;show z.toNat<p.nodes.toNat/\z.toNat≠me
  omega
 ·show((bes p.edges me).map Int.toNat).Nodup
  unfold List.Nodup;rw[List.pairwise_map];refine List.Pairwise.imp_of_mem (λ{a b} ha hb hab=> ?_) hpw
  have h1:=hmem a ha;have h2:=hmem b hb;omega
 ·intro d hd
  show(if d=me then 0 else _)<(eW p me).by'.length+1
  split
  ·omega
  ·split
   ·rename_i j hj
    have:=(List.findIdx?_eq_some_iff_getElem.mp hj).1;show j+1<((bes p.edges me).map Int.toNat).length+1
    omega
   ·omega
 ·show p.nodes=(p.nodes.toNat:Int)
  omega
 ·show p.lanes=(p.lanes.toNat:Int)
  omega
 ·show p.room=(p.room.toNat:Int)
  omega
 ·show p.queue=(p.queue.toNat:Int)
  omega
 ·show p.rounds=(p.rounds.toNat:Int)
  omega
 ·show p.every=(p.every.toNat:Int)
  omega
 ·show p.start=(p.start.toNat:Int)
  omega
def sP (c:Cfg)(n nw cs cr:Nat):Part->Prop
 | .host=>True
 | .whl i=>i<nw
 | .snd i k=>DnB c n cs i k
 | .rcv i k=>DnB c n cr i k
 |_=>False
def FE (F:Part->Nat->Prop)(c:Cfg)(n nw cs cr:Nat):Prop:= ∀j,¬sP c n nw cs cr j-> ∀b,¬F j b
theorem FE.Il {F:Part->Nat->Prop}{c:Cfg}{n nw cs cr n' nw' cs' cr':Nat}{i:Part}{G:Nat->Prop}(h:FE F c n nw cs cr)(hi:sP c n' nw' cs' cr' i)(hm: ∀j,sP c n nw cs cr j->sP c n' nw' cs' cr' j):FE (updI F i G) c n' nw' cs' cr':=λj hj b hb=>by
 by_cases hji:j=i
 ·exact hj (by rw[hji];exact hi)
 ·rw[eJ _ _ hji] at hb
  exact h j (λhd=>hj (hm j hd)) b hb
def Krow (H H':aE):Prop:= ∀(b:Nat)(cs:List Value),H[b]? =some (.cells cs 3 .row)->H'[b]? =some (.cells cs 3 .row)
theorem Krow.ext {H0 H H':aE}(h:Krow H0 H)(he:Ext H H'):Krow H0 H':=λb cs hb=>by
 have:=h b cs hb;rw[he.2 _ (dT this) id,this]
theorem Krow.iw {H H':aE}{v:Value}{zs:List Int}(h:Krow H H')(hv:Iw H v zs):Iw H' v zs:=hv.eX λb hb=>by
 obtain⟨cs,hc⟩:=hv.blk hb;rw[hc,h b cs hc]
section
variable {Hs H : aE} {F : Part → Nat → Prop} {bag : Int} {ev wv nv : Value} {y : Lay} {c : Cfg} {n nw cs cr : Nat} {pv : Value} {m : Nat}
theorem BN.aO3 {H':aE}{N:Nat->Prop}(h:BN Hs H F bag ev wv nv y c n nw cs cr pv)(hf:Fr N H H')(hN: ∀b,N b->b<H.length-> ¬Un F b/\Hs.length<=b/\b≠y.nb/\ ¬cP pv b/\ ∀i,1<=i->i<n->b≠y.lb i):BN Hs H' F bag ev wv nv y c n nw cs cr pv:=by
 have hf':Fr (λb=>N b/\b<H.length) H H':=⟨hf.1,λb hb hn=>hf.2 b hb λhh=>hn ⟨hh,hb⟩⟩
 obtain⟨x1,x2⟩:=h.Qj (pv':=pv) (n':=n) hf' λb hb=>⟨(hN b hb.1 hb.2).1,(hN b hb.1 hb.2).2.1⟩
 have hnb:=dT h.nb;refine {h with ext:=x1,sep:=x2,nb:= ?_,ports:=h.ports.eX λb hb=>hf.2 b (h.ports.gM hb) λhh=>(hN b hh (h.ports.gM hb)).2.2.2.1 hb,lanes:=λi h1 h2=> ?_}
 ·rw[hf.2 _ hnb (λhh=>(hN _ hh hnb).2.2.1 rfl),h.nb]
 ·obtain⟨q1,q2⟩:=h.lanes i h1 h2
  have hl:=dT q1
  exact⟨by rw[hf.2 _ hl (λhh=>(hN _ hh hl).2.2.2.2 i h1 h2 rfl),q1],q2⟩
structure XN (Hs H:aE)(F:Part->Nat->Prop)(y:Lay)(n k xb:Nat)(w:Nat)(lv:Value):Prop where
 blk:H[xb]? =some (.cells [.I w,lv,pt (y.wh n)] 114 .fix)
 xF: ¬Un F xb
 x0:Hs.length<=xb
 rows:Rw (mQ y n) 118 2 H lv (List.range k)
 lvF: ∀b,cP lv b->Hs.length<=b/\ ¬Un F b/\ ∀i,1<=i->i<n->b≠y.lb i
theorem aO4 {b:Nat}{a1 a2:Nat}(H:aE):bld prog 118 [(0,pt a1),(1,pt a2)]=some (.agg #[pt a1,pt a2])/\dR 118 2 1 [.pointer none,.pointer none] [(0,.agg #[pt a1,pt a2])] H=some (.slice (some ⟨H.length,0,none⟩) 1 1,H++[.cells [pt a1,pt a2] 118 .row]):=⟨rfl,rfl⟩
theorem aO5 {p:PlanD}{pl i w xb len:Nat}{bv:Value}(hok:c.ok)(hpl:Hs[pl]? =some (plB p ev wv nv))(h1:1<=n)(e3:p.room=(c.room:Int))(e9:p.start=(c.start:Int))(hm:50<m){nb:Nat}{Hb:aE}{K:Ex->K (Value×aE)}{Q:aE->Value->Prop}
    (hK: ∀H' F' y' lv,y'.nb=nb->BN Hs H' F' bag ev wv nv y' c n (n+1) c.lanes c.lanes pv->FE F' c n (n+1) c.lanes c.lanes->XN Hs H' F' y' n c.lanes xb w lv->Krow Hb H'-> ∀(x0 x1 x3 x4 x6 x7 x9 bQ cG aS aP aQ aO bB bI aR bJ bM bT bN bP aU aV aW aX aY aZ bA bH bO bV cH cJ bX cC bY b9 cA cD cF cM cN cO cQ cS cT cZ dA dE dB dC dF dL dM dN dQ dZ eA eE eF eG eH eK eN eO eZ fA fB fC fD fE fI fJ fK fL fM fN fX fY fZ gC gF gG gH gI iF iG iH iI iJ iK iL iM iN iO iP iQ iR iS iT iV iW iX iY iZ jA jB jC jD jE jH jI jJ jK jL jM jO jQ:Value),∃H2 r,Ns (lvl prog pkN m) (aK m) K x0 x1 (pt pl) x3 x4 (pt nb) x6 x7 (pt xb) x9 bQ cG aS aP aQ aO bB bI aR bJ bM bT bN bP aU aV aW aX aY aZ bA bH bO bV cH cJ bX cC bY b9 cA cD cF cM cN cO cQ bv (.I len) (.I (i:Nat)) cS cT cZ dA dE dB dC dF dL dM dN dQ dZ eA eE eF eG eH eK eN eO eZ fA fB fC fD fE fI fJ fK fL fM fN fX fY fZ gC gF gG gH gI iF iG iH iI iJ iK iL iM iN iO iP iQ iR iS iT iV iW iX iY iZ jA jB jC jD jE jH jI jJ jK jL jM jO jQ H'=some (r,H2)/\Q H2 r):
    ∀(q k l:Nat)(H:aE)(F:Part->Nat->Prop)(y:Lay)(lv:Value),c.lanes-k=q->k<=c.lanes->q<l->y.nb=nb->BN Hs H F bag ev wv nv y c n (n+1) k k pv->FE F c n (n+1) k k->XN Hs H F y n k xb w lv->Krow Hb H-> ∀(x0 x1 x3 x4 x6 x7 x9 bQ cG aS aP aQ aO bB bI aR bJ bM bT bN bP aU aV aW aX aY aZ bA bH bO bV cH cJ bX cC bY b9 cA cD cF cM cN cO cQ cS cT cZ dA dE dB dC dF dL dQ dZ eA eE eF eG eH eK eN eO eZ fA fB fC fD fE fI fJ fK fL fM fN fX fY fZ gC gF gG gH gI iF iG iH iI iJ iK iL iM iN iO iP iQ iR iS iT iV iW iX iY iZ jA jB jC jD jE jH jI jJ jK jL jM jO jQ:Value),
    ∃H2 r,aK l (aM prog (lvl prog pkN m) (aK m) Nq) (Nu (lvl prog pkN m) (aK m) K) [x0,x1,(pt pl),x3,x4,(pt nb),x6,x7,(pt xb),x9,bQ,cG,aS,aP,aQ,aO,bB,bI,aR,bJ,bM,bT,bN,bP,aU,aV,aW,aX,aY,aZ,bA,bH,bO,bV,cH,cJ,bX,cC,bY,b9,cA,cD,cF,cM,cN,cO,cQ,bv,(.I len),(.I (i:Nat)),cS,cT,cZ,dA,dE,dB,dC,dF,dL,(.I c.lanes),(.I (k:Nat)),dQ,dZ,eA,eE,eF,eG,eH,eK,eN,eO,eZ,fA,fB,fC,fD,fE,fI,fJ,fK,fL,fM,fN,fX,fY,fZ,gC,gF,gG,gH,gI,iF,iG,iH,iI,iJ,iK,iL,iM,iN,iO,iP,iQ,iR,iS,iT,iV,iW,iX,iY,iZ,jA,jB,jC,jD,jE,jH,jI,jJ,jK,jL,jM,jO,jQ] H=some (r,H2)/\Q H2 r:=by
  intro q;induction q with
  |zero=>
    intro k l H F y lv hq hk hl hnb h hfe hx hkr;intros;obtain⟨l,rfl⟩: ∃l',l=l'+1:=⟨l-1,by omega⟩
    have hke:k=c.lanes:=U
    subst hke;have c1:decide ((c.lanes:Int)<(c.lanes:Int))=false:=by simp
    rw[aK,Zb];simp only[gsR,c1];rw[aKv];exact hK H F y lv hnb h hfe hx hkr ..
  |succ q ih=>
    intro k l H F y lv hq hk hl hnb h hfe hx hkr;intros;obtain⟨l,rfl⟩: ∃l',l=l'+1:=⟨l-1,by omega⟩
    have h3:=hok.lanes.2;have hst:=hok.start;have hrm:=hok.room;have hkl:k<c.lanes:=U
    have c1:decide ((k:Int)<(c.lanes:Int))=true:=by rw[decide_eq_true_eq];omega
    have hpH: ∀G:aE,Ext Hs G->G[pl]? =some (plB p ev wv nv):=λG hG=>by rw[hG.2 _ (dT hpl) id,hpl]
    -- the ends
    obtain⟨H1,hH1⟩:=aD (H++[nB ⟨c.start,c.start+c.room⟩]);obtain⟨H2,hH2⟩:=aD (H1++[nA ⟨c.start,0⟩ c.room]);have x1:Ext H H1:=by rw[hH1];exact Fr.app _ _ _
    have x2:Ext H1 H2:=by rw[hH2];exact Fr.app _ _ _
    have h1l:H1.length=H.length+1:=by rw[hH1];simp
    have h2l:H2.length=H.length+2:=by rw[hH2];simp;omega
    have g1:=h.snd (hfe (.snd n k) (by unfold sP DnB;omega)) (b:=H.length) rfl
    rw[<-hH1] at g1;have fe1:FE _ c n (n+1) (k+1) k:=hfe.Il (i:= .snd n k) (G:=InB [(H.length,nB ⟨c.start,c.start+c.room⟩)]) (n':=n) (nw':=n+1) (cs':=k+1) (cr':=k) (show DnB c n (k+1) n k from .inr ⟨rfl,by omega⟩) (λj hj=>by
      cases j<;>simp only[sP] at hj⊢ <;>(try exact hj)<;>(unfold DnB at hj ⊢; omega))
    have g2:=g1.rcv (fe1 (.rcv n k) (by unfold sP DnB;omega)) (b:=H1.length) rfl
    rw[<-hH2] at g2;have fe2:FE _ c n (n+1) (k+1) (k+1):=fe1.Il (i:= .rcv n k) (G:=InB [(H1.length,nA ⟨c.start,0⟩ c.room)]) (n':=n) (nw':=n+1) (cs':=k+1) (cr':=k+1) (show DnB c n (k+1) n k from .inr ⟨rfl,by omega⟩) (λj hj=>by
      cases j<;>simp only[sP] at hj⊢ <;>(try exact hj)<;>(unfold DnB at hj ⊢; omega))
    obtain⟨F2,hF2⟩:=aD (updI (updI F (.snd n k) (InB [(H.length,nB ⟨c.start,c.start+c.room⟩)])) (.rcv n k) (InB [(H1.length,nA ⟨c.start,0⟩ c.room)]));obtain⟨y2,hy2⟩: ∃y2:Lay,y2={y with sb:=up2 y.sb n k H.length,rb:=up2 y.rb n k H1.length}:=⟨_,rfl⟩;rw[<-hF2] at g2 fe2;have g2:BN Hs H2 F2 bag ev wv nv y2 c n (n+1) (k+1) (k+1) pv:=by rw[hy2];exact g2
    have hun2: ∀b,b<H.length-> ¬Un F b-> ¬Un F2 b:=λb hb hF hu=>by
      rw[hF2] at hu;rcases uK hu with hu|⟨q,hq,rfl⟩
      · rcases uK hu with hu|⟨q,hq,rfl⟩
        · exact hF hu
        · simp only[aRt,aRA,or_false] at hq
          subst hq;simp at hb
      · simp only[aRt,aRA,or_false] at hq
        subst hq;simp only at hb;omega
    -- the row of one
    obtain⟨eb,es⟩:=aO4 (b:=0) (a1:=H.length) (a2:=H1.length) H2;have hl2:mQ y2 n k=[pt H.length,pt H1.length]:=by
      rw[hy2];unfold mQ;simp only;rw[Ik,Ik]
    have hrow:Rw (mQ y2 n) 118 2 H2 lv (List.range k):=by
      have hk0:=hx.rows.eX (H':=H2) λb hb=>(x1.tr x2).2 b (hx.rows.gM hb) id
      have em:(List.range k).map (mQ y2 n)=(List.range k).map (mQ y n):=List.map_congr_left λj hj=>by
        have hj:=aRO.mp hj;rw[hy2];unfold mQ;simp only;rw[Ax _ _ U,Ax _ _ U]
      unfold Rw at hk0⊢;rw[em];exact hk0
    have hw1:Rr (mQ y2 n) 118 (H2++[.cells [pt H.length,pt H1.length] 118 .row]) (.slice (some ⟨H2.length,0,none⟩) 1 1) [k]:=by
      have:=xS (el:=mQ y2 n) (e:=118) k H2;rw[hl2] at this;exact this
    obtain⟨H3,hH3⟩:=aD (H2++[Blk.cells [pt H.length,pt H1.length] 118 .row]);have h3l:H3.length=H2.length+1:=by rw[hH3];simp
    obtain⟨lv',H4,k1,k2,k3,k4,k5⟩:=(hrow.wC [Blk.cells [pt H.length,pt H1.length] 118 .row]).xT (aBo y2 n) (aO1 y2 n) aC (by':=16) hw1.rs (gX (n:=1000) aC (by simp;omega))
    rw[<-hH3] at k1 k3 k4 k5 es;rw[<-aRJ] at k2
    -- stored
    have hxl:=dT hx.blk;have hlvx: ¬cP lv xb:=λhh=>by
      obtain⟨cs',hc'⟩:=hx.rows.blk hh;rw[hx.blk] at hc';injection hc' with hc';injection hc' with _ _ h3;cases h3
    have bx2:H2[xb]? =some (.cells [.I w,lv,pt (y.wh n)] 114 .fix):=by rw[(x1.tr x2).2 _ hxl id,hx.blk]
    have bx1:H1[xb]? =some (.cells [.I w,lv,pt (y.wh n)] 114 .fix):=by rw[x1.2 _ hxl id,hx.blk]
    have bx4:H4[xb]? =some (.cells [.I w,lv,pt (y.wh n)] 114 .fix):=by rw[k4 xb U hlvx,hH3,aRd U,bx2]
    have sh:=Aw k2;obtain⟨H5,hH5⟩:=aD (H4.set xb (.cells [.I w,lv',pt (y.wh n)] 114 .fix));have st:stN 1 (.Q xb 1) lv' H4=some (undef,H5):=by rw[hH5];exact pP bx4 aC (by simp) sh.1 sh.2
    have hfr:Fr (λb=>b=xb∨cP lv b) H2 H5:=⟨by rw[hH5];simp;omega,λb hb hn=>by
      rw[hH5,aRb (λhh=>hn (.inl hh.symm)),k4 b U (λhh=>hn (.inr hh)),hH3,aRd hb]⟩
    have hnbx:xb≠y.nb:=λhh=>by
      have:=h.nb;rw[<-hh,hx.blk] at this;injection this with this;injection this with _ h2 _
      revert h2
      decide
    have hpvx: ¬cP pv xb:=λhh=>by
      obtain⟨cs',hc'⟩:=h.ports.blk hh;rw[hx.blk] at hc';injection hc' with hc';injection hc' with _ _ h3;cases h3
    have hlbx: ∀i,1<=i->i<n->xb≠y.lb i:=λi a b hh=>by
      have:=(h.lanes i a b).1;rw[<-hh,hx.blk] at this;injection this with this;injection this with _ _ h3;cases h3
    have g5:BN Hs H5 F2 bag ev wv nv y2 c n (n+1) (k+1) (k+1) pv:=by
      refine g2.aO3 hfr λb hb hbl=> ?_
      have e1:y2.nb=y.nb:=by rw[hy2]
      have e2:y2.lb=y.lb:=by rw[hy2]
      rw[e1,e2];rcases hb with rfl|hb
      · exact⟨hun2 _ hxl hx.xF,hx.x0,hnbx,hpvx,hlbx⟩
      · obtain⟨q1,q2,q3⟩:=hx.lvF b hb
        have hbH:=hx.rows.gM hb;refine⟨hun2 _ hbH q2,q1,λhh=> ?_,λhh=> ?_,q3⟩
        · obtain⟨cs',hc'⟩:=hx.rows.blk hb
          rw[hh,h.nb] at hc';injection hc' with hc';injection hc' with _ _ h3;cases h3
        · obtain⟨cs',hc'⟩:=hx.rows.blk hb
          obtain⟨cs2,hc2⟩:=h.ports.blk hh;rw[hc'] at hc2;injection hc2 with hc2;injection hc2 with _ h2 _
          revert h2
          decide
    have hwh:y2.wh=y.wh:=by rw[hy2]
    have hlv'x: ¬cP lv' xb:=λhh=>by
      rcases k5 xb hh with hh|hh
      · exact hlvx hh
      · omega
    have hx5:XN Hs H5 F2 y2 n (k+1) xb w lv':=by
      refine⟨by rw[hwh,hH5];exact fS bx4,hun2 _ hxl hx.xF,hx.x0,k2.eX λb hb=>by rw[hH5];exact aRb λhh=>hlv'x (by rw[hh];exact hb),λb hb=> ?_⟩
      have e2:y2.lb=y.lb:=by rw[hy2]
      rw[e2];have hsl:=h.ext.1;rcases k5 b hb with hb|hb
      · obtain⟨q1,q2,q3⟩:=hx.lvF b hb
        exact⟨q1,hun2 _ (hx.rows.gM hb) q2,q3⟩
      · refine⟨by omega,λhu=>by have:=g2.sep.qU b hu;omega,λi a b' hh=> ?_⟩
        have:=dT (h.lanes i a b').1;omega
    -- the walk
    have hp0:=hpH H h.ext;have hp1:=hpH H1 (h.ext.tr x1);have l9:ld1 (.Q pl 9) H=some (.int .u16 c.start,H):=by rw[eP hp0 9 (.int .u16 p.start) rfl,e9]
    have l3:ld1 (.Q pl 3) H=some (.I c.room,H):=by rw[eP hp0 3 (.I p.room) rfl,e3]
    have l9':ld1 (.Q pl 9) H1=some (.int .u16 c.start,H1):=by rw[eP hp1 9 (.int .u16 p.start) rfl,e9]
    have l3':ld1 (.Q pl 3) H1=some (.I c.room,H1):=by rw[eP hp1 3 (.I p.room) rfl,e3]
    have ecs:IntKind.u64.wrap (c.start:Int)=(c.start:Int):=Ad _ U
    have s1:=aLE (H:=H) (m:=m) U c.start c.room hst hrm
    have s2:=aLC (H:=H1) (m:=m) U c.start c.room hst hrm
    rw[<-hH1] at s1;rw[<-hH2] at s2;have lx:ld1 (.pointer (some ⟨xb,1,none⟩)) H=some (lv,H):=dI hx.blk rfl;have lx1:ld1 (.pointer (some ⟨xb,1,none⟩)) H1=some (lv,H1):=dI bx1 rfl;have lx2:ld1 (.pointer (some ⟨xb,1,none⟩)) H2=some (lv,H2):=dI bx2 rfl;have lvc:=λG=>aBA hx.rows G
    have ek:=pE k U
    rw[aK,Zb];simp only[gsR,c1,lx,l9,l3,hZ _ _ nQ vD,ecs,s1,lx1,lvc,l9',Ib,l3',s2,lx2,eb,es,k1,st,cU,ek];refine ih (k+1) l H5 F2 y2 lv' U U U (by rw[hy2];exact hnb) g5 fe2 hx5 (λb cs hb=> ?_) ..
    have hb2:=(hkr.ext (x1.tr x2)) b cs hb;rw[hfr.2 b (dT hb2) (λhh=> ?_),hb2]
    rcases hh with rfl|hh
    · rw[bx2] at hb2
      injection hb2 with hb2;injection hb2 with _ _ h3;cases h3
    · obtain⟨cs',hc'⟩:=hrow.blk hh
      rw[hb2] at hc';injection hc' with hc';injection hc' with _ h2 _
      revert h2
      decide
end
end Go.Proofs.YtndnnndnhnlkdaaGreatDoor
