/-
  PARTS OF THIS CLAIM'S PROOF, laid together by a program of mine.
-/
import Derived.Test.YtciiopkbmjppfaaGreatDoorAbsM5
set_option linter.unusedVariables false
set_option linter.unusedSimpArgs false
set_option linter.unusedSectionVars false
set_option maxRecDepth 100000
namespace Go.Proofs.YtciiopkbmjppfaaGreatDoor.Rg
open Go.Proofs.Tryz
open Go.Abs Go.Abs.M
section
variable {H : aF} {a n ports lanes m : Nat} {L : List En}
theorem RI.aO3 {p s mb:Nat}{l:List fL}{top free:Int}{fl:List Nat}{f:gP->Option Value}(hi:RI H a L n ports lanes p s mb l top free fl f){b:Nat}{y x:Pkt}(hb:H[b]? =some (pkB y))(hq: ∀(i q:Nat)(z:Pkt)(d:Int),l[i]? =some (some (q,z),d)->q≠b):
  RI (H.set b (pkB x)) a L n ports lanes p s mb l top free fl f:=by
 have keep: ∀(c:Nat)(z:Blk),H[c]? =some z->(∀cs,z≠ .cells cs 31 .fix)->(H.set b (pkB x))[c]? =some z:=λc z hc hz=>by
  rw[j9 (λhh=>by subst hh;rw[hb] at hc;cases hc;exact hz _ rfl),hc]
 refine⟨keep _ _ hi.hd (λcs hh=>by cases hh),⟨⟨keep _ _ hi.pool.pool.hp (λcs hh=>by cases hh),keep _ _ hi.pool.pool.hs (λcs hh=>by cases hh),λi q z d hl=>by
  rw[j9 (hq i q z d hl),hi.pool.pool.hq i q z d hl]⟩,hi.pool.chain,hi.pool.nodup,hi.pool.full,hi.pool.cnt,hi.pool.len⟩,hi.len,hi.cnt,hi.nd,hi.full,?_,hi.no,λw v hv=>⟨?_,(hi.yes w v hv).2⟩,hi.sep,hi.b1,hi.b2⟩
 ·obtain⟨es,c,h1,h2⟩:=hi.mp
  exact⟨es,c,keep _ _ h1 (λcs hh=>by cases hh),h2⟩
 ·refine(hi.yes w v hv).1.sH λc hc=> ?_
  obtain⟨xs,hx⟩:=(hi.yes w v hv).1.blk hc;rw[hx];exact keep _ _ hx (λcs hh=>by cases hh)
theorem aO4 (h:IsRings H a L n ports lanes)(hm:100<m)(i o k:Int)(hp:lS L (i,o,k)=[]):
  ∃H',lvl prog pk8 m (.func 132) [.Q a 0,.I i,.I o,.I k] H=some (tR [],H')/\Ext H H':=by
 obtain⟨H1,g1,g2⟩:=aCq (h.app [pkB pk0]) (m:=m-1) U i o k
 rw[hp] at g1;have hv:tR []= .tuple #[pk0.cE,.bool false]:=rfl;rw[hv] at g1;have hb0:H1[H.length]? =some (pkB pk0):=by rw[g2.2 H.length (by simp) id];simp
 have hl1:H.length<H1.length:=by have:=g2.1;simp at this;omega
 have hst:stN 4 (.Q H1.length 0) pk0.cE (H1++[pkB pk0])=some (undef,H1++[pkB pk0]):=Q2 H1 pk0;have hld:ldN 4 (.Q H1.length 0) (H1++[pkB pk0])=some (pk0.cE,H1++[pkB pk0]):=vK (by simp)
 have hb1:(H1++[pkB pk0])[H.length]? =some (pkB pk0):=by rw[aUg hl1,hb0]
 have hst2:stN 4 (.Q H.length 0) pk0.cE (H1++[pkB pk0])=some (undef,H1++[pkB pk0]):=by
  rw[Q3 (y:=pk0) hb1,Dy hb1]
 have hld2:ldN 4 (.pointer (some ⟨H.length,0,none⟩)) (H1++[pkB pk0])=some (pk0.cE,H1++[pkB pk0]):=vK hb1;refine⟨H1++[pkB pk0],aS (aQ rfl) U ?_,⟨by simp;omega,λb hb _=> ?_⟩⟩
 ·rw[Qm]
  simp -implicitDefEqProofs only[gsB,xI,x_newB,g1,ext_0,ext_1,hst,hld,hst2,hld2,r_opt,ob_some,iteV_false,oneOf_two];rfl
 ·rw[aUg U,g2.2 b (by simp;omega) id,aUg hb]
theorem aO5 (h:IsRings H a L n ports lanes)(hm:100<m)(i o k:Int){x:Pkt}{xs:List Pkt}(hp:lS L (i,o,k)=x::xs):
  ∃H',lvl prog pk8 m (.func 132) [.Q a 0,.I i,.I o,.I k] H=some (.tuple #[x.cE,.bool true],H')/\Ch AR H H'/\IsRings H' a (lC L (i,o,k)) n ports lanes:=by
 obtain⟨H1,g1,g2⟩:=aCq (h.app [pkB pk0]) (m:=m-1) U i o k
 rw[hp] at g1;have hv:tR (x::xs)= .tuple #[x.cE,.bool true]:=rfl;rw[hv] at g1;obtain⟨w,hw⟩: ∃w:gP,w=(i,o,k):=⟨_,rfl⟩;obtain⟨p,s,mb,l,top,free,fl,f,hi0⟩:=h;have hqlt: ∀(j q:Nat)(z:Pkt)(d:Int),l[j]? =some (some (q,z),d)->q<H.length:=λj q z d hl=>(aUd.mp (hi0.pool.pool.hq j q z d hl)).1
 have hl1:H.length<H1.length:=by have:=g2.1;simp at this;omega
 have hi1:RI H1 a L n ports lanes p s mb l top free fl f:=hi0.Ib λb y hb _=>by
  have hlt:=(aUd.mp hb).1;rw[g2.2 b (by simp;omega) id,aUg hlt,hb]
 have hb0:H1[H.length]? =some (pkB pk0):=by rw[g2.2 H.length (by simp) id];simp
 obtain⟨WB,hWB⟩: ∃WB:Blk,WB= .cells [.int .i64 i,.int .i64 o,.int .i64 k] 189 .fix:=⟨_,rfl⟩;obtain⟨H5,hH5⟩:=aD (H1++[pkB x]++[WB]);have hst1:stN 4 (.pointer (some ⟨H1.length,0,none⟩)) x.cE (H1++[pkB pk0])=some (undef,H1++[pkB x]):=Q2 H1 x;have hst2:=Q4 (i,o,k) (H1++[pkB x]);simp only at hst2;rw[<-hWB,<-hH5] at hst2;have hi:RI H5 a L n ports lanes p s mb l top free fl f:=by rw[hH5];exact(hi1.app _).app _
 have hc5:Ch AR H H5:=by
  refine(Ch.app AR H [pkB pk0]).wJ ((Ch.ext g2).wJ ?_);rw[hH5,aUk];exact Ch.app _ _ _
 have at0:H5[H.length]? =some (pkB pk0):=by rw[hH5,aUk,aUg hl1,hb0]
 have at4:H5[H1.length]? =some (pkB x):=by rw[hH5,aUk,aUx (aUi _)];simp
 have atW:H5[(H1++[pkB x]).length]? =some WB:=by rw[hH5,uP]
 have l0:=hi.ld0;have l1:=hi.ld1;have hldw:ldN 3 (.Q ((H1++[pkB x]).length) 0) H5=some (kM (i,o,k),H5):=Aa (by rw[atW,hWB])
 obtain⟨v,hf⟩: ∃v,f w=some v:=by
  cases hf:f w with
  |some v=>exact⟨v,rfl⟩
  |none=>
   have:=hi.no w hf;have h2:=Qz L w;rw[this,hw,hp] at h2;simp at h2
 have hg:=hi.mp.xK vJ w (.N);rw[hf] at hg;simp only[aUG] at hg;obtain⟨hr,hne⟩:=hi.yes w v hf;obtain⟨k0,ks,hq⟩: ∃k0 ks,qOf L w=k0::ks:=by
  cases hx:qOf L w with
  |nil=>exact absurd hx hne
  |cons a b=>exact⟨a,b,rfl⟩
 obtain⟨x',xs',hp',hin,hlen,hrest⟩:=Qw hq;rw[hw,hp] at hp';cases hp';rw[hq] at hr;obtain⟨bb,oo,a1,a2,a3⟩:=hr.Xy (i:=0) (x:=jV k0) rfl .i64;have a1':cN 1 v (.I 0)=some (.Q bb oo):=a1;have hk0:jV k0= .I k0:=rfl;obtain⟨q0,d0,hslot⟩:=hi.full _ hin;obtain⟨H6,hd,hM6,hmore⟩:=hi.pool.aOO (pr:=pk8) (aQ rfl) (aQ rfl) (m:=m-1) U k0 (q0,x) d0 hslot
 have keep6:=hi.aCs hmore.same;have c6:Ch AR H5 H6:=⟨hmore.len,λb y hy hn'=>keep6 b y hy (λcs hh=>hn' (by rw[hh];exact .inl ⟨rfl,rfl⟩)) (λcs hh=>hn' (by rw[hh];exact .inr (.inl ⟨rfl,rfl⟩)))⟩
 have hd6:=keep6 _ _ hi.hd (λcs hh=>by cases hh) (λcs hh=>by cases hh)
 have l16:ld1 (.Q a 1) H6=some (.map (some mb),H6):=by rw[fI,hd6];rfl
 have at06:=keep6 _ _ at0 (λcs hh=>by cases hh) (λcs hh=>by cases hh)
 have at46:=keep6 _ _ at4 (λcs hh=>by cases hh) (λcs hh=>by cases hh)
 have atW6:H6[(H1++[pkB x]).length]? =some WB:=keep6 _ _ atW (λcs hh=>by rw[hWB] at hh;cases hh) (λcs hh=>by rw[hWB] at hh;cases hh)
 have hldw6:ldN 3 (.Q ((H1++[pkB x]).length) 0) H6=some (kM (i,o,k),H6):=Aa (by rw[atW6,hWB])
 have hm6:IsMap kM H6 mb f:=by
  obtain⟨es,c,e1,e2⟩:=hi.mp
  exact⟨es,c,keep6 _ _ e1 (λcs hh=>by cases hh) (λcs hh=>by cases hh),e2⟩
 have hq6: ∀w' v',f w'=some v'->RowO 3 H6 v' ((qOf L w').map jV):=λw' v' hf'=>by
  have:=(hi.yes w' v' hf').1;refine this.sH λb hb=> ?_
  obtain⟨ys,hys⟩:=this.blk hb;rw[hys,keep6 _ _ hys (λcs hh=>by cases hh) (λcs hh=>by cases hh)]
 have hg6:=hm6.xK vJ w (.N);rw[hf] at hg6;simp only[aUG] at hg6;have hr6:=hq6 w v hf;rw[hq] at hr6;obtain⟨v',hcut,hrow',hhome⟩:=RowO.aIj (P:=prog) (x:=jV k0) (cs:=ks.map jV) hr6 szI;obtain⟨X,hset,hm7,⟨xe,xc,hX⟩⟩:=hm6.aOV vJ w v' (by rw[hf];simp)
 obtain⟨H7,hH7⟩:=aD (H6.set mb X);rw[<-hH7] at hset hm7;have hmb6: ∃es c,H6[mb]? =some (.map es c):=by
  obtain⟨es,c,e1,e2⟩:=hm6
  exact⟨_,_,e1⟩
 have k67: ∀(b:Nat)(cs:List Value)(e:TypeId)(kk:Kind),H6[b]? =some (.cells cs e kk)->H7[b]? =some (.cells cs e kk):=λb cs e kk hb=>by
  have hne:b≠mb:=λhh=>by
   subst hh;obtain⟨es,c,e1⟩:=hmb6;rw[hb] at e1;cases e1
  rw[hH7,j9 hne,hb]
 have len7:H7.length=H6.length:=by rw[hH7];simp
 have l17:ld1 (.Q a 1) H7=some (.map (some mb),H7):=by rw[fI,k67 _ _ _ _ hd6];rfl
 have hldw7:ldN 3 (.Q ((H1++[pkB x]).length) 0) H7=some (kM (i,o,k),H7):=Aa (by rw[hWB] at atW6;rw[k67 _ _ _ _ atW6])
 have hg7:=hm7.xK vJ w (.N);have hupd:upd f w (some v') w=some v':=by unfold upd;rw[if_pos rfl]
 rw[hupd] at hg7;simp only[aUG] at hg7;have hlen':=hrow'.Lo;have c7:Ch AR H6 H7:=by
  obtain⟨es,c,e1⟩:=hmb6;rw[hH7];exact Ch.Xx e1 trivial _
 have fin: ∀(H8:aF)(f8:gP->Option Value),Ch AR H7 H8->(∀(b:Nat)(cs:List Value)(e:TypeId)(kk:Kind),H6[b]? =some (.cells cs e kk)->H8[b]? =some (.cells cs e kk))->H6.length<=H8.length->IsMap kM H8 mb f8->
   (∀w',w'≠w->f8 w'=f w')->(f8 w=some v'/\ks≠[]∨f8 w=none/\ks=[])->
   ldN 4 (.Q H1.length 0) H8=some (x.cE,H8)/\stN 4 (.Q H.length 0) x.cE H8=some (undef,H8.set H.length (pkB x))/\ldN 4 (.Q H.length 0) (H8.set H.length (pkB x))=some (x.cE,H8.set H.length (pkB x))/\Ch AR H (H8.set H.length (pkB x))/\IsRings (H8.set H.length (pkB x)) a (lC L w) n ports lanes:=by
  intro H8 f8 c8 k68 hl8 hm8 hoth hself;have at48:=k68 _ _ _ _ at46;have at08:=k68 _ _ _ _ at06;have at08':H8[H.length]? =some (pkB pk0):=at08;have hlt8:=(aUd.mp at08).1;refine⟨vK at48,Q3 at08',vK (aUj hlt8),?_,?_⟩
  ·refine⟨by simp;omega,λb y hy hn'=> ?_⟩
   have hltb:=(aUd.mp hy).1;rw[j9 U]
   exact(((hc5.wJ c6).wJ c7).wJ c8).2 b y hy hn'
  ·have hRI:RI H8 a (lC L w) n ports lanes p s mb (l.set k0 (none,top)) k0 (free+1) (k0::fl) f8:=by
    refine⟨k68 _ _ _ _ hd6,hM6.aCp λb cs e kk hb _=>k68 b cs e kk hb,by simp[hi.len],by have:=hi.cnt;simp;omega,?_,?_,hm8,?_,?_,?_,hi.b1,hi.b2⟩
    ·exact(List.Sublist.map _ (List.eraseP_sublist)).nodup hi.nd
    ·intro e he
     obtain⟨h1,h2⟩:=hrest e he;obtain⟨q',d',hs⟩:=hi.full e h1
     exact⟨q',d',by rw[aUe (λhh=>h2 hi.nd hh.symm),hs]⟩
    ·intro w' hw'
     by_cases hww:w'=w
     ·subst hww
      rw[Cv,if_pos rfl,hq];rcases hself with⟨h1,_⟩|⟨_,h2⟩
      ·rw[h1] at hw';cases hw'
      ·exact h2
     ·rw[hoth w' hww] at hw'
      rw[Cv,if_neg (λhh=>hww hh.symm)]
      exact hi.no w' hw'
    ·intro w' u hw'
     by_cases hww:w'=w
     ·subst hww
      rw[Cv,if_pos rfl,hq];rcases hself with⟨h1,h2⟩|⟨h1,_⟩
      ·rw[h1] at hw'
       cases hw';refine⟨hrow'.sH λb hb=> ?_,h2⟩
       obtain⟨ys,hys⟩:=hrow'.blk hb;rw[hys,k68 _ _ _ _ hys]
      ·rw[h1] at hw';cases hw'
     ·rw[hoth w' hww] at hw'
      rw[Cv,if_neg (λhh=>hww hh.symm)]
      refine⟨(hq6 w' u hw').sH λb hb=> ?_,(hi.yes w' u hw').2⟩
      obtain⟨ys,hys⟩:=(hq6 w' u hw').blk hb;rw[hys,k68 _ _ _ _ hys]
    ·intro w1 w2 v1 v2 b hf1 hf2 hne' hh1 hh2
     by_cases e1:w1=w
     ·rw[hoth w2 (λhh=>hne' (e1.trans hh.symm))] at hf2
      rw[e1] at hf1;rcases hself with⟨h1,_⟩|⟨h1,_⟩
      ·rw[h1] at hf1
       cases hf1;exact hi.sep w w2 v v2 b hf hf2 (by rw[<-e1];exact hne') (hhome b hh1) hh2
      ·rw[h1] at hf1;cases hf1
     ·rw[hoth w1 e1] at hf1
      by_cases e2:w2=w
      ·rw[e2] at hf2
       rcases hself with⟨h1,_⟩|⟨h1,_⟩
       ·rw[h1] at hf2
        cases hf2;exact hi.sep w1 w v1 v b hf1 hf e1 hh1 (hhome b hh2)
       ·rw[h1] at hf2;cases hf2
      ·rw[hoth w2 e2] at hf2
       exact hi.sep w1 w2 v1 v2 b hf1 hf2 hne' hh1 hh2
   refine⟨_,_,_,_,_,_,_,_,hRI.aO3 at08' λj q z d hl=> ?_⟩
   by_cases hj:k0=j
   ·subst hj
    have hlt:=(aUd.mp hslot).1;rw[aUj hlt] at hl;cases hl
   ·rw[aUe hj] at hl
    have:=hqlt j q z d hl;omega
 rw[hw] at hg hg6 hset hg7;cases hks:ks with
 |nil=>
  subst hks;have e1:((([]:List Nat).map jV).length:Int)=0:=rfl;have e2:((((([]:List Nat).map jV).length:Nat):Int)==0)=true:=rfl;obtain⟨X8,hdel,hm8,⟨ye,yc,hX8⟩⟩:=hm7.aOT vJ w (by rw[hupd];simp)
  have hmb7: ∃es c,H7[mb]? =some (.map es c):=by
   obtain⟨es,c,e1,e2⟩:=hm7
   exact⟨_,_,e1⟩
  obtain⟨r1,r2,r3,r4,r5⟩:=fin (H7.set mb X8) _ (by
   obtain⟨es,c,e1⟩:=hmb7;exact Ch.Xx e1 trivial _) (λb cs e kk hb=>by
    have h7:=k67 b cs e kk hb;have hne:b≠mb:=λhh=>by
     subst hh;obtain⟨es,c,e1⟩:=hmb7;rw[h7] at e1;cases e1
    rw[j9 hne,h7]) (by simp[len7]) hm8 (λw' hww=>by simp[upd,hww]) (.inr ⟨by simp[upd],rfl⟩)
  rw[hw] at hdel r5;refine⟨_,aS (aQ rfl) U ?_,r4,r5⟩
  rw[Qm];simp -implicitDefEqProofs only[gsB,xI,x_newB,g1,ext_0,ext_1,hst1,bW,hst2,r_nil,r_fAddr,aUy,l0,l1,hldw,hg,a1',a3 H5 rfl,hk0,hd,l16,hldw6,hg6,hcut,hset,l17,hldw7,hg7,hlen',b_eql,e2,hdel,r1,r2,r3,r_opt,ob_some,ifB_true,iteV_true,oneOf_two]
 |cons k1 ks1=>
  subst hks;have e2:(((((k1::ks1).map jV).length:Nat):Int)==0)=false:=by simp;omega
  obtain⟨r1,r2,r3,r4,r5⟩:=fin H7 _ (Ch.aIh _ _) k67 U hm7 (λw' hww=>by simp[upd,hww]) (.inl ⟨hupd,by simp⟩)
  rw[hw] at r5;refine⟨_,aS (aQ rfl) U ?_,r4,r5⟩
  rw[Qm];simp -implicitDefEqProofs only[gsB,xI,x_newB,g1,ext_0,ext_1,hst1,bW,hst2,r_nil,r_fAddr,aUy,l0,l1,hldw,hg,a1',a3 H5 rfl,hk0,hd,l16,hldw6,hg6,hcut,hset,l17,hldw7,hg7,hlen',b_eql,e2,r1,r2,r3,r_opt,ob_some,ifB_true,iteV_true,iteV_false,oneOf_two]
end
section
variable {H : aF} {a n ports lanes m : Nat} {L : List En}
theorem aO7 (h:IsRings H a L n ports lanes)(hm:100<m)(w:gP)(x:Pkt): ∃H' L',lvl prog pk8 m (.func 124) [.Q a 0,.I w.1,.I w.2.1,.I w.2.2,x.cE] H=some (.bool (p8 w ports lanes&&decide (L.length<n)),H')/\Ch AR H H'/\IsRings H' a L' n ports lanes/\
  ((p8 w ports lanes&&decide (L.length<n))=true/\(∃k,L'=L++[(w,k,x)])∨(p8 w ports lanes&&decide (L.length<n))=false/\L'=L):=by
 by_cases hv:(p8 w ports lanes&&decide (L.length<n))=true
 ·rw[aUl,decide_eq_true_eq] at hv
  obtain⟨H',k,g1,g2,g3⟩:=aO2 h hm w x hv.1 hv.2;rw[hv.1,aUX hv.2]
  exact⟨H',_,g1,g2,g3,.inl ⟨rfl,k,rfl⟩⟩
 ·have hf:(p8 w ports lanes&&decide (L.length<n))=false:=by simpa using hv
  obtain⟨H',g1,g2⟩:=aO1 h hm w x (by
   rw[Bool.and_eq_false_iff] at hf;exact hf.imp id λh=>by have:=of_decide_eq_false h;omega)
  rw[hf];have hc:Ch AR H H':=Ch.ext g2;obtain⟨p,s,mb,l,top,free,fl,f,hi⟩:=h
  exact⟨H',L,g1,hc,⟨p,s,mb,l,top,free,fl,f,hi.Ib λb x hx _=>by rw[g2.2 b (aUd.mp hx).1 id,hx]⟩,.inr ⟨rfl,rfl⟩⟩
theorem IsRings.ext {H':aF}(h:IsRings H a L n ports lanes)(he:Ext H H'):IsRings H' a L n ports lanes:=by
 obtain⟨p,s,mb,l,top,free,fl,f,hi⟩:=h
 exact⟨p,s,mb,l,top,free,fl,f,hi.Ib λb x hx _=>by rw[he.2 b (aUd.mp hx).1 id,hx]⟩
theorem aO6 (h:IsRings H a L n ports lanes)(hm:100<m)(w:gP): ∃H',lvl prog pk8 m (.func 132) [.Q a 0,.I w.1,.I w.2.1,.I w.2.2] H=some (tR (lS L w),H')/\Ch AR H H'/\IsRings H' a (lC L w) n ports lanes:=by
 cases hp:lS L w with
 |nil=>
  obtain⟨H',g1,g2⟩:=aO4 h hm w.1 w.2.1 w.2.2 hp;have hL:lC L w=L:=by
   unfold lC;apply List.eraseP_of_forall_not;intro e he hd;have:e∈L.filter λe=>decide (e.1=w):=List.mem_filter.mpr ⟨he,hd⟩
   have hl:(lS L w).length=0:=by rw[hp];rfl
   unfold lS at hl;rw[aUr] at hl;rw[aUv.mp hl] at this;cases this
  rw[hL]
  exact⟨H',g1,Ch.ext g2,h.ext g2⟩
 |cons x xs=>
  obtain⟨H',g1,g2,g3⟩:=aO5 h hm w.1 w.2.1 w.2.2 hp
  exact⟨H',g1,g2,g3⟩
end
end Go.Proofs.YtciiopkbmjppfaaGreatDoor.Rg
namespace Go.Proofs.YtciiopkbmjppfaaGreatDoor
open Go.Proofs.Tryz
open Go.Abs Go.Abs.M
def tS (L:List Rg.En):List (Go.Abs.dR×Pkt):=L.map λe=>(e.1,e.2.2)
theorem aCt (L:List Rg.En)(w:Go.Abs.dR):Rg.lS L w=lA (tS L) w:=by
 unfold Rg.lS lA tS;induction L with
 |nil=>rfl
 |cons e L ih=>
  rw[aUI,List.filter_cons,List.filter_cons];by_cases h:e.1=w
  ·simp only[h,decide_true,if_true,aUI]
   rw[ih]
  ·simp only[h,decide_false]
   exact ih
theorem aO8 (L:List Rg.En)(w:Go.Abs.dR):tS (Rg.lC L w)=mY (tS L) w:=by
 unfold Rg.lC mY tS;induction L with
 |nil=>rfl
 |cons e L ih=>
  rw[aUI,List.eraseP_cons,List.eraseP_cons];by_cases h:e.1=w
  ·simp only[h,decide_true,if_true,cond_true]
  ·simp only[h,decide_false,cond_false,aUI]
   rw[ih]
def RingsN (D:aF)(a:Nat)(L:List (Go.Abs.dR×Pkt))(cap ports lanes:Nat):Prop:= ∃Le:List Rg.En,Rg.IsRings D a Le cap ports lanes/\tS Le=L
theorem aPc (w:Go.Abs.dR)(ports lanes:Nat):Rg.p8 w ports lanes=Cl w ports lanes:=by
 unfold Rg.p8 Cl;rw[Bool.eq_iff_iff];simp only[aUl,decide_eq_true_eq];omega
section
variable {D : aF} {m a cap ports lanes : Nat} {L : List (Go.Abs.dR × Pkt)}
theorem RingsN.ext {D':aF}(h:RingsN D a L cap ports lanes)(he:Ext D D'):RingsN D' a L cap ports lanes:=by
 obtain⟨Le,h1,h2⟩:=h
 exact⟨Le,h1.ext he,h2⟩
theorem aPa (hm:300<m)(po la sl:Nat)(h:1<=po/\po<=16/\1<=la/\la<=3/\1<=sl/\sl<=200): ∃a H',lvl prog pkN m (.func 86) [.I po,.I la,.I sl] D=some (.Q a 0,H')/\RingsN H' a [] sl po la/\Ext D H'/\D.length<=a:=by
 obtain⟨a,H',h1,h2,h3,h4⟩:=Rg.aO0 (H:=D) hm po la sl h
 exact⟨a,H',h1,⟨[],h3,rfl⟩,h2,h4⟩
theorem aO9 (h:RingsN D a L cap ports lanes)(hm:0<m)(i o k:Int):lvl prog pkN m (.func 70) [.Q a 0,.I i,.I o,.I k] D=some (.I (lA L (i,o,k)).length,D):=by
 obtain⟨Le,h1,rfl⟩:=h;rw[<-aCt,<-Rg.Qz];exact Rg.aOZ h1 hm i o k
theorem aCu (h:RingsN D a L cap ports lanes)(hm:100<m)(w:Go.Abs.dR)(x:Pkt): ∃r H',lvl prog pkN m (.func 124) [.Q a 0,.I w.1,.I w.2.1,.I w.2.2,x.cE] D=some (r,H')/\RingsN H' a (if Cl w ports lanes=true/\L.length<cap then L++[(w,x)] else L) cap ports lanes:=by
 obtain⟨Le,h1,rfl⟩:=h;have hl:(tS Le).length=Le.length:=by simp[tS]
 obtain⟨H',L',g1,g2,g3,g4⟩:=Rg.aO7 h1 hm w x;rw[aPc,aUl,decide_eq_true_eq] at g4;refine⟨_,H',g1,⟨L',g3,?_⟩⟩;rw[hl];rcases g4 with⟨hv,k,rfl⟩|⟨hv,rfl⟩
 ·rw[if_pos hv]
  simp[tS]
 ·rw[if_neg (by intro hh;rw[hh.1,aUX hh.2] at hv;cases hv)]
theorem aPb (h:RingsN D a L cap ports lanes)(hm:100<m)(i o k:Int): ∃H',lvl prog pkN m (.func 132) [.Q a 0,.I i,.I o,.I k] D=some (Rg.tR (lA L (i,o,k)),H')/\RingsN H' a (mY L (i,o,k)) cap ports lanes:=by
 obtain⟨Le,h1,rfl⟩:=h;obtain⟨H',g1,g2,g3⟩:=Rg.aO6 h1 hm (i,o,k);rw[<-aCt,<-aO8]
 exact⟨H',g1,_,g3,rfl⟩
end
section
variable {D : aF} {m a lanes queue : Nat} {L G : List Pkt} {w0 w1 w2 cv : Value}
theorem aPi:bld prog 31 []=some pk0.cE:=rfl
theorem Ic {H:aF}{b:Nat}{y:Pkt}(x:Pkt)(hb:H[b]? =some (cO y)):stN 4 (.Q b 0) x.cE H=some (undef,H.set b (cO x)):=qV hb aC rfl rfl (aUi 4) rfl
theorem aPd:prog.cellsOf 31=4:=by kernel_rfl
theorem aPg (h:HostI D a L G lanes queue w0 w1 w2 cv)(hm:3<m)(k:Nat)(hk:k<lanes)(hw:dE L k=[]): ∃H',lvl prog pkN m (.func 123) [.Q a 0,.I k] D=some (.tuple #[pk0.cE,.bool false],H')/\HostAt H' a L G lanes queue:=by
 refine iD (aQ rfl) U ?_
 rw[aAR];obtain⟨u0,u1,u2,cu,h'⟩:HostAt (D++[cO pk0]) a L G lanes queue:=HostAt.ext ⟨w0,w1,w2,cv,h⟩ (Fr.app _ _ _);have e0: ∀H:aF,H++[Blk.cells [Value.int .i64 0,.int .i64 0,.int .i64 0,.int .u32 0] 31 .fix]=H++[cO pk0]:=λ_=>rfl
 have e1:=Qd h' (m:=m-1) U k hk
 rw[hw] at e1;have st:stN 4 (.Q D.length 0) pk0.cE (D++[cO pk0])=some (undef,D++[cO pk0]):=by
  rw[Ic pk0 (cG _ _),gZ]
 have l4:=(oG (cG D (cO pk0))).2;have c1:((([]:List Pkt).length:Int)==0)=true:=rfl;simp only[gsR,e0,e1,c1,aPi,st,l4]
 exact⟨_,rfl,_,_,_,_,h'⟩
theorem HostI.ext {D':aF}(h:HostI D a L G lanes queue w0 w1 w2 cv)(he:Ext D D'):HostI D' a L G lanes queue w0 w1 w2 cv:=
 ⟨by rw[he.2 a (bU h.blk) id,h.blk],h.lanes,h.queue,λk hk=>(h.q k hk).ext he,h.came.ext he,h.apart,h.apartC⟩
theorem aPh (h:HostI D a L G lanes queue w0 w1 w2 cv)(hm:3<m)(k:Nat)(hk:k<lanes){x:Pkt}{xs:List Pkt}(hw:dE L k=x::xs): ∃H',lvl prog pkN m (.func 123) [.Q a 0,.I k] D=some (.tuple #[x.cE,.bool true],H')/\HostAt H' a (pZ L k) G lanes queue:=by
 have h3:k<3:=aUs hk h.lanes.2;refine iD (aQ rfl) U ?_
 rw[aAR];have e0: ∀H:aF,H++[Blk.cells [Value.int .i64 0,.int .i64 0,.int .i64 0,.int .u32 0] 31 .fix]=H++[cO pk0]:=λ_=>rfl
 obtain⟨D1,hD1⟩:=aD (D++[cO pk0]);obtain⟨D3,hD3⟩:=aD (D1++[cO x]);have h1l:D1.length=D.length+1:=by rw[hD1];simp
 have i1:HostI D1 a L G lanes queue w0 w1 w2 cv:=h.ext (by rw[hD1];exact Fr.app _ _ _)
 have i3:HostI D3 a L G lanes queue w0 w1 w2 cv:=i1.ext (by rw[hD3];exact Fr.app _ _ _)
 have e1:=Qd i1 (m:=m-1) U k hk
 rw[hw] at e1;have c1:(((x::xs).length:Int)==0)=false:=by simp;omega
 have e2:=Hp 3 1 a 0 .i64 k h3;rw[Nat.mul_one,aUy] at e2;have q1:=i1.q k h3;rw[hw] at q1;obtain⟨b,o,a1,_,a3⟩:=q1.rs.dM zX (i:=0) (x:=x) rfl .i64;have a1:cN 4 (w3 w0 w1 w2 k) (.I 0)=some (.Q b o):=a1;have a3:=(a3 D1 rfl).1;have a3':ldN 4 (.Q b o) D1=some (x.cE,D1):=a3;have st0:stN 4 (.Q D1.length 0) x.cE (D1++[cO pk0])=some (undef,D3):=by
  rw[Ic x (cG _ _),gZ,hD3]
 have q3:=i3.q k h3;rw[hw] at q3;obtain⟨v',g1,g2,g3⟩:=q3.aOf (P:=prog) zX aPd;have g1:=g1 D3 q3;have st1:stN 1 (.Q a k) v' D3=some (undef,D3.set a (.cells (([w0,w1,w2,cv,.I lanes,.I queue]:List Value).set k v') 155 .fix)):=nI i3.blk aC (by simp;omega) g2.zW.1 g2.zW.2
 obtain⟨Y,hY⟩:=aD (Blk.cells (([w0,w1,w2,cv,.int .i64 lanes,.int .i64 queue]:List Value).set k v') 155 .fix);rw[<-hY] at st1;have hal:a<D.length:=bU h.blk;have b12:(D3.set a Y)[D1.length]? =some (cO x):=by rw[aUe U,hD3,cG]
 have b00:(D3.set a Y)[D.length]? =some (cO pk0):=by rw[aUe U,hD3,hD1,aUg (by simp),cG]
 have l12:=(oG b12).2;have st2:stN 4 (.Q D.length 0) x.cE (D3.set a Y)=some (undef,(D3.set a Y).set D.length (cO x)):=qV b00 aC rfl rfl (aUi 4) rfl
 have l00:=(oG (dN (y:=cO x) b00)).2;simp only[gsR,e0,<-hD1,e1,c1,e2,Cr i1 h3,a1,a3',st0,Cr i3 h3,g1,st1,l12,st2,l00];refine⟨_,rfl,?_⟩;have hE:(D3.set a Y).set D.length (cO x)=(D++[cO x]++[cO x]).set a Y:=by
  rw[List.set_comm _ _ U,hD3,hD1]
  congr 1
  simp
 rw[hE,hY];have he1:Ext D (D++[cO x]):=Fr.app _ _ _;have he:Ext D (D++[cO x]++[cO x]):=he1.tr (Fr.app _ _ _);have q0:=h.q k h3;rw[hw] at q0;refine h.aBE h3 (he.zG λ_ h=>h.elim) ?_ (λb hb=> .inl (g3 b hb)) λj hj hjk=> ?_
 ·rw[Hr,if_pos rfl,hw]
  refine g2.xH λb hb=> ?_
  have hb2:=(h.q k h3).vH (g3 b hb);rw[hD3,hD1,aUk,aUg hb2,aUk,aUg hb2]
 ·rw[Hr,if_neg U]
theorem aPk (b o n c:Nat):bin prog .eql 42 (.slice (some ⟨b,o,none⟩) n c) (.N)=some (.bool false):=by
 have h1:prog.underlying 42=some (.slice 31):=by kernel_rfl
 simp[bin,cL,jZ,gV,eqV,h1]
theorem aPj:bin prog .eql 42 (.N) (.N)=some (.bool true):=by
 have h1:prog.underlying 42=some (.slice 31):=by kernel_rfl
 simp[bin,cL,jZ,gV,eqV,h1]
theorem aPe {v:Value}{xs:List Pkt}(hx:Rs Pkt.kF 31 D v xs)(hr:eH xs.length 32=true)(hm:0<m): ∃H' u,lvl prog pkN m (.func 88) [v] D=some (u,H')/\Ext D H'/\Rw Pkt.kF 31 4 H' u xs/\New D u:=by
 rcases hx with⟨rfl,rfl⟩|⟨b,o,c,hv,hlc,hx2⟩
 ·refine⟨D,.N,aS (aQ rfl) hm ?_,Fr.dS _ _,Rw.fD,New.iE _⟩
  rw[aA1];simp only[gsR,aPj]
 ·have b0:b9 31 4 0 [.I 0,.I 0,.I 0,.int .u32 0] [] D=some (.slice (some ⟨D.length,0,none⟩) 0 0,D++[.cells [] 31 .row]):=rfl
  have h0:Rw Pkt.kF 31 4 (D++[.cells [] 31 .row]) (.slice (some ⟨D.length,0,none⟩) 0 0) []:=⟨rfl,.inr ⟨D.length,0,[],rfl,aUi _,rfl,by simp⟩⟩
  have hx:Rs Pkt.kF 31 D v xs:= .inr ⟨b,o,c,hv,hlc,hx2⟩;obtain⟨u,H',g1,g2,g3,g4⟩:=h0.wM zX Ho aC (by':=32) (H0:=D) (hx.ext (Fr.app _ _ _)) (λb ⟨_,_,_,h⟩=>by cases h;exact aUi _) (Fr.app _ _ _) (by simpa using hr)
  refine dL (aQ rfl) hm ⟨H',u,?_,g4,g2,g3⟩;subst hv;rw[aA1];simp only[gsR,aPk,b0,g1]
theorem aPf (h:HostI D a L G lanes queue w0 w1 w2 cv)(hm:1<m)(hr:eH G.length 32=true): ∃H' v,lvl prog pkN m (.func 50) [.Q a 0] D=some (v,H')/\Ext D H'/\Rw Pkt.kF 31 4 H' v G/\New D v:=by
 obtain⟨H',u,g1,g2⟩:=aPe (D:=D) (m:=m-1) h.came.rs hr U
 refine dL (aQ rfl) U ⟨H',u,?_,g2⟩
 rw[aNc];have l3:ld1 (.Q a 3) D=some (cv,D):=bA h.blk rfl;simp only[gsR,l3,g1]
end
def cR (b n:Nat):Value:= .slice (some ⟨b,0,none⟩) n n
section
variable {H : aF} {m : Nat}
theorem aCw:prog.underlying 227=some (.int .u64):=by kernel_rfl
theorem aPl (hm:1<m)(n:Nat)(hn:n<=16):lvl prog pkN m (.func 150) [.int .u64 1,.int .u64 n] H=some (.tuple #[.int .u64 0,.int .u64 n],H):=by
 have main:lvl prog pkN (m-1) (.func 171) [.int .u64 1,.int .u64 n] H=some (.tuple #[.int .u64 0,.int .u64 n],H):=by
  refine aS (aQ rfl) U ?_
  rw[aM7];have p1:bin prog .and 112 (.int .u64 1) (.int .u64 4294967295)=some (.int .u64 1):=by kernel_rfl
  have p2:bin prog .shr 112 (.int .u64 1) (.int .u64 32)=some (.int .u64 0):=by kernel_rfl
  have p3:bin prog .and 112 (.int .u64 n) (.int .u64 4294967295)=some (.int .u64 n):=by
   have:=wP (P:=prog) .u64 rfl 112 (a:=n) (b:=4294967295) (by show _<18446744073709551616;omega) (by show _<18446744073709551616;omega)
   rw[show n&&&4294967295=n by rw[show(4294967295:Nat)=2 ^ 32-1 from rfl,Nat.and_two_pow_sub_one_eq_mod];exact aUL U] at this
   exact this
  have p4:bin prog .shr 112 (.int .u64 n) (.int .u64 32)=some (.int .u64 0):=by
   have:=Fa (P:=prog) .u64 .u64 112 n 32 aC
   rw[Nat.shiftRight_eq_div_pow,Nat.div_eq_of_lt U] at this
   exact this
  have q1:IntKind.u64.wrap (1*(n:Int))=n:=by rw[Int.one_mul];exact zQ n U
  have q2:IntKind.u64.wrap (0*(n:Int))=0:=by rw[Int.zero_mul];rfl
  have q3:IntKind.u64.wrap (0+0)=0:=rfl;have q4:IntKind.u64.wrap (1*0)=0:=rfl;have q5:IntKind.u64.wrap (0*0)=0:=rfl;have p5:bin prog .and 112 (.int .u64 0) (.int .u64 4294967295)=some (.int .u64 0):=by kernel_rfl
  have p6:bin prog .shr 112 (.int .u64 0) (.int .u64 32)=some (.int .u64 0):=by kernel_rfl
  simp only[gsR,p1,p2,p3,p4,We,q1,q2,aV,q3,q4,q5,p5,p6]
 refine aS (aQ rfl) U ?_
 rw[aM2];simp only[gsR,main]
def iJ (n k:Nat):Blk:= .cells (List.replicate k (.int .i64 (-1))++List.replicate (n-k) (.int .i64 0)) 3 .row
theorem aPm (k:Nat):cA (List.replicate k (Value.I (-1)))=true:=by
 unfold cA;rw[List.all_replicate]
 split<;>rfl
theorem aCv {n k j:Nat}(hj:k+j<=n):cU (List.replicate k (Value.I (-1))++List.replicate (n-k) (.I 0)) k (List.replicate j (.I (-1)))=List.replicate (k+j) (.I (-1))++List.replicate (n-(k+j)) (.I 0):=by
 have:=sD (List.replicate j (Value.I (-1))) (List.replicate j (.I 0)) (List.replicate k (Value.I (-1))) (List.replicate (n-(k+j)) (.I 0)) (by simp)
 rw[aUT] at this;rw[show List.replicate (n-k) (Value.I 0)=List.replicate j (.I 0)++List.replicate (n-(k+j)) (.I 0) by rw[List.replicate_append_replicate];congr 1;omega]
 rw[<-aUk,this,List.replicate_append_replicate]
theorem aPn {n k:Nat}(G:aF)(hk:k<=n)(h1:1<=k)(c:Nat):cpy 1 (.slice (some ⟨G.length,k,none⟩) (n-k) c) (.slice (some ⟨G.length,0,none⟩) k n) (G++[iJ n k])=some (.I (min k (n-k):Nat),G++[iJ n (k+min k (n-k))]):=by
 have hb:(G++[iJ n k])[G.length]? =some (iJ n k):=cG _ _;have hs:dY 1 (.slice (some ⟨G.length,0,none⟩) k n) (min k (n-k)) (G++[iJ n k])=some (List.replicate (min k (n-k)) (.I (-1))):=by
  unfold dY;by_cases h0:min k (n-k)=0
  ·simp[h0]
  ·simp only
   rw[if_neg h0,hb];unfold iJ;simp only;rw[if_pos (by simp;omega)]
   congr 1
   rw[List.drop_zero,List.take_append_of_le_length (by simp;omega),List.take_replicate]
   congr 1
   omega
 unfold cpy;have h2:iN (.slice (some ⟨G.length,0,none⟩) k n)=some k:=rfl;rw[h2];simp only;rw[hs];simp only;rw[hb];unfold iJ;simp only;rw[if_pos ⟨by decide,by simp;omega,aPm _⟩,aCv U,gZ]
theorem aPp {n:Nat}(hn:n<=16){G:aF}: ∀(q k l:Nat),n-k=q->k<=n->1<=k->q<l-> ∀(x4:Value),
  aL l (aO prog (lvl prog pkN m) (aL m) Od) (Oe (lvl prog pkN m) (aL m)) (aG 4 (x4::aG 2 (some (cR G.length n)::some (.I (k:Nat))::aG 39 []))) (G++[iJ n k])=some (cR G.length n,G++[iJ n n]):=by
 intro q;induction q using Nat.strongRecOn with
 |ind q ih=>
  intro k l hq hk h1 hl;intros;obtain⟨l,rfl⟩: ∃l',l=l'+1:=⟨l-1,by omega⟩
  have e1:cX (cR G.length n)=some (.I n):=rfl;rw[aL,aMD];by_cases hc:k=n
  ·subst hc
   have c1:decide ((k:Int)<(k:Int))=false:=by simp
   simp only[gsR,e1,c1];rw[aMH];simp only[gsR]
  ·have c1:decide ((k:Int)<(n:Int))=true:=by rw[decide_eq_true_eq];omega
   have hb:(G++[iJ n k])[G.length]? =some (iJ n k):=cG _ _;have s1:slc prog 1 (cR G.length n) (some (.I (k:Nat))) none none (G++[iJ n k])=some (.slice (some ⟨G.length,k,none⟩) (n-k) (n-k),G++[iJ n k]):=by
    have:=oU (P:=prog) (sz:=1) (b:=G.length) (o:=0) (len:=n) (cap:=n) (lo:=some (.I (k:Nat))) (hi:=none) (mx:=none) hb (λ_=>by kernel_rfl) (gX 0 .i64 k) rfl rfl hk (aUi _) (aUi _)
    rw[aUy,Nat.mul_one] at this;exact this
   have s2:slc prog 1 (cR G.length n) none (some (.I (k:Nat))) none (G++[iJ n k])=some (.slice (some ⟨G.length,0,none⟩) k n,G++[iJ n k]):=by
    have:=oU (P:=prog) (sz:=1) (b:=G.length) (o:=0) (len:=n) (cap:=n) (lo:=none) (hi:=some (.I (k:Nat))) (mx:=none) hb (λ_=>by kernel_rfl) rfl (gX n .i64 k) rfl (Nat.zero_le _) hk (aUi _)
    rw[Nat.zero_mul] at this;exact this
   have s3:=aPn G hk h1 (n-k);have e4:IntKind.i64.wrap ((k:Int)+((min k (n-k):Nat):Int))=((k+min k (n-k):Nat):Int):=by rw[bJ U U];omega
   simp only[gsR,e1,c1,s1,s2,s3,aV,e4];exact ih (n-(k+min k (n-k))) U (k+min k (n-k)) l rfl U U U ..
theorem aPo (hm:40<m)(n:Nat)(h1:1<=n)(hn:n<=16){b c:Nat}{e:TypeId}{kk:Kind}(hb:H[b]? =some (.cells [.I (-1)] e kk)):lvl prog pkN m (.func 126) [.slice (some ⟨b,0,none⟩) 1 c,.I n] H=some (cR H.length n,H++[iJ n n]):=by
 refine aS (aQ rfl) U ?_
 rw[aMI];have c1:decide ((n:Int)<0)=false:=by rw[decide_eq_false_iff_not];omega
 have c2:decide ((0:Int)<0)=false:=rfl;have c3:decide ((9223372036854775807:Int)<(n:Int))=false:=by rw[decide_eq_false_iff_not];omega
 have e0:cX (.slice (some ⟨b,0,none⟩) 1 c)=some (.I 1):=rfl;have e1:IntKind.u64.wrap (1:Int)=1:=rfl;have e2:IntKind.u64.wrap (n:Int)=n:=zQ n U
 have e3:=aPl (H:=H) (m:=m-1) U n hn
 have x0:ext 0 (.tuple #[.int .u64 0,.int .u64 n])=some (.int .u64 0):=rfl;have x1:ext 1 (.tuple #[.int .u64 0,.int .u64 n])=some (.int .u64 n):=rfl;have e4:IntKind.i64.wrap (n:Int)=n:=zR n U
 have mk:=uQ (H:=H) 3 1 8 [.I 0] .i64 .i64 (n:Int) U U U rfl
 have hz:H++[Blk.cells (List.replicate (n:Int).toNat [Value.int .i64 0]).flatten 3 .row]=H++[iJ n 0]:=by
  have: ∀n,(List.replicate n [Value.I 0]).flatten=List.replicate n (.I 0):=by
   intro n;induction n with
   |zero=>rfl
   |succ n ih=>rw[List.replicate_succ,aUN,ih];rfl
  rw[aUF,this];rfl
 rw[hz,aUF] at mk;have cp:cpy 1 (.slice (some ⟨H.length,0,none⟩) n n) (.slice (some ⟨b,0,none⟩) 1 c) (H++[iJ n 0])=some (.I (1:Nat),H++[iJ n 1]):=by
  have hs:dY 1 (.slice (some ⟨b,0,none⟩) 1 c) 1 (H++[iJ n 0])=some [.I (-1)]:=by
   unfold dY;simp only;rw[if_neg aC,lN hb]
   rfl
  unfold cpy;have h2:iN (.slice (some ⟨b,0,none⟩) 1 c)=some 1:=rfl;rw[h2];simp only;rw[Nat.min_eq_left h1,hs];simp only;rw[cG];unfold iJ;simp only;rw[if_pos ⟨by decide,by simp;omega,rfl⟩]
  have:=aCv (n:=n) (k:=0) (j:=1) U
  rw[show List.replicate 1 (Value.I (-1))=[.I (-1)] from rfl] at this
  rw[this,gZ];rfl
 simp only[gsR,c1,c2,c3,e0,dJ _ _ iU aCw,e1,e2,e3,x0,x1,dJ _ _ aCw iU,e4,mk,cp];exact aPp hn (n-1) 1 (m-1) rfl h1 (aUi _) U ..
end
end Go.Proofs.YtciiopkbmjppfaaGreatDoor
namespace Go.Abs
open M
open Classical
def Blks (l:List (Nat×Blk))(D:aF):Prop:= ∀p∈l,D[p.1]? =some p.2
def InB (l:List (Nat×Blk))(b:Nat):Prop:= ∃p∈l,p.1=b
def qY (l:List (Nat×Blk)):Prop:= ∀p∈l,p.2≠Blk.dead
theorem Blks.dx (l:List (Nat×Blk)):DX (Blks l):=λD D' h he p hp=>by
 have h1:=h p hp;rw[he.2 p.1 (aUd.mp h1).1 id,h1]
theorem Blks.aPq {l:List (Nat×Blk)}(hl:qY l):Pos (Blks l):=λD H hs h p hp=>hs.2 p.1 p.2 (h p hp) (hl p hp)
theorem Has.inB {l:List (Nat×Blk)}{F:Nat->Prop}{H:aF}(h:Has (Blks l) F H)(hl:qY l){b:Nat}(hb:InB l b):F b:=by
 obtain⟨p,hp,rfl⟩:=hb;have h1:=h.at_ p hp;refine Classical.byContradiction λhF=> ?_
 have hlt:=(aUd.mp h1).1;rw[sJ] at hlt;rw[uV hF hlt] at h1;exact hl p hp (aUP h1).symm
theorem Has.Ie {l:List (Nat×Blk)}{F:Nat->Prop}{H:aF}(hb:Blks l H)(hF: ∀p∈l,F p.1)(hlt: ∀b,F b->b<H.length):Has (Blks l) F H:=
 ⟨λp hp=>by rw[Bn (hF p hp),hb p hp],hlt⟩
theorem Mv.aPr {F:Nat->Prop}{A:Nat->Prop}{H H':aF}(h:Fr A H H')(hA: ∀b,A b->F b):Mv F F H H':=⟨h.1,λ_ hb=> .inl hb,λb hb hF=>h.2 b hb λhh=>hF (hA b hh)⟩
theorem aPt {ι α:Type}(f:ι->α)(i:ι):updI f i (f i)=f:=by
 funext j
 unfold updI;split
 ·rename_i h
  rw[h]
 ·rfl
theorem Sep.aPs {ι:Type}{A:ι->aF->Prop}{F:ι->Nat->Prop}{H H':aF}(h:Sep A F H)(i:ι)(hA: ∀j,j≠i->DX (A j)){l l':List (Nat×Blk)}(hi:A i=Blks l)(hl:qY l)(hsub: ∀p∈l',InB l p.1)(hf:Fr (InB l) H H')(hB:Blks l' H'):
  Sep (updI A i (Blks l')) F H'/\Mv (Un F) (Un F) H H':=by
 have h0:=h.own i;rw[hi] at h0;have hm:Mv (F i) (F i) H H':=Mv.aPr hf λb hb=>h0.inB hl hb
 have h1:Has (Blks l') (F i) H':=Has.Ie hB (λp hp=>h0.inB hl (hsub p hp)) λb hb=>aUs (h0.lt b hb) hf.1
 have h2:=h.Lp i hA h1 hm;rw[aPt] at h2;exact h2
theorem Sep.see {ι:Type}{A:ι->aF->Prop}{F:ι->Nat->Prop}{H:aF}(h:Sep A F H)(i:ι){l:List (Nat×Blk)}(hi:A i=Blks l)(hl:qY l):Blks l H:=by
 have h0:=h.own i;rw[hi] at h0;exact h0.aIq (Blks.aPq hl)
theorem Sep.xM {ι:Type}{A:ι->aF->Prop}{F:ι->Nat->Prop}{H:aF}(h:Sep A F H)(i:ι){l:List (Nat×Blk)}(hi:A i=Blks l)(hl:qY l){b:Nat}{x:Blk}(hm:(b,x)∈l):H[b]? =some x:=h.see i hi hl _ hm
theorem Sep.If {ι:Type}{A:ι->aF->Prop}{F:ι->Nat->Prop}{H H':aF}(h:Sep A F H)(i:ι)(hA: ∀j,DX (A j))(hi: ∀b,¬F i b){B:aF->Prop}{G:Nat->Prop}(hB:Has B G H')(he:Ext H H')(hn: ∀b,G b->H.length<=b):
  Sep (updI A i B) (updI F i G) H':=by
 have hm:Mv (F i) G H H':=⟨he.1,λb hb=> .inr (hn b hb),λb hb _=>he.2 b hb id⟩
 exact(h.Lp i (λj _=>hA j) hB hm).1
theorem Has.aCx {A:aF->Prop}{H:aF}{P:Program}{pr:eK}(hp:FrP pr){n:Nat}{fn:Fn}{args:List Value}{B:Value->aF->Prop}
  (hc: ∀D:aF,D.length=H.length->(∀(b:Nat)(x:Blk),D[b]? =some x->x=Blk.dead)-> ∃r D',lvl P pr n fn args D=some (r,D')/\B r D'):
  ∃r H' G,lvl P pr n fn args H=some (r,H')/\Has (B r) G H'/\Ext H H'/\ ∀b,G b->H.length<=b:=by
 obtain⟨r,D',h1,h2⟩:=hc (rst (λ_=>False) H) (sJ _ _) λb x hb=>by
  have hlt:=(aUd.mp hb).1;rw[sJ] at hlt;rw[uV (λh=>h) hlt] at hb
  cases hb;rfl
 obtain⟨H',F',h3,rfl,h4,h5⟩:=X5 hp h1
 exact⟨r,H',F',h3,⟨h2,h5⟩,h4.X3.2,h4.X3.1⟩
end Go.Abs
namespace Go.Abs
open M
theorem qA (p:Nat->Bool){n:Nat}(hn:n<=16):cD p n<65536:=aUs (Bv p n) (show 2 ^ n<=2 ^ 16 from Nat.pow_le_pow_right U hn)
def dD (m:List Int)(n:Nat):Nat:=cD (λi=>decide (m.getD i 0= -1)) n
def fQ (m:List Int)(n:Nat):Nat:=cD (λk=>decide ((k:Int)∉m)) n
theorem Q5 (n:Nat):cD (λ_=>true) n=2 ^ n-1:=by
 induction n with
 |zero=>rfl
 |succ n ih=>
  rw[cD,ih,if_pos rfl,Nat.pow_succ];have:0<2 ^ n:=Nat.pow_pos U
  omega
theorem aPC (n:Nat):dD (List.replicate n (-1)) n=2 ^ n-1:=by
 rw[<-Q5];refine Fe λi hi=> ?_
 rw[decide_eq_true_eq,aUh,List.getElem?_replicate_of_lt hi];rfl
theorem aPF (n:Nat):fQ (List.replicate n (-1)) n=2 ^ n-1:=by
 rw[<-Q5];refine Fe λi hi=> ?_
 rw[decide_eq_true_eq];intro h;have:=List.eq_of_mem_replicate h;omega
theorem aPB {m:List Int}{n i k:Nat}(hi:i<n)(hl:m.length=n):dD (m.set i (k:Int)) n=iF (dD m n) (2 ^ i):=by
 apply Nat.eq_of_testBit_eq;intro j;rw[Lq,dD,dD,gY,gY,Nat.testBit_two_pow];by_cases hj:i=j
 ·subst hj
  have:(m.set i (k:Int)).getD i 0=k:=by rw[aUh,aUj U,aUG]
  rw[this];simp
 ·rw[aUh,aUe hj,<-aUh]
  simp[hj]
theorem aPD {m:List Int}{n i k:Nat}(hi:i<n)(hl:m.length=n)(hf:m.getD i 0= -1):fQ (m.set i (k:Int)) n=iF (fQ m n) (2 ^ k):=by
 apply Nat.eq_of_testBit_eq;intro j;rw[Lq,fQ,fQ,gY,gY,Nat.testBit_two_pow];have hi':i<m.length:=U
 have key:((j:Int)∈m.set i (k:Int))↔((j:Int)∈m∨j=k):=by
  constructor
  ·intro h
   rcases List.mem_or_eq_of_mem_set h with h|h
   ·exact .inl h
   ·exact .inr U
  ·intro h
   rcases h with h|h
   ·obtain⟨l,hl,he⟩:=List.mem_iff_getElem.mp h
    have hne:l≠i:=by
     intro hh;subst hh;rw[aUh,aUf hl,aUG,he] at hf;omega
    refine List.mem_iff_getElem.mpr ⟨l,by simpa using hl,?_⟩
    rw[List.getElem_set_ne (λhh=>hne hh.symm),he]
   ·subst h
    exact List.mem_set hi' _
 rw[show(decide ((j:Int)∉m.set i (k:Int)))=(decide ((j:Int)∉m)&& !decide (k=j)) by
  rw[Bool.eq_iff_iff];simp only[decide_eq_true_eq,aUl,Bool.not_eq_true',decide_eq_false_iff_not];rw[key];constructor
  ·intro h
   exact⟨λhh=>h (.inl hh),λhh=>h (.inr hh.symm)⟩
  ·rintro ⟨h1,h2⟩ h
   rcases h with h|h
   ·exact h1 h
   ·exact h2 h.symm]
 rw[Bool.and_assoc]
def fY (rows:List Nat)(i k:Nat):Bool:=(rows.getD i 0).testBit k
def grM (gr:Nat->Option Nat)(kk i:Nat):Nat:=cD (λk=>gr k==some i) kk
def grL (gr:Nat->Option Nat)(n kk:Nat):List Nat:=(List.range n).map (grM gr kk)
theorem xN (gr:Nat->Option Nat)(n kk:Nat):(grL gr n kk).length=n:=by simp[grL]
theorem Cw {gr:Nat->Option Nat}{n kk i:Nat}(hi:i<n):(grL gr n kk)[i]? =some (grM gr kk i):=by simp[grL,hi]
theorem aPy (gr:Nat->Option Nat)(n:Nat):grL gr n 0=List.replicate n 0:=by
 apply aUO;intro i;by_cases hi:i<n
 ·rw[Cw hi,List.getElem?_replicate_of_lt hi]
  rfl
 ·rw[aUo (by rw[xN];omega),aUo (by simp;omega)]
theorem aCC {gr:Nat->Option Nat}{kk i:Nat}(h:gr kk≠some i):grM gr (kk+1) i=grM gr kk i:=by
 unfold grM;rw[cD,if_neg (by simpa using h),Nat.add_zero]
theorem aPz {gr:Nat->Option Nat}{kk i:Nat}(h:gr kk=some i):grM gr (kk+1) i=grM gr kk i|||2 ^ kk:=by
 apply Nat.eq_of_testBit_eq;intro j;rw[Ye,grM,grM,gY,gY];by_cases hj:j=kk
 ·subst hj
  simp[h]
 ·by_cases hlt:j<kk
  ·simp[hlt,show j<kk+1 by omega,show¬kk=j by omega]
  ·simp[hlt,show¬j<kk+1 by omega,show¬kk=j by omega]
theorem aCA {gr:Nat->Option Nat}{n kk:Nat}(h: ∀i,i<n->gr kk≠some i):grL gr n (kk+1)=grL gr n kk:=by
 unfold grL;refine List.map_congr_left λi hi=>aCC (h i (aUR.mp hi))
theorem aPx {gr:Nat->Option Nat}{n kk i:Nat}(hi:i<n)(h:gr kk=some i):grL gr n (kk+1)=(grL gr n kk).set i (grM gr kk i|||2 ^ kk):=by
 apply aUO;intro j;by_cases hj:j<n
 ·rw[Cw hj]
  by_cases hij:i=j
  ·subst hij
   rw[aUj (by rw[xN];exact hi),aPz h]
  ·rw[aUe hij,Cw hj,aCC (by rw[h];simp;exact hij)]
 ·rw[aUo (by rw[xN];omega),aUo (by rw[List.length_set,xN];omega)]
theorem aCB (gr:Nat->Option Nat){kk:Nat}(hk:kk<=16)(i:Nat):grM gr kk i<65536:=qA _ hk
theorem aPA {rows:List Nat}{m:List Int}{G:List Nat}{n k:Nat}(hr:rows.length=n)(hk:k<n):
  lL (fY rows) m G n k=if(k:Int)∈m then none else fJ (λi=>((fK rows n).getD k 0&&&dD m n).testBit i) (G.getD k 0) n:=by
 unfold lL;split
 ·rfl
 ·refine Fc λi hi=> ?_
  have hc:(fK rows n).getD k 0=cD (λi=>(rows.getD i 0).testBit k) rows.length:=by
   rw[aUh,fK,aUq,aUV hk];rfl
  rw[Nat.testBit_and,hc,dD,gY,gY,hr,aUX hi,aUA,aUA,fY,Bool.and_comm]
theorem aPE {m:List Int}{n k:Nat}(hk:k<n):(fQ m n).testBit k=decide ((k:Int)∉m):=by rw[fQ,gY,aUX hk,aUA]
theorem aPw {rows:List Nat}{n k:Nat}(hr:rows.length<=16)(hk:k<n):(fK rows n).getD k 0<65536:=by
 rw[aUh,fK,aUq,aUV hk];exact qA _ hr
theorem aCD {req:Nat->Nat->Bool}{m:List Int}{G:List Nat}{n k i:Nat}(h:lL req m G n k=some i):m.getD i 0= -1/\i<n:=by
 unfold lL at h
 split at h
 ·cases h
 ·have:=uW h
  rw[aUl,decide_eq_true_eq] at this
  exact⟨this.2.1,this.1⟩
theorem aPu {req:Nat->Nat->Bool}{n:Nat}{first:Bool}{m0:List Int}{g0:List Nat}{s:Mat}{i:Nat}(hm:s.m.getD i 0=m0.getD i 0):
  acc (lL req m0 g0 n) n first s i=match fJ (λk=>(grM (lL req m0 g0 n) n i).testBit k) (s.a.getD i 0) n with
   |none=>s
   |some k=>⟨s.m.set i (k:Int),if first=true then s.g.set k ((i+1)%n) else s.g,if first=true then s.a.set i ((k+1)%n) else s.a⟩:=by
 have e:fJ (λk=>(grM (lL req m0 g0 n) n i).testBit k) (s.a.getD i 0) n=fJ (λk=>lL req m0 g0 n k==some i) (s.a.getD i 0) n:=Fc λk hk=>by
  rw[grM,gY,aUX hk,aUA]
 rw[e];unfold acc;split
 ·rfl
 ·rename_i hn
  have:fJ (λk=>lL req m0 g0 n k==some i) (s.a.getD i 0) n=none:=by
   rw[Yc];intro k hk;rw[beq_eq_false_iff_ne];intro hh;exact hn (hm.trans (aCD hh).1)
  rw[this]
theorem aCy {gr:Nat->Option Nat}{n:Nat}{first:Bool}: ∀(l:List Nat)(s:Mat),l.Nodup->(∀i∈l,i<s.m.length)->(∀i∈l,s.m.getD i 0= -1->(l.foldl (acc gr n first) s).m.getD i 0= -1)->l.foldl (acc gr n first) s=s
 |[],s,_,_,_=>rfl
 |i::l,s,hn,hl,h=>by
  rw[List.foldl_cons] at h⊢;have hi:=hl i (aUm ..);rw[List.nodup_cons] at hn;rcases Lt (gr:=gr) (n:=n) (first:=first) (s:=s) hi with h1|⟨h1,h2⟩
  ·rw[h1] at h⊢
   exact aCy l s hn.2 (λj hj=>hl j (aUu _ hj)) λj hj=>h j (aUu _ hj)
  ·have h3:=Bu (gr:=gr) (n:=n) (first:=first) (j:=i) l (acc gr n first s i) hn.1
   exact absurd (h3.symm.trans (h i (aUm ..) h2)) h1
theorem aPH {req:Nat->Nat->Bool}{n:Nat}{first:Bool}{s:Mat}(hl:s.m.length=n)(h:dD (rnd req n first s).m n=dD s.m n):rnd req n first s=s:=by
 refine aCy _ _ List.nodup_range (λi hi=>by rw[aUR] at hi;omega) λi hi h0=> ?_
 rw[aUR] at hi;have h1:(dD (rnd req n first s).m n).testBit i=(dD s.m n).testBit i:=by rw[h]
 rw[dD,dD,gY,gY,aUX hi,aUA,aUA,aUX h0,decide_eq_true_eq] at h1;exact h1
theorem aPv (M n:Nat):M&&&(2 ^ n-1)=cD (λi=>M.testBit i) n:=by
 apply Nat.eq_of_testBit_eq;intro i;rw[Nat.testBit_and,gY,<-Q5,gY,Bool.and_true,Bool.and_comm]
theorem aCz (p q:Nat->Bool)(n:Nat):cD p n&&&cD q n=cD (λi=>p i&&q i) n:=by
 apply Nat.eq_of_testBit_eq;intro i;rw[Nat.testBit_and,gY,gY,gY];cases decide (i<n)<;>simp
theorem Ab (p:Nat->Bool)(n:Nat):cD p n=0↔lY p n=false:=by
 rw[aIK];constructor
 ·intro h
  cases hw:lY p n with
  |false=>rfl
  |true=>
   obtain⟨i,h1,h2⟩:=zI.mp hw;rw[h i h1] at h2;cases h2
 ·intro h i hi
  cases hp:p i with
  |false=>rfl
  |true=>
   rw[zI.mpr ⟨i,hi,hp⟩] at h;cases h
theorem aPG (p:Nat->Bool)(fr n:Nat):fJ (λi=>(cD p n).testBit i) fr n=fJ p fr n:=Fc λi hi=>by rw[gY,aUX hi,aUA]
theorem Ih {p:Nat->Bool}{k:Nat}(h:p k=true):cD p (k+1)=cD p k|||2 ^ k:=by
 apply Nat.eq_of_testBit_eq;intro j;rw[Ye,gY,gY];by_cases hj:j=k
 ·subst hj
  simp[h]
 ·by_cases hlt:j<k
  ·simp[hlt,show j<k+1 by omega,show¬k=j by omega]
  ·simp[hlt,show¬j<k+1 by omega,show¬k=j by omega]
theorem Ig {p:Nat->Bool}{k:Nat}(h:p k=false):cD p (k+1)=cD p k:=by rw[cD,h];simp
theorem aCE {p q:Nat->Bool}{n:Nat}(h: ∀i,i<n->p i=q i):lY p n=lY q n:=by
 rw[Bool.eq_iff_iff,zI,zI];constructor
 ·rintro ⟨i,h1,h2⟩
  exact⟨i,h1,by rw[<-h i h1];exact h2⟩
 ·rintro ⟨i,h1,h2⟩
  exact⟨i,h1,by rw[h i h1];exact h2⟩
theorem aPI {W:List Int}{s:Whl}{p q:Nat->Bool}(h: ∀i,i<W.length->p i=q i):gK W s p=gK W s q:=by
 have h1:lY p W.length=lY q W.length:=aCE h;have h2: ∀l:List Int,∀i,i<W.length->kC l p i=kC l q i:=λl i hi=>by unfold kC;rw[h i hi]
 have h3:iP W s p=iP W s q:=by unfold iP;rw[aCE (h2 s.l)]
 unfold gK;rw[h1,h3,Fc (h2 _)]
end Go.Abs
namespace Go.Proofs.YtciiopkbmjppfaaGreatDoor
open Go.Proofs.Tryz
open Go.Abs Go.Abs.M
def dG (zs:List Int)(rest:List Value):Blk:= .cells (zs.map (λz:Int=> .int .i64 z)++rest) 3 .row
def fR (b n c:Nat):Value:= .slice (some ⟨b,0,none⟩) n c
def qB (ww wl wc lc n:Nat)(fr:Nat):Blk:= .cells [fR ww n wc,fR wl n lc,.int .i64 fr] 197 .fix
def iK (wh ww wl wc lc:Nat)(wr lr:List Value)(W:List Int)(x:Whl):List (Nat×Blk):=
 [(wh,qB ww wl wc lc W.length x.fr),(ww,dG W wr),(wl,dG x.l lr)]
theorem aCF: ∀W:List Int,cA (W.map λz:Int=>Value.I z)=true
 |[]=>rfl
 |_::W=>aCF W
theorem aCH {ww wl wc lc n fr:Nat}{zs:List Int}{lr:List Value}:qB ww wl wc lc n fr≠dG zs lr:=λh=>by
 injection h with _ h2
 revert h2
 decide
section
variable {H : aF} {m : Nat}
theorem aPK (hm:0<m)(M i:Nat)(hM:M<65536)(hi:i<16):lvl prog pkN m (.func 153) [.int .u16 M,.I i] H=some (.bool (M.testBit i),H):=by
 refine aS (aQ rfl) U ?_
 rw[aM3];have c1:decide ((0:Int)<=(i:Int))=true:=by rw[decide_eq_true_eq];omega
 have c2:decide ((i:Int)<16)=true:=by rw[decide_eq_true_eq];omega
 have e1:bin prog .shr 23 (.int .u16 (M:Int)) (.I (i:Int))=some (.int .u16 ((M>>>i:Nat):Int)):=Fa .u16 .i64 23 M i (by show i<=16;omega)
 have hlt:M>>>i<65536:=Nat.lt_of_le_of_lt (Nat.shiftRight_le M i) hM;have e2:bin prog .and 23 (.int .u16 ((M>>>i:Nat):Int)) (.int .u16 ((1:Nat):Int))=some (.int .u16 (((M>>>i)&&&1:Nat):Int)):=wP .u16 rfl 23 (by show _<65536;exact hlt) (by show(1:Nat)<65536;omega)
 have e2':bin prog .and 23 (.int .u16 ((M>>>i:Nat):Int)) (.int .u16 1)=some (.int .u16 (((M>>>i)&&&1:Nat):Int)):=e2;have e3:((((M>>>i)&&&1:Nat):Int)==1)=M.testBit i:=by
  rw[Nat.testBit,Nat.and_comm 1];rw[Nat.and_one_is_mod];rcases Nat.mod_two_eq_zero_or_one (M>>>i) with h|h<;>rw[h]<;>rfl
 simp only[gsR,c1,c2,e1,e2',e3]
theorem vL {a i:Nat}(ha:a<65536)(hi:i<16):bin prog .shl 23 (.int .u16 1) (.I (i:Int))=some (.int .u16 ((2 ^ i:Nat):Int))/\bin prog .or 23 (.int .u16 (a:Int)) (.int .u16 ((2 ^ i:Nat):Int))=some (.int .u16 ((a|||2 ^ i:Nat):Int)):=by
 have hp:=Ff hi;constructor
 ·have:=E9 (P:=prog) .u16 .i64 rfl 23 1 i (by show i<=16;omega)
  rw[Nat.one_mul] at this;rw[show(2:Nat) ^ i%2 ^ IntKind.u16.bits=2 ^ i from aUL hp] at this
  exact this
 ·exact Lr .u16 rfl _ (by show _<65536;exact ha) (by show _<65536;exact hp)
theorem Ac {wl n c:Nat}{zs:List Int}{lr:List Value}(hb:H[wl]? =some (dG zs lr))(hn:zs.length=n){i:Nat}(hi:i<n):cN 1 (fR wl n c) (.I (i:Int))=some (.Q wl i)/\ld1 (.Q wl i) H=some (.I (zs.getD i 0),H):=by
 constructor
 ·have:=mP 1 wl 0 n c .i64 (i:Int) U U
  simpa[fR] using this
 ·refine bA hb ?_
  rw[aUg (by simp;omega),aUq,aUh,aUf U]
  rfl
theorem aPL {wl lc:Nat}{zs:List Int}{lr:List Value}(hb:H[wl]? =some (dG zs lr))(h3:zs.length<=3): ∀(q i k:Nat),zs.length-i=q->i<=zs.length->q<k-> ∀(x2:Value),
  aL k (aO prog (lvl prog pkN m) (aL m) Oo) (Oq (lvl prog pkN m) (aL m)) (aG 2 (x2::some (.int .u16 (cD (λj=>decide (0<zs.getD j 0)) i:Nat))::aG 5 (some (fR wl zs.length lc)::some (.I zs.length)::some (.I (i:Nat))::aG 12 []))) H=some (.int .u16 (cD (λj=>decide (0<zs.getD j 0)) zs.length:Nat),H):=by
 intro q;induction q with
 |zero=>
  intro i k hq hi hk;intros;obtain⟨k,rfl⟩: ∃k',k=k'+1:=⟨k-1,by omega⟩
  have hie:i=zs.length:=U
  subst hie;have c1:decide ((zs.length:Int)<(zs.length:Int))=false:=by simp
  rw[aL,aAW];simp only[gsR,c1];rw[aM4];simp only[gsR]
 |succ q ih=>
  intro i k hq hi hk;intros;obtain⟨k,rfl⟩: ∃k',k=k'+1:=⟨k-1,by omega⟩
  have c1:decide ((i:Int)<(zs.length:Int))=true:=by rw[decide_eq_true_eq];omega
  obtain⟨a1,a2⟩:=Ac (c:=lc) hb rfl (i:=i) U
  have e4:=aA (i:=i) U
  rw[aL,aAW];by_cases hp:0<zs.getD i 0
  ·obtain⟨e1,e2⟩:=vL (a:=cD (λj=>decide (0<zs.getD j 0)) i) (i:=i) (qA _ U) U
   rw[<-Ih (p:=λj=>decide (0<zs.getD j 0)) (k:=i) (aUX hp)] at e2
   simp only[gsR,c1,a1,a2,aUX hp,e1,e2,aV,e4];exact ih (i+1) k U U U ..
  ·have e2:=Ig (p:=λj=>decide (0<zs.getD j 0)) (k:=i) (aUY hp)
   simp only[gsR,c1,a1,a2,aUY hp,aV,e4];rw[<-e2];exact ih (i+1) k U U U ..
theorem aCG (hm:10<m){wh ww wl wc lc n fr:Nat}{zs:List Int}{lr:List Value}(h0:H[wh]? =some (qB ww wl wc lc n fr))(hb:H[wl]? =some (dG zs lr))(hn:zs.length=n)(h3:n<=3):
  lvl prog pkN m (.func 154) [.pointer (some ⟨wh,0,none⟩)] H=some (.int .u16 (cD (λj=>decide (0<zs.getD j 0)) n:Nat),H):=by
 subst hn;refine aS (aQ rfl) U ?_
 rw[aM5];have l1:ld1 (.Q wh 1) H=some (fR wl zs.length lc,H):=bA h0 rfl;have l2:cX (fR wl zs.length lc)=some (.I zs.length):=rfl;simp only[gsR,l1,l2];exact aPL hb h3 zs.length 0 (m-1) U U U ..
theorem aPJ {wl ww n lc wc:Nat}{l W:List Int}{lr wr:List Value}(hn:n=W.length)(b2:H[wl]? =some (dG l lr))(b1:H[ww]? =some (dG W wr))(hl:l.length=W.length):cpy 1 (fR wl n lc) (fR ww n wc) H=some (.I n,H.set wl (dG W lr)):=by
 subst hn;have hs:dY 1 (fR ww W.length wc) W.length H=some (W.map λz:Int=> .I z):=by
  unfold dY fR;simp only;split
  ·rename_i h0
   rw[aUv.mp h0];rfl
  ·rw[b1]
   unfold dG;simp only;rw[if_pos ⟨aUi _,by simp⟩,List.drop_zero,List.take_append_of_le_length (by simp)]
   congr 1
   rw[List.take_of_length_le (by simp)]
 unfold cpy;have h2:iN (fR ww W.length wc)=some W.length:=rfl;rw[h2];simp only[fR];have hs':=hs;unfold fR at hs';rw[Nat.min_self,hs'];simp only;rw[b2];unfold dG;simp only;have:=sD (W.map λz:Int=>Value.I z) (l.map λz:Int=>Value.I z) [] lr (by simp[hl])
 rw[List.nil_append,List.nil_append,List.length_nil] at this;rw[if_pos ⟨by decide,by simp;omega,aCF W⟩,this]
def nM (o:Option Nat):Value:= .int .i64 (match o with|some k=>(k:Int)|none=> -1)
theorem Cx (k:IntKind)(n:Int)(H':aF):chk (some (Value.int k n,H')) (.int k n)=true:=by simp[chk,veq]
theorem aPM (hm:20<m){wh ww wl wc lc:Nat}{wr lr:List Value}{W:List Int}{x:Whl}(hB:Blks (iK wh ww wl wc lc wr lr W x) H)(hne:ww≠wl)(hx:WhlI W.length x)(hW: ∀y∈W,0<y/\y<=5)(h1:1<=W.length)(h3:W.length<=3)(M:Nat)(hM:M<65536):
  ∃H',lvl prog pkN m (.func 131) [.pointer (some ⟨wh,0,none⟩),.int .u16 M] H=some (nM (gK W x λi=>M.testBit i).1,H')/\Fr (λb=>b=wh∨b=wl) H H'/\Blks (iK wh ww wl wc lc wr lr W (gK W x λi=>M.testBit i).2) H':=by
 have b0:H[wh]? =some (qB ww wl wc lc W.length x.fr):=hB _ (aUm ..);have b1:H[ww]? =some (dG W wr):=hB (ww,dG W wr) (by simp[iK])
 have b2:H[wl]? =some (dG x.l lr):=hB (wl,dG x.l lr) (by simp[iK])
 have n01:wh≠ww:=λh=>by rw[h,b1] at b0;exact aCH (aUP b0).symm
 have n02:wh≠wl:=λh=>by rw[h,b2] at b0;exact aCH (aUP b0).symm
 obtain⟨n,hn⟩:=aD W.length;have hxl:=hx.len;have hxf:=hx.fr;obtain⟨p,hp⟩: ∃p:Nat->Bool,p=λi=>M.testBit i:=⟨_,rfl⟩
 rw[<-hp];refine iD (aQ rfl) U ?_
 rw[aMQ];have l0:ld1 (.Q wh 0) H=some (fR ww W.length wc,H):=bA b0 rfl;have l0':cX (fR ww W.length wc)=some (.I W.length):=rfl;have hpow:2 ^ W.length<65536:=Ff U
 have hpos:0<2 ^ W.length:=Nat.pow_pos U
 have e1:=(vL (a:=0) (i:=W.length) U U).1
 have e2:IntKind.u16.wrap ((2 ^ W.length:Nat)-(1:Int))=((2 ^ W.length-1:Nat):Int):=by rw[Bq];omega
 have e3:bin prog .and 23 (.int .u16 (M:Int)) (.int .u16 ((2 ^ W.length-1:Nat):Int))=some (.int .u16 ((cD p W.length:Nat):Int)):=by
  rw[wP .u16 rfl _ (by show _<65536;exact hM) (by show _<65536;omega),aPv,hp]
 have hml: ∀q:Nat->Bool,cD q W.length<65536:=λq=>qA q U
 by_cases ha:lY p W.length=true
 ·have c1:(((cD p W.length:Nat):Int)==0)=false:=by
   rw[beq_eq_false_iff_ne];intro h;have:=(Ab p W.length).mp U
   rw[ha] at this;cases this
  have s1:=aCG (m:=m-1) U b0 b2 hxl h3
  have a1:bin prog .and 23 (.int .u16 ((cD p W.length:Nat):Int)) (.int .u16 ((cD (λj=>decide (0<x.l.getD j 0)) W.length:Nat):Int))=some (.int .u16 ((cD (kC x.l p) W.length:Nat):Int)):=by
   rw[wP .u16 rfl _ (by show _<65536;exact hml _) (by show _<65536;exact hml _),aCz]
   rfl
  obtain⟨i,hi,hil,hip,hip2⟩:=aIG (s:=x) (λy hy=>(hW y hy).1) ha
  have hres:gK W x p=(some i,⟨(iP W x p).set i ((iP W x p).getD i 0-1),(i+1)%W.length⟩):=by
   unfold gK;rw[if_pos ha,hi]
  have hpk: ∀G:aF,lvl prog pkN (m-1) (.func 129) [.int .u16 ((cD (kC (iP W x p) p) W.length:Nat):Int),.I x.fr,.I W.length] G=some (.I i,G):=λG=>by
   rw[Mn _ U,Lu (hml _) U hxf,aPG,hi]
  have e5:=aA (i:=i) U
  have e6:bin prog .rem 3 (.I ((i+1:Nat):Int)) (.I W.length)=some (.I (((i+1)%W.length:Nat):Int)):=wU (i+1) W.length _ rfl U
  rw[hres];by_cases hc:lY (kC x.l p) W.length=true
  ·have hf:iP W x p=x.l:=by unfold iP;rw[if_pos hc]
   rw[hf] at hpk hip2⊢;have c2:(((cD (kC x.l p) W.length:Nat):Int)==0)=false:=by
    rw[beq_eq_false_iff_ne];intro h;have:=(Ab (kC x.l p) W.length).mp U
    rw[hc] at this;cases this
   have l2:ld1 (.Q wh 2) H=some (.I x.fr,H):=bA b0 rfl;have l1:ld1 (.Q wh 1) H=some (fR wl W.length lc,H):=bA b0 rfl;obtain⟨g1,g2⟩:=Ac (c:=lc) b2 hxl hil;have hle:x.l.getD i 0<=5:=by
    have:i<x.l.length:=U
    rw[aUh,aUf this,aUG]
    exact(hx.wt _ (List.getElem_mem this)).2
   have e7:IntKind.i64.wrap (x.l.getD i 0-1)=x.l.getD i 0-1:=bJ U U
   have st1:stN 1 (.Q wl i) (.I (x.l.getD i 0-1)) H=some (undef,H.set wl (dG (x.l.set i (x.l.getD i 0-1)) lr)):=by
    rw[hP b2 aC (by simp;omega),List.set_append_left _ _ (by simp;omega),<-List.map_set]
    rfl
   have b0':(H.set wl (dG (x.l.set i (x.l.getD i 0-1)) lr))[wh]? =some (qB ww wl wc lc W.length x.fr):=by rw[aUe (λh=>n02 h.symm),b0]
   have st2:stN 1 (.Q wh 2) (.I (((i+1)%W.length:Nat):Int)) (H.set wl (dG (x.l.set i (x.l.getD i 0-1)) lr))=some (undef,(H.set wl (dG (x.l.set i (x.l.getD i 0-1)) lr)).set wh (qB ww wl wc lc W.length ((i+1)%W.length))):=hP b0' aC (by simp)
   simp only[gsR,l0,l0',e1,eM,e2,e3,c1,s1,a1,c2,l2,Cx,hpk,l1,g1,g2,e7,st1,aV,e5,e6,st2];refine⟨_,rfl,⟨by simp,λb hb hbn=> ?_⟩,λq hq=> ?_⟩
   ·rw[aUe (λh=>hbn (.inl h.symm)),aUe (λh=>hbn (.inr h.symm))]
   ·simp only[iK,aUw,aUD,or_false] at hq
    rcases hq with rfl|rfl|rfl
    ·exact dN b0'
    ·rw[aUe n01,aUe hne.symm,b1]
    ·rw[aUe n02]
     exact dN b2
  ·have hf:iP W x p=W:=by unfold iP;rw[if_neg hc]
   rw[hf] at hpk hip2⊢;have c2:(((cD (kC x.l p) W.length:Nat):Int)==0)=true:=by
    rw[beq_iff_eq];have:=(Ab (kC x.l p) W.length).mpr (by simpa using hc)
    omega
   have l1:ld1 (.Q wh 1) H=some (fR wl W.length lc,H):=bA b0 rfl;obtain⟨H1,hH1⟩:=aD (H.set wl (dG W lr));have cp:cpy 1 (fR wl W.length lc) (fR ww W.length wc) H=some (.I W.length,H1):=by rw[hH1];exact aPJ rfl b2 b1 hxl
   have b01:H1[wh]? =some (qB ww wl wc lc W.length x.fr):=by rw[hH1,aUe (λh=>n02 h.symm),b0]
   have b11:H1[ww]? =some (dG W wr):=by rw[hH1,aUe hne.symm,b1]
   have b21:H1[wl]? =some (dG W lr):=by rw[hH1];exact dN b2
   have s2:=aCG (m:=m-1) U b01 b21 rfl h3
   have a2:bin prog .and 23 (.int .u16 ((cD p W.length:Nat):Int)) (.int .u16 ((cD (λj=>decide (0<W.getD j 0)) W.length:Nat):Int))=some (.int .u16 ((cD (kC W p) W.length:Nat):Int)):=by
    rw[wP .u16 rfl _ (by show _<65536;exact hml _) (by show _<65536;exact hml _),aCz]
    rfl
   have l2:ld1 (.Q wh 2) H1=some (.I x.fr,H1):=bA b01 rfl;have l11:ld1 (.Q wh 1) H1=some (fR wl W.length lc,H1):=bA b01 rfl;obtain⟨g1,g2⟩:=Ac (c:=lc) b21 rfl hil;have hle:W.getD i 0<=5:=by
    rw[aUh,aUf hil,aUG]
    exact(hW _ (List.getElem_mem hil)).2
   have e7:IntKind.i64.wrap (W.getD i 0-1)=W.getD i 0-1:=bJ U U
   have st1:stN 1 (.Q wl i) (.I (W.getD i 0-1)) H1=some (undef,H1.set wl (dG (W.set i (W.getD i 0-1)) lr)):=by
    rw[hP b21 aC (by simp;omega),List.set_append_left _ _ (by simp;omega),<-List.map_set]
    rfl
   have b0':(H1.set wl (dG (W.set i (W.getD i 0-1)) lr))[wh]? =some (qB ww wl wc lc W.length x.fr):=by rw[aUe (λh=>n02 h.symm),b01]
   have st2:stN 1 (.Q wh 2) (.I (((i+1)%W.length:Nat):Int)) (H1.set wl (dG (W.set i (W.getD i 0-1)) lr))=some (undef,(H1.set wl (dG (W.set i (W.getD i 0-1)) lr)).set wh (qB ww wl wc lc W.length ((i+1)%W.length))):=hP b0' aC (by simp)
   simp only[gsR,l0,l0',e1,eM,e2,e3,c1,s1,a1,c2,l1,cp,s2,a2,l2,Cx,hpk,l11,g1,g2,e7,st1,aV,e5,e6,st2];refine⟨_,rfl,⟨by simp[hH1],λb hb hbn=> ?_⟩,λq hq=> ?_⟩
   ·rw[aUe (λh=>hbn (.inl h.symm)),aUe (λh=>hbn (.inr h.symm)),hH1,aUe (λh=>hbn (.inr h.symm))]
   ·simp only[iK,aUw,aUD,or_false] at hq
    rcases hq with rfl|rfl|rfl
    ·exact dN b0'
    ·rw[aUe n01,aUe hne.symm,b11]
    ·rw[aUe n02]
     exact dN b21
 ·have c1:(((cD p W.length:Nat):Int)==0)=true:=by
   rw[beq_iff_eq];have:=(Ab p W.length).mpr (by simpa using ha)
   omega
  have hres:gK W x p=(none,x):=by
   unfold gK;rw[if_neg ha]
  rw[hres];simp only[gsR,l0,l0',e1,eM,e2,e3,c1]
  exact⟨_,rfl,Fr.dS _ _,hB⟩
end
def tT (zs:List Nat):List Int:=zs.map λz:Nat=>(z:Int)
def dV (zs:List Nat):Blk:=dG (tT zs) []
def dW (zs:List Nat):Blk:= .cells (zs.map λz:Nat=> .int .u16 (z:Int)) 23 .row
def o7 (ga aa n:Nat):Blk:= .cells [cR ga n,cR aa n] 199 .fix
def fB (ab ga aa:Nat)(g a:List Nat):List (Nat×Blk):=[(ab,o7 ga aa g.length),(ga,dV g),(aa,dV a)]
def stB (mb n ins outs:Nat):Blk:= .cells [cR mb n,.int .u16 ins,.int .u16 outs] 210 .fix
theorem aCJ (zs:List Nat):(tT zs).length=zs.length:=by simp[tT]
theorem aPP (zs:List Nat)(i:Nat):(tT zs).getD i 0=((zs.getD i 0:Nat):Int):=by
 unfold tT;rw[aUh,aUh,aUq];cases zs[i]? <;>rfl
theorem aPQ (zs:List Nat)(i z:Nat):tT (zs.set i z)=(tT zs).set i (z:Int):=by simp[tT,List.map_set]
theorem aCI {zs:List Nat}{n i:Nat}(h: ∀z∈zs,z<n)(hi:i<zs.length):zs.getD i 0<n:=by
 rw[aUh,aUf hi];exact h _ (List.getElem_mem hi)
section
variable {H : aF} {m : Nat}
theorem Ii {b n:Nat}{zs:List Nat}(hb:H[b]? =some (dV zs))(hn:zs.length=n){i:Nat}(hi:i<n):cN 1 (cR b n) (.I (i:Int))=some (.Q b i)/\ld1 (.Q b i) H=some (.I (zs.getD i 0:Nat),H):=by
 have:=Ac (c:=n) hb ((aCJ zs).trans hn) hi;rw[aPP] at this;exact this
theorem Ij {b n c:Nat}{zs:List Nat}(hb:H[b]? =some (dW zs))(hn:zs.length=n){i:Nat}(hi:i<n):cN 1 (.slice (some ⟨b,0,none⟩) n c) (.I (i:Int))=some (.Q b i)/\ld1 (.Q b i) H=some (.int .u16 (zs.getD i 0:Nat),H):=by
 constructor
 ·have:=mP 1 b 0 n c .i64 (i:Int) U U
  simpa using this
 ·refine bA hb ?_
  rw[aUq,aUh,aUf U]
  rfl
theorem aCK {b i:Nat}{zs:List Int}{lr:List Value}(z:Int)(hb:H[b]? =some (dG zs lr))(hi:i<zs.length):stN 1 (.Q b i) (.I z) H=some (undef,H.set b (dG (zs.set i z) lr)):=by
 rw[hP hb aC (by simp;omega),List.set_append_left _ _ (by simp;omega),<-List.map_set]
 rfl
theorem aCL {b i:Nat}{zs:List Nat}(z:Nat)(hb:H[b]? =some (dV zs))(hi:i<zs.length):stN 1 (.Q b i) (.I z) H=some (undef,H.set b (dV (zs.set i z))):=by
 rw[aCK (z:Int) hb (by rw[aCJ];exact hi),<-aPQ]
 rfl
theorem aCM {b i:Nat}{zs:List Nat}(z:Nat)(hb:H[b]? =some (dW zs))(hi:i<zs.length):stN 1 (.Q b i) (.int .u16 z) H=some (undef,H.set b (dW (zs.set i z))):=by
 rw[hP hb aC (by simp;omega),<-List.map_set]
 rfl
theorem mC (i:Nat)(hi:i<1000):IntKind.i64.wrap ((i:Int)+1)=((i+1:Nat):Int):=by rw[bJ U U];omega
section
variable {ab ga aa sb mb cb : Nat} {rows : List Nat} {M : List Int} {g a : List Nat} {n : Nat}
theorem aPO (hB:Blks (fB ab ga aa g a) H)(hs:H[sb]? =some (stB mb n (dD M n) (fQ M n)))(hc:H[cb]? =some (dW (fK rows n)))(hg:g.length=n)(hgl: ∀z∈g,z<n)(hr:rows.length=n)(hM:M.length=n)(h1:1<=n)(h16:n<=16)(hm:2<m):
  ∀(q i k:Nat),n-i=q->i<=n->q<k-> ∀(x6:Value),
  aL k (aO prog (lvl prog pkN m) (aL m) Of) (Og (lvl prog pkN m) (aL m)) (some (.Q ab 0)::some (.Q sb 0)::some (cR cb n)::aG 3 (x6::some (cR H.length n)::aG 6 (some (cR cb n)::some (.I n)::some (.I (i:Nat))::aG 40 []))) (H++[dW (grL (lL (fY rows) M g n) n i)])=some (cR H.length n,H++[dW (grL (lL (fY rows) M g n) n n)]):=by
 obtain⟨gr,hgr⟩:=aD (lL (fY rows) M g n);rw[<-hgr];have b0:H[ab]? =some (o7 ga aa n):=by rw[<-hg];exact hB _ (aUm ..)
 have b1:H[ga]? =some (dV g):=hB (ga,dV g) (by simp[fB])
 intro q;induction q with
 |zero=>
  intro i k hq hi hk;intros;obtain⟨k,rfl⟩: ∃k',k=k'+1:=⟨k-1,by omega⟩
  have hie:i=n:=U
  subst hie;have c1:decide ((i:Int)<(i:Int))=false:=by simp
  rw[aL,aAS];simp only[gsR,c1];rw[aMM];simp only[gsR]
 |succ q ih=>
  intro i k hq hi hk;intros;obtain⟨k,rfl⟩: ∃k',k=k'+1:=⟨k-1,by omega⟩
  have hin:i<n:=U
  have c1:decide ((i:Int)<(n:Int))=true:=by rw[decide_eq_true_eq];omega
  obtain⟨G,hG⟩:=aD (H++[dW (grL gr n i)]);have e0:G[ab]? =some (o7 ga aa n):=by rw[hG];exact lN b0 _
  have e1:G[ga]? =some (dV g):=by rw[hG];exact lN b1 _
  have e2:G[sb]? =some (stB mb n (dD M n) (fQ M n)):=by rw[hG];exact lN hs _
  have e3:G[cb]? =some (dW (fK rows n)):=by rw[hG];exact lN hc _
  have e4:G[H.length]? =some (dW (grL gr n i)):=by rw[hG];exact cG _ _
  obtain⟨a1,a2⟩:=Ij (c:=n) e3 (aIH _ _) hin;have a1:cN 1 (cR cb n) (.I (i:Int))=some (.Q cb i):=a1;have l1:ld1 (.Q sb 1) G=some (.int .u16 (dD M n:Nat),G):=bA e2 rfl;have l2:ld1 (.Q sb 2) G=some (.int .u16 (fQ M n:Nat),G):=bA e2 rfl;have l0:ld1 (.Q ab 0) G=some (cR ga n,G):=bA e0 rfl;obtain⟨a3,a4⟩:=Ii e1 hg hin;have hcl:(fK rows n).getD i 0<65536:=aPw U hin
  have hil:dD M n<65536:=qA _ h16;have hol:fQ M n<65536:=qA _ h16;have a5:bin prog .and 23 (.int .u16 ((fK rows n).getD i 0:Nat)) (.int .u16 (dD M n:Nat))=some (.int .u16 ((fK rows n).getD i 0&&&dD M n:Nat)):=wP .u16 rfl _ (by show _<65536;exact hcl) (by show _<65536;exact hil)
  have hal:(fK rows n).getD i 0&&&dD M n<65536:=Nat.lt_of_le_of_lt Nat.and_le_left hcl;have a6:cX (cR cb n)=some (.I n):=rfl;have hgi:g.getD i 0<n:=aCI hgl U
  have a7:lvl prog pkN m (.func 129) [.int .u16 ((fK rows n).getD i 0&&&dD M n:Nat),.I (g.getD i 0:Nat),.I n] G=some (nM (fJ (λj=>((fK rows n).getD i 0&&&dD M n).testBit j) (g.getD i 0) n),G):=by
   rw[Mn _ U,Lu hal h16 hgi]
   rfl
  have hgm:gr i=if(i:Int)∈M then none else fJ (λj=>((fK rows n).getD i 0&&&dD M n).testBit j) (g.getD i 0) n:=by rw[hgr];exact aPA hr hin
  have e9:=mC i U
  rw[aL,aAS];rw[<-hG];cases hp:fJ (λj=>((fK rows n).getD i 0&&&dD M n).testBit j) (g.getD i 0) n with
  |none=>
   rw[hp] at a7 hgm;have hno:gr i=none:=by rw[hgm];split<;>rfl
   have c2:((-1:Int)!= -1)=false:=rfl;have hL:=aCA (gr:=gr) (n:=n) (kk:=i) (λj _=>by rw[hno];simp)
   simp only[gsR,c1,a1,a2,l1,a5,l0,a3,a4,a6,a7,nM,c2,aV,e9];rw[hG,<-hL];exact ih (i+1) k U U U ..
  |some j=>
   rw[hp] at a7 hgm;have hjn:=(uW hp).1;have c2:(((j:Int))!= -1)=true:=by rw[bne_iff_ne];omega
   have c3:=aPK (H:=G) (m:=m) U (fQ M n) i hol U
   rw[aPE hin] at c3;by_cases hmem:(i:Int)∈M
   ·have hno:gr i=none:=by rw[hgm,if_pos hmem]
    have hL:=aCA (gr:=gr) (n:=n) (kk:=i) (λj _=>by rw[hno];simp)
    rw[aUY (not_not_intro hmem)] at c3;simp only[gsR,c1,a1,a2,l1,a5,l0,a3,a4,a6,a7,nM,c2,l2,c3,aV,e9];rw[hG,<-hL];exact ih (i+1) k U U U ..
   ·have hyes:gr i=some j:=by rw[hgm,if_neg hmem]
    have hL:=aPx (n:=n) (kk:=i) hjn hyes;rw[aUX hmem] at c3;obtain⟨a8,a9⟩:=Ij (c:=n) e4 (xN _ _ _) hjn;have hv:(grL gr n i).getD j 0=grM gr i j:=by rw[aUh,Cw hjn];rfl
    rw[hv] at a9;obtain⟨s1,s2⟩:=vL (a:=grM gr i j) (i:=i) (aCB _ U _) U
    have st:=aCM (grM gr i j|||2 ^ i) e4 (i:=j) (by rw[xN];exact hjn)
    rw[<-hL] at st;have a8':cN 1 (cR H.length n) (.I (j:Int))=some (.Q H.length j):=a8;simp only[gsR,c1,a1,a2,l1,a5,l0,a3,a4,a6,a7,nM,c2,l2,c3,a8',a9,s1,s2,st,aV,e9];rw[hG,gZ];exact ih (i+1) k U U U ..
theorem aPN (hB:Blks (fB ab ga aa g a) H)(hs:H[sb]? =some (stB mb n (dD M n) (fQ M n)))(hc:H[cb]? =some (dW (fK rows n)))(hg:g.length=n)(hgl: ∀z∈g,z<n)(hr:rows.length=n)(hM:M.length=n)(h1:1<=n)(h16:n<=16)(hm:30<m):
  lvl prog pkN m (.func 128) [.Q ab 0,.Q sb 0,cR cb n] H=some (cR H.length n,H++[dW (grL (lL (fY rows) M g n) n n)]):=by
 refine aS (aQ rfl) U ?_
 rw[aMN];have a6:cX (cR cb n)=some (.I n):=rfl;have mk:=uQ (H:=H) 23 1 2 [.int .u16 0] .i64 .i64 (n:Int) U U U rfl
 have hz:H++[Blk.cells (List.replicate (n:Int).toNat [Value.int .u16 0]).flatten 23 .row]=H++[dW (grL (lL (fY rows) M g n) n 0)]:=by
  have: ∀n,(List.replicate n [Value.int .u16 0]).flatten=List.replicate n (.int .u16 0):=by
   intro n;induction n with
   |zero=>rfl
   |succ n ih=>rw[List.replicate_succ,aUN,ih];rfl
  rw[aUF,this,aPy,dW,List.map_replicate];rfl
 rw[hz,aUF] at mk;simp only[gsR,a6,mk];exact aPO hB hs hc hg hgl hr hM h1 h16 U n 0 (m-1) rfl U U ..
end
end
structure RunS (H:aF)(ab ga aa sb mb cb:Nat)(rows:List Nat)(n:Nat)(s:Mat):Prop where
 arb:Blks (fB ab ga aa s.g s.a) H
 st:H[sb]? =some (stB mb n (dD s.m n) (fQ s.m n))
 mt:H[mb]? =some (dG s.m [])
 cols:H[cb]? =some (dW (fK rows n))
section
variable {H : aF} {m : Nat} {ab ga aa sb mb cb : Nat} {rows : List Nat} {n : Nat} {s : Mat}
theorem RunS.ext {H':aF}(h:RunS H ab ga aa sb mb cb rows n s)(he:Ext H H'):RunS H' ab ga aa sb mb cb rows n s:=
 ⟨Blks.dx _ _ _ h.arb he,by rw[he.2 _ (bU h.st) id,h.st],by rw[he.2 _ (bU h.mt) id,h.mt],by rw[he.2 _ (bU h.cols) id,h.cols]⟩
theorem Ad {zs:List Nat}{ws:List Int}{lr:List Value}:dW zs≠dG ws lr:=λh=>by
 injection h with _ h2
 revert h2
 decide
theorem Q7 {mb n i o:Nat}{ws:List Int}{lr:List Value}:stB mb n i o≠dG ws lr:=λh=>by
 injection h with _ h2
 revert h2
 decide
theorem aCO {mb n i o:Nat}{zs:List Nat}:stB mb n i o≠dW zs:=λh=>by
 injection h with _ h2
 revert h2
 decide
theorem Q6 {ga aa n:Nat}{ws:List Int}{lr:List Value}:o7 ga aa n≠dG ws lr:=λh=>by
 injection h with _ h2
 revert h2
 decide
theorem aPS {ga aa n mb k i o:Nat}:o7 ga aa n≠stB mb k i o:=λh=>by
 injection h with _ h2
 revert h2
 decide
theorem aCN {a i:Nat}(ha:a<65536)(hi:i<16):bin prog .andNot 23 (.int .u16 (a:Int)) (.int .u16 ((2 ^ i:Nat):Int))=some (.int .u16 ((iF a (2 ^ i):Nat):Int)):=
 X7 .u16 rfl _ (by show _<65536;exact ha) (by show _<65536;exact Ff hi)
theorem RunS.aPR (h:RunS H ab ga aa sb mb cb rows n s)(hI:MatI n s)(hn:1<=n)(hne:ga≠aa)(hma:mb≠ga)(hmb:mb≠aa)(first:Bool){i k:Nat}(hi:i<n)(hk:k<n)(hf:s.m.getD i 0= -1):
  let H1:=H.set mb (dG (s.m.set i (k:Int)) [])
  let H2:=H1.set sb (stB mb n (iF (dD s.m n) (2 ^ i)) (fQ s.m n))
  let H3:=H2.set sb (stB mb n (iF (dD s.m n) (2 ^ i)) (iF (fQ s.m n) (2 ^ k)))
  let H4:=H3.set ga (dV (s.g.set k ((i+1)%n)))
  let H5:=H4.set aa (dV (s.a.set i ((k+1)%n)))
  H1[sb]? =some (stB mb n (dD s.m n) (fQ s.m n))/\H2[sb]? =some (stB mb n (iF (dD s.m n) (2 ^ i)) (fQ s.m n))/\
  RunS H3 ab ga aa sb mb cb rows n ⟨s.m.set i (k:Int),s.g,s.a⟩/\H4[aa]? =some (dV s.a)/\RunS H5 ab ga aa sb mb cb rows n ⟨s.m.set i (k:Int),s.g.set k ((i+1)%n),s.a.set i ((k+1)%n)⟩:=by
 intro H1 H2 H3 H4 H5;have b0:H[ab]? =some (o7 ga aa s.g.length):=h.arb _ (aUm ..);have b1:H[ga]? =some (dV s.g):=h.arb (ga,dV s.g) (by simp[fB])
 have b2:H[aa]? =some (dV s.a):=h.arb (aa,dV s.a) (by simp[fB])
 have nsm:sb≠mb:=λhh=>by have:=h.st;rw[hh,h.mt] at this;exact Q7 (aUP this).symm
 have nsg:sb≠ga:=λhh=>by have:=h.st;rw[hh,b1] at this;exact Q7 (aUP this).symm
 have nsa:sb≠aa:=λhh=>by have:=h.st;rw[hh,b2] at this;exact Q7 (aUP this).symm
 have nsc:sb≠cb:=λhh=>by have:=h.st;rw[hh,h.cols] at this;exact aCO (aUP this).symm
 have ncm:cb≠mb:=λhh=>by have:=h.cols;rw[hh,h.mt] at this;exact Ad (aUP this).symm
 have ncg:cb≠ga:=λhh=>by have:=h.cols;rw[hh,b1] at this;exact Ad (aUP this).symm
 have nca:cb≠aa:=λhh=>by have:=h.cols;rw[hh,b2] at this;exact Ad (aUP this).symm
 have nam:ab≠mb:=λhh=>by have:=h.mt;rw[<-hh,b0] at this;exact Q6 (aUP this)
 have nag:ab≠ga:=λhh=>by have:=b1;rw[<-hh,b0] at this;exact Q6 (aUP this)
 have naa:ab≠aa:=λhh=>by have:=b2;rw[<-hh,b0] at this;exact Q6 (aUP this)
 have nas:ab≠sb:=λhh=>by have:=h.st;rw[<-hh,b0] at this;exact aPS (aUP this)
 have s1:H1[sb]? =some (stB mb n (dD s.m n) (fQ s.m n)):=by rw[aUe nsm.symm,h.st]
 have s2:H2[sb]? =some (stB mb n (iF (dD s.m n) (2 ^ i)) (fQ s.m n)):=dN s1;have k3: ∀b,b≠sb->b≠mb->H3[b]? =H[b]? :=λb h1 h2=>by rw[aUe h1.symm,aUe h1.symm,aUe h2.symm]
 have hins:=aPB (k:=k) hi hI.ml;have houts:=aPD (k:=k) hi hI.ml hf;have m3:H3[mb]? =some (dG (s.m.set i (k:Int)) []):=by
  rw[aUe nsm,aUe nsm];exact dN h.mt
 have s3:H3[sb]? =some (stB mb n (dD (s.m.set i (k:Int)) n) (fQ (s.m.set i (k:Int)) n)):=by rw[hins,houts];exact dN s2
 have g3:H3[ga]? =some (dV s.g):=by rw[k3 ga nsg.symm hma.symm,b1]
 have a3:H3[aa]? =some (dV s.a):=by rw[k3 aa nsa.symm hmb.symm,b2]
 have r3:H3[ab]? =some (o7 ga aa s.g.length):=by rw[k3 ab nas nam,b0]
 have c3:H3[cb]? =some (dW (fK rows n)):=by rw[k3 cb nsc.symm ncm,h.cols]
 have a4:H4[aa]? =some (dV s.a):=by rw[aUe hne,a3]
 have k5: ∀b,b≠ga->b≠aa->H5[b]? =H3[b]? :=λb h1 h2=>by rw[aUe h2.symm,aUe h1.symm]
 refine⟨s1,s2,⟨λp hp=> ?_,s3,m3,c3⟩,a4,⟨λp hp=> ?_,by rw[k5 sb nsg nsa,s3],by rw[k5 mb hma hmb,m3],by rw[k5 cb ncg nca,c3]⟩⟩
 ·simp only[fB,aUw,aUD,or_false] at hp
  rcases hp with rfl|rfl|rfl
  ·exact r3
  ·exact g3
  ·exact a3
 ·simp only[fB,aUw,aUD,or_false] at hp
  rcases hp with rfl|rfl|rfl
  ·rw[k5 ab nag naa,r3,List.length_set]
  ·rw[aUe hne.symm]
   exact dN g3
  ·exact dN a4
end
section
variable {H : aF} {m : Nat} {ab ga aa sb mb cb : Nat} {rows : List Nat} {n : Nat} {s0 : Mat}
theorem aPT {H0:aF}{rounds rd was:Nat}(hI0:MatI n s0)(h1:1<=n)(h16:n<=16)(hne:ga≠aa)(hma:mb≠ga)(hmb:mb≠aa)(hsb:H0.length<=sb)(hmb0:H0.length<=mb)(hm:2<m){K:Ex->K (Value×aF)}{Q:aF->Value->Prop}
  (hK: ∀H',RunS H' ab ga aa sb mb cb rows n (rnd (fY rows) n (rd==0) s0)->Fr (λb=>b=ga∨b=aa) H0 H'-> ∀(x6 lH Ar As qK:Value),∃H2 r,Ph (lvl prog pkN m) (aL m) K (.Q ab 0) x6 (.I n) (.Q sb 0) (cR cb n) lH (.int .u16 was) (.I rounds) (.I (rd:Nat)) Ar As qK H'=some (r,H2)/\Q H2 r):
  ∀(q i k:Nat)(H:aF)(gb:Nat),n-i=q->i<=n->q<k->RunS H ab ga aa sb mb cb rows n ((List.range i).foldl (acc (lL (fY rows) s0.m s0.g n) n (rd==0)) s0)->Fr (λb=>b=ga∨b=aa) H0 H->H[gb]? =some (dW (grL (lL (fY rows) s0.m s0.g n) n n))->
  ∀(x6:Value),∃H2 r,aL k (aO prog (lvl prog pkN m) (aL m) Pf) (Pj (lvl prog pkN m) (aL m) K) (some (.Q ab 0)::aG 5 (x6::some (.I n)::aG 1 (some (.Q sb 0)::some (cR cb n)::some (.I (rd:Nat))::some (.int .u16 was)::aG 33 (some (.I rounds)::some (.I (rd:Nat))::aG 9 (some (cR gb n)::some (.I n)::some (.I (i:Nat))::aG 75 []))))) H=some (r,H2)/\Q H2 r:=by
 intro q;induction q with
 |zero=>
  intro i k H gb hq hi hk hS hfr hgb;intros;obtain⟨k,rfl⟩: ∃k',k=k'+1:=⟨k-1,by omega⟩
  have hie:i=n:=U
  subst hie;have c1:decide ((i:Int)<(i:Int))=false:=by simp
  rw[aL,aA5];simp only[gsR,c1];rw[aNy];exact hK H hS hfr ..
 |succ q ih=>
  intro i k H gb hq hi hk hS hfr hgb;intros;obtain⟨k,rfl⟩: ∃k',k=k'+1:=⟨k-1,by omega⟩
  have hin:i<n:=U
  obtain⟨gr,hgr⟩:=aD (lL (fY rows) s0.m s0.g n);obtain⟨s,hs⟩:=aD ((List.range i).foldl (acc gr n (rd==0)) s0);rw[<-hgr] at hS hgb ih;rw[<-hs] at hS;have hI:MatI n s:=by rw[hs];exact MatI.Qe U _ hI0
  have hmi:s.m.getD i 0=s0.m.getD i 0:=by rw[hs];exact Bu _ _ (by simp)
  have hnext:(List.range (i+1)).foldl (acc gr n (rd==0)) s0=match fJ (λk=>(grM gr n i).testBit k) (s.a.getD i 0) n with
   |none=>s
   |some k=>⟨s.m.set i (k:Int),if(rd==0)=true then s.g.set k ((i+1)%n) else s.g,if(rd==0)=true then s.a.set i ((k+1)%n) else s.a⟩:=by
   rw[aUM,List.foldl_append,List.foldl_cons,List.foldl_nil,<-hs,hgr];exact aPu hmi
  have c1:decide ((i:Int)<(n:Int))=true:=by rw[decide_eq_true_eq];omega
  have b0:H[ab]? =some (o7 ga aa s.g.length):=hS.arb _ (aUm ..);have b1:H[ga]? =some (dV s.g):=hS.arb (ga,dV s.g) (by simp[fB])
  have b2:H[aa]? =some (dV s.a):=hS.arb (aa,dV s.a) (by simp[fB])
  rw[hI.gl] at b0;obtain⟨a1,a2⟩:=Ij (c:=n) hgb (xN _ _ _) hin;have a1:cN 1 (cR gb n) (.I (i:Int))=some (.Q gb i):=a1;have hv:(grL gr n n).getD i 0=grM gr n i:=by rw[aUh,Cw hin];rfl
  rw[hv] at a2;have l1:ld1 (.Q ab 1) H=some (cR aa n,H):=bA b0 rfl;obtain⟨a3,a4⟩:=Ii b2 hI.al hin;have hai:s.a.getD i 0<n:=aCI hI.a (by rw[hI.al];exact hin)
  have a5:lvl prog pkN m (.func 129) [.int .u16 (grM gr n i:Nat),.I (s.a.getD i 0:Nat),.I n] H=some (nM (fJ (λj=>(grM gr n i).testBit j) (s.a.getD i 0) n),H):=by
   rw[Mn _ U,Lu (aCB gr h16 i) h16 hai]
   rfl
  have e9:=mC i U
  rw[aL,aA5];cases hp:fJ (λk=>(grM gr n i).testBit k) (s.a.getD i 0) n with
  |none=>
   rw[hp] at a5 hnext;have c2:((-1:Int)== -1)=true:=rfl;simp only[gsR,c1,a1,a2,l1,a3,a4,a5,nM,c2,aV,e9];exact ih (i+1) k H gb U U U (by rw[hnext];exact hS) hfr hgb ..
  |some j=>
   rw[hp] at a5 hnext;have hjn:=(uW hp).1;have hjb:=(uW hp).2;have hfree:s.m.getD i 0= -1:=by
    have:gr j=some i:=by
     rw[grM,gY,aUX hjn,aUA,beq_iff_eq] at hjb;exact hjb
    rw[hgr] at this;exact hmi.trans (aCD this).1
   have c2:((j:Int)== -1)=false:=by rw[beq_eq_false_iff_ne];omega
   obtain⟨t1,t2,t3,t4,t5⟩:=hS.aPR hI h1 hne hma hmb (rd==0) hin hjn hfree;have l2:ld1 (.Q sb 0) H=some (cR mb n,H):=bA hS.st rfl;have i2:cN 1 (cR mb n) (.I (i:Int))=some (.Q mb i):=(Ac (c:=n) hS.mt hI.ml hin).1;have st1:=aCK (i:=i) (j:Int) hS.mt (by rw[hI.ml];exact hin)
   obtain⟨H1,hH1⟩:=aD (H.set mb (dG (s.m.set i (j:Int)) []));rw[<-hH1] at t1 t2 t3 t4 t5 st1;have l3:ld1 (.Q sb 1) H1=some (.int .u16 (dD s.m n:Nat),H1):=bA t1 rfl;have hil:dD s.m n<65536:=qA _ h16;have hol:fQ s.m n<65536:=qA _ h16;have hi1:=(vL (a:=0) (i:=i) U U).1
   have hj1:=(vL (a:=0) (i:=j) U U).1
   have hi2:=aCN (i:=i) hil U
   have hj2:=aCN (i:=j) hol U
   have st2:stN 1 (.Q sb 1) (.int .u16 (iF (dD s.m n) (2 ^ i):Nat)) H1=some (undef,H1.set sb (stB mb n (iF (dD s.m n) (2 ^ i)) (fQ s.m n))):=hP t1 aC (by simp)
   obtain⟨H2,hH2⟩:=aD (H1.set sb (stB mb n (iF (dD s.m n) (2 ^ i)) (fQ s.m n)));rw[<-hH2] at t2 t3 t4 t5 st2;have l4:ld1 (.Q sb 2) H2=some (.int .u16 (fQ s.m n:Nat),H2):=bA t2 rfl;have st3:stN 1 (.Q sb 2) (.int .u16 (iF (fQ s.m n) (2 ^ j):Nat)) H2=some (undef,H2.set sb (stB mb n (iF (dD s.m n) (2 ^ i)) (iF (fQ s.m n) (2 ^ j)))):=hP t2 aC (by simp)
   obtain⟨H3,hH3⟩:=aD (H2.set sb (stB mb n (iF (dD s.m n) (2 ^ i)) (iF (fQ s.m n) (2 ^ j))));rw[<-hH3] at t3 t4 t5 st3;have ngs:gb≠sb:=λhh=>by have:=hS.st;rw[<-hh,hgb] at this;exact aCO (aUP this).symm
   have ngm:gb≠mb:=λhh=>by have:=hS.mt;rw[<-hh,hgb] at this;exact Ad (aUP this)
   have ngg:gb≠ga:=λhh=>by have:=b1;rw[<-hh,hgb] at this;exact Ad (aUP this)
   have nga:gb≠aa:=λhh=>by have:=b2;rw[<-hh,hgb] at this;exact Ad (aUP this)
   have k3: ∀b,b≠sb->b≠mb->H3[b]? =H[b]? :=λb h1 h2=>by rw[hH3,hH2,hH1,aUe h1.symm,aUe h1.symm,aUe h2.symm]
   have hl3:H3.length=H.length:=by rw[hH3,hH2,hH1];simp
   have f3:Fr (λb=>b=ga∨b=aa) H0 H3:=⟨by rw[hl3];exact hfr.1,λb hb hn=>by rw[k3 b U U,hfr.2 b hb hn]⟩
   have g3:H3[gb]? =some (dW (grL gr n n)):=by rw[k3 gb ngs ngm,hgb]
   by_cases hrd:rd=0
   ·subst hrd
    have c3:(((0:Nat):Int)==0)=true:=rfl;have q0:H3[ab]? =some (o7 ga aa s.g.length):=t3.arb _ (aUm ..);rw[hI.gl] at q0;have q1:H3[ga]? =some (dV s.g):=t3.arb (ga,dV s.g) (by simp[fB])
    have l5:ld1 (.Q ab 0) H3=some (cR ga n,H3):=bA q0 rfl;have l6:ld1 (.Q ab 1) H3=some (cR aa n,H3):=bA q0 rfl;have e10:=mC j U
    have r1:bin prog .rem 3 (.I ((i+1:Nat):Int)) (.I n)=some (.I (((i+1)%n:Nat):Int)):=wU (i+1) n _ rfl U
    have r2:bin prog .rem 3 (.I ((j+1:Nat):Int)) (.I n)=some (.I (((j+1)%n:Nat):Int)):=wU (j+1) n _ rfl U
    have i5:=(Ii q1 hI.gl hjn).1;have i6:=(Ii (b:=aa) (H:=H) b2 hI.al hin).1;have st4:=aCL (i:=j) ((i+1)%n) q1 (by rw[hI.gl];exact hjn)
    obtain⟨H4,hH4⟩:=aD (H3.set ga (dV (s.g.set j ((i+1)%n))));rw[<-hH4] at t4 t5 st4;have st5:=aCL (i:=i) ((j+1)%n) t4 (by rw[hI.al];exact hin)
    obtain⟨H5,hH5⟩:=aD (H4.set aa (dV (s.a.set i ((j+1)%n))));rw[<-hH5] at t5 st5;simp only[gsR,c1,a1,a2,l1,a3,a4,a5,nM,c2,l2,i2,st1,l3,hi1,hi2,st2,l4,hj1,hj2,st3,c3,l5,l6,aV,e9,e10,r1,r2,i5,i6,st4,st5];refine ih (i+1) k H5 gb U U U (by rw[hnext];exact t5) ?_ ?_ ..
    ·refine⟨by rw[hH5,hH4];simp;exact f3.1,λb hb hn=> ?_⟩
     rw[hH5,hH4,aUe (λhh=>hn (.inr hh.symm)),aUe (λhh=>hn (.inl hh.symm)),f3.2 b hb hn]
    ·rw[hH5,hH4,aUe nga.symm,aUe ngg.symm,g3]
   ·have c3:((rd:Int)==0)=false:=by rw[beq_eq_false_iff_ne];omega
    have c4:(rd==0)=false:=by simpa using hrd
    rw[c4] at hnext;simp only[gsR,c1,a1,a2,l1,a3,a4,a5,nM,c2,l2,i2,st1,l3,hi1,hi2,st2,l4,hj1,hj2,st3,c3,aV,e9];refine ih (i+1) k H3 gb U U U ?_ f3 g3 ..
    rw[c4,hnext];exact t3
end
section
variable {H : aF} {m : Nat} {ab ga aa sb mb cb : Nat} {rows : List Nat} {n : Nat}
def mD (rows:List Nat)(n:Nat)(s:Mat):Nat->Mat
 |0=>s
 |k+1=>rnd (fY rows) n (k==0) (mD rows n s k)
theorem Q8 {s:Mat}(h:MatI n s)(hn:1<=n): ∀k,MatI n (mD rows n s k)
 |0=>h
 |k+1=>(Q8 h hn k).rnd U
theorem aCQ (req:Nat->Nat->Bool): ∀(k:Nat)(s:Mat),wQ req n (k+1) s=rnd req n false (wQ req n k s)
 |0,s=>rfl
 |k+1,s=>by
  rw[wQ,aCQ req k,wQ]
theorem Q9 (g a:List Nat): ∀k,mD rows n ⟨List.replicate n (-1),g,a⟩ (k+1)=lX (fY rows) n (k+1) g a
 |0=>rfl
 |k+1=>by
  rw[mD,Q9 g a k];unfold lX;have:(k+1==0)=false:=rfl;rw[this,show k+1+1-1=k+1 by omega,aCQ]
  rfl
theorem aCP {s:Mat}(h:MatI n s)(hn:1<=n){k:Nat}(he:mD rows n s (k+1)=mD rows n s k): ∀j,mD rows n s (k+j)=mD rows n s k
 |0=>rfl
 |j+1=>by
  rw[<-Nat.add_assoc,mD,aCP h hn he j];rw[mD] at he;exact aIF (by rw[(Q8 h hn k).ml];exact aUi _) _ he
theorem aPW {H0:aF}{rounds:Nat}{g a:List Nat}(hI0:MatI n ⟨List.replicate n (-1),g,a⟩)(h1:1<=n)(h16:n<=16)(hne:ga≠aa)(hma:mb≠ga)(hmb:mb≠aa)(hsb:H0.length<=sb)(hmb0:H0.length<=mb)(hr:rows.length=n)(hrd:1<=rounds)(hr16:rounds<=16)(hm:80<m){Q:aF->Value->Prop}
  (hK: ∀H',RunS H' ab ga aa sb mb cb rows n (mD rows n ⟨List.replicate n (-1),g,a⟩ rounds)->Fr (λb=>b=ga∨b=aa) H0 H'->Q H' (cR mb n)):
  ∀(q i k:Nat)(H:aF),rounds-i=q->i<=rounds->q<k->RunS H ab ga aa sb mb cb rows n (mD rows n ⟨List.replicate n (-1),g,a⟩ i)->Fr (λb=>b=ga∨b=aa) H0 H->
  ∀(x6 lH eA Ar As qK:Value),∃H2 r,aL k (aO prog (lvl prog pkN m) (aL m) Pe) (Pi (lvl prog pkN m) (aL m)) (some (.Q ab 0)::aG 5 (x6::some (.I n)::aG 1 (some (.Q sb 0)::some (cR cb n)::lH::eA::aG 33 (some (.I rounds)::some (.I (i:Nat))::aG 9 (Ar::As::qK::aG 75 []))))) H=some (r,H2)/\Q H2 r:=by
 have out: ∀(H:aF),RunS H ab ga aa sb mb cb rows n (mD rows n ⟨List.replicate n (-1),g,a⟩ rounds)->Fr (λb=>b=ga∨b=aa) H0 H-> ∀(x0 x6 x7 iS lH eA Jm Av Ar As qK:Value),∃H2 r,Pg (lvl prog pkN m) (aL m) x0 x6 x7 (.Q sb 0) iS lH eA Jm Av Ar As qK H=some (r,H2)/\Q H2 r:=by
  intro H hS hfr;intros;have l2:ld1 (.Q sb 0) H=some (cR mb n,H):=bA hS.st rfl;unfold Pg;simp only[gsR,l2]
  exact⟨_,_,rfl,hK H hS hfr⟩
 intro q;induction q with
 |zero=>
  intro i k H hq hi hk hS hfr;intros;obtain⟨k,rfl⟩: ∃k',k=k'+1:=⟨k-1,by omega⟩
  have hie:i=rounds:=U
  subst hie;have c1:decide ((i:Int)<(i:Int))=false:=by simp
  rw[aL,aA4];simp only[gsR,c1];rw[aA6];exact out H hS hfr ..
 |succ q ih=>
  intro i k H hq hi hk hS hfr;intros;obtain⟨k,rfl⟩: ∃k',k=k'+1:=⟨k-1,by omega⟩
  have c1:decide ((i:Int)<(rounds:Int))=true:=by rw[decide_eq_true_eq];omega
  obtain⟨s0,hs0⟩:=aD (mD rows n ⟨List.replicate n (-1),g,a⟩ i);have hI:MatI n s0:=by rw[hs0];exact Q8 hI0 h1 i
  rw[<-hs0] at hS;have l1:ld1 (.Q sb 1) H=some (.int .u16 (dD s0.m n:Nat),H):=bA hS.st rfl;have a1:=aPN (m:=m) hS.arb hS.st hS.cols hI.gl hI.g hr hI.ml h1 h16 U
  have a2:cX (cR H.length n)=some (.I n):=rfl;rw[aL,aA4];simp only[gsR,c1,l1,a1,a2];refine aPT (H0:=H0) (s0:=s0) (was:=dD s0.m n) (rd:=i) (rounds:=rounds) hI h1 h16 hne hma hmb hsb hmb0 U ?_ n 0 m _ H.length U U U (hS.ext (Fr.app _ _ _)) ⟨by have:=hfr.1;simp;omega,λb hb hn=>by rw[aUg (aUs hb hfr.1),hfr.2 b hb hn]⟩ (cG _ _) ..
  intro H' hS' hfr';intros;have l3:ld1 (.Q sb 1) H'=some (.int .u16 (dD (rnd (fY rows) n (i==0) s0).m n:Nat),H'):=bA hS'.st rfl;have hrk:rnd (fY rows) n (i==0) s0=mD rows n ⟨List.replicate n (-1),g,a⟩ (i+1):=by rw[mD,hs0]
  have e9:=mC i U
  unfold Ph;by_cases hst:dD (rnd (fY rows) n (i==0) s0).m n=dD s0.m n
  ·have c2:(((dD (rnd (fY rows) n (i==0) s0).m n:Nat):Int)==((dD s0.m n:Nat):Int))=true:=by rw[hst];simp
   have hsame:=aPH hI.ml hst;simp only[gsR,l3,c2];rw[aA6];refine out H' ?_ hfr' ..;have:mD rows n ⟨List.replicate n (-1),g,a⟩ rounds=rnd (fY rows) n (i==0) s0:=by
    have:=aCP (rows:=rows) hI0 h1 (k:=i) (by rw[<-hrk,hsame,hs0]) (rounds-i)
    rw[show i+(rounds-i)=rounds by omega] at this
    rw[this,hsame,hs0]
   rw[this];exact hS'
  ·have c2:(((dD (rnd (fY rows) n (i==0) s0).m n:Nat):Int)==((dD s0.m n:Nat):Int))=false:=by rw[beq_eq_false_iff_ne];omega
   rw[hrk] at hS';simp only[gsR,l3,c2,aV,e9];exact ih (i+1) k H' U U U hS' hfr' ..
theorem aPV {g a:List Nat}{qb rounds:Nat}(hB:Blks (fB ab ga aa g a) H)(hne:ga≠aa)(hg:g.length=n)(ha:a.length=n)(hgl: ∀z∈g,z<n)(hal: ∀z∈a,z<n)(h1:1<=n)(h15:n<=15)(hq:H[qb]? =some (dW rows))(hr:rows.length=n)(hrl: ∀z∈rows,z<65536)(hrd:1<=rounds)(hr16:rounds<=16)(hm:100<m):
  ∃H' mb,lvl prog pkN m (.func 92) [.pointer (some ⟨ab,0,none⟩),cR qb n,.int .i64 rounds] H=some (cR mb n,H')/\H'[mb]? =some (dG (lX (fY rows) n rounds g a).m [])/\H.length<=mb/\Fr (λb=>b=ga∨b=aa) H H'/\Blks (fB ab ga aa (lX (fY rows) n rounds g a).g (lX (fY rows) n rounds g a).a) H':=by
 have main: ∃H' r,lvl prog pkN m (.func 92) [.pointer (some ⟨ab,0,none⟩),cR qb n,.int .i64 rounds] H=some (r,H')/\(r=cR (H.length+1) n/\H'[H.length+1]? =some (dG (lX (fY rows) n rounds g a).m [])/\Fr (λb=>b=ga∨b=aa) H H'/\Blks (fB ab ga aa (lX (fY rows) n rounds g a).g (lX (fY rows) n rounds g a).a) H'):=by
  have h16:n<=16:=U
  have b0:H[ab]? =some (o7 ga aa g.length):=hB _ (aUm ..);have b1:H[ga]? =some (dV g):=hB (ga,dV g) (by simp[fB])
  have b2:H[aa]? =some (dV a):=hB (aa,dV a) (by simp[fB])
  rw[hg] at b0;refine dL (aQ rfl) U ?_
  rw[aNz];have l0:ld1 (.pointer (some ⟨ab,0,none⟩)) H=some (cR ga n,H):=bA b0 rfl;have e0: ∀b,cX (cR b n)=some (.int .i64 n):=λ_=>rfl
  have c1:((n:Int)!=(n:Int))=false:=by simp
  have c2:decide ((rounds:Int)<1)=false:=by rw[decide_eq_false_iff_not];omega
  have c3:decide ((16:Int)<(rounds:Int))=false:=by rw[decide_eq_false_iff_not];omega
  have e1:=(vL (a:=0) (i:=n) U U).1
  have hpow:2 ^ n<2 ^ 17:=Nat.pow_lt_pow_right U U
  have hpos:0<2 ^ n:=Nat.pow_pos U
  have hpl:2 ^ n<65536:=Ff U
  have e2:IntKind.u16.wrap ((2 ^ n:Nat)-(1:Int))=((2 ^ n-1:Nat):Int):=by rw[Bq];omega
  have e3:b9 3 1 1 [.int .i64 0] [(0,.int .i64 (-1))] H=some (.slice (some ⟨H.length,0,none⟩) 1 1,H++[.cells [.int .i64 (-1)] 3 .row]):=rfl;obtain⟨H1,hH1⟩:=aD (H++[Blk.cells [.int .i64 (-1)] 3 .row]);rw[<-hH1] at e3;have h1l:H1.length=H.length+1:=by rw[hH1];simp
  have e4:=aPo (H:=H1) (m:=m-1) U n h1 h16 (c:=1) (by rw[hH1];exact cG H _)
  obtain⟨H2,hH2⟩:=aD (H1++[iJ n n]);rw[<-hH2] at e4;have h2l:H2.length=H.length+2:=by rw[hH2];simp;omega
  have e5:bld prog 210 [(0,cR H1.length n),(1,.int .u16 (2 ^ n-1:Nat)),(2,.int .u16 (2 ^ n-1:Nat))]=some (.agg #[cR H1.length n,.int .u16 (2 ^ n-1:Nat),.int .u16 (2 ^ n-1:Nat)]):=rfl;have e6:H2++[Blk.cells (Value.cells (.agg #[cR H1.length n,.int .u16 (2 ^ n-1:Nat),.int .u16 (2 ^ n-1:Nat)])).toList 210 .fix]=H2++[stB H1.length n (2 ^ n-1) (2 ^ n-1)]:=rfl;obtain⟨H3,hH3⟩:=aD (H2++[stB H1.length n (2 ^ n-1) (2 ^ n-1)]);have h3l:H3.length=H.length+3:=by rw[hH3];simp;omega
  have x3:Ext H H3:=by
   have y1:Ext H H1:=by rw[hH1];exact Fr.app _ _ _
   have y2:Ext H1 H2:=by rw[hH2];exact Fr.app _ _ _
   have y3:Ext H2 H3:=by rw[hH3];exact Fr.app _ _ _
   exact(y1.tr y2).tr y3
  have hq3:H3[qb]? =some (dW rows):=by rw[x3.2 _ (bU hq) id,hq]
  have e7:lvl prog pkN (m-1) (.func 127) [cR qb n,.I n] H3=some (cR H3.length n,H3++[dW (fK rows n)]):=by
   rw[aJV _ U]
   unfold tM cR;simp only;rw[if_pos U,hq3]
   unfold dW;simp only;rw[if_pos (by simp;omega),List.drop_zero,List.take_of_length_le (by simp;omega),Yf rows hrl]
   simp only[aUF]
  simp only[gsR,l0,e0,c1,c2,c3,e1,eM,e2,e3,e4,e5,e6,<-hH3,e7];have hI0:MatI n ⟨List.replicate n (-1),g,a⟩:=MatI.aBH hg ha hgl hal;have x4:Ext H (H3++[dW (fK rows n)]):=by
   have y4:Ext H3 (H3++[dW (fK rows n)]):=Fr.app _ _ _;exact x3.tr y4
  have x4':Ext H3 (H3++[dW (fK rows n)]):=Fr.app _ _ _;have hm3:H3[H1.length]? =some (dG (List.replicate n (-1)) []):=by
   have:H2[H1.length]? =some (iJ n n):=by rw[hH2];exact cG _ _
   rw[hH3,lN this];unfold iJ dG;rw[Nat.sub_self,List.map_replicate];rfl
  have hs3:H3[H2.length]? =some (stB H1.length n (2 ^ n-1) (2 ^ n-1)):=by rw[hH3];exact cG _ _
  have hS:RunS (H3++[dW (fK rows n)]) ab ga aa H2.length H1.length H3.length rows n ⟨List.replicate n (-1),g,a⟩:=by
   refine⟨Blks.dx _ _ _ hB x4,?_,by rw[x4'.2 _ (bU hm3) id,hm3],cG _ _⟩
   rw[x4'.2 _ (bU hs3) id,hs3];simp only;rw[aPC,aPF]
  have hgal:=bU b1;have haal:=bU b2;refine aPW (H0:=H) (rounds:=rounds) hI0 h1 h16 hne U U U U hr hrd hr16 U ?_ rounds 0 (m-1) _ U U U hS (x4.zG λ_ h=>h.elim) ..
  intro H' hS' hfr';have hmt:=hS'.mt;obtain⟨r',hr'⟩: ∃r',rounds=r'+1:=⟨rounds-1,by omega⟩
  have harb:=hS'.arb;rw[hr',Q9,<-hr',h1l] at hmt;rw[hr',Q9,<-hr'] at harb
  exact⟨by rw[h1l],hmt,hfr',harb⟩
 obtain⟨H',r,g1,rfl,g2,g3,g4⟩:=main
 exact⟨H',H.length+1,g1,g2,by omega,g3,g4⟩
theorem aPU (h1:1<=n)(h16:n<=16)(hm:0<m): ∃ab ga aa H',lvl prog pkN m (.func 85) [.int .i64 n] H=some (.pointer (some ⟨ab,0,none⟩),H')/\Blks (fB ab ga aa (List.replicate n 0) (List.replicate n 0)) H'/\ga≠aa/\Ext H H'/\H.length<=ab/\H.length<=ga/\H.length<=aa:=by
 have mk:=λH:aF=>uQ (H:=H) 3 1 8 [.I 0] .i64 .i64 (n:Int) U U U rfl
 have hz: ∀H:aF,H++[Blk.cells (List.replicate (n:Int).toNat [Value.int .i64 0]).flatten 3 .row]=H++[dV (List.replicate n 0)]:=λH=>by
  have: ∀n,(List.replicate n [Value.I 0]).flatten=List.replicate n (.I 0):=by
   intro n;induction n with
   |zero=>rfl
   |succ n ih=>rw[List.replicate_succ,aUN,ih];rfl
  rw[aUF,this,dV,dG,tT,List.map_replicate,List.map_replicate,List.append_nil];rfl
 have mk': ∀H:aF,gU 3 1 8 [.I 0] (.I (n:Int)) (.I (n:Int)) H=some (cR H.length n,H++[dV (List.replicate n 0)]):=λH=>by
  have:=mk H;rw[hz,aUF] at this;exact this
 obtain⟨H1,hH1⟩:=aD (H++[dV (List.replicate n 0)]);obtain⟨H2,hH2⟩:=aD (H1++[dV (List.replicate n 0)]);have h1l:H1.length=H.length+1:=by rw[hH1];simp
 have h2l:H2.length=H.length+2:=by rw[hH2];simp;omega
 have e5:bld prog 199 [(0,cR H.length n),(1,cR H1.length n)]=some (.agg #[cR H.length n,cR H1.length n]):=rfl;have c2:decide ((n:Int)<1)=false:=by rw[decide_eq_false_iff_not];omega
 have c3:decide ((16:Int)<(n:Int))=false:=by rw[decide_eq_false_iff_not];omega
 have e6:H2++[Blk.cells (Value.cells (.agg #[cR H.length n,cR H1.length n])).toList 199 .fix]=H2++[o7 H.length H1.length n]:=rfl;have y1:Ext H H1:=by rw[hH1];exact Fr.app _ _ _
 have y2:Ext H1 H2:=by rw[hH2];exact Fr.app _ _ _
 have y3:Ext H2 (H2++[o7 H.length H1.length n]):=Fr.app _ _ _;refine⟨H2.length,H.length,H1.length,H2++[o7 H.length H1.length n],aS (aQ rfl) U ?_,λp hp=> ?_,by omega,(y1.tr y2).tr y3,by omega,by omega,by omega⟩
 ·rw[aNs]
  simp only[gsR,c2,c3,mk',<-hH1,<-hH2,e5,e6]
 ·have q1:H1[H.length]? =some (dV (List.replicate n 0)):=by rw[hH1];exact cG _ _
  have q2:H2[H1.length]? =some (dV (List.replicate n 0)):=by rw[hH2];exact cG _ _
  simp only[fB,aUw,aUD,or_false,aUT] at hp;rcases hp with rfl|rfl|rfl
  ·exact cG _ _
  ·simp only
   rw[y3.2 _ (by rw[h2l];omega) id,y2.2 _ U id,q1]
  ·simp only
   rw[y3.2 _ (by rw[h2l,h1l];omega) id,q2]
end
end Go.Proofs.YtciiopkbmjppfaaGreatDoor
namespace Go.Proofs.YtciiopkbmjppfaaGreatDoor
open Go.Proofs.Tryz
open Go.Abs Go.Abs.M
open Classical
def cT (p:PlanD)(me:Nat):Cfg where
 nodes:=p.nodes.toNat
 lanes:=p.lanes.toNat
 room:=p.room.toNat
 queue:=p.queue.toNat
 rounds:=p.rounds.toNat
 every:=p.every.toNat
 weights:=p.weights
 start:=p.start.toNat
 me:=me
 by':=(bes p.edges me).map Int.toNat
 port:=λd=>if d=me then 0 else match ((bes p.edges me).map Int.toNat).findIdx? λw:Nat=>decide ((w:Int)=nx p me d) with
  |some j=>j+1
  |none=>0
structure Lay where
 nb:Nat
 pb:Nat
 pcap:Nat
 prest:List Value
 lb:Nat->Nat
 lcap:Nat->Nat
 lrest:Nat->List Value
 wh:Nat->Nat
 ww:Nat->Nat
 wl:Nat->Nat
 wc:Nat->Nat
 lc:Nat->Nat
 wr:Nat->List Value
 lr:Nat->List Value
 sb:Nat->Nat->Nat
 rb:Nat->Nat->Nat
 ab:Nat
 ga:Nat
 aa:Nat
 hb:Nat
 rg:Nat
inductive Part where
 |node
 |host
 |rings
 |arb
 |whl (i:Nat)
 |snd (i k:Nat)
 |rcv (i k:Nat)
abbrev pt (b:Nat):Value:= .Q b 0
def fZ (c:Cfg)(i:Nat):Nat:=if i=0 then c.me else c.by'.getD (i-1) 0
def jX (y:Lay)(c:Cfg)(i:Nat):Value:=if i=0 then .N else .slice (some ⟨y.lb i,0,none⟩) c.lanes (y.lcap i)
def dK (y:Lay)(c:Cfg)(i:Nat):List Value:=[.I (fZ c i),jX y c i,pt (y.wh i)]
def iZ (y:Lay)(i k:Nat):List Value:=[pt (y.sb i k),pt (y.rb i k)]
def eV (y:Lay)(c:Cfg):Value:= .slice (some ⟨y.pb,0,none⟩) c.aJ y.pcap
def Rb (bag:Int)(ev wv nv:Value)(y:Lay)(c:Cfg)(ticks:Nat):List Value:=
 [pt y.ab,.I c.nodes,ev,.I c.lanes,.I c.room,.I c.queue,.I c.rounds,.I c.every,.I bag,wv,.int .u16 c.start,nv,.I c.me,eV y c,pt y.hb,pt y.rg,.I ticks]
def vM (bag:Int)(ev wv nv:Value)(y:Lay)(c:Cfg)(ticks:Nat):Blk:= .cells (Rb bag ev wv nv y c ticks) 120 .fix
def xQ (y:Lay)(c:Cfg):Blk:= .cells (((List.range c.aJ).map (dK y c)).flatten++y.prest) 145 .row
def mE (y:Lay)(c:Cfg)(i:Nat):Blk:= .cells (((List.range c.lanes).map (iZ y i)).flatten++y.lrest i) 149 .row
def jA (bag:Int)(ev wv nv:Value)(y:Lay)(c:Cfg)(ticks:Nat):List (Nat×Blk):=
 (y.nb,vM bag ev wv nv y c ticks)::(y.pb,xQ y c)::(List.range c.by'.length).map λj=>(y.lb (j+1),mE y c (j+1))
def iL (bag:Int)(ev wv nv:Value)(y:Lay)(c:Cfg)(s:NS):Part->aF->Prop
 | .node=>Blks (jA bag ev wv nv y c s.ticks)
 | .host=>λD=>HostAt D y.hb s.hL s.hG c.lanes c.queue
 | .rings=>λD=>RingsN D y.rg s.rL (c.aJ*c.lanes*c.room) c.aJ c.lanes
 | .arb=>Blks (fB y.ab y.ga y.aa s.g s.a)
 | .whl i=>Blks (if i<c.aJ then iK (y.wh i) (y.ww i) (y.wl i) (y.wc i) (y.lc i) (y.wr i) (y.lr i) c.weights (s.whl i) else [])
 | .snd i k=>Blks (if 1<=i/\i<c.aJ/\k<c.lanes then [(y.sb i k,iH (s.snd i k))] else [])
 | .rcv i k=>Blks (if 1<=i/\i<c.aJ/\k<c.lanes then [(y.rb i k,eU (s.rcv i k) c.room)] else [])
structure LayOk (y:Lay)(c:Cfg):Prop where
 pcap:c.aJ<=y.pcap
 lcap: ∀i,1<=i->i<c.aJ->c.lanes<=y.lcap i
 ga:y.ga≠y.aa
 ww: ∀i,i<c.aJ->y.ww i≠y.wl i
structure NodeAt (H0 H:aF)(F:Part->Nat->Prop)(y:Lay)(p:PlanD)(ev wv nv:Value)(c:Cfg)(t:Nat)(s:NS):Prop where
 ok:c.ok
 hc:c=cT p c.me
 hp: ∃n,OkP p n
 lay:LayOk y c
 ext:Ext H0 H
 old: ∀b,Un F b->H0.length<=b
 plan:PV H0 p ev wv nv
 inv:NInv c t s
 sep:Sep (iL p.bag ev wv nv y c s) F H
theorem tU (bag:Int)(ev wv nv:Value)(y:Lay)(c:Cfg)(s:NS)(i:Part):DX (iL bag ev wv nv y c s i):=by
 cases i with
 |host=>exact λD D' h he=>h.ext he
 |rings=>exact λD D' h he=>h.ext he
 |_=>exact Blks.dx _
theorem Il {l:List (Nat×Blk)}(h: ∀p∈l,∃cs e k,p.2= .cells cs e k):qY l:=λp hp hd=>by
 obtain⟨cs,e,k,he⟩:=h p hp;rw[he] at hd;cases hd
theorem xP {bag:Int}{ev wv nv:Value}{y:Lay}{c:Cfg}{ticks:Nat}:qY (jA bag ev wv nv y c ticks):=Il λp hp=>by
 simp only[jA,aUw,aUQ] at hp;rcases hp with rfl|rfl|⟨j,_,rfl⟩<;>exact⟨_,_,_,rfl⟩
theorem aCV {ab ga aa:Nat}{g a:List Nat}:qY (fB ab ga aa g a):=Il λp hp=>by
 simp only[fB,aUw,aUD,or_false] at hp;rcases hp with rfl|rfl|rfl<;>exact⟨_,_,_,rfl⟩
theorem aCW {wh ww wl wc lc:Nat}{wr lr:List Value}{W:List Int}{x:Whl}:qY (iK wh ww wl wc lc wr lr W x):=Il λp hp=>by
 simp only[iK,aUw,aUD,or_false] at hp;rcases hp with rfl|rfl|rfl<;>exact⟨_,_,_,rfl⟩
theorem Im {b:Nat}{cs:List Value}{e:TypeId}{k:Kind}:qY [(b,Blk.cells cs e k)]:=Il λp hp=>by
 simp only[aUw,aUD,or_false] at hp;subst hp
 exact⟨_,_,_,rfl⟩
section
variable {H0 H : aF} {F : Part → Nat → Prop} {y : Lay} {p : PlanD} {ev wv nv : Value} {c : Cfg} {t : Nat} {s : NS}
theorem NodeAt.fS {H':aF}(h:NodeAt H0 H F y p ev wv nv c t s)(he:Ext H H'):NodeAt H0 H' F y p ev wv nv c t s:=
 {h with ext:=h.ext.tr he,sep:=h.sep.ext (tU _ _ _ _ _ _ _) he}
theorem NodeAt.nbB (h:NodeAt H0 H F y p ev wv nv c t s):H[y.nb]? =some (vM p.bag ev wv nv y c s.ticks):=h.sep.xM .node rfl xP (aUm ..)
theorem NodeAt.ld (h:NodeAt H0 H F y p ev wv nv c t s)(j:Nat)(v:Value)(hv:(Rb p.bag ev wv nv y c s.ticks)[j]? =some v):ld1 (.Q y.nb j) H=some (v,H):=bA h.nbB hv
theorem C3 (y:Lay)(c:Cfg)(i:Nat):(dK y c i).length=3:=rfl
theorem aCX (y:Lay)(i k:Nat):(iZ y i k).length=2:=rfl
theorem NodeAt.aCS (h:NodeAt H0 H F y p ev wv nv c t s):Rs (dK y c) 145 H (eV y c) (List.range c.aJ):=by
 have hb:H[y.pb]? =some (xQ y c):=h.sep.xM .node rfl xP (by simp[jA])
 refine .inr ⟨y.pb,0,y.pcap,by rw[aUH];rfl,by rw[aUH];exact h.lay.pcap,λ_=>⟨_,_,[],y.prest,rfl,λ_=>rfl,by rw[hb,List.nil_append];rfl⟩⟩
theorem NodeAt.aPX (h:NodeAt H0 H F y p ev wv nv c t s){i:Nat}(h1:1<=i)(h2:i<c.aJ):Rs (iZ y i) 149 H (jX y c i) (List.range c.lanes):=by
 have hb:H[y.lb i]? =some (mE y c i):=h.sep.xM .node rfl xP (by
  simp only[jA,aUw,aUQ,aUR];exact .inr (.inr ⟨i-1,by unfold Cfg.aJ at h2;omega,by rw[Nat.sub_add_cancel h1]⟩))
 unfold jX;rw[if_neg U]
 refine .inr ⟨y.lb i,0,y.lcap i,by rw[aUH],by rw[aUH];exact h.lay.lcap i h1 h2,λ_=>⟨_,_,[],y.lrest i,rfl,λ_=>rfl,by rw[hb,List.nil_append];rfl⟩⟩
theorem NodeAt.xO (h:NodeAt H0 H F y p ev wv nv c t s){i:Nat}(hi:i<c.aJ): ∃b o,cN 3 (eV y c) (.I (i:Int))=some (.Q b o)/\ ∀H',NodeAt H0 H' F y p ev wv nv c t s∨H'[b]? =H[b]? ->
  ldN 3 (.Q b o) H'=some (.agg ⟨dK y c i⟩,H')/\ld1 (.Q b o) H'=some (.I (fZ c i),H')/\ld1 (.Q b (o+1)) H'=some (jX y c i,H')/\ld1 (.Q b (o+2)) H'=some (pt (y.wh i),H'):=by
 obtain⟨b,o,g1,g2,g3⟩:=h.aCS.dM (C3 y c) (i:=i) (x:=i) (by simp[hi]) .i64
 have hb:b=y.pb:=by
  obtain⟨o',n',c',hh⟩:=g2;unfold eV at hh;injection hh with hh;injection hh with hh;injection hh with hh;exact hh.symm
 refine⟨b,o,g1,λH' hH'=> ?_⟩
 have hsame:H'[b]? =H[b]? :=by
  rcases hH' with h'|h'
  ·have q1:H[y.pb]? =some (xQ y c):=h.sep.xM .node rfl xP (by simp[jA])
   have q2:H'[y.pb]? =some (xQ y c):=h'.sep.xM .node rfl xP (by simp[jA])
   rw[hb,q1,q2]
  ·exact h'
 obtain⟨q1,q2,_⟩:=g3 H' hsame
 exact⟨q1,q2 0 _ rfl,q2 1 _ rfl,q2 2 _ rfl⟩
theorem NodeAt.Cz (h:NodeAt H0 H F y p ev wv nv c t s){i k:Nat}(h1:1<=i)(hi:i<c.aJ)(hk:k<c.lanes): ∃b o,cN 2 (jX y c i) (.I (k:Int))=some (.Q b o)/\
  ldN 2 (.Q b o) H=some (.agg ⟨iZ y i k⟩,H)/\ld1 (.Q b o) H=some (pt (y.sb i k),H)/\ld1 (.Q b (o+1)) H=some (pt (y.rb i k),H):=by
 obtain⟨b,o,g1,g2,g3⟩:=(h.aPX h1 hi).dM (aCX y i) (i:=k) (x:=k) (by simp[hk]) .i64
 obtain⟨q1,q2,_⟩:=g3 H rfl
 exact⟨b,o,g1,q1,q2 0 _ rfl,q2 1 _ rfl⟩
theorem NodeAt.C2 (h:NodeAt H0 H F y p ev wv nv c t s){i k:Nat}(h1:1<=i)(hi:i<c.aJ)(hk:k<c.lanes):H[y.sb i k]? =some (iH (s.snd i k)):=
 h.sep.xM (.snd i k) (l:=[(y.sb i k,Go.Proofs.YtciiopkbmjppfaaGreatDoor.iH (s.snd i k))]) (by simp only[iL];rw[if_pos ⟨h1,hi,hk⟩]) Im (aUm ..)
theorem NodeAt.C0 (h:NodeAt H0 H F y p ev wv nv c t s){i k:Nat}(h1:1<=i)(hi:i<c.aJ)(hk:k<c.lanes):H[y.rb i k]? =some (eU (s.rcv i k) c.room):=
 h.sep.xM (.rcv i k) (l:=[(y.rb i k,Go.Proofs.YtciiopkbmjppfaaGreatDoor.eU (s.rcv i k) c.room)]) (by simp only[iL];rw[if_pos ⟨h1,hi,hk⟩]) Im (aUm ..)
theorem NodeAt.aPY (h:NodeAt H0 H F y p ev wv nv c t s){i:Nat}(hi:i<c.aJ):Blks (iK (y.wh i) (y.ww i) (y.wl i) (y.wc i) (y.lc i) (y.wr i) (y.lr i) c.weights (s.whl i)) H:=
 h.sep.see (.whl i) (by simp only[iL];rw[if_pos hi]) aCW
theorem NodeAt.Ik (h:NodeAt H0 H F y p ev wv nv c t s)(ht:t<1000000000)(i k:Nat):SndOk (s.snd i k):=by
 have:=h.inv.snd i k
 exact⟨this.le,this.wide,by have h1:=this.big;have h2:=this.wide;omega⟩
theorem NodeAt.C1 (h:NodeAt H0 H F y p ev wv nv c t s)(ht:t<1000000000)(i k:Nat):RcvOk (s.rcv i k) c.room:=by
 have:=h.inv.rcv i k
 exact⟨this.h,h.ok.room.2,by have:=this.big;omega⟩
theorem NodeAt.aCU {H':aF}{F':Part->Nat->Prop}{t':Nat}{s':NS}(h:NodeAt H0 H F y p ev wv nv c t s)(hi:NInv c t' s')(hs:Sep (iL p.bag ev wv nv y c s') F' H')(hm:Mv (Un F) (Un F') H H'):NodeAt H0 H' F' y p ev wv nv c t' s':=
 {h with inv:=hi,sep:=hs,ext:=⟨aUt h.ext.1 hm.le,λb hb _=>by
   rw[hm.keep b (aUs hb h.ext.1) (λhu=>by have:=h.old b hu;omega),h.ext.2 b hb id]⟩,old:=λb hb=>(hm.own b hb).elim (h.old b) λhl=>aUt h.ext.1 hl}
theorem NodeAt.aCR {H':aF}{F':Nat->Prop}{t':Nat}{s':NS}(h:NodeAt H0 H F y p ev wv nv c t s)(i:Part){B:aF->Prop}(hB:Has B F' H')(hm:Mv (F i) F' H H')(hi:NInv c t' s')
  (hBi: ∀D,B D->iL p.bag ev wv nv y c s' i D)(hj: ∀j,j≠i-> ∀D,iL p.bag ev wv nv y c s j D->iL p.bag ev wv nv y c s' j D):NodeAt H0 H' (updI F i F') y p ev wv nv c t' s'/\Mv (Un F) (Un (updI F i F')) H H':=by
 obtain⟨h1,h2⟩:=h.sep.Lp i (λj _=>tU _ _ _ _ _ _ _ j) hB hm
 refine⟨h.aCU hi (h1.wN λj D hD=> ?_) h2,h2⟩
 by_cases hji:j=i
 ·rw[hji,eY] at hD
  rw[hji];exact hBi D hD
 ·rw[cM _ _ hji] at hD
  exact hj j hji D hD
theorem NodeAt.Cy {H':aF}{t':Nat}{s':NS}(h:NodeAt H0 H F y p ev wv nv c t s)(i:Part){l l':List (Nat×Blk)}(hA:iL p.bag ev wv nv y c s i=Blks l)(hl:qY l)(hsub: ∀q∈l',InB l q.1)(hf:Fr (InB l) H H')(hB:Blks l' H')(hi:NInv c t' s')
  (hBi:iL p.bag ev wv nv y c s' i=Blks l')(hj: ∀j,j≠i->iL p.bag ev wv nv y c s' j=iL p.bag ev wv nv y c s j):NodeAt H0 H' F y p ev wv nv c t' s'/\Mv (Un F) (Un F) H H':=by
 obtain⟨h1,h2⟩:=h.sep.aPs i (λj _=>tU _ _ _ _ _ _ _ j) hA hl hsub hf hB
 refine⟨h.aCU hi (h1.wN λj D hD=> ?_) h2,h2⟩
 by_cases hji:j=i
 ·rw[hji,eY] at hD
  rw[hji,hBi];exact hD
 ·rw[cM _ _ hji] at hD
  rw[hj j hji];exact hD
theorem NodeAt.aCT {H':aF}{t':Nat}{i k:Nat}{x':Snd}(h:NodeAt H0 H F y p ev wv nv c t s)(h1:1<=i)(h2:i<c.aJ)(hk:k<c.lanes)(hp:Put1 H (y.sb i k) (Go.Proofs.YtciiopkbmjppfaaGreatDoor.iH x') H')(hi:NInv c t' {s with snd:=up2 s.snd i k x'}):
  NodeAt H0 H' F y p ev wv nv c t' {s with snd:=up2 s.snd i k x'}/\Mv (Un F) (Un F) H H':=by
 refine h.Cy (.snd i k) (l:=[(y.sb i k,Go.Proofs.YtciiopkbmjppfaaGreatDoor.iH (s.snd i k))]) (l':=[(y.sb i k,Go.Proofs.YtciiopkbmjppfaaGreatDoor.iH x')]) (by simp only[iL];rw[if_pos ⟨h1,h2,hk⟩]) Im ?_ ?_ ?_ hi ?_ ?_
 ·intro q hq
  simp only[aUw,aUD,or_false] at hq;subst hq
  exact⟨_,aUm ..,rfl⟩
 ·exact⟨hp.le,λb hb hn=>hp.keep b hb λhh=>hn ⟨_,aUm ..,hh.symm⟩⟩
 ·intro q hq
  simp only[aUw,aUD,or_false] at hq;subst hq;exact hp.at_
 ·simp only[iL]
  rw[if_pos ⟨h1,h2,hk⟩,up2,if_pos ⟨rfl,rfl⟩]
 ·intro j hj
  cases j with
  |snd i' k'=>
   have e:up2 s.snd i k x' i' k'=s.snd i' k':=if_neg λhh=>hj (by rw[hh.1,hh.2])
   simp only[iL];rw[e]
  |_=>rfl
theorem NodeAt.Ra {H':aF}{t':Nat}{i k:Nat}{x':Rcv}(h:NodeAt H0 H F y p ev wv nv c t s)(h1:1<=i)(h2:i<c.aJ)(hk:k<c.lanes)(hp:Put1 H (y.rb i k) (Go.Proofs.YtciiopkbmjppfaaGreatDoor.eU x' c.room) H')(hi:NInv c t' {s with rcv:=up2 s.rcv i k x'}):
  NodeAt H0 H' F y p ev wv nv c t' {s with rcv:=up2 s.rcv i k x'}/\Mv (Un F) (Un F) H H':=by
 refine h.Cy (.rcv i k) (l:=[(y.rb i k,Go.Proofs.YtciiopkbmjppfaaGreatDoor.eU (s.rcv i k) c.room)]) (l':=[(y.rb i k,Go.Proofs.YtciiopkbmjppfaaGreatDoor.eU x' c.room)]) (by simp only[iL];rw[if_pos ⟨h1,h2,hk⟩]) Im ?_ ?_ ?_ hi ?_ ?_
 ·intro q hq
  simp only[aUw,aUD,or_false] at hq;subst hq
  exact⟨_,aUm ..,rfl⟩
 ·exact⟨hp.le,λb hb hn=>hp.keep b hb λhh=>hn ⟨_,aUm ..,hh.symm⟩⟩
 ·intro q hq
  simp only[aUw,aUD,or_false] at hq;subst hq;exact hp.at_
 ·simp only[iL]
  rw[if_pos ⟨h1,h2,hk⟩,up2,if_pos ⟨rfl,rfl⟩]
 ·intro j hj
  cases j with
  |rcv i' k'=>
   have e:up2 s.rcv i k x' i' k'=s.rcv i' k':=if_neg λhh=>hj (by rw[hh.1,hh.2])
   simp only[iL];rw[e]
  |_=>rfl
end
def Ae:Value:= .agg #[.pointer none,.pointer none]
def dP (a b:Value):Blk:= .cells [a,b] 149 .fix
section
variable {H0 H : aF} {F : Part → Nat → Prop} {y : Lay} {p : PlanD} {ev wv nv : Value} {c : Cfg} {t : Nat} {s : NS} {m : Nat}
theorem Io:bld prog 149 []=some Ae:=rfl
theorem C4 {b:Nat}{a0 b0:Value}(a1 b1:Value)(h:H[b]? =some (dP a0 b0))(ha:cA [a1,b1]=true):stN 2 (.Q b 0) (.agg #[a1,b1]) H=some (undef,H.set b (dP a1 b1)):=qV h aC rfl rfl (aUi 2) ha
theorem vN {b:Nat}{a0 b0:Value}(h:H[b]? =some (dP a0 b0)):ldN 2 (.Q b 0) H=some (.agg #[a0,b0],H)/\ld1 (.Q b 0) H=some (a0,H)/\ld1 (.Q b 1) H=some (b0,H):=⟨mV h (aUi 2),bA h rfl,bA h rfl⟩
theorem aP0 (h:NodeAt H0 H F y p ev wv nv c t s)(hm:0<m)(i k:Int)(hno: ¬(1<=i/\i<c.aJ/\0<=k/\k<c.lanes)): ∃H',lvl prog pkN m (.func 96) [pt y.nb,.I i,.I k] H=some (.tuple #[Ae,.bool false],H')/\Ext H H':=by
 refine iD (aQ rfl) U ?_
 rw[aBb];have e0: ∀H:aF,H++[Blk.cells [Value.pointer none,.pointer none] 149 .fix]=H++[dP (.pointer none) (.pointer none)]:=λ_=>rfl
 have h1:=h.fS (H':=H++[dP (.pointer none) (.pointer none)]) (Fr.app _ _ _);have l13:=h1.ld 13 (eV y c) rfl;have l3:=h1.ld 3 (.I c.lanes) rfl;have e1:cX (eV y c)=some (.I c.aJ):=rfl;have st:stN 2 (.Q H.length 0) Ae (H++[dP (.pointer none) (.pointer none)])=some (undef,H++[dP (.pointer none) (.pointer none)]):=by
  rw[Ae,C4 _ _ (cG _ _) rfl,gZ]
 have ld:=(vN (cG H (dP (.pointer none) (.pointer none)))).1;have fin: ∃H',(some (Value.tuple #[.agg #[.pointer none,.pointer none],.bool false],H++[dP (.pointer none) (.pointer none)]):Option (Value×aF))=some (.tuple #[Ae,.bool false],H')/\Ext H H':=⟨_,rfl,Fr.app _ _ _⟩;by_cases c1:i<1
 ·simp only[gsR,e0,aUX c1,Io,st,ld]
  exact fin
 ·by_cases c2:(c.aJ:Int)<=i
  ·simp only[gsR,e0,aUY c1,l13,e1,aUX c2,Io,st,ld]
   exact fin
  ·by_cases c3:k<0
   ·simp only[gsR,e0,aUY c1,l13,e1,aUY c2,aUX c3,Io,st,ld]
    exact fin
   ·have c4:(c.lanes:Int)<=k:=U
    simp only[gsR,e0,aUY c1,l13,e1,aUY c2,aUY c3,l3,aUX c4,Io,st,ld];exact fin
theorem Rc (h:NodeAt H0 H F y p ev wv nv c t s)(hm:0<m){i k:Nat}(h1:1<=i)(h2:i<c.aJ)(hk:k<c.lanes): ∃H',lvl prog pkN m (.func 96) [pt y.nb,.I i,.I k] H=some (.tuple #[.agg #[pt (y.sb i k),pt (y.rb i k)],.bool true],H')/\Ext H H':=by
 refine iD (aQ rfl) U ?_
 rw[aBb];have e0: ∀H:aF,H++[Blk.cells [Value.pointer none,.pointer none] 149 .fix]=H++[dP (.pointer none) (.pointer none)]:=λ_=>rfl
 have g1:=h.fS (H':=H++[dP (.pointer none) (.pointer none)]) (Fr.app _ _ _);have l13:=g1.ld 13 (eV y c) rfl;have l3:=g1.ld 3 (.I c.lanes) rfl;have e1:cX (eV y c)=some (.I c.aJ):=rfl;obtain⟨b,o,a1,a2⟩:=g1.xO h2;obtain⟨_,_,a3,_⟩:=a2 _ (.inl g1);obtain⟨b',o',a4,a5,_,_⟩:=g1.Cz h1 h2 hk;have a5:ldN 2 (.Q b' o') (H++[dP (.pointer none) (.pointer none)])=some (.agg #[pt (y.sb i k),pt (y.rb i k)],H++[dP (.pointer none) (.pointer none)]):=a5;have st:stN 2 (.Q H.length 0) (.agg #[pt (y.sb i k),pt (y.rb i k)]) (H++[dP (.pointer none) (.pointer none)])=some (undef,H++[dP (pt (y.sb i k)) (pt (y.rb i k))]):=by
  rw[C4 _ _ (cG _ _) rfl,gZ]
 have ld:=(vN (cG H (dP (pt (y.sb i k)) (pt (y.rb i k))))).1;have c1:decide ((i:Int)<1)=false:=by rw[decide_eq_false_iff_not];omega
 have c2:decide ((c.aJ:Int)<=(i:Int))=false:=by rw[decide_eq_false_iff_not];omega
 have c3:decide ((k:Int)<0)=false:=by rw[decide_eq_false_iff_not];omega
 have c4:decide ((c.lanes:Int)<=(k:Int))=false:=by rw[decide_eq_false_iff_not];omega
 simp only[gsR,e0,c1,l13,e1,c2,c3,l3,c4,a1,a3,a4,a5,st,ld]
 exact⟨_,rfl,Fr.app _ _ _⟩
theorem kO (a b:Value):ext 0 (.tuple #[a,b])=some a/\ext 1 (.tuple #[a,b])=some b:=⟨rfl,rfl⟩
theorem aP6 (h:NodeAt H0 H F y p ev wv nv c t s)(hm:1<m){i k:Nat}(h1:1<=i)(h2:i<c.aJ)(hk:k<c.lanes): ∃H',lvl prog pkN m (.func 55) [pt y.nb,.I i,.I k] H=some (pt (y.sb i k),H')/\Ext H H':=by
 obtain⟨H1,g1,x1⟩:=Rc h (m:=m-1) U h1 h2 hk
 have e0: ∀H:aF,H++[Blk.cells [Value.pointer none,.pointer none] 149 .fix]=H++[dP (.pointer none) (.pointer none)]:=λ_=>rfl
 have st:stN 2 (.Q H1.length 0) (.agg #[pt (y.sb i k),pt (y.rb i k)]) (H1++[dP (.pointer none) (.pointer none)])=some (undef,H1++[dP (pt (y.sb i k)) (pt (y.rb i k))]):=by
  rw[C4 _ _ (cG _ _) rfl,gZ]
 have ld:=(vN (cG H1 (dP (pt (y.sb i k)) (pt (y.rb i k))))).2.1;refine iD (aQ rfl) U ⟨H1++[dP (pt (y.sb i k)) (pt (y.rb i k))],?_,x1.tr (Fr.app _ _ _)⟩
 rw[aNf];simp only[gsR,g1,kO,e0,st,ld]
theorem aP4 (h:NodeAt H0 H F y p ev wv nv c t s)(hm:1<m){i k:Nat}(h1:1<=i)(h2:i<c.aJ)(hk:k<c.lanes): ∃H',lvl prog pkN m (.func 57) [pt y.nb,.I i,.I k] H=some (pt (y.rb i k),H')/\Ext H H':=by
 obtain⟨H1,g1,x1⟩:=Rc h (m:=m-1) U h1 h2 hk
 have e0: ∀H:aF,H++[Blk.cells [Value.pointer none,.pointer none] 149 .fix]=H++[dP (.pointer none) (.pointer none)]:=λ_=>rfl
 have st:stN 2 (.Q H1.length 0) (.agg #[pt (y.sb i k),pt (y.rb i k)]) (H1++[dP (.pointer none) (.pointer none)])=some (undef,H1++[dP (pt (y.sb i k)) (pt (y.rb i k))]):=by
  rw[C4 _ _ (cG _ _) rfl,gZ]
 have ld:=(vN (cG H1 (dP (pt (y.sb i k)) (pt (y.rb i k))))).2.2;refine iD (aQ rfl) U ⟨H1++[dP (pt (y.sb i k)) (pt (y.rb i k))],?_,x1.tr (Fr.app _ _ _)⟩
 rw[aNg];simp only[gsR,g1,kO,e0,st,ld]
theorem Re (h:NodeAt H0 H F y p ev wv nv c t s)(hm:0<m):lvl prog pkN m (.func 32) [pt y.nb] H=some (pt y.hb,H):=by
 refine aS (aQ rfl) U ?_
 rw[aM8];simp only[gsR,h.ld 14 (pt y.hb) rfl]
theorem aP5 (h:NodeAt H0 H F y p ev wv nv c t s)(hm:0<m):lvl prog pkN m (.func 69) [pt y.nb] H=some (pt y.rg,H):=by
 refine aS (aQ rfl) U ?_
 rw[aNo];simp only[gsR,h.ld 15 (pt y.rg) rfl]
def fiI (l:List Nat)(z:Int):Int:=match l.findIdx? (λw:Nat=>decide ((w:Int)=z)) with
 |some j=>(j:Int)
 |none=> -1
theorem aP1 {l:List Nat}{z:Int}{i:Nat}(hi:i<l.length)(h1:(l.getD i 0:Int)=z)(h2: ∀j,j<i->(l.getD j 0:Int)≠z):fiI l z=i:=by
 have:l.findIdx? (λw:Nat=>decide ((w:Int)=z))=some i:=by
  rw[List.findIdx?_eq_some_iff_getElem];refine⟨hi,?_,λj hj=> ?_⟩
  ·rw[aUh,aUf hi] at h1
   simpa using h1
  ·have:=h2 j hj
   rw[aUh,aUf U] at this
   simpa using this
 unfold fiI;rw[this]
theorem aP2 {l:List Nat}{z:Int}(h: ∀j,j<l.length->(l.getD j 0:Int)≠z):fiI l z= -1:=by
 have:l.findIdx? (λw:Nat=>decide ((w:Int)=z))=none:=by
  rw[List.findIdx?_eq_none_iff];intro x hx;obtain⟨j,hj,rfl⟩:=List.mem_iff_getElem.mp hx;have:=h j hj;rw[aUh,aUf hj] at this;simpa using this
 unfold fiI;rw[this]
def lD (y:Lay)(c:Cfg)(i:Nat):Blk:= .cells (dK y c i) 145 .fix
theorem aP8 (hm:0<m){cb:Nat}{z:Int}(i:Nat)(hc:H[cb]? =some (.cells [.I z] 3 .fix)):lvl prog pkN m (.func 149) [.agg ⟨dK y c i⟩,pt cb] H=some (.bool ((fZ c i:Int)==z),H++[lD y c i]):=by
 refine aS (aQ rfl) U ?_
 rw[aM1];have e0:H++[Blk.cells (Value.cells (.agg ⟨dK y c i⟩)).toList 145 .fix]=H++[lD y c i]:=rfl;have l0:ld1 (.pointer (some ⟨H.length,0,none⟩)) (H++[lD y c i])=some (.int .i64 (fZ c i),H++[lD y c i]):=bA (cG _ _) rfl;have l1:ld1 (pt cb) (H++[lD y c i])=some (.int .i64 z,H++[lD y c i]):=bA (lN hc _) rfl;simp only[gsR,e0,l0,l1]
theorem aP7 (hm:0<m){cb:Nat}{z:Int}(i:Nat)(hc:H[cb]? =some (.cells [.I z] 3 .fix)):lvl prog pkN m (.func 102) [.agg ⟨dK y c i⟩,pt cb] H=some (.bool ((fZ c i:Int)==z),H++[lD y c i]):=by
 refine aS (aQ rfl) U ?_
 rw[aMt];have e0:H++[Blk.cells (Value.cells (.agg ⟨dK y c i⟩)).toList 145 .fix]=H++[lD y c i]:=rfl;have l0:ld1 (.pointer (some ⟨H.length,0,none⟩)) (H++[lD y c i])=some (.int .i64 (fZ c i),H++[lD y c i]):=bA (cG _ _) rfl;have l1:ld1 (pt cb) (H++[lD y c i])=some (.int .i64 z,H++[lD y c i]):=bA (lN hc _) rfl;simp only[gsR,e0,l0,l1]
theorem aP3 {fid:FuncId}{cb:Nat}{z:Int}{v:Value}(hf: ∀(H:aF)(i:Nat),H[cb]? =some (.cells [.I z] 3 .fix)->lvl prog pkN m (.func fid) [.agg ⟨dK y c i⟩,pt cb] H=some (.bool ((fZ c i:Int)==z),H++[lD y c i]))
  (hb:c.by'.length<=5): ∀(q i k:Nat)(H:aF),c.by'.length-i=q->i<=c.by'.length->q<k->Rs (dK y c) 145 H v ((List.range c.aJ).drop 1)->H[cb]? =some (.cells [.I z] 3 .fix)->(∀j,j<i->(c.by'.getD j 0:Int)≠z)-> ∀(x4:Value),
  ∃H2,aL k (aO prog (lvl prog pkN m) (aL m) N9) (Gv (lvl prog pkN m) (aL m)) (v::some (.func (.func fid) #[] #[pt cb])::aG 2 (x4::aG 2 (some (.I c.by'.length)::some (.I (i:Nat))::aG 10 []))) H=some (.I (fiI c.by' z),H2)/\Ext H H2:=by
 intro q;induction q with
 |zero=>
  intro i k H hq hi hk hv hc hno;intros;obtain⟨k,rfl⟩: ∃k',k=k'+1:=⟨k-1,by omega⟩
  have c1:decide ((i:Int)<(c.by'.length:Int))=false:=by rw[decide_eq_false_iff_not];omega
  rw[aL,aAP];simp only[gsR,c1];rw[aMq];rw[aP2 λj hj=>hno j U]
  simp only[gsR]
  exact⟨_,rfl,Fr.dS _ _⟩
 |succ q ih=>
  intro i k H hq hi hk hv hc hno;intros;obtain⟨k,rfl⟩: ∃k',k=k'+1:=⟨k-1,by omega⟩
  have c1:decide ((i:Int)<(c.by'.length:Int))=true:=by rw[decide_eq_true_eq];omega
  have hx:((List.range c.aJ).drop 1)[i]? =some (i+1):=by
   rw[List.getElem?_drop,aUV (by unfold Cfg.aJ;omega),Nat.add_comm]
  obtain⟨b,o,a1,_,a3⟩:=hv.dM (C3 y c) hx .i64;have a3:=(a3 H rfl).1;have hcall:=hf H (i+1) hc;have hto:fZ c (i+1)=c.by'.getD i 0:=by unfold fZ;rw[if_neg U];rfl
  rw[hto] at hcall;have e9:=mC i U
  have hcv:kQ (lvl prog pkN m) (.func (.func fid) #[] #[pt cb]) [.agg ⟨dK y c (i+1)⟩] H=some (.bool ((c.by'.getD i 0:Int)==z),H++[lD y c (i+1)]):=hcall;rw[aL,aAP];by_cases he:(c.by'.getD i 0:Int)=z
  ·have c2:((c.by'.getD i 0:Int)==z)=true:=by simpa using he
   rw[c2] at hcv;simp only[gsR,c1,a1,a3,hcv];rw[aMs];rw[aP1 U he hno]
   simp only[gsR]
   exact⟨_,rfl,Fr.app _ _ _⟩
  ·have c2:((c.by'.getD i 0:Int)==z)=false:=by simpa using he
   rw[c2] at hcv;simp only[gsR,c1,a1,a3,hcv,aV,e9];obtain⟨H2,g1,g2⟩:=ih (i+1) k (H++[lD y c (i+1)]) U U U (hv.ext (Fr.app _ _ _)) (lN hc _) (λj hj=>by
    by_cases hji:j=i
    ·rw[hji];exact he
    ·exact hno j U) ..
   exact⟨H2,g1,(show Ext H (H++[lD y c (i+1)]) from Fr.app _ _ _).tr g2⟩
theorem aCZ {fid:FuncId}{cb:Nat}{z:Int}{v:Value}(hm:20<m)(hf: ∀(H:aF)(i:Nat),H[cb]? =some (.cells [.I z] 3 .fix)->lvl prog pkN (m-1) (.func fid) [.agg ⟨dK y c i⟩,pt cb] H=some (.bool ((fZ c i:Int)==z),H++[lD y c i]))
  (hb:c.by'.length<=5)(hv:Rs (dK y c) 145 H v ((List.range c.aJ).drop 1))(hc:H[cb]? =some (.cells [.I z] 3 .fix)): ∃H2,lvl prog pkN m (.func 101) [v,.func (.func fid) #[] #[pt cb]] H=some (.I (fiI c.by' z),H2)/\Ext H H2:=by
 refine iD (aQ rfl) U ?_
 rw[aMr];have hl:=hv.eC;have:((List.range c.aJ).drop 1).length=c.by'.length:=by simp[Cfg.aJ]
 rw[this] at hl;simp only[gsR,hl];exact aP3 hf hb c.by'.length 0 (m-1) H U U U hv hc (λj hj=>by omega) ..
theorem aPZ:prog.cellsOf 145=3:=by kernel_rfl
theorem NodeAt.aCY (h:NodeAt H0 H F y p ev wv nv c t s): ∃v,slc prog 3 (eV y c) (some (.I 1)) none none H=some (v,H)/\Rs (dK y c) 145 H v ((List.range c.aJ).drop 1):=by
 have hne:List.range c.aJ≠[]:=by unfold Cfg.aJ;simp
 obtain⟨v',g1,g2,_⟩:=h.aCS.E5 (P:=prog) (C3 y c) aPZ hne (l:=1) (r:=c.aJ) (lo:=some (.I 1)) (hi:=none) (gX 0 .i64 1) (by rw[aUH];rfl) (by unfold Cfg.aJ;omega) (by rw[aUH];exact aUi _)
 rw[List.take_of_length_le (by rw[aUH];exact aUi _)] at g2
 exact⟨v',g1,g2⟩
end
section
variable {H0 H : aF} {F : Part → Nat → Prop} {y : Lay} {p : PlanD} {ev wv nv : Value} {c : Cfg} {t : Nat} {s : NS} {m : Nat}
def xR (z:Int):Blk:= .cells [.int .i64 z] 3 .fix
theorem aC0 (h:NodeAt H0 H F y p ev wv nv c t s)(hm:40<m)(d:Nat)(hd:d<c.nodes): ∃H',lvl prog pkN m (.func 125) [pt y.nb,.I d] H=some (.I (c.port d:Nat),H')/\Ext H H':=by
 have hport:c.port d=if d=c.me then 0 else match c.by'.findIdx? λw:Nat=>decide ((w:Int)=nx p c.me d) with
   |some j=>j+1
   |none=>0:=by
  have:=congrArg Cfg.port h.hc;have h2:=congrArg Cfg.by' h.hc;rw[this,h2];rfl
 refine iD (aQ rfl) U ?_
 rw[aMC];have l12:=h.ld 12 (.I c.me) rfl;by_cases hme:d=c.me
 ·have c1:((d:Int)==(c.me:Int))=true:=by rw[hme];simp
  rw[if_pos hme] at hport;rw[hport];simp only[gsR,l12,c1]
  exact⟨_,rfl,Fr.dS _ _⟩
 ·have c1:((d:Int)==(c.me:Int))=false:=by rw[beq_eq_false_iff_ne];omega
  rw[if_neg hme] at hport;obtain⟨n,hn⟩:=h.hp;have hnn:c.nodes=n:=by
   have:=congrArg Cfg.nodes h.hc;rw[this];show p.nodes.toNat=n
   rw[hn.hn];simp
  have hmen:c.me<n:=by rw[<-hnn];exact h.ok.me
  obtain⟨row,hrow⟩: ∃row,p.next[c.me]? =some row:=⟨_,aUf (by rw[hn.nl];exact hmen)⟩
  have l11:=h.ld 11 nv rfl;obtain⟨pp,u,r1,r2,r3⟩:=(h.plan.ext h.ext).n.Fp hrow .i64;have hrl:row.length=n:=hn.rl _ (aUn hrow);have hx:row[d]? =some (nx p c.me d):=by
   unfold nx;rw[aUF,aUF,aUh,aUh,hrow,aUG];rw[aUf (by rw[hrl];omega)]
   rfl
  obtain⟨b,o,i1,_,i3⟩:=r3.dM eP hx .i64;have i3:=(i3 H rfl).2.1 0 _ rfl;have i3:ld1 (.pointer (some ⟨b,o,none⟩)) H=some (.int .i64 (nx p c.me d),H):=i3;have e0: ∀H:aF,H++[Blk.cells [Value.int .i64 0] 3 .fix]=H++[xR 0]:=λ_=>rfl
  have st:stN 1 (.Q H.length 0) (.I (nx p c.me d)) (H++[xR 0])=some (undef,H++[xR (nx p c.me d)]):=by
   rw[hP (cG H (xR 0)) aC (by simp),gZ]
   rfl
  obtain⟨H1,hH1⟩:=aD (H++[xR (nx p c.me d)]);have x1:Ext H H1:=by rw[hH1];exact Fr.app _ _ _
  have h1:=h.fS x1;have l13:=h1.ld 13 (eV y c) rfl;obtain⟨v,t1,t2⟩:=h1.aCY;obtain⟨H2,g1,g2⟩:=aCZ (m:=m-1) (fid:=149) (cb:=H.length) (z:=nx p c.me d) U (λG i hG=>aP8 U i hG) h.ok.by' t2 (by rw[hH1];exact cG _ _)
  have e1:IntKind.i64.wrap (fiI c.by' (nx p c.me d)+1)=(c.port d:Nat):=by
   rw[hport];unfold fiI;cases hf:c.by'.findIdx? λw:Nat=>decide ((w:Int)=nx p c.me d) with
   |none=>rfl
   |some j=>
    have:=(List.findIdx?_eq_some_iff_getElem.mp hf).1;have:=h.ok.by';exact mC j U
  simp only[gsR,l12,c1,l11,r1,r2,i1,i3,e0,st,<-hH1,l13,t1,g1,aV,e1]
  exact⟨_,rfl,x1.tr g2⟩
theorem aQb (x:Pkt):(p7 c x s).2={s with hL:=(p7 c x s).2.hL}:=by
 unfold p7;split
 ·rfl
 ·split<;>rfl
theorem aP9 {D:aF}{hb:Nat}(hm:2<m)(x:Pkt)(hq: ∀k:Int,(dE s.hL k).length<=c.queue)(h8:c.queue<=8)(h:HostAt D hb s.hL s.hG c.lanes c.queue):
  ∃r D',lvl prog pkN m (.func 87) [pt hb,x.cE] D=some (r,D')/\(r= .int .u16 (p7 c x s).1/\HostAt D' hb (p7 c x s).2.hL s.hG c.lanes c.queue):=by
 obtain⟨w0,w1,w2,cv,h⟩:=h;unfold p7;by_cases h1:0<=x.lane/\x.lane<c.lanes
 ·rw[if_neg (not_not_intro h1)]
  by_cases h2:(dE s.hL x.lane).length=c.queue
  ·rw[if_pos h2]
   exact⟨_,_,aOh h hm x h1 h2,rfl,HostAt.ext ⟨w0,w1,w2,cv,h⟩ (Fr.app _ _ _)⟩
  ·rw[if_neg h2]
   obtain⟨H',g1,g2⟩:=aOj h hm x h1 h2 (eD (n:=1000) aC (by have:=hq x.lane;omega))
   exact⟨_,_,g1,rfl,g2⟩
 ·rw[if_pos h1]
  exact⟨_,_,aOi h hm x h1,rfl,HostAt.ext ⟨w0,w1,w2,cv,h⟩ (Fr.app _ _ _)⟩
theorem NodeAt.Ip {H':aF}{F':Nat->Prop}{t':Nat}{L G:List Pkt}(h:NodeAt H0 H F y p ev wv nv c t s)(hB:Has (λD=>HostAt D y.hb L G c.lanes c.queue) F' H')(hm:Mv (F .host) F' H H')(hi:NInv c t' {s with hL:=L,hG:=G}):
  NodeAt H0 H' (updI F .host F') y p ev wv nv c t' {s with hL:=L,hG:=G}/\Mv (Un F) (Un (updI F .host F')) H H':=
 h.aCR .host hB hm hi (λD hD=>hD) λj hj D hD=>by
  cases j with
  |host=>exact absurd rfl hj
  |_=>exact hD
theorem NodeAt.Rf {H':aF}{F':Nat->Prop}{t':Nat}{L:List (Go.Abs.dR×Pkt)}(h:NodeAt H0 H F y p ev wv nv c t s)(hB:Has (λD=>RingsN D y.rg L (c.aJ*c.lanes*c.room) c.aJ c.lanes) F' H')(hm:Mv (F .rings) F' H H')(hi:NInv c t' {s with rL:=L}):
  NodeAt H0 H' (updI F .rings F') y p ev wv nv c t' {s with rL:=L}/\Mv (Un F) (Un (updI F .rings F')) H H':=
 h.aCR .rings hB hm hi (λD hD=>hD) λj hj D hD=>by
  cases j with
  |rings=>exact absurd rfl hj
  |_=>exact hD
theorem Has.vO {A B:aF->Prop}{F:Nat->Prop}{H:aF}(h:Has A F H)(hAB: ∀D,A D->B D):Has B F H:=⟨hAB _ h.at_,h.lt⟩
theorem aQa (h:NodeAt H0 H F y p ev wv nv c t s)(hm:10<m)(x:Pkt)(hb:0<=x.body/\x.body<4294967296): ∃H' F',lvl prog pkN m (.func 49) [pt y.nb,x.cE] H=some (.int .u16 (oE c x s).1,H')/\NodeAt H0 H' F' y p ev wv nv c t (oE c x s).2/\Mv (Un F) (Un F') H H':=by
 have hinv:=h.inv.aOm h.ok hb;obtain⟨H1,hH1⟩:=aD (H++[cO x]);have x1:Ext H H1:=by rw[hH1];exact Fr.app _ _ _
 have h1:=h.fS x1;have b1:H1[H.length]? =some (cO x):=by rw[hH1];exact cG _ _
 have e0:H++[Blk.cells (Value.cells x.cE).toList 31 .fix]=H1:=by rw[hH1];rfl
 have l0:ld1 (.Q H.length 0) H1=some (.I x.src,H1):=bA b1 rfl;have l1:ld1 (.Q H.length 1) H1=some (.I x.dst,H1):=bA b1 rfl;have l4:=(oG b1).2;have n1:=h1.ld 1 (.I c.nodes) rfl;have n12:=h1.ld 12 (.I c.me) rfl;have n14:=h1.ld 14 (pt y.hb) rfl;have mvx:Mv (Un F) (Un F) H H1:=Mv.nZ x1 _;by_cases hno:x.src≠c.me∨x.dst<0∨(c.nodes:Int)<=x.dst∨x.dst=c.me
 ·have hr:oE c x s=(1,s):=by unfold oE;rw[if_pos hno]
  rw[hr];refine⟨H1,F,aS (aQ rfl) U ?_,h1,mvx⟩
  rw[aAZ];by_cases c1:x.src=c.me
  ·have c1':(x.src !=(c.me:Int))=false:=by simp[c1]
   by_cases c2:x.dst<0
   ·simp only[gsR,e0,l0,n12,c1',l1,aUX c2]
    rfl
   ·by_cases c3:(c.nodes:Int)<=x.dst
    ·simp only[gsR,e0,l0,n12,c1',l1,aUY c2,n1,aUX c3]
     rfl
    ·have c4:x.dst=c.me:=by
      rcases hno with h|h|h|h
      ·exact absurd c1 h
      ·exact absurd h c2
      ·exact absurd h c3
      ·exact h
     have c4':(x.dst==(c.me:Int))=true:=by simp[c4]
     simp only[gsR,e0,l0,n12,c1',l1,aUY c2,n1,aUY c3,c4'];rfl
  ·have c1':(x.src !=(c.me:Int))=true:=by simpa using c1
   simp only[gsR,e0,l0,n12,c1'];rfl
 ·have hr:oE c x s=p7 c x s:=by unfold oE;rw[if_neg hno]
  rw[hr] at hinv⊢;rw[aQb] at hinv⊢;obtain⟨r,H2,F',g1,g2,g3⟩:=(h1.sep.own .host).zH qT (n:=m-1) (λD hD=>aP9 (m:=m-1) U x h1.inv.hQ h.ok.queue.2 hD)
  obtain⟨hrv,_⟩:=g2.at_;obtain⟨k1,k2⟩:=h1.Ip (Has.vO g2 λD hD=>hD.2) g3 hinv
  have c1:(x.src !=(c.me:Int))=false:=by
   simp only[bne_eq_false_iff_eq];exact Classical.byContradiction λhh=>hno (.inl hh)
  have c2:decide (x.dst<0)=false:=by rw[decide_eq_false_iff_not];exact λhh=>hno (.inr (.inl hh))
  have c3:decide ((c.nodes:Int)<=x.dst)=false:=by rw[decide_eq_false_iff_not];exact λhh=>hno (.inr (.inr (.inl hh)))
  have c4:(x.dst==(c.me:Int))=false:=by rw[beq_eq_false_iff_ne];exact λhh=>hno (.inr (.inr (.inr hh)))
  refine⟨H2,_,aS (aQ rfl) U ?_,k1,mvx.oA k2⟩
  rw[aAZ];have g1:lvl prog pkN (m-1) (.func 87) [pt y.hb,x.cE] H1=some (.int .u16 (p7 c x s).1,H2):=by rw[<-hrv];exact g1
  simp only[gsR,e0,l0,n12,c1,l1,c2,n1,c3,c4,n14,l4,g1]
end
theorem aQg (a b c d:UInt8):dC [a,b,c,d]<4294967296:=Qa 4 _ rfl
theorem aC2 (a b:UInt8):dC [a,b]<65536:=Qa 2 _ rfl
theorem aC1 {bs:List UInt8}{f:Frm}(h:fF bs=some f):f.ok:=by
 have h1:(fG bs).ok:=⟨UInt8.toNat_lt _,UInt8.toNat_lt _,aC2 _ _,by show 0<256;decide,by show 0<256;decide,by show 0<4294967296;decide⟩
 have h2:(kG bs).ok:=⟨UInt8.toNat_lt _,UInt8.toNat_lt _,aC2 _ _,UInt8.toNat_lt _,UInt8.toNat_lt _,aQg _ _ _ _⟩;unfold fF pY at h
 split at h
 ·split at h
  ·cases h;exact h1
  ·cases h
 ·split at h
  ·split at h
   ·cases h;exact h2
   ·cases h
  ·cases h
theorem aQh {α:Type}(f:Nat->Nat->α)(i k:Nat):up2 f i k (f i k)=f:=by
 funext j l
 unfold up2;split
 ·rename_i h
  rw[h.1,h.2]
 ·rfl
theorem vP (b:Nat)(H':aF):chk (some (pt b,H')) (pt b)=true:=by simp[chk,veq]
theorem aC4 (x:Pkt)(H':aF):chk (some (x.cE,H')) x.cE=true:=by simp[chk,veq,pJ,Pkt.cE,Pkt.kF]
theorem aC3 {n:Nat}(h:n≠0):((n:Int)!=0)=true:=by
 rw[bne_iff_ne];omega
theorem aQc {room:Nat}{x:Rcv}{s:Nat}:(x.fH room s).1≠0->(x.fH room s).2=x:=by
 unfold Rcv.fH
 generalize cC x.n s=w
 by_cases c1:w<x.n
 ·simp only[if_pos c1]
  exact λ_=>trivial
 ·by_cases c2:x.dA room<=w
  ·simp only[if_neg c1,if_pos c2]
   exact λ_=>trivial
  ·simp only[if_neg c1,if_neg c2]
   exact λh=>absurd rfl h
theorem aQe {c:Cfg}{s:NS}{i:Nat}{f:Frm}(hn: ¬c.nodes<=max f.src f.dst)(h0:((s.rcv i f.lane).fH c.room f.seq).1=0):
  o5 c i f s=(0,{s with rcv:=up2 s.rcv i f.lane ((s.rcv i f.lane).fH c.room f.seq).2,rL:=sR c s.rL ((i:Int),(c.port f.dst:Int),(f.lane:Int)) ⟨f.src,f.dst,f.lane,f.body⟩}):=by
 unfold o5;rw[if_neg hn]
 generalize (s.rcv i f.lane).fH c.room f.seq=q at*
 obtain⟨e,r⟩:=q;simp only at h0;subst h0;rfl
theorem aQd {c:Cfg}{s:NS}{i:Nat}{f:Frm}(hn: ¬c.nodes<=max f.src f.dst)(h0:((s.rcv i f.lane).fH c.room f.seq).1≠0):
  o5 c i f s=(((s.rcv i f.lane).fH c.room f.seq).1,s):=by
 unfold o5;rw[if_neg hn]
 generalize (s.rcv i f.lane).fH c.room f.seq=q at*
 obtain⟨e,r⟩:=q;cases e with
 |zero=>exact absurd rfl h0
 |succ e=>rfl
section
variable {H0 H : aF} {F : Part → Nat → Prop} {y : Lay} {p : PlanD} {ev wv nv : Value} {c : Cfg} {t : Nat} {s : NS} {m : Nat}
theorem aQf (h:NodeAt H0 H F y p ev wv nv c t s)(ht:t<1000000000)(hm:200<m){i:Nat}{f:Frm}(h1:1<=i)(h2:i<c.aJ)(hl:f.lane<c.lanes)(hf:f.ok):
  ∃H' F',lvl prog pkN m (.func 105) [pt y.nb,.I i,.agg #[pt (y.sb i f.lane),pt (y.rb i f.lane)],frV f] H=some (.int .u16 (o5 c i f s).1,H')/\NodeAt H0 H' F' y p ev wv nv c (t+1) (o5 c i f s).2/\Mv (Un F) (Un F') H H':=by
 have hinv:=h.inv.aBI h.ok i f hl hf.body;have hm0:0<m:=U
 have fs:=hf.src;have fd:=hf.dst;have fl:=hf.lane;have fq:=hf.seq;obtain⟨H1,hH1⟩:=aD (H++[dP (pt (y.sb i f.lane)) (pt (y.rb i f.lane))]);obtain⟨H2,hH2⟩:=aD (H1++[frB f]);have x1:Ext H H1:=by rw[hH1];exact Fr.app _ _ _
 have x2:Ext H1 H2:=by rw[hH2];exact Fr.app _ _ _
 have g2:=(h.fS x1).fS x2;have mv2:Mv (Un F) (Un F) H H2:=Mv.nZ (x1.tr x2) _;have e1:H++[Blk.cells (Value.cells (.agg #[pt (y.sb i f.lane),pt (y.rb i f.lane)])).toList 149 .fix]=H1:=by rw[hH1];rfl
 have e2:H1++[Blk.cells (Value.cells (frV f)).toList 157 .fix]=H2:=by rw[hH2];rfl
 have bl:H2[H.length]? =some (dP (pt (y.sb i f.lane)) (pt (y.rb i f.lane))):=by
  have:H1[H.length]? =some (dP (pt (y.sb i f.lane)) (pt (y.rb i f.lane))):=by rw[hH1];exact cG _ _
  rw[x2.2 _ (bU this) id,this]
 have bf:H2[H1.length]? =some (frB f):=by rw[hH2];exact cG _ _
 obtain⟨l0,l1,l2,l3,l4,l5,l6⟩:=lR bf;have n1:=g2.ld 1 (.I c.nodes) rfl;have ec:IntKind.i64.wrap (max (f.src:Int) (f.dst:Int))=max (f.src:Int) (f.dst:Int):=bJ U U
 by_cases c1:c.nodes<=max f.src f.dst
 ·have hr:o5 c i f s=(30,s):=by unfold o5;rw[if_pos c1]
  rw[hr];have c1':decide ((c.nodes:Int)<=max (f.src:Int) (f.dst:Int))=true:=by rw[decide_eq_true_eq];omega
  refine⟨H2,F,aS (aQ rfl) U ?_,{g2 with inv:=g2.inv.oH (Nat.le_succ t)},mv2⟩
  rw[Oa];simp only[gsR,e1,e2,l3,l4,w7,dJ _ _ u8U iU,ec,n1,c1'];rfl
 ·have c1':decide ((c.nodes:Int)<=max (f.src:Int) (f.dst:Int))=false:=by rw[decide_eq_false_iff_not];omega
  have lr:=(vN bl).2.2;obtain⟨H3,r1,r2⟩:=aNU (m:=m-1) U (g2.C0 h1 h2 hl) (g2.C1 ht i f.lane) f.seq fq
  have hri:NInv c (t+1) {s with rcv:=up2 s.rcv i f.lane ((s.rcv i f.lane).fH c.room f.seq).2}:=
   {g2.inv.oH (t':=t+1) U with rcv:=sU (g2.inv.oH (t':=t+1) U).rcv ((g2.inv.rcv i f.lane).aBM h.ok.room.2 f.seq)}
  obtain⟨g3,mv3⟩:=g2.Ra h1 h2 hl r2 hri;by_cases c2:((s.rcv i f.lane).fH c.room f.seq).1=0
  ·have c2':((((s.rcv i f.lane).fH c.room f.seq).1:Int)!=0)=false:=by rw[c2];rfl
   have hr:=aQe (c:=c) (s:=s) (i:=i) c1 c2;rw[hr] at hinv⊢;obtain⟨x,hx⟩: ∃x:Pkt,x=⟨f.src,f.dst,f.lane,f.body⟩:=⟨_,rfl⟩;obtain⟨H4,hH4⟩:=aD (H3++[cO x]);have x4:Ext H3 H4:=by rw[hH4];exact Fr.app _ _ _
   have g4:=g3.fS x4;have b4:H4[H3.length]? =some (cO x):=by rw[hH4];exact cG _ _
   have bf3:H3[H1.length]? =some (frB f):=by
    rw[mv3.keep _ (bU bf) (λhu=> ?_),bf]
    have h3:=h.sep.oB _ hu;have:=x1.1;omega
   obtain⟨k0,k1,k2,k3,k4,k5,k6⟩:=lR bf3;have eb:bld prog 31 [(0,.I f.src),(1,.I f.dst),(2,.I f.lane),(3,.int .u32 f.body)]=some x.cE:=by rw[hx];rfl
   have ez: ∀H:aF,H++[Blk.cells [Value.int .i64 0,.int .i64 0,.int .i64 0,.int .u32 0] 31 .fix]=H++[cO pk0]:=λ_=>rfl
   have st:stN 4 (.Q H3.length 0) x.cE (H3++[cO pk0])=some (undef,H4):=by rw[Ic x (cG _ _),gZ,hH4]
   have q1:ld1 (.Q H3.length 1) H4=some (.I f.dst,H4):=bA b4 (by rw[hx];rfl)
   have n15:=g4.ld 15 (pt y.rg) rfl;have hdn:f.dst<c.nodes:=U
   obtain⟨H5,t1,x5⟩:=aC0 g4 (m:=m-1) U f.dst hdn
   have g5:=g4.fS x5;have n15':=g5.ld 15 (pt y.rg) rfl;have b5:H5[H3.length]? =some (cO x):=by rw[x5.2 _ (bU b4) id,b4]
   have q2:ld1 (.Q H3.length 2) H5=some (.I f.lane,H5):=bA b5 (by rw[hx];rfl)
   have q2':ld1 (.Q H3.length 2) H4=some (.I f.lane,H4):=bA b4 (by rw[hx];rfl)
   have q3:=(oG b5).2;have q3':=(oG b4).2;obtain⟨r,H6,F',p1,p2,p3⟩:=(g5.sep.own .rings).zH qT (n:=m-1) (λD hD=>aCu (m:=m-1) hD U ((i:Int),(c.port f.dst:Int),(f.lane:Int)) x)
   have hpw:(if Cl ((i:Int),(c.port f.dst:Int),(f.lane:Int)) c.aJ c.lanes=true/\s.rL.length<c.aJ*c.lanes*c.room then s.rL++[(((i:Int),(c.port f.dst:Int),(f.lane:Int)),x)] else s.rL)=sR c s.rL ((i:Int),(c.port f.dst:Int),(f.lane:Int)) ⟨f.src,f.dst,f.lane,f.body⟩:=by
    rw[hx];rfl
   obtain⟨k1',k2'⟩:=g5.Rf (Has.vO p2 λD hD=>by rw[<-hpw];exact hD) p3 hinv
   refine⟨H6,_,aS (aQ rfl) U ?_,k1',((mv2.oA mv3).oA (Mv.nZ (x4.tr x5) _)).oA k2'⟩
   rw[Oa];have es:IntKind.i64.wrap (f.src:Int)=f.src:=zR _ U
   have ed:IntKind.i64.wrap (f.dst:Int)=f.dst:=zR _ U
   have el:IntKind.i64.wrap (f.lane:Int)=f.lane:=zR _ U
   have p1:lvl prog pkN (m-1) (.func 124) [pt y.rg,.I i,.I (c.port f.dst:Nat),.I f.lane,x.cE] H5=some (r,H6):=p1;simp only[gsR,e1,e2,l3,l4,w7,dJ _ _ u8U iU,ec,n1,c1',lr,l2,r1,c2',k3,k4,k1,k5,es,ed,el,eb,ez,st,n15,q1,t1,n15',vP,q2,q2',Cx,q3,q3',aC4,p1];rfl
  ·have hsame:=aQc c2
   have hr:=aQd (c:=c) (s:=s) (i:=i) c1 c2;obtain⟨e,he⟩:=aD (((s.rcv i f.lane).fH c.room f.seq).1);rw[<-he] at hr r1 c2;have c2':=aC3 c2;rw[hr];rw[hsame,aQh] at g3;refine⟨H3,F,aS (aQ rfl) hm0 ?_,g3,mv2.oA mv3⟩;rw[Oa];simp only[gsR,e1,e2,l3,l4,w7,dJ _ _ u8U iU,ec,n1,c1',lr,l2,r1,c2']
end
section
variable {H0 H : aF} {F : Part → Nat → Prop} {y : Lay} {p : PlanD} {ev wv nv : Value} {c : Cfg} {t : Nat} {s : NS} {m : Nat}
theorem qZ (H:aF):H++[Blk.cells [Value.int .u8 0,.int .u8 0,.int .u16 0,.int .u8 0,.int .u8 0,.int .u32 0] 157 .fix]=H++[zfB]:=rfl
theorem C5 (H:aF):H++[Blk.cells [Value.pointer none,.pointer none] 149 .fix]=H++[dP (.pointer none) (.pointer none)]:=rfl
theorem q9 (H:aF)(f:Frm):stN 6 (.Q H.length 0) (frV f) (H++[zfB])=some (undef,H++[frB f]):=by
 rw[Hi f (cG H zfB),gZ]
theorem Rh (H:aF)(a b:Value)(ha:cA [a,b]=true):stN 2 (.Q H.length 0) (.agg #[a,b]) (H++[dP (.pointer none) (.pointer none)])=some (undef,H++[dP a b]):=by
 rw[C4 a b (cG _ _) ha,gZ]
theorem aC6 {bs:List UInt8}{f:Frm}(h:fF bs=some f):lB bs= .tuple #[frV f,.int .u16 0]:=by
 unfold lB;rw[h]
theorem aC5 {bs:List UInt8}(h:fF bs=none):lB bs= .tuple #[frV Frm.lO,.int .u16 30]:=by
 unfold lB;rw[h]
theorem aQi (h:NodeAt H0 H F y p ev wv nv c t s)(ht:t<1000000000)(hm:400<m)(fr:Int){u:Value}{bs:List UInt8}(hu:Bs H u bs):
  ∃H' F',lvl prog pkN m (.func 66) [pt y.nb,.I fr,u] H=some (.int .u16 (jQ c fr bs s).1,H')/\NodeAt H0 H' F' y p ev wv nv c (t+1) (jQ c fr bs s).2/\Mv (Un F) (Un F') H H':=by
 have hm0:0<m:=U
 have hmono:=h.inv.oH (Nat.le_succ t);obtain⟨H1,hH1⟩:=aD (H++[xR fr]);have x1:Ext H H1:=by rw[hH1];exact Fr.app _ _ _
 have g1:=h.fS x1;have b1:H1[H.length]? =some (xR fr):=by rw[hH1];exact cG _ _
 have e0:H++[Blk.cells (Value.cells (.int .i64 fr)).toList 3 .fix]=H1:=by rw[hH1];rfl
 have l13:=g1.ld 13 (eV y c) rfl;obtain⟨v,t1,t2⟩:=g1.aCY;obtain⟨H2,i1,x2⟩:=aCZ (m:=m-1) (fid:=102) (cb:=H.length) (z:=fr) U (λG i hG=>aP7 U i hG) h.ok.by' t2 b1
 have g2:=g1.fS x2;cases hfi:c.by'.findIdx? λw:Nat=>decide ((w:Int)=fr) with
 |none=>
  have hr:jQ c fr bs s=(1,s):=by unfold jQ;rw[hfi]
  have hf:fiI c.by' fr= -1:=by unfold fiI;rw[hfi]
  have e1:IntKind.i64.wrap ((-1:Int)+1)=0:=rfl;have c1:((0:Int)==0)=true:=rfl;rw[hf] at i1;rw[hr];refine⟨H2,F,aS (aQ rfl) hm0 ?_,{g2 with inv:=hmono},Mv.nZ (x1.tr x2) _⟩;rw[zP];simp only[gsR,e0,l13,t1,i1,aV,e1,c1];rfl
 |some j=>
  have hjl:=(List.findIdx?_eq_some_iff_getElem.mp hfi).1;have hf:fiI c.by' fr=(j:Int):=by unfold fiI;rw[hfi]
  have h5:=h.ok.by';have e1:IntKind.i64.wrap ((j:Int)+1)=((j+1:Nat):Int):=mC j U
  have c1:(((j+1:Nat):Int)==0)=false:=by rw[beq_eq_false_iff_ne];omega
  have hp1:1<=j+1:=U
  have hp2:j+1<c.aJ:=by unfold Cfg.aJ;omega
  rw[hf] at i1;obtain⟨H3,d1,x3⟩:=aBz (m:=m-1) U (hu.ext (x1.tr x2))
  have g3:=g2.fS x3;cases hdec:fF bs with
  |none=>
   have hr:jQ c fr bs s=(30,s):=by unfold jQ;rw[hfi];simp only;rw[hdec]
   rw[aC5 hdec] at d1;have c2:((30:Int)!=0)=true:=rfl;rw[hr];have x4:Ext H3 (H3++[frB Frm.lO]):=Fr.app _ _ _;refine⟨H3++[frB Frm.lO],F,aS (aQ rfl) hm0 ?_,{g3.fS x4 with inv:=hmono},Mv.nZ (((x1.tr x2).tr x3).tr x4) _⟩;rw[zP];simp only[gsR,e0,l13,t1,i1,aV,e1,c1,d1,kO,qZ,q9,c2];rfl
  |some f=>
   have hok:=aC1 hdec;have fl:=hok.lane;rw[aC6 hdec] at d1;have c2:((0:Int)!=0)=false:=rfl;obtain⟨H4,hH4⟩:=aD (H3++[frB f]);have x4:Ext H3 H4:=by rw[hH4];exact Fr.app _ _ _
   have g4:=g3.fS x4;have b4:H4[H3.length]? =some (frB f):=by rw[hH4];exact cG _ _
   have l4:=(lR b4).2.1;have el:IntKind.i64.wrap (f.lane:Int)=f.lane:=zR _ U
   by_cases hl:c.lanes<=f.lane
   ·have hr:jQ c fr bs s=(30,s):=by unfold jQ;rw[hfi];simp only;rw[hdec];simp only;rw[if_pos hl]
    obtain⟨H5,n1,x5⟩:=aP0 g4 (m:=m-1) U ((j+1:Nat):Int) (f.lane:Int) U
    have x6:Ext H5 (H5++[dP (.pointer none) (.pointer none)]):=Fr.app _ _ _;rw[hr];refine⟨H5++[dP (.pointer none) (.pointer none)],F,aS (aQ rfl) hm0 ?_,{(g4.fS x5).fS x6 with inv:=hmono},Mv.nZ (((((x1.tr x2).tr x3).tr x4).tr x5).tr x6) _⟩;rw[zP];have st:=Rh H5 (.pointer none) (.pointer none) rfl;simp only[gsR,e0,l13,t1,i1,aV,e1,c1,d1,kO,qZ,q9,c2,<-hH4,l4,dJ _ _ u8U iU,el,n1,C5,Ae,st];rfl
   ·have hlt:f.lane<c.lanes:=U
    obtain⟨H5,n1,x5⟩:=Rc g4 (m:=m-1) U hp1 hp2 hlt
    obtain⟨H6,hH6⟩:=aD (H5++[dP (pt (y.sb (j+1) f.lane)) (pt (y.rb (j+1) f.lane))]);have x6:Ext H5 H6:=by rw[hH6];exact Fr.app _ _ _
    have g6:=(g4.fS x5).fS x6;have b6:H6[H5.length]? =some (dP (pt (y.sb (j+1) f.lane)) (pt (y.rb (j+1) f.lane))):=by rw[hH6];exact cG _ _
    obtain⟨q0,q1,q2⟩:=vN b6;have b46:H6[H3.length]? =some (frB f):=by rw[(x5.tr x6).2 _ (bU b4) id,b4]
    obtain⟨k0,k1,k2,k3,k4,k5,k6⟩:=lR b46;have st:=Rh H5 (pt (y.sb (j+1) f.lane)) (pt (y.rb (j+1) f.lane)) rfl;have mv6:Mv (Un F) (Un F) H H6:=Mv.nZ (((((x1.tr x2).tr x3).tr x4).tr x5).tr x6) _;by_cases hk2:f.kind=2
    ·have hr:jQ c fr bs s=(0,{s with snd:=up2 s.snd (j+1) f.lane ((s.snd (j+1) f.lane).nK f.seq)}):=by unfold jQ;rw[hfi];simp only;rw[hdec];simp only;rw[if_neg hl,if_pos hk2]
     have c3:((f.kind:Int)==2)=true:=by rw[hk2];rfl
     obtain⟨H7,w,s1,s2⟩:=aNZ (m:=m-1) U (g6.C2 hp1 hp2 hlt) (g6.Ik ht _ _) f.seq hok.seq
     have hri:NInv c (t+1) {s with snd:=up2 s.snd (j+1) f.lane ((s.snd (j+1) f.lane).nK f.seq)}:=
      {hmono with snd:=sU hmono.snd (((h.inv.snd _ _).aBP _).Hq (Nat.le_succ t))}
     obtain⟨g7,mv7⟩:=g6.aCT hp1 hp2 hlt s2 hri;rw[hr];refine⟨H7,F,aS (aQ rfl) hm0 ?_,g7,mv6.oA mv7⟩;rw[zP];simp only[gsR,e0,l13,t1,i1,aV,e1,c1,d1,kO,qZ,q9,c2,<-hH4,l4,dJ _ _ u8U iU,el,n1,C5,st,<-hH6,k0,c3,q1,k2,s1];rfl
    ·have c3:((f.kind:Int)==2)=false:=by rw[beq_eq_false_iff_ne];omega
     by_cases hk3:f.kind=3
     ·have hr:jQ c fr bs s=(0,{s with rcv:=up2 s.rcv (j+1) f.lane ((s.rcv (j+1) f.lane).mB c.room f.seq)}):=by unfold jQ;rw[hfi];simp only;rw[hdec];simp only;rw[if_neg hl,if_neg hk2,if_pos hk3]
      have c4:((f.kind:Int)==3)=true:=by rw[hk3];rfl
      obtain⟨H7,w,s1,s2⟩:=aNW (m:=m-1) U (g6.C0 hp1 hp2 hlt) (g6.C1 ht _ _) f.seq hok.seq
      have hri:NInv c (t+1) {s with rcv:=up2 s.rcv (j+1) f.lane ((s.rcv (j+1) f.lane).mB c.room f.seq)}:=
       {hmono with rcv:=sU hmono.rcv ((h.inv.rcv _ _).aBO h.ok.room.2 _)}
      obtain⟨g7,mv7⟩:=g6.Ra hp1 hp2 hlt s2 hri;rw[hr];refine⟨H7,F,aS (aQ rfl) hm0 ?_,g7,mv6.oA mv7⟩;rw[zP];simp only[gsR,e0,l13,t1,i1,aV,e1,c1,d1,kO,qZ,q9,c2,<-hH4,l4,dJ _ _ u8U iU,el,n1,C5,st,<-hH6,k0,c3,c4,q2,k2,s1];rfl
     ·have c4:((f.kind:Int)==3)=false:=by rw[beq_eq_false_iff_ne];omega
      have hr:jQ c fr bs s=o5 c (j+1) f s:=by unfold jQ;rw[hfi];simp only;rw[hdec];simp only;rw[if_neg hl,if_neg hk2,if_neg hk3]
      obtain⟨H7,F',s1,g7,mv7⟩:=aQf g6 ht (m:=m-1) U hp1 hp2 hlt hok
      rw[hr];refine⟨H7,F',aS (aQ rfl) hm0 ?_,g7,mv6.oA mv7⟩;rw[zP];simp only[gsR,e0,l13,t1,i1,aV,e1,c1,d1,kO,qZ,q9,c2,<-hH4,l4,dJ _ _ u8U iU,el,n1,C5,st,<-hH6,k0,c3,c4,q0,k6,s1]
end
theorem aQp {H H':aF}{a n ports lanes p s mb:Nat}{L:List Rg.En}{l:List Rg.fL}{top free:Int}{fl:List Nat}{f:Rg.gP->Option Value}(h:Rg.RI H a L n ports lanes p s mb l top free fl f)(hk: ∀(b:Nat)(x:Blk),H[b]? =some x->x≠ .dead->H'[b]? =some x):Rg.RI H' a L n ports lanes p s mb l top free fl f:=by
 refine⟨hk _ _ h.hd (λhd=>by cases hd),⟨⟨hk _ _ h.pool.pool.hp (λhd=>by cases hd),hk _ _ h.pool.pool.hs (λhd=>by cases hd),λi q x d hi=>hk _ _ (h.pool.pool.hq i q x d hi) (λhd=>by cases hd)⟩,h.pool.chain,h.pool.nodup,h.pool.full,h.pool.cnt,h.pool.len⟩,
  h.len,h.cnt,h.nd,h.full,?_,h.no,λw v hv=>⟨?_,(h.yes w v hv).2⟩,h.sep,h.b1,h.b2⟩
 ·obtain⟨es,c,h1,h2⟩:=h.mp
  exact⟨es,c,hk _ _ h1 (λhd=>by cases hd),h2⟩
 ·refine(h.yes w v hv).1.sH λb hb=> ?_
  obtain⟨xs,hx⟩:=(h.yes w v hv).1.blk hb;rw[hx];exact hk _ _ hx (λhd=>by cases hd)
theorem RingsN.aQm {D H:aF}{a cap ports lanes:Nat}{L:List (Go.Abs.dR×Pkt)}(hs:Sub D H)(h:RingsN D a L cap ports lanes):RingsN H a L cap ports lanes:=by
 obtain⟨Le,⟨p,s,mb,l,top,free,fl,f,hi⟩,h2⟩:=h
 exact⟨Le,⟨p,s,mb,l,top,free,fl,f,aQp hi hs.2⟩,h2⟩
theorem HostAt.aQj {D H:aF}{a lanes queue:Nat}{L G:List Pkt}(hs:Sub D H)(h:HostAt D a L G lanes queue):HostAt H a L G lanes queue:=by
 obtain⟨w0,w1,w2,cv,h⟩:=h;have key: ∀w (xs:List Pkt),Pq D w xs->Pq H w xs:=λw xs hw=>hw.xH λb hb=>by
  obtain⟨cs,hc⟩:=hw.blk hb;rw[hc];exact hs.2 b _ hc (λhd=>by cases hd)
 exact⟨w0,w1,w2,cv,hs.2 a _ h.blk (λhd=>by cases hd),h.lanes,h.queue,λk hk=>key _ _ (h.q k hk),key _ _ h.came,h.apart,h.apartC⟩
section
variable {H0 H : aF} {F : Part → Nat → Prop} {y : Lay} {p : PlanD} {ev wv nv : Value} {c : Cfg} {t : Nat} {s : NS} {m : Nat}
theorem NodeAt.aQl (h:NodeAt H0 H F y p ev wv nv c t s):RingsN H y.rg s.rL (c.aJ*c.lanes*c.room) c.aJ c.lanes:=RingsN.aQm (E8 _ _) (h.sep.own .rings).at_
theorem NodeAt.aC7 (h:NodeAt H0 H F y p ev wv nv c t s):HostAt H y.hb s.hL s.hG c.lanes c.queue:=HostAt.aQj (E8 _ _) (h.sep.own .host).at_
theorem Ri (h:NodeAt H0 H F y p ev wv nv c t s)(hm:0<m)(i o k:Nat):lvl prog pkN m (.func 70) [pt y.rg,.I i,.I o,.I k] H=some (.I (jO s.rL i o k),H):=aO9 h.aQl hm i o k
theorem aQo {i o:Nat}(hi:i<c.aJ)(ho:o<c.aJ)(h3:c.lanes<=3)(ht:t<1000000000)(hm:10<m): ∀(q k l:Nat)(H:aF),c.lanes-k=q->k<=c.lanes->q<l->NodeAt H0 H F y p ev wv nv c t s-> ∀(x6:Value),
  ∃H2,aL l (aO prog (lvl prog pkN m) (aL m) Oh) (Oi (lvl prog pkN m) (aL m)) (some (pt y.nb)::some (.I (i:Nat))::some (.I (o:Nat))::aG 3 (x6::some (.int .u16 (cD (eE c s i o) k:Nat))::aG 5 (some (.I c.lanes)::some (.I (k:Nat))::aG 35 []))) H=some (.int .u16 (cD (eE c s i o) c.lanes:Nat),H2)/\Ext H H2:=by
 intro q;induction q with
 |zero=>
  intro k l H hq hk hl h;intros;obtain⟨l,rfl⟩: ∃l',l=l'+1:=⟨l-1,by omega⟩
  have hke:k=c.lanes:=U
  have c1:decide ((k:Int)<(c.lanes:Int))=false:=by rw[decide_eq_false_iff_not];omega
  rw[aL,aAT];simp only[gsR,c1];rw[aMO];simp only[gsR]
  exact⟨_,by rw[hke],Fr.dS _ _⟩
 |succ q ih=>
  intro k l H hq hk hl h;intros;obtain⟨l,rfl⟩: ∃l',l=l'+1:=⟨l-1,by omega⟩
  have hkl:k<c.lanes:=U
  have c1:decide ((k:Int)<(c.lanes:Int))=true:=by rw[decide_eq_true_eq];omega
  have l15:=h.ld 15 (pt y.rg) rfl;have r1:=Ri h (m:=m) U i o k
  have e9:=mC k U
  rw[aL,aAT];by_cases hz:jO s.rL i o k=0
  ·have c2:(((jO s.rL i o k:Nat):Int)==0)=true:=by rw[hz];rfl
   have hno:eE c s i o k=false:=by unfold eE;rw[hz];simp
   simp only[gsR,c1,l15,r1,c2,aV,e9];rw[<-Ig hno];exact ih (k+1) l H U U U h ..
  ·have c2:(((jO s.rL i o k:Nat):Int)==0)=false:=by rw[beq_eq_false_iff_ne];omega
   obtain⟨s1,s2⟩:=vL (a:=cD (eE c s i o) k) (i:=k) (qA _ U) U
   by_cases ho0:o=0
   ·have c3:((o:Int)==0)=true:=by rw[ho0];rfl
    have hyes:eE c s i o k=true:=by unfold eE;simp[hkl,ho0];rw[<-ho0];omega
    simp only[gsR,c1,l15,r1,c2,c3,s1,s2,aV,e9];rw[<-Ih hyes];exact ih (k+1) l H U U U h ..
   ·have c3:((o:Int)==0)=false:=by rw[beq_eq_false_iff_ne];omega
    have l13:=h.ld 13 (eV y c) rfl;obtain⟨b,oo,a1,a2⟩:=h.xO ho;obtain⟨_,_,a3,_⟩:=a2 _ (.inl h);obtain⟨b',o',a4,_,a5,_⟩:=h.Cz U ho hkl
    have u1:=aBs (m:=m) U (h.C2 U ho hkl) (h.Ik ht o k)
    obtain⟨H1,hH1⟩:=aD (H++[Blk.cells [.int .u64 (s.snd o k).s,.int .u64 (s.snd o k).l] 170 .fix]);rw[<-hH1] at u1;have x1:Ext H H1:=by rw[hH1];exact Fr.app _ _ _
    by_cases hu:0<(s.snd o k).iR
    ·have c4:decide (0<((s.snd o k).iR:Int))=true:=by rw[decide_eq_true_eq];omega
     have hyes:eE c s i o k=true:=by unfold eE;simp[hkl,hu];omega
     simp only[gsR,Nat.add_zero,c1,l15,r1,c2,c3,l13,a1,a3,a4,a5,u1,c4,s1,s2,aV,e9];rw[<-Ih hyes];obtain⟨H2,k1,k2⟩:=ih (k+1) l H1 U U U (h.fS x1) ..
     exact⟨H2,k1,x1.tr k2⟩
    ·have c4:decide (0<((s.snd o k).iR:Int))=false:=by rw[decide_eq_false_iff_not];omega
     have hno:eE c s i o k=false:=by unfold eE;simp[hkl,hu,ho0]
     simp only[gsR,Nat.add_zero,c1,l15,r1,c2,c3,l13,a1,a3,a4,a5,u1,c4,aV,e9];rw[<-Ig hno];obtain⟨H2,k1,k2⟩:=ih (k+1) l H1 U U U (h.fS x1) ..
     exact⟨H2,k1,x1.tr k2⟩
theorem aC8 (h:NodeAt H0 H F y p ev wv nv c t s)(ht:t<1000000000)(hm:20<m){i o:Nat}(hi:i<c.aJ)(ho:o<c.aJ): ∃H2,lvl prog pkN m (.func 130) [pt y.nb,.I i,.I o] H=some (.int .u16 (cD (eE c s i o) c.lanes:Nat),H2)/\Ext H H2:=by
 refine iD (aQ rfl) U ?_
 rw[aMP];have l3:=h.ld 3 (.I c.lanes) rfl;simp only[gsR,l3];exact aQo hi ho h.ok.lanes.2 ht U c.lanes 0 (m-1) H U U (by have:=h.ok.lanes;omega) h ..
theorem NodeAt.aQk (h:NodeAt H0 H F y p ev wv nv c t s){b:Nat}(hb: ¬Un F b)(hb0:H0.length<=b)(x:Blk):NodeAt H0 (H.set b x) F y p ev wv nv c t s:=by
 have hm:Mv (λa=>a=b) (λa=>a=b) H (H.set b x):=⟨by simp,λ_ h=> .inl h,λa _ ha=>aUe λhh=>ha hh.symm⟩
 refine {h with ext:=⟨by simp;exact h.ext.1,λa ha _=> ?_⟩,sep:=h.sep.wO (tU _ _ _ _ _ _ _) hm λa ha hh=>hb (by rw[<-hh];exact ha)}
 rw[aUe U,h.ext.2 a ha id]
def gQ (c:Cfg)(s:NS)(i o:Nat):List Nat:=(List.range c.aJ).map λj=>if j<i then cD (hZ c s j) c.aJ else if j=i then cD (hZ c s i) o else 0
theorem tV (c:Cfg)(s:NS)(i o:Nat):(gQ c s i o).length=c.aJ:=by simp[gQ]
theorem xS {c:Cfg}{s:NS}{i o j:Nat}(hj:j<c.aJ):(gQ c s i o)[j]? =some (if j<i then cD (hZ c s j) c.aJ else if j=i then cD (hZ c s i) o else 0):=by simp[gQ,hj]
theorem aQq (c:Cfg)(s:NS)(i:Nat):gQ c s i c.aJ=gQ c s (i+1) 0:=by
 unfold gQ;refine List.map_congr_left λj hj=> ?_
 by_cases h1:j<i
 ·rw[if_pos h1,if_pos U]
 ·by_cases h2:j=i
  ·rw[if_neg h1,if_pos h2,if_pos U,h2]
  ·rw[if_neg h1,if_neg h2,if_neg U]
   split<;>rfl
theorem aQr (c:Cfg)(s:NS):gQ c s 0 0=List.replicate c.aJ 0:=by
 apply aUO;intro j;by_cases hj:j<c.aJ
 ·rw[xS hj,List.getElem?_replicate_of_lt hj,if_neg U]
  split<;>rfl
 ·rw[aUo (by rw[tV];omega),aUo (by simp;omega)]
theorem aC9 {c:Cfg}{s:NS}{i o v:Nat}(hi:i<c.aJ)(hv:cD (hZ c s i) (o+1)=v):gQ c s i (o+1)=(gQ c s i o).set i v:=by
 apply aUO;intro j;by_cases hj:j<c.aJ
 ·by_cases hij:i=j
  ·subst hij
   rw[aUj (by rw[tV];exact hi),xS hj,if_neg U,if_pos rfl,hv]
  ·rw[aUe hij,xS hj,xS hj,if_neg (show¬j=i by omega),if_neg (show¬j=i by omega)]
 ·rw[aUo (by rw[tV];omega),aUo (by rw[List.length_set,tV];omega)]
theorem aQt (c:Cfg)(s:NS):fY (gQ c s c.aJ 0)=hZ c s:=by
 funext i k
 unfold fY;by_cases hi:i<c.aJ
 ·rw[aUh,xS hi,if_pos hi,aUG,gY]
  unfold hZ;cases decide (k<c.aJ)<;>simp
 ·rw[aUh,aUo (by rw[tV];omega)]
  unfold hZ;simp[hi]
theorem aQs {c:Cfg}{s:NS}(h6:c.aJ<=16): ∀z∈gQ c s c.aJ 0,z<65536:=λz hz=>by
 unfold gQ at hz;obtain⟨j,hj,rfl⟩:=aUQ.mp hz;rw[if_pos (aUR.mp hj)];exact qA _ h6
theorem aQn {c:Cfg}{s:NS}{i o:Nat}(hi:i<c.aJ)(ho:o<c.aJ):hZ c s i o=lY (eE c s i o) c.lanes:=by
 unfold hZ lY;simp[hi,ho]
end
section
variable {H0 H : aF} {F : Part → Nat → Prop} {y : Lay} {p : PlanD} {ev wv nv : Value} {c : Cfg} {t : Nat} {s : NS} {m : Nat}
theorem aQu {Ha:aF}{i:Nat}(hi:i<c.aJ)(hun: ¬Un F Ha.length)(hb0:H0.length<=Ha.length)(ht:t<1000000000)(hm:30<m)(h6:c.aJ<=6){K:Ex->K (Value×aF)}{Q:aF->Value->Prop}
  (hK: ∀H',NodeAt H0 H' F y p ev wv nv c t s->H'[Ha.length]? =some (dW (gQ c s i c.aJ))->Ext Ha H'-> ∀(x2 x4 rG rH:Value),∃H2 r,Pn (lvl prog pkN m) (aL m) K (pt y.nb) x2 (cR Ha.length c.aJ) x4 (.I c.aJ) (.I (i:Nat)) rG rH H'=some (r,H2)/\Q H2 r):
  ∀(q o k:Nat)(H:aF),c.aJ-o=q->o<=c.aJ->q<k->NodeAt H0 H F y p ev wv nv c t s->H[Ha.length]? =some (dW (gQ c s i o))->Ext Ha H-> ∀(x2:Value),
  ∃H2 r,aL k (aO prog (lvl prog pkN m) (aL m) Pm) (Pp (lvl prog pkN m) (aL m) K) (some (pt y.nb)::aG 1 (x2::some (cR Ha.length c.aJ)::some (.I (i:Nat))::aG 11 (some (.I c.aJ)::some (.I (i:Nat))::aG 6 (some (.I c.aJ)::some (.I (o:Nat))::aG 18 [])))) H=some (r,H2)/\Q H2 r:=by
 intro q;induction q with
 |zero=>
  intro o k H hq ho hk h hb he;intros;obtain⟨k,rfl⟩: ∃k',k=k'+1:=⟨k-1,by omega⟩
  have hoe:o=c.aJ:=U
  subst hoe;have c1:decide ((c.aJ:Int)<(c.aJ:Int))=false:=by simp
  rw[aL,aA8];simp only[gsR,c1];rw[aNB];exact hK H h hb he ..
 |succ q ih=>
  intro o k H hq ho hk h hb he;intros;obtain⟨k,rfl⟩: ∃k',k=k'+1:=⟨k-1,by omega⟩
  have hol:o<c.aJ:=U
  have c1:decide ((o:Int)<(c.aJ:Int))=true:=by rw[decide_eq_true_eq];omega
  obtain⟨H1,m1,x1⟩:=aC8 h ht (m:=m) U hi hol
  have h1:=h.fS x1;have b1:H1[Ha.length]? =some (dW (gQ c s i o)):=by rw[x1.2 _ (bU hb) id,hb]
  have e9:=mC o U
  have hask:=aQn (c:=c) (s:=s) hi hol;rw[aL,aA8];by_cases hz:cD (eE c s i o) c.lanes=0
  ·have c2:(((cD (eE c s i o) c.lanes:Nat):Int)!=0)=false:=by rw[hz];rfl
   have hno:hZ c s i o=false:=by rw[hask];exact(Ab _ _).mp hz
   have hr:gQ c s i (o+1)=gQ c s i o:=by
    rw[aC9 hi (Ig hno)];apply aUO;intro j;by_cases hij:i=j
    ·subst hij
     rw[aUj (by rw[tV];exact hi),xS hi,if_neg U,if_pos rfl]
    ·rw[aUe hij]
   simp only[gsR,c1,m1,c2,aV,e9];exact ih (o+1) k H1 U U U h1 (by rw[hr];exact b1) (he.tr x1) ..
  ·have c2:(((cD (eE c s i o) c.lanes:Nat):Int)!=0)=true:=aC3 hz
   have hyes:hZ c s i o=true:=by
    rw[hask];cases hw:lY (eE c s i o) c.lanes with
    |true=>rfl
    |false=>exact absurd ((Ab _ _).mpr hw) hz
   obtain⟨a1,a2⟩:=Ij (c:=c.aJ) b1 (tV _ _ _ _) hi;have a1:cN 1 (cR Ha.length c.aJ) (.I (i:Int))=some (.Q Ha.length i):=a1;have hv:(gQ c s i o).getD i 0=cD (hZ c s i) o:=by rw[aUh,xS hi,if_neg U,if_pos rfl];rfl
   rw[hv] at a2;obtain⟨s1,s2⟩:=vL (a:=cD (hZ c s i) o) (i:=o) (qA _ U) U
   have st:=aCM (cD (hZ c s i) o|||2 ^ o) b1 (i:=i) (by rw[tV];exact hi)
   rw[<-aC9 hi (Ih hyes)] at st;simp only[gsR,c1,m1,c2,a1,a2,s1,s2,st,aV,e9];refine ih (o+1) k _ U U U (h1.aQk hun hb0 _) (dN b1) ?_ ..
   have he1:=he.tr x1
   exact⟨by simp;exact he1.1,λb hb hn=>by rw[aUe U,he1.2 b hb id]⟩
theorem aQw {Ha:aF}(hun: ¬Un F Ha.length)(hb0:H0.length<=Ha.length)(ht:t<1000000000)(hm:40<m)(h6:c.aJ<=6):
  ∀(q i k:Nat)(H:aF),c.aJ-i=q->i<=c.aJ->q<k->NodeAt H0 H F y p ev wv nv c t s->H[Ha.length]? =some (dW (gQ c s i 0))->Ext Ha H-> ∀(x2 x4 rG rH:Value),
  ∃H2 r,aL k (aO prog (lvl prog pkN m) (aL m) Pk) (Po (lvl prog pkN m) (aL m)) (some (pt y.nb)::aG 1 (x2::some (cR Ha.length c.aJ)::x4::aG 11 (some (.I c.aJ)::some (.I (i:Nat))::aG 6 (rG::rH::aG 18 [])))) H=some (r,H2)/\(r=cR Ha.length c.aJ/\H2[Ha.length]? =some (dW (gQ c s c.aJ 0))/\Ext Ha H2/\NodeAt H0 H2 F y p ev wv nv c t s):=by
 intro q;induction q with
 |zero=>
  intro i k H hq hi hk h hb he;intros;obtain⟨k,rfl⟩: ∃k',k=k'+1:=⟨k-1,by omega⟩
  have hie:i=c.aJ:=U
  subst hie;have c1:decide ((c.aJ:Int)<(c.aJ:Int))=false:=by simp
  rw[aL,aA7];simp only[gsR,c1];rw[aNA];simp only[gsR]
  exact⟨_,_,rfl,rfl,hb,he,h⟩
 |succ q ih=>
  intro i k H hq hi hk h hb he;intros;obtain⟨k,rfl⟩: ∃k',k=k'+1:=⟨k-1,by omega⟩
  have hil:i<c.aJ:=U
  have c1:decide ((i:Int)<(c.aJ:Int))=true:=by rw[decide_eq_true_eq];omega
  have l13:=h.ld 13 (eV y c) rfl;have e1:cX (eV y c)=some (.I c.aJ):=rfl;rw[aL,aA7];simp only[gsR,c1,l13,e1];refine aQu hil hun hb0 ht U h6 ?_ c.aJ 0 m H U U U h hb he ..
  intro H' h' hb' he';intros;have e9:=mC i U
  unfold Pn;simp only[gsR,aV,e9];rw[aQq] at hb';exact ih (i+1) k H' U U U h' hb' he' ..
theorem aQv (h:NodeAt H0 H F y p ev wv nv c t s)(ht:t<1000000000)(hm:50<m): ∃H2,lvl prog pkN m (.func 93) [pt y.nb] H=some (cR H.length c.aJ,H2)/\H2[H.length]? =some (dW (gQ c s c.aJ 0))/\Ext H H2:=by
 have h6:c.aJ<=6:=by have:=h.ok.by';unfold Cfg.aJ;omega
 have main: ∃H2 r,lvl prog pkN m (.func 93) [pt y.nb] H=some (r,H2)/\(r=cR H.length c.aJ/\H2[H.length]? =some (dW (gQ c s c.aJ 0))/\Ext H H2/\NodeAt H0 H2 F y p ev wv nv c t s):=by
  refine dL (aQ rfl) U ?_
  rw[aNC];have l13:=h.ld 13 (eV y c) rfl;have e1:cX (eV y c)=some (.I c.aJ):=rfl;have mk:=uQ (H:=H) 23 1 2 [.int .u16 0] .i64 .i64 (c.aJ:Int) U U U rfl
  have hz:H++[Blk.cells (List.replicate (c.aJ:Int).toNat [Value.int .u16 0]).flatten 23 .row]=H++[dW (gQ c s 0 0)]:=by
   have: ∀n,(List.replicate n [Value.int .u16 0]).flatten=List.replicate n (.int .u16 0):=by
    intro n;induction n with
    |zero=>rfl
    |succ n ih=>rw[List.replicate_succ,aUN,ih];rfl
   rw[aUF,this,aQr,dW,List.map_replicate];rfl
  rw[hz,aUF] at mk;have x1:Ext H (H++[dW (gQ c s 0 0)]):=Fr.app _ _ _;have h1:=h.fS x1;have l13':=h1.ld 13 (eV y c) rfl;simp only[gsR,l13,e1,mk,l13'];exact aQw (λhu=>by have:=h.sep.oB _ hu;omega) h.ext.1 ht U h6 c.aJ 0 (m-1) _ U U U h1 (cG _ _) x1 ..
 obtain⟨H2,r,g1,rfl,g2,g3,_⟩:=main
 exact⟨H2,g1,g2,g3⟩
theorem aDc (L:List (Go.Abs.dR×Pkt))(i o k:Nat):jO L i o k<=L.length:=by
 unfold jO lA;rw[aUr];exact List.length_filter_le _ _
def tW (L:List (Go.Abs.dR×Pkt))(k o:Nat):Nat:=((List.range o).map λo=>jO L 0 o k).sum
theorem aDb (L:List (Go.Abs.dR×Pkt))(k o:Nat):tW L k (o+1)=tW L k o+jO L 0 o k:=by
 unfold tW;rw[aUM,List.map_append,List.sum_append];simp
theorem aDa (L:List (Go.Abs.dR×Pkt))(k:Nat): ∀o,tW L k o<=o*L.length
 |0=>by simp[tW]
 |o+1=>by
  have:=aDa L k o;have:=aDc L 0 o k;rw[aDb,Nat.succ_mul];omega
theorem aDd (h:c.ok):c.aJ*c.lanes*c.room<=144:=by
 have h1:c.aJ<=6:=by have:=h.by';unfold Cfg.aJ;omega
 have h2:=h.lanes.2;have h3:=h.room.2
 calc c.aJ*c.lanes*c.room<=6*3*8:=Nat.mul_le_mul (Nat.mul_le_mul h1 h2) h3
  _=144:=rfl
theorem aQx {kk:Nat}(hm:30<m){K:Ex->K (Value×aF)}{Q:aF->Value->Prop}(h:NodeAt H0 H F y p ev wv nv c t s)
  (hK: ∀(dQ gI:Value),∃H2 r,Gx (lvl prog pkN m) (aL m) K (pt y.nb) (.I (kk:Nat)) (.I (zT c s.rL kk:Nat)) (.I c.lanes) (.I (kk:Nat)) dQ gI H=some (r,H2)/\Q H2 r):
  ∀(q o k:Nat),c.aJ-o=q->o<=c.aJ->q<k-> ∃H2 r,aL k (aO prog (lvl prog pkN m) (aL m) Pb) (Pd (lvl prog pkN m) (aL m) K) (some (pt y.nb)::aG 1 (some (.I (kk:Nat))::some (.I (tW s.rL kk o:Nat))::aG 7 (some (.I c.lanes)::some (.I (kk:Nat))::aG 6 (some (.I c.aJ)::some (.I (o:Nat))::aG 41 [])))) H=some (r,H2)/\Q H2 r:=by
 intro q;induction q with
 |zero=>
  intro o k hq ho hk;intros;obtain⟨k,rfl⟩: ∃k',k=k'+1:=⟨k-1,by omega⟩
  have hoe:o=c.aJ:=U
  subst hoe;have c1:decide ((c.aJ:Int)<(c.aJ:Int))=false:=by simp
  rw[aL,aA3];simp only[gsR,c1];rw[aNw];exact hK ..
 |succ q ih=>
  intro o k hq ho hk;intros;obtain⟨k,rfl⟩: ∃k',k=k'+1:=⟨k-1,by omega⟩
  have h6:c.aJ<=6:=by have:=h.ok.by';unfold Cfg.aJ;omega
  have c1:decide ((o:Int)<(c.aJ:Int))=true:=by rw[decide_eq_true_eq];omega
  have l15:=h.ld 15 (pt y.rg) rfl;have r1:=Ri h (m:=m) U 0 o kk
  have e9:=mC o U
  have hrl:=aUt h.inv.rN (aDd h.ok);have hb1:tW s.rL kk o<=6*144:=aUt (aDa _ _ _) (Nat.mul_le_mul U hrl)
  have hb2:=aDc s.rL 0 o kk;have e8:IntKind.i64.wrap ((tW s.rL kk o:Nat)+((jO s.rL 0 o kk:Nat):Int))=(tW s.rL kk (o+1):Nat):=by
   rw[aDb,bJ U U]
   omega
  have r1:lvl prog pkN m (.func 70) [pt y.rg,.I 0,.I o,.I kk] H=some (.I (jO s.rL 0 o kk),H):=r1;rw[aL,aA3];simp only[gsR,c1,l15,r1,aV,e8,e9];exact ih (o+1) k U U U ..
def aQz (w:List Pkt):Value:=match w with
 |[]=> .tuple #[pk0.cE,.bool false]
 |x::_=> .tuple #[x.cE,.bool true]
def xT (L:List Pkt)(k:Nat):List Pkt:=if dE L k=[] then L else pZ L k
theorem aQy {D:aF}{hb:Nat}(hm:3<m){k:Nat}(hk:k<c.lanes)(h:HostAt D hb s.hL s.hG c.lanes c.queue):
  ∃r D',lvl prog pkN m (.func 123) [pt hb,.I k] D=some (r,D')/\(r=aQz (dE s.hL k)/\HostAt D' hb (xT s.hL k) s.hG c.lanes c.queue):=by
 obtain⟨w0,w1,w2,cv,h⟩:=h;cases hw:dE s.hL k with
 |nil=>
  obtain⟨H',g1,g2⟩:=aPg h hm k hk hw
  exact⟨_,_,g1,rfl,by unfold xT;rw[if_pos hw];exact g2⟩
 |cons x xs=>
  obtain⟨H',g1,g2⟩:=aPh h hm k hk hw
  exact⟨_,_,g1,rfl,by unfold xT;rw[if_neg (by rw[hw];simp)];exact g2⟩
end
theorem Af (H:aF):H++[Blk.cells [Value.int .i64 0,.int .i64 0,.int .i64 0,.int .u32 0] 31 .fix]=H++[cO pk0]:=rfl
theorem Rj (H:aF)(x:Pkt):stN 4 (.Q H.length 0) x.cE (H++[cO pk0])=some (undef,H++[cO x]):=by rw[Ic x (cG _ _),gZ]
theorem aQD {c:Cfg}{t:Nat}{s:NS}(h:NInv c t s)(k:Int):NInv c t {s with hL:=pZ s.hL k}:=by
 refine {h with hL:=λx hx=>h.hL x (aBR hx),hQ:=λj=> ?_}
 have e:=Hr s.hL k j
 show(dE (pZ s.hL k) j).length<=c.queue
 rw[e];by_cases hj:j=k
 ·rw[if_pos hj,List.length_tail]
  have:=h.hQ k;omega
 ·rw[if_neg hj]
  exact h.hQ j
section
variable {H0 H : aF} {F : Part → Nat → Prop} {y : Lay} {p : PlanD} {ev wv nv : Value} {c : Cfg} {t : Nat} {s : NS} {m : Nat}
theorem aQB {K:Ex->K (Value×aF)}{Q:aF->Value->Prop}{k:Nat}(hk:k<c.lanes)(hm:200<m)(h:NodeAt H0 H F y p ev wv nv c t s)
  (hK: ∀H' F',NodeAt H0 H' F' y p ev wv nv c t (iG c s k)->Mv (Un F) (Un F') H H'-> ∀(x2 x3 dQ gI:Value),∃H2 r,K .normal (some (pt y.nb)::aG 1 (x2::x3::aG 7 (some (.I c.lanes)::some (.I (k+1:Nat))::aG 6 (dQ::gI::aG 41 [])))) H'=some (r,H2)/\Q H2 r):
  ∀(dQ gI:Value),∃H2 r,Gx (lvl prog pkN m) (aL m) K (pt y.nb) (.I (k:Nat)) (.I (zT c s.rL k:Nat)) (.I c.lanes) (.I (k:Nat)) dQ gI H=some (r,H2)/\Q H2 r:=by
 intros;have h3:=h.ok.lanes.2;have e9:=mC k U
 have l4:=h.ld 4 (.I c.room) rfl;unfold Gx;by_cases c1:c.room<=zT c s.rL k
 ·have c1':decide ((c.room:Int)<=(zT c s.rL k:Nat))=true:=by rw[decide_eq_true_eq];omega
  have hr:iG c s k=s:=by unfold iG;rw[if_pos c1]
  rw[hr] at hK;simp only[gsR,l4,c1',aV,e9];exact hK H F h (Mv.X4 _ _) ..
 ·have c1':decide ((c.room:Int)<=(zT c s.rL k:Nat))=false:=by rw[decide_eq_false_iff_not];omega
  have l14:=h.ld 14 (pt y.hb) rfl;obtain⟨r,H1,F1,n1,n2,n3⟩:=(h.sep.own .host).zH qT (n:=m) (λD hD=>aQy (m:=m) U hk hD)
  obtain⟨hrv,_⟩:=n2.at_;rw[hrv] at n1;cases hw:dE s.hL k with
  |nil=>
   have hr:iG c s k=s:=by unfold iG;rw[if_neg c1,hw]
   rw[hr] at hK;have hnl:xT s.hL k=s.hL:=by unfold xT;rw[if_pos hw]
   obtain⟨g1,mv1⟩:=h.Ip (L:=s.hL) (G:=s.hG) (Has.vO n2 λD hD=>by rw[<-hnl];exact hD.2) n3 h.inv
   rw[hw] at n1;have n1:lvl prog pkN m (.func 123) [pt y.hb,.I k] H=some (.tuple #[pk0.cE,.bool false],H1):=n1;have x2:Ext H1 (H1++[cO pk0]):=Fr.app _ _ _;simp only[gsR,l4,c1',l14,n1,kO,Af,Rj,aV,e9];exact hK (H1++[cO pk0]) _ (g1.fS x2) (mv1.oA (Mv.nZ x2 _)) ..
  |cons x xs=>
   have hr:iG c s k={s with hL:=pZ s.hL k,rL:=sR c s.rL (0,(c.port x.dst.toNat:Int),k) x}:=by unfold iG;rw[if_neg c1,hw]
   have hinv:=h.inv.aBJ h.ok k;rw[hr] at hK hinv;have hnl:xT s.hL k=pZ s.hL k:=by unfold xT;rw[if_neg (by rw[hw];simp)]
   obtain⟨g1,mv1⟩:=h.Ip (L:=pZ s.hL k) (G:=s.hG) (Has.vO n2 λD hD=>by rw[<-hnl];exact hD.2) n3 (aQD h.inv k)
   rw[hw] at n1;have n1:lvl prog pkN m (.func 123) [pt y.hb,.I k] H=some (.tuple #[x.cE,.bool true],H1):=n1;obtain⟨H2,hH2⟩:=aD (H1++[cO x]);have x2:Ext H1 H2:=by rw[hH2];exact Fr.app _ _ _
   have g2:=g1.fS x2;have b2:H2[H1.length]? =some (cO x):=by rw[hH2];exact cG _ _
   have hxm:x∈s.hL:=by
    have:x∈dE s.hL k:=by rw[hw];exact aUm ..
    exact(List.mem_filter.mp this).1
   have hxd:=(h.inv.hL x hxm).dst;obtain⟨d,hd⟩: ∃d:Nat,x.dst=d:=⟨x.dst.toNat,by omega⟩
   have hdt:x.dst.toNat=d:=U
   rw[hdt] at hK hinv;have q1:ld1 (.Q H1.length 1) H2=some (.I d,H2):=bA b2 (by rw[<-hd];rfl)
   have l15:=g2.ld 15 (pt y.rg) rfl;obtain⟨H3,t1,x3⟩:=aC0 g2 (m:=m) U d U
   have g3:=g2.fS x3;have l15':=g3.ld 15 (pt y.rg) rfl;have b3:H3[H1.length]? =some (cO x):=by rw[x3.2 _ (bU b2) id,b2]
   have q3:=(oG b3).2;have q3':=(oG b2).2;obtain⟨r',H4,F4,p1,p2,p3⟩:=(g3.sep.own .rings).zH qT (n:=m) (λD hD=>aCu (m:=m) hD U (0,(c.port d:Int),(k:Int)) x)
   obtain⟨g4,mv4⟩:=g3.Rf (L:=sR c s.rL (0,(c.port d:Int),k) x) p2 p3 hinv;have p1:lvl prog pkN m (.func 124) [pt y.rg,.I 0,.I (c.port d:Nat),.I k,x.cE] H3=some (r',H4):=p1;simp only[gsR,l4,c1',l14,n1,kO,Af,Rj,<-hH2,l15,q1,t1,l15',vP,q3,q3',aC4,p1,aV,e9];exact hK H4 _ g4 ((mv1.oA (Mv.nZ (x2.tr x3) _)).oA mv4) ..
theorem aQC {Hs:aF}{Fs:Part->Nat->Prop}{s0:NS}(h3:c.lanes<=3)(hm:300<m)(h6:c.aJ<=6):
  ∀(q k l:Nat)(H:aF)(F:Part->Nat->Prop),c.lanes-k=q->k<=c.lanes->q<l->NodeAt H0 H F y p ev wv nv c t ((List.range k).foldl (iG c) s0)->Mv (Un Fs) (Un F) Hs H-> ∀(x2 x3 dQ gI:Value),
  ∃H2 r,aL l (aO prog (lvl prog pkN m) (aL m) Pa) (Pc (lvl prog pkN m) (aL m)) (some (pt y.nb)::aG 1 (x2::x3::aG 7 (some (.I c.lanes)::some (.I (k:Nat))::aG 6 (dQ::gI::aG 41 [])))) H=some (r,H2)/\(r=aK []/\ ∃F2,NodeAt H0 H2 F2 y p ev wv nv c t (eT c s0)/\Mv (Un Fs) (Un F2) Hs H2):=by
 intro q;induction q with
 |zero=>
  intro k l H F hq hk hl h hmv;intros;obtain⟨l,rfl⟩: ∃l',l=l'+1:=⟨l-1,by omega⟩
  have hke:k=c.lanes:=U
  have c1:decide ((k:Int)<(c.lanes:Int))=false:=by rw[decide_eq_false_iff_not];omega
  rw[aL,aA2];simp only[gsR,c1];rw[aNv];rw[hke] at h
  exact⟨_,_,rfl,rfl,F,h,hmv⟩
 |succ q ih=>
  intro k l H F hq hk hl h hmv;intros;obtain⟨l,rfl⟩: ∃l',l=l'+1:=⟨l-1,by omega⟩
  have hkl:k<c.lanes:=U
  have c1:decide ((k:Int)<(c.lanes:Int))=true:=by rw[decide_eq_true_eq];omega
  have l13:=h.ld 13 (eV y c) rfl;have e1:cX (eV y c)=some (.I c.aJ):=rfl;rw[aL,aA2];simp only[gsR,c1,l13,e1];refine aQx (kk:=k) U h ?_ c.aJ 0 m U U U ..
  refine aQB hkl U h ?_
  intro H' F' h' hmv';intros;have hn:(List.range (k+1)).foldl (iG c) s0=iG c ((List.range k).foldl (iG c) s0) k:=by rw[aUM,List.foldl_append];rfl
  rw[<-hn] at h';exact ih (k+1) l H' F' U U U h' (hmv.oA hmv') ..
theorem aQA (h:NodeAt H0 H F y p ev wv nv c t s)(hm:400<m): ∃H2 F2,lvl prog pkN m (.func 91) [pt y.nb] H=some (aK [],H2)/\NodeAt H0 H2 F2 y p ev wv nv c t (eT c s)/\Mv (Un F) (Un F2) H H2:=by
 have h6:c.aJ<=6:=by have:=h.ok.by';unfold Cfg.aJ;omega
 have main: ∃H2 r,lvl prog pkN m (.func 91) [pt y.nb] H=some (r,H2)/\(r=aK []/\ ∃F2,NodeAt H0 H2 F2 y p ev wv nv c t (eT c s)/\Mv (Un F) (Un F2) H H2):=by
  refine dL (aQ rfl) U ?_
  rw[aNx];have l3:=h.ld 3 (.I c.lanes) rfl;simp only[gsR,l3];exact aQC h.ok.lanes.2 U h6 c.lanes 0 (m-1) H F U U (by have:=h.ok.lanes;omega) h (Mv.X4 _ _) ..
 obtain⟨H2,r,g1,rfl,F2,g2,g3⟩:=main
 exact⟨H2,F2,g1,g2,g3⟩
end
def slV (v:Value):Value:=if cA [v]=true then v else .N
theorem aQJ (v:Value):cA [slV v]=true:=by
 unfold slV;split
 ·assumption
 ·rfl
def nN (u:Nat×Value):List Value:=[.I u.1,slV u.2]
theorem aDf (u:Nat×Value):(nN u).length=2:=rfl
theorem aDe (u:Nat×Value):cA (nN u)=true:=by
 have:=aQJ u.2;unfold cA nN at*;simp only[List.all_cons,List.all_nil,Bool.and_true] at*;rw[this];rfl
theorem aQH {H:aF}{v:Value}{bs:List UInt8}(h:By H v bs):slV v=v/\b9 104 2 1 [.int .i64 0,.slice none 0 0] [(0,.agg #[.int .i64 0,v])] []=some (.slice (some ⟨0,0,none⟩) 1 1,[Blk.cells [.int .i64 0,v] 104 .row]):=by
 obtain⟨_,⟨rfl,_⟩|⟨c,cap,rest,rfl,_⟩⟩:=h<;>exact⟨rfl,rfl⟩
theorem aQF {H:aF}{v:Value}{bs:List UInt8}(h:By H v bs)(to:Nat)(G:aF):b9 104 2 1 [.I 0,.N] [(0,.agg #[.I to,v])] G=some (.slice (some ⟨G.length,0,none⟩) 1 1,G++[.cells (nN (to,v)) 104 .row]):=by
 obtain⟨_,⟨rfl,_⟩|⟨c,cap,rest,rfl,_⟩⟩:=h<;>rfl
theorem aQG {H:aF}{v:Value}{bs:List UInt8}(h:By H v bs)(to:Nat):bld prog 104 [(0,.I to),(1,v)]=some (.agg #[.I to,v]):=by
 obtain⟨_,⟨rfl,_⟩|⟨c,cap,rest,rfl,_⟩⟩:=h<;>rfl
theorem xV {α:Type}{el:α->List Value}{e:TypeId}{sz:Nat}{H:aF}{v:Value}{xs:List α}(h:Rw el e sz H v xs):v.cells.toList=[v]/\cA [v]=true:=by
 obtain⟨_,⟨rfl,_⟩|⟨c,cap,rest,rfl,_⟩⟩:=h<;>exact⟨rfl,rfl⟩
theorem aDg {α:Type}{el:α->List Value}{e:TypeId}{sz:Nat}{H:aF}{v:Value}{xs:List α}(h:Rw el e sz H v xs)(H':aF):chk (some (v,H')) v=true:=by
 obtain⟨_,⟨rfl,_⟩|⟨c,cap,rest,rfl,_⟩⟩:=h<;>simp[chk,veq]
def vQ (v:Value):Blk:= .cells [v] 102 .fix
def pnB (nb:Nat):Blk:= .cells [pt nb] 72 .fix
def rA (vb cb:Nat):Value:= .func (.func 89) #[] #[pt vb,pt cb]
structure OutR (H:aF)(A:Nat->Prop)(v:Value)(us:List (Nat×Value))(outs:eQ):Prop where
 rw_:Rw nN 104 2 H v us
 home: ∀b,aT v b->A b
 len:us.length=outs.length
 at_: ∀(i:Nat)(u:Nat×Value)(o:Nat×List UInt8),us[i]? =some u->outs[i]? =some o->u.1=o.1/\By H u.2 o.2/\ ∀b,Go.Abs.aT u.2 b->A b
structure TickS (H0 Hs H:aF)(Fs F:Part->Nat->Prop)(y:Lay)(p:PlanD)(ev wv nv:Value)(c:Cfg)(t:Nat)(s:NS)(vb cb:Nat)(outs:eQ):Prop where
 node:NodeAt H0 H F y p ev wv nv c t s
 mv:Mv (Un Fs) (Un F) Hs H
 h0:H0.length<=Hs.length
 cell:H[cb]? =some (pnB y.nb)
 cbF: ¬Un F cb
 vbF: ¬Un F vb
 vb0:Hs.length<=vb
 rows: ∃v us,H[vb]? =some (vQ v)/\OutR H (λb=>Hs.length<=b/\ ¬Un F b) v us outs
theorem OutR.xU {H H':aF}{A A':Nat->Prop}{v:Value}{us:List (Nat×Value)}{outs:eQ}(h:OutR H A v us outs)(hk: ∀b,b<H.length->A b->H'[b]? =H[b]? /\A' b):OutR H' A' v us outs where
 rw_:=h.rw_.cZ λb hb=>(hk b (h.rw_.dO hb) (h.home b hb)).1
 home:=λb hb=>(hk b (h.rw_.dO hb) (h.home b hb)).2
 len:=h.len
 at_:=λi u o hu ho=>by
  obtain⟨g1,g2,g3⟩:=h.at_ i u o hu ho
  exact⟨g1,g2.cZ λb hb=>(hk b (g2.dO hb) (g3 b hb)).1,λb hb=>(hk b (g2.dO hb) (g3 b hb)).2⟩
section
variable {H0 Hs H : aF} {Fs F : Part → Nat → Prop} {y : Lay} {p : PlanD} {ev wv nv : Value} {c : Cfg} {t : Nat} {s : NS} {m : Nat} {vb cb : Nat} {outs : eQ}
theorem TickS.tX {H':aF}{F':Part->Nat->Prop}{t':Nat}{s':NS}(h:TickS H0 Hs H Fs F y p ev wv nv c t s vb cb outs)(hn:NodeAt H0 H' F' y p ev wv nv c t' s')(hm:Mv (Un F) (Un F') H H'):TickS H0 Hs H' Fs F' y p ev wv nv c t' s' vb cb outs:=by
 have key: ∀b,b<H.length-> ¬Un F b->H'[b]? =H[b]? /\ ¬Un F' b:=λb hb hF=>⟨hm.keep b hb hF,λhF'=>(hm.own b hF').elim hF λhl=>by omega⟩
 obtain⟨v,us,r1,r2⟩:=h.rows
 exact⟨hn,h.mv.oA hm,h.h0,by rw[(key cb (bU h.cell) h.cbF).1,h.cell],(key cb (bU h.cell) h.cbF).2,(key vb (bU r1) h.vbF).2,h.vb0,v,us,by rw[(key vb (bU r1) h.vbF).1,r1],
  r2.xU λb hb hA=>⟨(key b hb hA.2).1,hA.1,(key b hb hA.2).2⟩⟩
theorem TickS.ext {H':aF}(h:TickS H0 Hs H Fs F y p ev wv nv c t s vb cb outs)(he:Ext H H'):TickS H0 Hs H' Fs F y p ev wv nv c t s vb cb outs:=h.tX (h.node.fS he) (Mv.nZ he _)
theorem NodeAt.aQE {H':aF}{N:Nat->Prop}(h:NodeAt H0 H F y p ev wv nv c t s)(hf:Fr N H H')(hN: ∀b,N b-> ¬Un F b/\H0.length<=b):NodeAt H0 H' F y p ev wv nv c t s:=by
 have hm:Mv N N H H':=⟨hf.1,λ_ h=> .inl h,λb hb hn=>hf.2 b hb hn⟩
 refine {h with ext:=⟨aUt h.ext.1 hf.1,λa ha _=> ?_⟩,sep:=h.sep.wO (tU _ _ _ _ _ _ _) hm λa ha hh=>(hN a hh).1 ha}
 rw[hf.2 a (aUs ha h.ext.1) (λhh=>by have:=(hN a hh).2;omega),h.ext.2 a ha id]
theorem aQI {n:Nat}(h:n<3000):eH n 32=true:=eD (n:=3000) aC U
theorem Rk (h:TickS H0 Hs H Fs F y p ev wv nv c t s vb cb outs)(hm:200<m){o:Nat}(ho:o<c.aJ){f:Frm}(hf:f.ok)(hl:outs.length<1000):
  ∃H',kQ (lvl prog pkN m) (rA vb cb) [.I o,frV f] H=some (aK [],H')/\TickS H0 Hs H' Fs F y p ev wv nv c t s vb cb (outs++[(fZ c o,mW f)])/\
   ∀(b:Nat)(cs:List Value)(e:TypeId)(k:Kind),H[b]? =some (.cells cs e k)->e≠104->b≠vb->H'[b]? =some (.cells cs e k):=by
 show∃H',lvl prog pkN m (.func 89) [.I o,frV f,pt vb,pt cb] H=_/\_
 obtain⟨H1,hH1⟩:=aD (H++[frB f]);have x1:Ext H H1:=by rw[hH1];exact Fr.app _ _ _
 have e0:H++[Blk.cells (Value.cells (frV f)).toList 157 .fix]=H1:=by rw[hH1];rfl
 have b1:H1[H.length]? =some (frB f):=by rw[hH1];exact cG _ _
 have l6:=(lR b1).2.2.2.2.2.2;obtain⟨H2,w,n1,x2,n2,n3⟩:=aN4 (H:=H1) (m:=m-1) U f hf
 have h2:=(h.ext x1).ext x2;obtain⟨v,us,r1,r2⟩:=h2.rows;have lv:ld1 (pt vb) H2=some (v,H2):=bA r1 rfl;have lc:ld1 (pt cb) H2=some (pt y.nb,H2):=bA h2.cell rfl;have l13:=h2.node.ld 13 (eV y c) rfl;obtain⟨b,oo,a1,a2⟩:=h2.node.xO ho;obtain⟨_,a3,_,_⟩:=a2 _ (.inl h2.node);have eb:=aQG n2 (fZ c o);have es:=aQF n2 (fZ c o) H2;have hw:Rr nN 104 (H2++[.cells (nN (fZ c o,w)) 104 .row]) (.slice (some ⟨H2.length,0,none⟩) 1 1) [(fZ c o,w)]:=wK (el:=nN) _ H2;obtain⟨H3,hH3⟩:=aD (H2++[Blk.cells (nN (fZ c o,w)) 104 .row]);have hul:us.length<1000:=by have:=r2.len;omega
 obtain⟨v',H4,k1,k2,k3,k4,k5⟩:=(r2.rw_.uU [Blk.cells (nN (fZ c o,w)) 104 .row]).wL aDf aDe aC (by':=32) hw.rs (aQI (by show us.length+1<3000;omega))
 rw[<-hH3] at k1 k3 k4 k5 es;have h3l:H3.length=H2.length+1:=by rw[hH3];simp
 have hvb:vb<H2.length:=bU r1;have hvh: ¬aT v vb:=λhh=>by
  obtain⟨cs,hc⟩:=r2.rw_.blk hh;rw[r1] at hc;injection hc with hc;injection hc with _ h2 _
  revert h2
  decide
 have r4:H4[vb]? =some (vQ v):=by
  rw[k4 vb U hvh,hH3,aUg hvb,r1]
 have sh:=xV k2;have st:stN 1 (pt vb) v' H4=some (undef,H4.set vb (vQ v')):=nI r4 aC (by simp) sh.1 sh.2
 refine iD (aQ rfl) U ⟨H4.set vb (vQ v'),?_,?_,?_⟩
 ·rw[aNt]
  simp only[gsR,Nat.add_zero,e0,l6,n1,kO,lv,lc,l13,a1,a3,eb,es,k1,st]
 ·have hfr:Fr (λb=>b=vb∨aT v b) H2 (H4.set vb (vQ v')):=⟨by simp;omega,λb hb hn=>by
   rw[aUe (λhh=>hn (.inl hh.symm)),k4 b U (λhh=>hn (.inr hh)),hH3,aUg hb]⟩
  have hN: ∀b,(b=vb∨aT v b)-> ¬Un F b/\Hs.length<=b:=λb hb=>by
   rcases hb with rfl|hb
   ·exact⟨h2.vbF,h2.vb0⟩
   ·exact⟨(r2.home b hb).2,(r2.home b hb).1⟩
  have hnF: ∀b,H2.length<=b-> ¬Un F b:=λb hb hu=>by have:=h2.node.sep.oB b hu;omega
  have hs2:=h2.mv.le;refine⟨h2.node.aQE hfr λb hb=>⟨(hN b hb).1,aUt h2.h0 (hN b hb).2⟩,⟨aUt hs2 hfr.1,h2.mv.own,λb hb hF=> ?_⟩,h2.h0,?_,h2.cbF,h2.vbF,h2.vb0,v',us++[(fZ c o,w)],dN r4,?_⟩
  ·rw[hfr.2 b (aUs hb hs2) (λhh=>by have:=(hN b hh).2;omega),h2.mv.keep b hb hF]
  ·rw[hfr.2 cb (bU h2.cell) (λhh=> ?_),h2.cell]
   rcases hh with hh|hh
   ·have:=h2.cell
    rw[hh,r1] at this;injection this with this;injection this with _ h2 _
    revert h2
    decide
   ·obtain⟨cs,hc⟩:=r2.rw_.blk hh
    rw[h2.cell] at hc;injection hc with hc;injection hc with _ h2 _
    revert h2
    decide
  ·have hv'vb: ¬aT v' vb:=λhh=>by
    rcases k5 vb hh with hh|hh
    ·exact hvh hh
    ·omega
   have keepB: ∀(bv:Value)(bs:List UInt8),By H2 bv bs->By (H4.set vb (vQ v')) bv bs:=λbv bs hb=>hb.cZ λb hhb=>hfr.2 b (hb.dO hhb) λhh=>by
    obtain⟨cs,hc⟩:=hb.blk hhb;rcases hh with rfl|hh
    ·rw[r1] at hc
     injection hc with hc;injection hc with _ h2 _
     revert h2
     decide
    ·obtain⟨cs',hc'⟩:=r2.rw_.blk hh
     rw[hc] at hc';injection hc' with hc';injection hc' with _ h2 _
     revert h2
     decide
   refine⟨k2.cZ λb hb=>aUe λhh=>hv'vb (by rw[hh];exact hb),λb hb=> ?_,by simp[r2.len],λi u oo hu hoo=> ?_⟩
   ·rcases k5 b hb with hh|hh
    ·exact r2.home b hh
    ·exact⟨by omega,hnF b U⟩
   ·by_cases hi:i<us.length
    ·rw[aUg hi] at hu
     rw[aUg (by rw[<-r2.len];exact hi)] at hoo
     obtain⟨g1,g2,g3⟩:=r2.at_ i u oo hu hoo
     exact⟨g1,keepB _ _ g2,g3⟩
    ·have hi2:i=us.length:=by
      have:=(aUd.mp hu).1;simp at this;omega
     subst hi2;rw[aUx (aUi _),Nat.sub_self] at hu;rw[aUx (by rw[r2.len];exact aUi _),r2.len,Nat.sub_self] at hoo
     simp only[List.getElem?_cons_zero,aUE] at hu hoo;subst hu hoo;refine⟨rfl,keepB _ _ n2,λb hb=> ?_⟩
     have hbn:=n3 b hb;have hsb:Hs.length<=b:=by
      have:=h.mv.le;have:=x1.1;omega
     refine⟨hsb,λhu=> ?_⟩
     have:=h.node.sep.oB b hu;have:=x1.1;omega
 ·intro b cs e k hb hne hbv
  have hb2:H2[b]? =some (.cells cs e k):=by rw[(x1.tr x2).2 _ (bU hb) id,hb]
  rw[aUe (λhh=>hbv hh.symm),k4 b (by rw[h3l];have:=bU hb2;omega) (λhh=> ?_),hH3,aUg (bU hb2),hb2]
  obtain⟨cs',hc'⟩:=r2.rw_.blk hh;rw[hb2] at hc';injection hc' with hc';injection hc' with _ h2 _;exact hne h2
end
theorem aQO {W:List Int}{x w:Whl}{may:Nat->Bool}(h:gK W x may=(none,w)):w=x:=by
 unfold gK at h
 split at h
 ·split at h
  ·cases h
  ·cases h;rfl
 ·cases h;rfl
theorem aQN {α:Type}(f:Nat->α)(i:Nat):up1 f i (f i)=f:=by
 funext j
 unfold up1;split
 ·rename_i h
  rw[h]
 ·rfl
theorem C6 (y:Lay)(c:Cfg)(H':aF):chk (some (eV y c,H')) (eV y c)=true:=by simp[chk,veq,eV]
section
variable {H0 Hs H : aF} {Fs F : Part → Nat → Prop} {y : Lay} {p : PlanD} {ev wv nv : Value} {c : Cfg} {t : Nat} {s : NS} {m : Nat} {vb cb : Nat} {outs : eQ}
theorem NodeAt.aQK {H':aF}{t' o:Nat}{x':Whl}(h:NodeAt H0 H F y p ev wv nv c t s)(ho:o<c.aJ)(hf:Fr (λb=>b=y.wh o∨b=y.wl o) H H')(hB:Blks (iK (y.wh o) (y.ww o) (y.wl o) (y.wc o) (y.lc o) (y.wr o) (y.lr o) c.weights x') H')(hi:NInv c t' {s with whl:=up1 s.whl o x'}):
  NodeAt H0 H' F y p ev wv nv c t' {s with whl:=up1 s.whl o x'}/\Mv (Un F) (Un F) H H':=by
 refine h.Cy (.whl o) (l:=iK (y.wh o) (y.ww o) (y.wl o) (y.wc o) (y.lc o) (y.wr o) (y.lr o) c.weights (s.whl o)) (l':=iK (y.wh o) (y.ww o) (y.wl o) (y.wc o) (y.lc o) (y.wr o) (y.lr o) c.weights x') (by simp only[iL];rw[if_pos ho]) aCW ?_ ?_ hB hi ?_ ?_
 ·intro q hq
  simp only[iK,aUw,aUD,or_false] at hq;rcases hq with rfl|rfl|rfl
  ·exact⟨_,aUm ..,rfl⟩
  ·exact⟨_,aUu _ (aUm ..),rfl⟩
  ·exact⟨_,aUu _ (aUu _ (aUm ..)),rfl⟩
 ·refine hf.zG λb hb=> ?_
  rcases hb with rfl|rfl
  ·exact⟨_,aUm ..,rfl⟩
  ·exact⟨_,aUu _ (aUu _ (aUm ..)),rfl⟩
 ·have e:up1 s.whl o x' o=x':=if_pos rfl
  simp only[iL];rw[if_pos ho,e]
 ·intro j hj
  cases j with
  |whl i'=>
   have e:up1 s.whl o x' i'=s.whl i':=if_neg λhh=>hj (by rw[hh])
   simp only[iL];rw[e]
  |_=>rfl
theorem aQP (h:NodeAt H0 H F y p ev wv nv c t s)(hm:30<m){i o:Nat}(ho:o<c.aJ)(hi:NInv c (t+1) {s with whl:=up1 s.whl o (gK c.weights (s.whl o) (eE c s i o)).2}):
  ∃H',lvl prog pkN m (.func 131) [pt (y.wh o),.int .u16 (cD (eE c s i o) c.lanes:Nat)] H=some (nM (gK c.weights (s.whl o) (eE c s i o)).1,H')/\NodeAt H0 H' F y p ev wv nv c (t+1) {s with whl:=up1 s.whl o (gK c.weights (s.whl o) (eE c s i o)).2}/\Mv (Un F) (Un F) H H':=by
 have hw:=h.ok.wlen;have hl:=h.ok.lanes;have hx:=h.inv.whl o;rw[<-hw] at hx;obtain⟨H',g1,g2,g3⟩:=aPM (m:=m) U (h.aPY ho) (h.lay.ww o ho) hx (λy hy=>by have:=h.ok.wts y hy;omega) U U (cD (eE c s i o) c.lanes) (qA _ U)
 have hc:gK c.weights (s.whl o) (λj=>(cD (eE c s i o) c.lanes).testBit j)=gK c.weights (s.whl o) (eE c s i o):=aPI λj hj=>by
  rw[gY,aUX U,aUA]
 rw[hc] at g1 g3;obtain⟨k1,k2⟩:=h.aQK ho g2 g3 hi
 exact⟨H',g1,k1,k2⟩
theorem aQM (h:NodeAt H0 H F y p ev wv nv c t s)(hm:100<m)(i o k:Nat)(hi:NInv c t {s with rL:=mY s.rL ((i:Int),(o:Int),(k:Int))}):
  ∃H' F',lvl prog pkN m (.func 132) [pt y.rg,.I i,.I o,.I k] H=some (Rg.tR (lA s.rL ((i:Int),(o:Int),(k:Int))),H')/\NodeAt H0 H' F' y p ev wv nv c t {s with rL:=mY s.rL ((i:Int),(o:Int),(k:Int))}/\Mv (Un F) (Un F') H H':=by
 obtain⟨r,H',F',p1,p2,p3⟩:=(h.sep.own .rings).zH qT (n:=m) (B:=λr D'=>r=Rg.tR (lA s.rL ((i:Int),(o:Int),(k:Int)))/\RingsN D' y.rg (mY s.rL ((i:Int),(o:Int),(k:Int))) (c.aJ*c.lanes*c.room) c.aJ c.lanes) (λD hD=>by
  obtain⟨D',g1,g2⟩:=aPb (m:=m) hD U i o k
  exact⟨_,D',g1,rfl,g2⟩)
 obtain⟨hr,_⟩:=p2.at_;rw[hr] at p1;obtain⟨g4,mv4⟩:=h.Rf (Has.vO p2 λD hD=>hD.2) p3 hi
 exact⟨H',_,p1,g4,mv4⟩
theorem aQL (h:NodeAt H0 H F y p ev wv nv c t s)(hm:10<m)(x:Pkt)(hl:s.hG.length<1000000000)(hi:NInv c t {s with hG:=s.hG++[x]}):
  ∃H' F',lvl prog pkN m (.func 134) [pt y.hb,x.cE] H=some (aK [],H')/\NodeAt H0 H' F' y p ev wv nv c t {s with hG:=s.hG++[x]}/\Mv (Un F) (Un F') H H':=by
 obtain⟨r,H',F',p1,p2,p3⟩:=(h.sep.own .host).zH qT (n:=m) (B:=λr D'=>r=aK []/\HostAt D' y.hb s.hL (s.hG++[x]) c.lanes c.queue) (λD hD=>by
  obtain⟨w0,w1,w2,cv,hI⟩:=hD;obtain⟨D',g1,g2⟩:=aOl hI (m:=m) U x (eD (n:=1000000001) aC U)
  exact⟨_,D',g1,rfl,g2⟩)
 obtain⟨hr,_⟩:=p2.at_;rw[hr] at p1;obtain⟨g4,mv4⟩:=h.Ip (L:=s.hL) (Has.vO p2 λD hD=>hD.2) p3 hi
 exact⟨H',_,p1,g4,mv4⟩
end
section
variable {H0 Hs H : aF} {Fs F : Part → Nat → Prop} {y : Lay} {p : PlanD} {ev wv nv : Value} {c : Cfg} {t : Nat} {s : NS} {m : Nat} {vb cb : Nat} {outs : eQ}
def Rl (s:NS)(o k:Nat)(x:Pkt):Frm:=⟨1,k,(s.snd o k).kH.1%65536,(x.src%256).toNat,(x.dst%256).toNat,x.body.toNat⟩
theorem aQS (s:NS)(o k:Nat)(x:Pkt)(hk:k<3)(hb:0<=x.body/\x.body<4294967296):(Rl s o k x).ok where
 kind:=by show 1<256;decide
 lane:=by show k<256;omega
 seq:=Nat.mod_lt _ aC
 src:=by show(x.src%256).toNat<256;omega
 dst:=by show(x.dst%256).toNat<256;omega
 body:=by show x.body.toNat<4294967296;omega
theorem aQR (s:NS)(o k:Nat)(x:Pkt)(hb:0<=x.body)(hk:k<3):
  bld prog 157 [(0,.int .u8 1),(1,.int .u8 k),(2,.int .u16 ((s.snd o k).kH.1%65536:Nat)),(3,.int .u8 (x.src%256)),(4,.int .u8 (x.dst%256)),(5,.int .u32 x.body)]=some (frV (Rl s o k x)):=by
 have e1:(((x.src%256).toNat:Nat):Int)=x.src%256:=Int.toNat_of_nonneg (Int.emod_nonneg _ aC)
 have e2:(((x.dst%256).toNat:Nat):Int)=x.dst%256:=Int.toNat_of_nonneg (Int.emod_nonneg _ aC)
 have e3:((x.body.toNat:Nat):Int)=x.body:=Int.toNat_of_nonneg hb;rw[<-e1,<-e2,<-e3];rfl
theorem TickS.b15 {H':aF}{F':Part->Nat->Prop}{b:Nat}{x:Blk}(hm:Mv (Un F) (Un F') H H')(hb:H[b]? =some x)(hF: ¬Un F b):H'[b]? =some x/\ ¬Un F' b:=
 ⟨by rw[hm.keep b (bU hb) hF,hb],λhF'=>(hm.own b hF').elim hF λhl=>by have:=bU hb;omega⟩
def aQQ (H0 Hs:aF)(Fs:Part->Nat->Prop)(y:Lay)(p:PlanD)(ev wv nv:Value)(c:Cfg)(t:Nat)(vb cb:Nat)(outs:eQ)(r:NS×eQ)(mb:Nat)(X:Blk)(H':aF)(v:Value):Prop:=
 v=aK []/\H'[mb]? =some X/\ ∃F',TickS H0 Hs H' Fs F' y p ev wv nv c (t+1) r.1 vb cb (outs++r.2)/\ ¬Un F' mb
theorem aQT (h:TickS H0 Hs H Fs F y p ev wv nv c t s vb cb outs)(ht:t<100000000)(hm:300<m){i o:Nat}(hi:i<c.aJ)(ho:o<c.aJ)(hl:outs.length<1000){mb:Nat}{zs:List Int}(hmb:H[mb]? =some (dG zs []))(hmF: ¬Un F mb)(hmv:mb≠vb):
  ∃H' v,lvl prog pkN m (.func 94) [pt y.nb,.I i,.I o,rA vb cb] H=some (v,H')/\aQQ H0 Hs Fs y p ev wv nv c t vb cb outs (iA c s i o) mb (dG zs []) H' v:=by
 have hm0:0<m:=U
 have hn:=h.node;have hlanes:=hn.ok.lanes;have hmono:=hn.inv.oH (Nat.le_succ t);have l13:=hn.ld 13 (eV y c) rfl;obtain⟨b,oo,a1,a2⟩:=hn.xO ho;obtain⟨_,_,_,a3⟩:=a2 _ (.inl hn);obtain⟨H1,m1,x1⟩:=aC8 hn U (m:=m-1) U hi ho
 have h1:=h.ext x1;obtain⟨_,_,_,a4⟩:=a2 _ (.inl h1.node);have l13':=h1.node.ld 13 (eV y c) rfl;have hwi:NInv c (t+1) {s with whl:=up1 s.whl o (gK c.weights (s.whl o) (eE c s i o)).2}:={hmono with whl:=Qi hmono.whl (aBX hn.ok (hmono.whl o) _)};obtain⟨H2,w1,g2,mv2⟩:=aQP h1.node (m:=m-1) U ho hwi
 have h2:=h1.tX g2 mv2;have hb2:=TickS.b15 ((Mv.nZ x1 (Un F)).oA mv2) hmb hmF;cases hpk:(gK c.weights (s.whl o) (eE c s i o)).1 with
 |none=>
  obtain⟨w',hw'⟩: ∃w',gK c.weights (s.whl o) (eE c s i o)=(none,w'):=⟨_,Prod.ext hpk rfl⟩;have hr:iA c s i o=(s,[]):=by unfold iA;rw[hw']
  have hww:=aQO hw';rw[hw'] at h2 w1;simp only at h2 w1;rw[hww,aQN] at h2;have c1:decide ((-1:Int)<0)=true:=rfl;refine⟨H2,_,aS (aQ rfl) hm0 ?_,rfl,hb2.1,F,?_,hb2.2⟩
  ·rw[Pr]
   simp only[gsR,l13,a1,a3,m1,a4,vP,l13',C6,w1,nM,c1]
  ·rw[hr]
   rw[List.append_nil];exact h2
 |some k=>
  obtain⟨w',hw'⟩: ∃w',gK c.weights (s.whl o) (eE c s i o)=(some k,w'):=⟨_,Prod.ext hpk rfl⟩;rw[hw'] at h2 w1 hwi;simp only at h2 w1 hwi;obtain⟨hkl,hmk⟩:=aBW hw';rw[hn.ok.wlen] at hkl;have c1:decide ((k:Int)<0)=false:=by rw[decide_eq_false_iff_not];omega
  have hq0:0<jO s.rL i o k:=by
   unfold eE at hmk;rw[aUl,aUl,decide_eq_true_eq,decide_eq_true_eq] at hmk;exact hmk.1.2
  obtain⟨x,xs,hq⟩: ∃x xs,lA s.rL ((i:Int),(o:Int),(k:Int))=x::xs:=by
   unfold jO at hq0;cases hh:lA s.rL ((i:Int),(o:Int),(k:Int)) with
   |nil=>rw[hh] at hq0;simp at hq0
   |cons x xs=>exact⟨x,xs,rfl⟩
  have hxm:x∈lA s.rL ((i:Int),(o:Int),(k:Int)):=by rw[hq];exact aUm ..
  obtain⟨e,he1,he2,_⟩:=aBV hxm;have hpk0:=hn.inv.rL e he1;rw[he2] at hpk0;have hr:iA c s i o=if o=0 then({s with whl:=up1 s.whl o w',rL:=mY s.rL ((i:Int),(o:Int),(k:Int)),rcv:=nL s i k,hG:=s.hG++[x]},[])
    else({s with whl:=up1 s.whl o w',rL:=mY s.rL ((i:Int),(o:Int),(k:Int)),rcv:=nL s i k,snd:=up2 s.snd o k (s.snd o k).kH.2},[(fZ c o,mW (Rl s o k x))]):=by
   unfold iA;rw[hw'];simp only;rw[hq];by_cases h0:o=0
   ·rw[if_pos h0,if_pos h0]
    rfl
   ·rw[if_neg h0,if_neg h0]
    unfold qW fZ;rw[if_neg h0];rfl
  have hi3:NInv c (t+1) {s with whl:=up1 s.whl o w',rL:=mY s.rL ((i:Int),(o:Int),(k:Int))}:={hwi with rL:=λe he=>hwi.rL e (Qh he),rN:=aUt (Qg _ _) hwi.rN}
  obtain⟨H3,F3,p1,g3,mv3⟩:=aQM h2.node (m:=m-1) U i o k hi3
  have h3:=h2.tX g3 mv3;have hb3:=TickS.b15 mv3 hb2.1 hb2.2;have p1:lvl prog pkN (m-1) (.func 132) [pt y.rg,.I i,.I o,.I k] H2=some (.tuple #[x.cE,.bool true],H3):=by
   rw[p1];show some (Rg.tR (lA s.rL ((i:Int),(o:Int),(k:Int))),H3)=_
   rw[hq];rfl
  obtain⟨H4,hH4⟩:=aD (H3++[cO x]);have x4:Ext H3 H4:=by rw[hH4];exact Fr.app _ _ _
  have h4:=h3.ext x4;have q4:H4[H3.length]? =some (cO x):=by rw[hH4];exact cG _ _
  have qF4: ¬Un F3 H3.length:=λhu=>by have:=h3.node.sep.oB _ hu;omega
  have hb4:=TickS.b15 (Mv.nZ x4 (Un F3)) hb3.1 hb3.2;have l15:=h2.node.ld 15 (pt y.rg) rfl;have free: ∃H5,TickS H0 Hs H5 Fs F3 y p ev wv nv c (t+1) {s with whl:=up1 s.whl o w',rL:=mY s.rL ((i:Int),(o:Int),(k:Int)),rcv:=nL s i k} vb cb outs/\H5[H3.length]? =some (cO x)/\H5[mb]? =some (dG zs [])/\
    ((i=0/\H5=H4)∨(0<i/\ ∃u,lvl prog pkN (m-1) (.func 133) [pt (y.rb i k)] H4=some (u,H5))):=by
   by_cases hi0:i=0
   ·refine⟨H4,?_,q4,hb4.1,.inl ⟨hi0,rfl⟩⟩
    have:nL s i k=s.rcv:=by unfold nL;rw[if_pos hi0]
    rw[this];exact h4
   ·obtain⟨H5,u,r1,r2⟩:=aNV (m:=m-1) U (h4.node.C0 U hi hkl) (h4.node.C1 U i k)
    have hfr:nL s i k=up2 s.rcv i k (s.rcv i k).tQ:=by unfold nL;rw[if_neg hi0]
    have hi5:NInv c (t+1) {s with whl:=up1 s.whl o w',rL:=mY s.rL ((i:Int),(o:Int),(k:Int)),rcv:=up2 s.rcv i k (s.rcv i k).tQ}:={hi3 with rcv:=sU hi3.rcv (hi3.rcv i k).aBN};obtain⟨g5,mv5⟩:=h4.node.Ra U hi hkl r2 hi5
    refine⟨H5,?_,(TickS.b15 mv5 q4 qF4).1,(TickS.b15 mv5 hb4.1 hb4.2).1,.inr ⟨by omega,u,r1⟩⟩
    rw[hfr];exact h4.tX g5 mv5
  obtain⟨H5,h5,q5,hb5,hfree⟩:=free;have hi5:=h5.node.inv;obtain⟨l0,l1,l2,l3,l4⟩:ld1 (.pointer (some ⟨H3.length,0,none⟩)) H5=some (.int .i64 x.src,H5)/\ld1 (.pointer (some ⟨H3.length,1,none⟩)) H5=some (.int .i64 x.dst,H5)/\ld1 (.pointer (some ⟨H3.length,2,none⟩)) H5=some (.int .i64 x.lane,H5)/\ld1 (.pointer (some ⟨H3.length,3,none⟩)) H5=some (.int .u32 x.body,H5)/\ldN 4 (.pointer (some ⟨H3.length,0,none⟩)) H5=some (x.cE,H5):=⟨bA q5 rfl,bA q5 rfl,bA q5 rfl,bA q5 rfl,(oG q5).2⟩;have hst:=Rj H3 x;rw[<-hH4] at hst;have ifree:0<i-> ∃bi oi bj oj,cN 3 (eV y c) (.int .i64 (i:Int))=some (.pointer (some ⟨bi,oi,none⟩))/\ld1 (.pointer (some ⟨bi,oi+1,none⟩)) H4=some (jX y c i,H4)/\cN 2 (jX y c i) (.int .i64 (k:Int))=some (.pointer (some ⟨bj,oj,none⟩))/\ld1 (.pointer (some ⟨bj,oj+1,none⟩)) H4=some (pt (y.rb i k),H4):=λhpos=>by
   obtain⟨bi,oi,j1,j2⟩:=h4.node.xO hi;obtain⟨_,_,j3,_⟩:=j2 _ (.inl h4.node);obtain⟨bj,oj,j4,_,_,j5⟩:=h4.node.Cz U hi hkl
   exact⟨bi,oi,bj,oj,j1,j3,j4,j5⟩
  have l13'':=h4.node.ld 13 (eV y c) rfl;by_cases ho0:o=0
  ·rw[if_pos ho0] at hr
   have c3:((o:Int)==0)=true:=by rw[ho0];rfl
   have hgl:s.hG.length<=t:=hn.inv.hG;have hi6:NInv c (t+1) {s with whl:=up1 s.whl o w',rL:=mY s.rL ((i:Int),(o:Int),(k:Int)),rcv:=nL s i k,hG:=s.hG++[x]}:={hi5 with hG:=by simp;omega}
   obtain⟨H6,F6,k1,g6,mv6⟩:=aQL h5.node (m:=m-1) U x (by show s.hG.length<_;omega) hi6
   have h6:=h5.tX g6 mv6;have hb6:=TickS.b15 mv6 hb5 hb4.2;have l14:=h5.node.ld 14 (pt y.hb) rfl;refine⟨H6,aK [],aS (aQ rfl) hm0 ?_,rfl,hb6.1,F6,by rw[hr,List.append_nil];exact h6,hb6.2⟩
   rw[Pr];rcases hfree with⟨hi0,hH5⟩|⟨hpos,u,r1⟩
   ·have c2:decide ((0:Int)<(i:Int))=false:=by rw[decide_eq_false_iff_not];omega
    rw[hH5] at l14 l4 k1;simp only[gsR,l13,a1,a3,m1,a4,vP,l13',C6,w1,nM,c1,l15,p1,kO,Af,hst,<-hH4,c2,c3,l14,l4,k1]
   ·have c2:decide ((0:Int)<(i:Int))=true:=by rw[decide_eq_true_eq];omega
    obtain⟨bi,oi,bj,oj,j1,j2,j3,j4⟩:=ifree hpos;simp only[gsR,l13,a1,a3,m1,a4,vP,l13',C6,w1,nM,c1,l15,p1,kO,Af,hst,<-hH4,c2,l13'',j1,j2,j3,j4,r1,c3,l14,l4,k1]
  ·rw[if_neg ho0] at hr
   have c3:((o:Int)==0)=false:=by rw[beq_eq_false_iff_ne];omega
   obtain⟨H6,r6,p6⟩:=aN2 (m:=m-1) U (h5.node.C2 U ho hkl) (h5.node.Ik U o k)
   have hi6:NInv c (t+1) {s with whl:=up1 s.whl o w',rL:=mY s.rL ((i:Int),(o:Int),(k:Int)),rcv:=nL s i k,snd:=up2 s.snd o k (s.snd o k).kH.2}:={hi5 with snd:=sU hi5.snd (hn.inv.snd o k).aBQ};obtain⟨g6,mv6⟩:=h5.node.aCT U ho hkl p6 hi6
   have h6:=h5.tX g6 mv6;have q6:=(TickS.b15 mv6 q5 qF4).1;have hb6:=TickS.b15 mv6 hb5 hb4.2;obtain⟨n0,n1,n3⟩:ld1 (.Q H3.length 0) H6=some (.I x.src,H6)/\ld1 (.Q H3.length 1) H6=some (.I x.dst,H6)/\ld1 (.Q H3.length 3) H6=some (.int .u32 x.body,H6):=⟨bA q6 rfl,bA q6 rfl,bA q6 rfl⟩;obtain⟨H7,s7,h7,hk7⟩:=Rk h6 (m:=m-1) U ho (aQS s o k x U hpk0.body) hl
   have hb7:=hk7 mb _ _ _ hb6.1 aC hmv
   obtain⟨bi',oi',i1,i2⟩:=h5.node.xO ho;obtain⟨_,_,i3,_⟩:=i2 _ (.inl h5.node);obtain⟨rfl,rfl⟩:bi'=b/\oi'=oo:=by
    have:=i1.symm.trans a1;simpa using this
   obtain⟨bj',oj',i4,_,i5,_⟩:=h5.node.Cz U ho hkl
   have l13c:=h5.node.ld 13 (eV y c) rfl;have ek:IntKind.u8.wrap (k:Int)=(k:Int):=by rw[Bt];omega
   have eq:IntKind.u16.wrap ((s.snd o k).kH.1:Int)=(((s.snd o k).kH.1%65536:Nat):Int):=Cj _;have ebl:=aQR s o k x hpk0.body.1 U
   have r6:lvl prog pkN (m-1) (.func 135) [pt (y.sb o k)] H5=some (.tuple #[.int .u64 (s.snd o k).kH.1,.bool (decide ((s.snd o k).l≠(s.snd o k).s))],H6):=r6;refine⟨H7,aK [],aS (aQ rfl) hm0 ?_,rfl,hb7,F3,by rw[hr];exact h7,hb6.2⟩
   rw[Pr];rcases hfree with⟨hi0,hH5⟩|⟨hpos,u,r1⟩
   ·have c2:decide ((0:Int)<(i:Int))=false:=by rw[decide_eq_false_iff_not];omega
    rw[hH5] at l13c i3 i5 r6;simp only[gsR,Nat.add_zero,l13,a1,a3,m1,a4,vP,l13',C6,w1,nM,c1,l15,p1,kO,Af,hst,<-hH4,c2,c3,l13c,i1,i3,i4,i5,r6,dJ _ _ iU u8U,dJ _ _ o6 kK,ek,eq,n0,n1,n3,Bt,ebl,s7]
   ·have c2:decide ((0:Int)<(i:Int))=true:=by rw[decide_eq_true_eq];omega
    obtain⟨bi,oi,bj,oj,j1,j2,j3,j4⟩:=ifree hpos;simp only[gsR,Nat.add_zero,l13,a1,a3,m1,a4,vP,l13',C6,w1,nM,c1,l15,p1,kO,Af,hst,<-hH4,c2,l13'',j1,j2,j3,j4,r1,c3,l13c,i1,i3,i4,i5,r6,dJ _ _ iU u8U,dJ _ _ o6 kK,ek,eq,n0,n1,n3,Bt,ebl,s7]
end
def exF (s:NS)(c:Cfg)(i k:Nat):eQ:=[qW c i ⟨3,k,(s.snd i k).s%65536,0,0,0⟩,qW c i ⟨2,k,(s.rcv i k).dA c.room%65536,0,0,0⟩]
def rB (s:NS)(c:Cfg)(i k:Nat):eQ:=(List.range k).flatMap (exF s c i)
def exP (s:NS)(c:Cfg)(i:Nat):eQ:=if i=0 then [] else rB s c i c.lanes
def oI (s:NS)(c:Cfg)(i:Nat):eQ:=(List.range i).flatMap (exP s c)
theorem aDh (s:NS)(c:Cfg)(i k:Nat):rB s c i (k+1)=rB s c i k++exF s c i k:=by
 unfold rB;rw[aUM,List.flatMap_append];simp
theorem Rn (s:NS)(c:Cfg)(i:Nat):oI s c (i+1)=oI s c i++exP s c i:=by
 unfold oI;rw[aUM,List.flatMap_append];simp
theorem Rm (s:NS)(c:Cfg)(i:Nat): ∀k,(rB s c i k).length=2*k
 |0=>rfl
 |k+1=>by
  rw[aDh,aUp,Rm s c i k];simp[exF];omega
theorem aDi (s:NS)(c:Cfg)(h3:c.lanes<=3): ∀i,(oI s c i).length<=6*i
 |0=>by simp[oI]
 |i+1=>by
  rw[Rn,aUp];have:=aDi s c h3 i;have:(exP s c i).length<=6:=by
   unfold exP;split
   ·simp
   ·rw[Rm]
    omega
  omega
theorem aQW (s:NS)(c:Cfg):mX c s=oI s c c.aJ:=by
 unfold mX oI Cfg.aJ;rw[List.range_succ_eq_map,List.flatMap_cons,List.flatMap_map];have:exP s c 0=[]:=rfl;rw[this,List.nil_append];rfl
section
variable {H0 Hs H : aF} {Fs F : Part → Nat → Prop} {y : Lay} {p : PlanD} {ev wv nv : Value} {c : Cfg} {t : Nat} {s : NS} {m : Nat} {vb cb : Nat} {outs : eQ}
theorem aQV (k q:Nat):bld prog 157 [(0,.int .u8 3),(1,.int .u8 k),(2,.int .u16 q)]=some (frV ⟨3,k,q,0,0,0⟩):=rfl
theorem aQU (k q:Nat):bld prog 157 [(0,.int .u8 2),(1,.int .u8 k),(2,.int .u16 q)]=some (frV ⟨2,k,q,0,0,0⟩):=rfl
theorem aDj (a k q:Nat)(ha:a<256)(hk:k<256):(⟨a,k,q%65536,0,0,0⟩:Frm).ok:=⟨ha,hk,Nat.mod_lt _ aC,by show 0<256;decide,by show 0<256;decide,by show 0<4294967296;decide⟩
theorem aQX {i:Nat}(h1:1<=i)(hi:i<c.aJ)(h3:c.lanes<=3)(ht:t<100000000)(hol:outs.length<900)(hm:220<m){K:Ex->K (Value×aF)}{Q:aF->Value->Prop}
  (hK: ∀H',TickS H0 Hs H' Fs F y p ev wv nv c t s vb cb (outs++rB s c i c.lanes)-> ∀(x4 dQ gI gS:Value),∃H2 r,Gy (lvl prog pkN m) (aL m) K (rA vb cb) x4 (eV y c) (.I c.aJ) (.I (i:Nat)) dQ gI gS H'=some (r,H2)/\Q H2 r):
  ∀(q k l:Nat)(H:aF),c.lanes-k=q->k<=c.lanes->q<l->TickS H0 Hs H Fs F y p ev wv nv c t s vb cb (outs++rB s c i k)-> ∃H2 r,aL l (aO prog (lvl prog pkN m) (aL m) Pu) (Pw (lvl prog pkN m) (aL m) K) (aG 1 (some (rA vb cb)::aG 2 (some (.I (i:Nat))::aG 6 (some (eV y c)::some (.I c.aJ)::some (.I (i:Nat))::aG 5 (some (jX y c i)::some (.I c.lanes)::some (.I (k:Nat))::aG 26 []))))) H=some (r,H2)/\Q H2 r:=by
 intro q;induction q with
 |zero=>
  intro k l H hq hk hl h;intros;obtain⟨l,rfl⟩: ∃l',l=l'+1:=⟨l-1,by omega⟩
  have hke:k=c.lanes:=U
  subst hke;have c1:decide ((c.lanes:Int)<(c.lanes:Int))=false:=by simp
  rw[aL,Ps];simp only[gsR,c1];rw[aBa];exact hK H h ..
 |succ q ih=>
  intro k l H hq hk hl h;intros;obtain⟨l,rfl⟩: ∃l',l=l'+1:=⟨l-1,by omega⟩
  have hkl:k<c.lanes:=U
  have c1:decide ((k:Int)<(c.lanes:Int))=true:=by rw[decide_eq_true_eq];omega
  have hil:=Rm s c i k;obtain⟨b,o,a1,a2,_,_⟩:=h.node.Cz h1 hi hkl;have a2:ldN 2 (.Q b o) H=some (.agg #[pt (y.sb i k),pt (y.rb i k)],H):=a2;obtain⟨H1,hH1⟩:=aD (H++[dP (pt (y.sb i k)) (pt (y.rb i k))]);have x1:Ext H H1:=by rw[hH1];exact Fr.app _ _ _
  have g1:=h.ext x1;have st:=Rh H (pt (y.sb i k)) (pt (y.rb i k)) rfl;rw[<-hH1] at st;have b1:H1[H.length]? =some (dP (pt (y.sb i k)) (pt (y.rb i k))):=by rw[hH1];exact cG _ _
  have l0:=(vN b1).2.1;have s1:=P7 (m:=m) U (g1.node.C2 h1 hi hkl)
  have ek:IntKind.u8.wrap (k:Int)=(k:Int):=by rw[Bt];omega
  have e1:IntKind.u16.wrap ((s.snd i k).s:Int)=(((s.snd i k).s%65536:Nat):Int):=Cj _;obtain⟨H2,r1,g2,k2⟩:=Rk g1 (m:=m) U hi (aDj 3 k (s.snd i k).s aC U) (by rw[aUp];omega)
  have hvb:H.length≠vb:=λhh=>by
   obtain⟨v,us,r,_⟩:=h.rows;have:=bU r;omega
  have b2:H2[H.length]? =some (dP (pt (y.sb i k)) (pt (y.rb i k))):=k2 _ _ _ _ b1 aC hvb
  have l1:=(vN b2).2.2;have s2:=aBq (m:=m) U (g2.node.C0 h1 hi hkl) (g2.node.C1 U i k)
  have e2:IntKind.u16.wrap (((s.rcv i k).dA c.room:Nat):Int)=(((s.rcv i k).dA c.room%65536:Nat):Int):=Cj _;obtain⟨H3,r2,g3,_⟩:=Rk g2 (m:=m) U hi (aDj 2 k ((s.rcv i k).dA c.room) aC U) (by simp only[aUp,aUz,List.length_nil];omega)
  have e9:=mC k U
  have hto:fZ c i=c.by'.getD (i-1) 0:=by unfold fZ;rw[if_neg U]
  have hnext:outs++rB s c i k++[(fZ c i,mW ⟨3,k,(s.snd i k).s%65536,0,0,0⟩)]++[(fZ c i,mW ⟨2,k,(s.rcv i k).dA c.room%65536,0,0,0⟩)]=outs++rB s c i (k+1):=by
   rw[aDh,hto];simp[exF,qW]
  rw[hnext] at g3;rw[aL,Ps];simp only[gsR,c1,a1,a2,C5,st,dJ _ _ iU u8U,ek,l0,s1,dJ _ _ o6 kK,e1,aQV,r1,l1,s2,e2,aQU,r2,aV,e9];exact ih (k+1) l H3 U U U g3 ..
theorem aQZ (h3:c.lanes<=3)(h6:c.aJ<=6)(ht:t<100000000)(hol:outs.length<800)(hm:300<m):
  ∀(q i l:Nat)(H:aF),c.aJ-i=q->i<=c.aJ->q<l->TickS H0 Hs H Fs F y p ev wv nv c t s vb cb (outs++oI s c i)-> ∀(x4 dQ gI gS:Value),
  ∃H2 r,aL l (aO prog (lvl prog pkN m) (aL m) Pt) (Pv (lvl prog pkN m) (aL m)) (aG 1 (some (rA vb cb)::aG 2 (x4::aG 6 (some (eV y c)::some (.I c.aJ)::some (.I (i:Nat))::aG 5 (dQ::gI::gS::aG 26 []))))) H=some (r,H2)/\(r=aK []/\TickS H0 Hs H2 Fs F y p ev wv nv c t s vb cb (outs++mX c s)):=by
 intro q;induction q with
 |zero=>
  intro i l H hq hi hl h;intros;obtain⟨l,rfl⟩: ∃l',l=l'+1:=⟨l-1,by omega⟩
  have hie:i=c.aJ:=U
  subst hie;have c1:decide ((c.aJ:Int)<(c.aJ:Int))=false:=by simp
  rw[aL,aA9];simp only[gsR,c1];rw[aND];rw[aQW]
  exact⟨_,_,rfl,rfl,h⟩
 |succ q ih=>
  intro i l H hq hi hl h;intros;obtain⟨l,rfl⟩: ∃l',l=l'+1:=⟨l-1,by omega⟩
  have hil:i<c.aJ:=U
  have c1:decide ((i:Int)<(c.aJ:Int))=true:=by rw[decide_eq_true_eq];omega
  have hul:=aDi s c h3 i;obtain⟨b,o,a1,a2⟩:=h.node.xO hil;obtain⟨a3,_,_,_⟩:=a2 _ (.inl h.node);obtain⟨H1,hH1⟩:=aD (H++[lD y c i]);have x1:Ext H H1:=by rw[hH1];exact Fr.app _ _ _
  have g1:=h.ext x1;have hlv:cA [jX y c i]=true:=by unfold jX;split<;>rfl
  have st:stN 3 (.pointer (some ⟨H.length,0,none⟩)) (.agg ⟨dK y c i⟩) (H++[Blk.cells [Value.int .i64 0,.slice none 0 0,.pointer none] 145 .fix])=some (undef,H1):=by
   rw[qV (n:=3) (vs:=dK y c i) (cG H _) aC rfl rfl (aUi 3) (by unfold dK jX;split<;>rfl),gZ,hH1]
   rfl
  have b1:H1[H.length]? =some (lD y c i):=by rw[hH1];exact cG _ _
  have l1:ld1 (.Q H.length 1) H1=some (jX y c i,H1):=bA b1 rfl;have e9:=mC i U
  rw[aL,aA9];by_cases hi0:i=0
  ·have e1:cX (jX y c i)=some (.I 0):=by unfold jX;rw[if_pos hi0];rfl
   simp only[gsR,c1,a1,a3,st,l1,e1];have hx:outs++oI s c (i+1)=outs++oI s c i:=by rw[Rn];unfold exP;rw[if_pos hi0,List.append_nil]
   obtain⟨m',hm'⟩: ∃m',m=m'+1:=⟨m-1,by omega⟩
   have c2:decide ((0:Int)<0)=false:=rfl;rw[show aL m=aL (m'+1) by rw[hm'],aL,<-hm',Ps]
   simp only[gsR,c2];rw[aBa];unfold Gy;simp only[gsR,aV,e9];exact ih (i+1) l H1 U U U (by rw[hx];exact g1) ..
  ·have e1:cX (jX y c i)=some (.I c.lanes):=by unfold jX;rw[if_neg hi0];rfl
   simp only[gsR,c1,a1,a3,st,l1,e1];refine aQX (outs:=outs++oI s c i) U hil h3 ht (by rw[aUp];omega) U ?_ c.lanes 0 m H1 U U U (by unfold rB;simpa using g1) ..
   intro H' h';intros;unfold Gy;simp only[gsR,aV,e9];have hx:outs++oI s c (i+1)=outs++oI s c i++rB s c i c.lanes:=by rw[Rn];unfold exP;rw[if_neg hi0,aUk]
   exact ih (i+1) l H' U U U (by rw[hx];exact h') ..
theorem aQY (h:TickS H0 Hs H Fs F y p ev wv nv c t s vb cb outs)(ht:t<100000000)(hol:outs.length<800)(hm:400<m):
  ∃H2,lvl prog pkN m (.func 95) [pt y.nb,rA vb cb] H=some (aK [],H2)/\TickS H0 Hs H2 Fs F y p ev wv nv c t s vb cb (outs++mX c s):=by
 have h6:c.aJ<=6:=by have:=h.node.ok.by';unfold Cfg.aJ;omega
 have main: ∃H2 r,lvl prog pkN m (.func 95) [pt y.nb,rA vb cb] H=some (r,H2)/\(r=aK []/\TickS H0 Hs H2 Fs F y p ev wv nv c t s vb cb (outs++mX c s)):=by
  refine dL (aQ rfl) U ?_
  rw[aNE];have l13:=h.node.ld 13 (eV y c) rfl;have e1:cX (eV y c)=some (.I c.aJ):=rfl;simp only[gsR,l13,e1];exact aQZ h.node.ok.lanes.2 h6 ht hol U c.aJ 0 (m-1) H U U U (by unfold oI;simpa using h) ..
 obtain⟨H2,r,g1,rfl,g2⟩:=main
 exact⟨H2,g1,g2⟩
end
theorem aDk (c:Cfg)(m:List Int): ∀(l1 l2:List Nat)(s:NS×eQ),k9 c m (l1++l2) s=k9 c m l2 (k9 c m l1 s)
 |[],_,_=>rfl
 |i::l1,l2,s=>by rw[List.cons_append,k9,k9,aDk c m l1 l2]
def eF (c:Cfg)(m:List Int)(s:NS)(i:Nat):NS×eQ:=k9 c m (List.range i) (s,[])
theorem Ru (c:Cfg)(m:List Int)(s:NS)(i:Nat):eF c m s (i+1)=if 0<=m.getD i 0 then((iA c (eF c m s i).1 i (m.getD i 0).toNat).1,(eF c m s i).2++(iA c (eF c m s i).1 i (m.getD i 0).toNat).2) else eF c m s i:=by
 unfold eF;rw[aUM,aDk];rfl
theorem aQ4 (c:Cfg)(s:NS)(i o:Nat):(iA c s i o).2.length<=1:=by
 unfold iA;split
 ·simp
 ·simp only
  split<;>simp
theorem aQ5 (c:Cfg)(s:NS)(i o:Nat):(iA c s i o).1.ticks=s.ticks:=by
 unfold iA;split
 ·rfl
 ·simp only
  split<;>rfl
theorem Rt (c:Cfg)(m:List Int)(s:NS): ∀i,(eF c m s i).2.length<=i
 |0=>by simp[eF,k9]
 |i+1=>by
  have:=Rt c m s i;have:=aQ4 c (eF c m s i).1 i (m.getD i 0).toNat;rw[Ru];split
  ·simp only[aUp]
   omega
  ·omega
theorem Rv (c:Cfg)(m:List Int)(s:NS): ∀i,(eF c m s i).1.ticks=s.ticks
 |0=>rfl
 |i+1=>by
  rw[Ru];split
  ·simp only
   rw[aQ5,Rv c m s i]
  ·exact Rv c m s i
theorem aQ2 (c:Cfg)(s:NS)(k:Nat):(iG c s k).ticks=s.ticks:=by
 unfold iG;split
 ·rfl
 ·split<;>rfl
theorem aQ3 (c:Cfg)(s:NS):(eT c s).ticks=s.ticks:=by
 unfold eT;have: ∀(l:List Nat)(s:NS),(l.foldl (iG c) s).ticks=s.ticks:=by
  intro l;induction l with
  |nil=>intro s;rfl
  |cons k l ih=>intro s;rw[List.foldl_cons,ih,aQ2]
 exact this _ _
theorem aQ1 (i:Nat)(hi:i<1000000000):IntKind.i64.wrap ((i:Int)+1)=((i+1:Nat):Int):=by rw[bJ U U];omega
section
variable {H0 Hs H : aF} {Fs F : Part → Nat → Prop} {y : Lay} {p : PlanD} {ev wv nv : Value} {c : Cfg} {t : Nat} {s : NS} {m : Nat} {vb cb : Nat} {outs : eQ}
def Ro (H0 Hs:aF)(Fs:Part->Nat->Prop)(y:Lay)(p:PlanD)(ev wv nv:Value)(c:Cfg)(t:Nat)(s':NS)(vb cb:Nat)(outs:eQ)(H':aF)(v:Value):Prop:=
 ∃F' us,TickS H0 Hs H' Fs F' y p ev wv nv c t s' vb cb outs/\OutR H' (λb=>Hs.length<=b/\ ¬Un F' b) v us outs
theorem NodeAt.aQ0 (h:NodeAt H0 H F y p ev wv nv c t s)(hi:NInv c t {s with ticks:=s.ticks+1}):
  NodeAt H0 (H.set y.nb (vM p.bag ev wv nv y c (s.ticks+1))) F y p ev wv nv c t {s with ticks:=s.ticks+1}/\Mv (Un F) (Un F) H (H.set y.nb (vM p.bag ev wv nv y c (s.ticks+1))):=by
 have hB:=h.sep.see .node rfl xP;refine h.Cy .node (l:=jA p.bag ev wv nv y c s.ticks) (l':=jA p.bag ev wv nv y c (s.ticks+1)) rfl xP ?_ ?_ ?_ hi rfl ?_
 ·intro q hq
  simp only[jA,aUw,aUQ] at hq;rcases hq with rfl|rfl|⟨j,hj,rfl⟩
  ·exact⟨_,aUm ..,rfl⟩
  ·exact⟨_,aUu _ (aUm ..),rfl⟩
  ·exact⟨(y.lb (j+1),mE y c (j+1)),by simp only[jA,aUw,aUQ];exact .inr (.inr ⟨j,hj,rfl⟩),rfl⟩
 ·exact⟨by simp,λb hb hn=>aUe λhh=>hn ⟨_,aUm ..,hh⟩⟩
 ·intro q hq
  have hnb:=h.nbB;simp only[jA,aUw,aUQ] at hq;rcases hq with rfl|rfl|⟨j,hj,rfl⟩
  ·exact dN hnb
  ·have h2:H[y.pb]? =some (xQ y c):=hB (y.pb,xQ y c) (by simp[jA])
   simp only;rw[aUe (λhh=> ?_),h2]
   rw[<-hh,hnb] at h2;injection h2 with h2;injection h2 with _ h2 _
   revert h2
   decide
  ·have h2:H[y.lb (j+1)]? =some (mE y c (j+1)):=hB (y.lb (j+1),mE y c (j+1)) (by simp only[jA,aUw,aUQ];exact .inr (.inr ⟨j,hj,rfl⟩))
   simp only;rw[aUe (λhh=> ?_),h2]
   rw[<-hh,hnb] at h2;injection h2 with h2;injection h2 with _ h2 _
   revert h2
   decide
 ·intro j hj
  cases j with
  |node=>exact absurd rfl hj
  |_=>rfl
theorem aQ6 (h:TickS H0 Hs H Fs F y p ev wv nv c t s vb cb outs)(ht:t<10000000)(hol:outs.length<700)(hm:500<m)(htk:s.ticks+1<=t+1):
  ∀(x2 gS gG tC:Value),∃H2 r,Gw (lvl prog pkN m) (aL m) (pt cb) x2 (pt vb) (rA vb cb) gS gG tC H=some (r,H2)/\
   Ro H0 Hs Fs y p ev wv nv c (t+1) {s with ticks:=s.ticks+1} vb cb (if(s.ticks+1)%c.every=0 then outs++mX c s else outs) H2 r:=by
 intros;have lc:ld1 (pt cb) H=some (pt y.nb,H):=bA h.cell rfl;have l16:=h.node.ld 16 (.I s.ticks) rfl;have e1:=aQ1 s.ticks U
 have hi:NInv c (t+1) {s with ticks:=s.ticks+1}:={h.node.inv.oH (Nat.le_succ t) with ticks:=htk};have hn:NodeAt H0 H F y p ev wv nv c (t+1) s:={h.node with inv:=h.node.inv.oH (Nat.le_succ t)};obtain⟨H1,hH1⟩:=aD (H.set y.nb (vM p.bag ev wv nv y c (s.ticks+1)));have st:stN 1 (.Q y.nb 16) (.I ((s.ticks+1:Nat):Int)) H=some (undef,H1):=by rw[hH1];exact hP h.node.nbB aC (by simp[Rb])
 obtain⟨g1,mv1⟩:=hn.aQ0 hi;rw[<-hH1] at g1 mv1;have h1:=h.tX g1 mv1;have lc1:ld1 (pt cb) H1=some (pt y.nb,H1):=bA h1.cell rfl;have l16':=h1.node.ld 16 (.I (s.ticks+1:Nat)) rfl;have l7:=h1.node.ld 7 (.I c.every) rfl;have hev:=h.node.ok.every;have r1:bin prog .rem 3 (.I ((s.ticks+1:Nat):Int)) (.I c.every)=some (.I (((s.ticks+1)%c.every:Nat):Int)):=wU (s.ticks+1) c.every _ rfl U
 unfold Gw;by_cases hz:(s.ticks+1)%c.every=0
 ·have c1:((((s.ticks+1)%c.every:Nat):Int)==0)=true:=by rw[hz];rfl
  obtain⟨H2,x1,h2⟩:=aQY h1 (m:=m) U U U
  obtain⟨v,us,r,hr⟩:=h2.rows;have lv:ld1 (pt vb) H2=some (v,H2):=bA r rfl;simp only[gsR,lc,l16,aV,e1,st,lc1,l16',l7,r1,c1,x1,lv];refine⟨_,_,rfl,F,us,?_,?_⟩
  ·rw[if_pos hz]
   exact h2
  ·rw[if_pos hz]
   exact hr
 ·have c1:((((s.ticks+1)%c.every:Nat):Int)==0)=false:=by rw[beq_eq_false_iff_ne];omega
  obtain⟨v,us,r,hr⟩:=h1.rows;have lv:ld1 (pt vb) H1=some (v,H1):=bA r rfl;simp only[gsR,lc,l16,aV,e1,st,lc1,l16',l7,r1,c1,lv];refine⟨_,_,rfl,F,us,?_,?_⟩
  ·rw[if_neg hz]
   exact h1
  ·rw[if_neg hz]
   exact hr
theorem aQ7 {mt:List Int}{mb:Nat}{Q:aF->Value->Prop}(hml:mt.length=c.aJ)(hmr: ∀z∈mt,z= -1∨0<=z/\z<(c.aJ:Int))(ht:t<9000000)(h6:c.aJ<=6)(hmv:mb≠vb)(hm:500<m)
  (hK: ∀(H':aF)(F':Part->Nat->Prop),TickS H0 Hs H' Fs F' y p ev wv nv c (t+c.aJ) (eF c mt s c.aJ).1 vb cb (eF c mt s c.aJ).2-> ∀(x2 gS gG tC:Value),∃H2 r,Gw (lvl prog pkN m) (aL m) (pt cb) x2 (pt vb) (rA vb cb) gS gG tC H'=some (r,H2)/\Q H2 r):
  ∀(q i l:Nat)(H:aF)(F:Part->Nat->Prop),c.aJ-i=q->i<=c.aJ->q<l->TickS H0 Hs H Fs F y p ev wv nv c (t+i) (eF c mt s i).1 vb cb (eF c mt s i).2->H[mb]? =some (dG mt [])-> ¬Un F mb-> ∀(x2:Value),
  ∃H2 r,aL l (aO prog (lvl prog pkN m) (aL m) O0) (O8 (lvl prog pkN m) (aL m)) (aG 1 (some (pt cb)::x2::some (pt vb)::some (rA vb cb)::aG 16 (some (cR mb c.aJ)::some (.I c.aJ)::some (.I (i:Nat))::aG 34 []))) H=some (r,H2)/\Q H2 r:=by
 intro q;induction q with
 |zero=>
  intro i l H F hq hi hl h hmb hmF;intros;obtain⟨l,rfl⟩: ∃l',l=l'+1:=⟨l-1,by omega⟩
  have hie:i=c.aJ:=U
  subst hie;have c1:decide ((c.aJ:Int)<(c.aJ:Int))=false:=by simp
  rw[aL,aA0];simp only[gsR,c1];rw[aNd];exact hK H F h ..
 |succ q ih=>
  intro i l H F hq hi hl h hmb hmF;intros;obtain⟨l,rfl⟩: ∃l',l=l'+1:=⟨l-1,by omega⟩
  have hil:i<c.aJ:=U
  have c1:decide ((i:Int)<(c.aJ:Int))=true:=by rw[decide_eq_true_eq];omega
  obtain⟨a1,a2⟩:=Ac (c:=c.aJ) hmb hml hil;have a1:cN 1 (cR mb c.aJ) (.I (i:Int))=some (.Q mb i):=a1;have lc:ld1 (pt cb) H=some (pt y.nb,H):=bA h.cell rfl;have e9:=mC i U
  have hup:=Ru c mt s i;have hul:=Rt c mt s i;have hz:mt.getD i 0= -1∨0<=mt.getD i 0/\mt.getD i 0<(c.aJ:Int):=by
   rw[aUh,aUf U,aUG]
   exact hmr _ (List.getElem_mem _)
  rw[aL,aA0];by_cases hneg:0<=mt.getD i 0
  ·obtain⟨o,ho⟩: ∃o:Nat,mt.getD i 0=o:=⟨(mt.getD i 0).toNat,by omega⟩
   have c2:decide ((0:Int)<=(o:Int))=true:=by rw[decide_eq_true_eq];omega
   rw[if_pos hneg,ho,aUF] at hup;rw[ho] at a2 hz;obtain⟨H1,v,g1,rfl,g2,F1,g3,g4⟩:=aQT h (m:=m) (i:=i) (o:=o) U U hil U U hmb hmF hmv
   simp only[gsR,c1,a1,a2,c2,lc,g1,aV,e9];refine ih (i+1) l H1 F1 U U U ?_ g2 g4 ..
   rw[hup];exact g3
  ·have c2:decide ((0:Int)<=mt.getD i 0)=false:=aUY hneg
   rw[if_neg hneg] at hup;simp only[gsR,c1,a1,a2,c2,aV,e9];refine ih (i+1) l H F U U U ?_ hmb hmF ..
   rw[hup];exact {h with node:={h.node with inv:=h.node.inv.oH U}}
end
section
variable {H0 Hs H : aF} {Fs F : Part → Nat → Prop} {y : Lay} {p : PlanD} {ev wv nv : Value} {c : Cfg} {t : Nat} {s : NS} {m : Nat}
theorem NodeAt.aQ8 {H':aF}{g' a':List Nat}(h:NodeAt H0 H F y p ev wv nv c t s)(hg:g'.length=s.g.length)(hf:Fr (λb=>b=y.ga∨b=y.aa) H H')(hB:Blks (fB y.ab y.ga y.aa g' a') H')(hi:NInv c t {s with g:=g',a:=a'}):
  NodeAt H0 H' F y p ev wv nv c t {s with g:=g',a:=a'}/\Mv (Un F) (Un F) H H':=by
 refine h.Cy .arb (l:=fB y.ab y.ga y.aa s.g s.a) (l':=fB y.ab y.ga y.aa g' a') rfl aCV ?_ ?_ hB hi rfl ?_
 ·intro q hq
  simp only[fB,aUw,aUD,or_false] at hq;rcases hq with rfl|rfl|rfl
  ·exact⟨_,aUm ..,rfl⟩
  ·exact⟨_,aUu _ (aUm ..),rfl⟩
  ·exact⟨_,aUu _ (aUu _ (aUm ..)),rfl⟩
 ·refine hf.zG λb hb=> ?_
  rcases hb with rfl|rfl
  ·exact⟨_,aUu _ (aUm ..),rfl⟩
  ·exact⟨_,aUu _ (aUu _ (aUm ..)),rfl⟩
 ·intro j hj
  cases j with
  |arb=>exact absurd rfl hj
  |_=>rfl
theorem aQ9 (h:NodeAt H0 H F y p ev wv nv c t s)(ht:t<8000000)(hm:600<m):
  ∃H' F' v us,lvl prog pkN m (.func 51) [pt y.nb] H=some (v,H')/\NodeAt H0 H' F' y p ev wv nv c (t+7) (kJ c s).1/\Mv (Un F) (Un F') H H'/\OutR H' (λb=>H.length<=b/\ ¬Un F' b) v us (kJ c s).2:=by
 have h6:c.aJ<=6:=by have:=h.ok.by';unfold Cfg.aJ;omega
 have hp1:1<=c.aJ:=by unfold Cfg.aJ;omega
 obtain⟨H1,hH1⟩:=aD (H++[pnB y.nb]);obtain⟨H2,hH2⟩:=aD (H1++[vQ (.slice none 0 0)]);have e1:H++[Blk.cells (Value.cells (pt y.nb)).toList 72 .fix]=H1:=by rw[hH1];rfl
 have e2:H1++[Blk.cells [Value.slice none 0 0] 102 .fix]=H2:=by rw[hH2];rfl
 have x1:Ext H H1:=by rw[hH1];exact Fr.app _ _ _
 have x2:Ext H1 H2:=by rw[hH2];exact Fr.app _ _ _
 have h1l:H1.length=H.length+1:=by rw[hH1];simp
 have bc:H2[H.length]? =some (pnB y.nb):=by
  have:H1[H.length]? =some (pnB y.nb):=by rw[hH1];exact cG _ _
  rw[x2.2 _ (bU this) id,this]
 have bv:H2[H1.length]? =some (vQ (.N)):=by rw[hH2];exact cG _ _
 have hnew: ∀b,H.length<=b-> ¬Un F b:=λb hb hu=>by have:=h.sep.oB b hu;omega
 have g2:=(h.fS x1).fS x2;have T2:TickS H0 H H2 F F y p ev wv nv c t s H1.length H.length []:=
  ⟨g2,Mv.nZ (x1.tr x2) _,h.ext.1,bc,hnew _ (aUi _),hnew _ U,by omega,.N,[],bv,⟨Rw.fD,λb ⟨_,_,_,hh⟩=>(by cases hh),rfl,λi u o hu _=>(by cases hu)⟩⟩
 have lc2:ld1 (pt H.length) H2=some (pt y.nb,H2):=bA T2.cell rfl;obtain⟨H3,F3,f1,f2,f3⟩:=aQA g2 (m:=m-1) U
 have T3:=T2.tX f2 f3;obtain⟨s1,hs1⟩:=aD (eT c s);rw[<-hs1] at T3;have lc3:ld1 (pt H.length) H3=some (pt y.nb,H3):=bA T3.cell rfl;have n0:=T3.node.ld 0 (pt y.ab) rfl;obtain⟨H4,k1,k2,x4⟩:=aQv T3.node (m:=m-1) U U
 have T4:=T3.ext x4;have lc4:ld1 (pt H.length) H4=some (pt y.nb,H4):=bA T4.cell rfl;have n0':=T4.node.ld 0 (pt y.ab) rfl;have n6:=T4.node.ld 6 (.I c.rounds) rfl;have n6':=T3.node.ld 6 (.I c.rounds) rfl;have hI:=T4.node.inv;have hr:=T4.node.ok.rounds;obtain⟨H5,mb,r1,r2,r3,r4,r5⟩:=aPV (m:=m-1) (H:=H4) (ab:=y.ab) (ga:=y.ga) (aa:=y.aa) (g:=s1.g) (a:=s1.a) (n:=c.aJ) (rows:=gQ c s1 c.aJ 0) (qb:=H3.length) (rounds:=c.rounds)
  (T4.node.sep.see .arb rfl aCV) h.lay.ga hI.gl hI.al hI.g hI.a hp1 U k2 (tV _ _ _ _) (aQs U) hr.1 U U
 rw[aQt] at r2 r5;obtain⟨mt,hmt⟩:=aD (lX (hZ c s1) c.aJ c.rounds s1.g s1.a);rw[<-hmt] at r2 r5;have hM:MatI c.aJ mt:=by rw[hmt];exact MatI.Qf U hI.gl hI.al hI.g hI.a
 have hi5:NInv c t {s1 with g:=mt.g,a:=mt.a}:={hI with gl:=hM.gl,al:=hM.al,g:=hM.g,a:=hM.a};obtain⟨g5,mv5⟩:=T4.node.aQ8 (hM.gl.trans hI.gl.symm) r4 r5 hi5;have T5:=T4.tX g5 mv5;obtain⟨s2,hs2⟩: ∃s2:NS,s2={s1 with g:=mt.g,a:=mt.a}:=⟨_,rfl⟩;rw[<-hs2] at T5;have hmbF: ¬Un F3 mb:=λhu=>by have:=T4.node.sep.oB mb hu;omega
 have hmbv:mb≠H1.length:=λhh=>by
  obtain⟨v,us,r,_⟩:=T4.rows;have:=bU r;omega
 have e5:cX (cR mb c.aJ)=some (.I c.aJ):=rfl;have hut:=Rv c mt.m s2 c.aJ;have hst:s2.ticks=s.ticks:=by rw[hs2];show s1.ticks=_;rw[hs1,aQ3]
 have hres:kJ c s=({(eF c mt.m s2 c.aJ).1 with ticks:=(eF c mt.m s2 c.aJ).1.ticks+1},if((eF c mt.m s2 c.aJ).1.ticks+1)%c.every=0 then(eF c mt.m s2 c.aJ).2++mX c (eF c mt.m s2 c.aJ).1 else(eF c mt.m s2 c.aJ).2):=by
  rw[hut,hst];unfold kJ eF;simp only;rw[hs2,hmt,hs1]
 have main: ∃H' v,lvl prog pkN m (.func 51) [pt y.nb] H=some (v,H')/\
   Ro H0 H F y p ev wv nv c (t+c.aJ+1) {(eF c mt.m s2 c.aJ).1 with ticks:=(eF c mt.m s2 c.aJ).1.ticks+1} H1.length H.length (if((eF c mt.m s2 c.aJ).1.ticks+1)%c.every=0 then(eF c mt.m s2 c.aJ).2++mX c (eF c mt.m s2 c.aJ).1 else(eF c mt.m s2 c.aJ).2) H' v:=by
  refine dL (aQ rfl) U ?_
  rw[aNe];have e4:(Value.func (.func _) #[] #[pt H1.length,pt H.length])=rA H1.length H.length:=rfl;simp only[gsR,e1,e2,lc2,f1,lc3,n0,k1,n0',vP,lc4,n6,n6',Cx,r1,e5];have T5':TickS H0 H H5 F F3 y p ev wv nv c (t+0) (eF c mt.m s2 0).1 H1.length H.length (eF c mt.m s2 0).2:=T5;refine aQ7 (Q:=λH' v=>Ro H0 H F y p ev wv nv c (t+c.aJ+1) {(eF c mt.m s2 c.aJ).1 with ticks:=(eF c mt.m s2 c.aJ).1.ticks+1} H1.length H.length (if((eF c mt.m s2 c.aJ).1.ticks+1)%c.every=0 then(eF c mt.m s2 c.aJ).2++mX c (eF c mt.m s2 c.aJ).1 else(eF c mt.m s2 c.aJ).2) H' v)
   hM.ml hM.m U h6 hmbv U ?_ c.aJ 0 (m-1) H5 F3 U U U T5' r2 hmbF ..
  intro H' F' h';intros;have hul:=Rt c mt.m s2 c.aJ;refine aQ6 h' U U U ?_ ..
  rw[hut,hst];have:=h.inv.ticks;omega
 obtain⟨H',v,q1,F',us,q2,q3⟩:=main;rw[hres];refine⟨H',F',v,us,q1,{q2.node with inv:=q2.node.inv.oH U},q2.mv,q3⟩
end
theorem aDl: ∀zs:List Int,(zs.map inC).flatten=zs.map λz:Int=>Value.I z
 |[]=>rfl
 |z::zs=>by
  rw[aUI,aUN,aDl zs];rfl
theorem aDm {H:aF}{u:Value}{zs:List Int}(h:Iw H u zs)(hne:zs≠[]): ∃b cap rest,u=fR b zs.length cap/\H[b]? =some (dG zs rest):=by
 obtain⟨_,⟨rfl,h0⟩|⟨c,cap,rest,rfl,h1,h2,h3⟩⟩:=h
 ·exact absurd (aUv.mp h0) hne
 ·refine⟨c,cap,rest,rfl,?_⟩
  rw[h3,aDl];rfl
section
variable {H : aF} {m : Nat}
theorem aDn {v:Value}{ws:List Int}(hw:Is H v ws)(hok:wOk ws=true)(hm:ws.length+100<m)(hm2:m<=72057594037927936):
  ∃H' wh ww wl wc lc wr lr,lvl prog pkN m (.func 82) [v] H=some (pt wh,H')/\Ext H H'/\Blks (iK wh ww wl wc lc wr lr ws ⟨ws,0⟩) H'/\ww≠wl/\H.length<=wh/\H.length<=ww/\H.length<=wl:=by
 have hlen:=hw.eC;have hcf:lvl prog pkN (m-1) (.func 117) [v,.func (.func 116) #[] #[]] H=some (.bool (ws.any pU),H):=by
  have:=Zc (H:=H) (m:=m-1) (v:=v) (fv:= .func (.func 116) #[] #[]) (n:=ws.length) (λi=>(ws[i]?.map pU).getD false) hlen U U (λi hi=>by
   have hx:ws[i]? =some ws[i]:=aUf hi;obtain⟨b,o,g1,g2,g3⟩:=hw.dM eP hx .i64;have l1:=(g3 H rfl).2.1 0 _ rfl;refine⟨_,_,g1,l1,?_⟩;have:=Zg (m:=m-1-1-1) U ws[i] H
   rw[hx];exact this)
  rw[this,B1 ws pU _ λi x h=>by rw[h];rfl]
 unfold wOk at hok;simp only[Bool.not_eq_true',Bool.or_eq_false_iff,decide_eq_false_iff_not] at hok;obtain⟨c1,c2,c3⟩:=hok;have e1:((ws.length:Int)==0)=false:=by simpa using c1
 rw[c3] at hcf;have hne:ws≠[]:=λh=>c1 (by rw[h];rfl)
 obtain⟨H1,u1,g1,g2,g3,g4⟩:=Ft (m:=m-1) hw hne U U
 obtain⟨H2,u2,q1,q2,q3,q4⟩:=Ft (m:=m-1) (hw.ext g2) hne U U
 obtain⟨ww,wc,wr,rfl,b1⟩:=aDm g3 hne;obtain⟨wl,lc,lr,rfl,b2⟩:=aDm q3 hne;have n1:=g4 ww ⟨_,_,_,rfl⟩;have n2:=q4 wl ⟨_,_,_,rfl⟩;have hb:bld prog 197 [(0,fR ww ws.length wc),(1,fR wl ws.length lc)]=some (.agg #[fR ww ws.length wc,fR wl ws.length lc,.int .i64 0]):=rfl;have e6:H2++[Blk.cells (Value.cells (.agg #[fR ww ws.length wc,fR wl ws.length lc,.int .i64 0])).toList 197 .fix]=H2++[qB ww wl wc lc ws.length 0]:=rfl;have x3:Ext H2 (H2++[qB ww wl wc lc ws.length 0]):=Fr.app _ _ _;have l1:=bU b1;have l2:=g2.1;have l3:=q2.1;refine⟨H2++[qB ww wl wc lc ws.length 0],H2.length,ww,wl,wc,lc,wr,lr,aS (aQ rfl) U ?_,(g2.tr q2).tr x3,λq hq=> ?_,by omega,by omega,n1,by omega⟩
 ·rw[B0]
  simp only[gsR,hlen,e1,c2,decide_false,hcf,g1,q1,hb,e6]
 ·simp only[iK,aUw,aUD,or_false] at hq
  rcases hq with rfl|rfl|rfl
  ·exact cG _ _
  ·simp only
   rw[x3.2 _ U id,q2.2 _ l1 id,b1]
  ·simp only
   rw[x3.2 _ (bU b2) id,b2]
end
theorem aDp (y:Lay)(c:Cfg)(i:Nat):cA (dK y c i)=true:=by unfold dK jX;split<;>rfl
theorem aRa (y:Lay)(i k:Nat):cA (iZ y i k)=true:=rfl
def DnB (c:Cfg)(n x i k:Nat):Prop:=(1<=i/\i<n/\k<c.lanes)∨(i=n/\k<x)
def jB (y:Lay)(c:Cfg)(n nw cs cr:Nat):Part->aF->Prop
 | .host=>λD=>HostAt D y.hb [] [] c.lanes c.queue
 | .whl i=>Blks (if i<nw then iK (y.wh i) (y.ww i) (y.wl i) (y.wc i) (y.lc i) (y.wr i) (y.lr i) c.weights ⟨c.weights,0⟩ else [])
 | .snd i k=>Blks (if DnB c n cs i k then [(y.sb i k,iH ⟨c.start,c.start+c.room⟩)] else [])
 | .rcv i k=>Blks (if DnB c n cr i k then [(y.rb i k,eU ⟨c.start,0⟩ c.room)] else [])
 |_=>Blks []
def qC (bag:Int)(ev wv nv:Value)(y:Lay)(c:Cfg)(pv:Value):Blk:=
 .cells [.pointer none,.I c.nodes,ev,.I c.lanes,.I c.room,.I c.queue,.I c.rounds,.I c.every,.I bag,wv,.int .u16 c.start,nv,.I c.me,pv,pt y.hb,.pointer none,.I 0] 120 .fix
structure BN (Hs H:aF)(F:Part->Nat->Prop)(bag:Int)(ev wv nv:Value)(y:Lay)(c:Cfg)(n nw cs cr:Nat)(pv:Value):Prop where
 ext:Ext Hs H
 sep:Sep (jB y c n nw cs cr) F H
 new: ∀b,Un F b->Hs.length<=b
 nb:H[y.nb]? =some (qC bag ev wv nv y c pv)
 nbF: ¬Un F y.nb
 nb0:Hs.length<=y.nb
 ports:Rw (dK y c) 145 3 H pv (List.range n)
 pvF: ∀b,aT pv b->Hs.length<=b/\ ¬Un F b
 lanes: ∀i,1<=i->i<n->H[y.lb i]? =some (mE y c i)/\Hs.length<=y.lb i/\ ¬Un F (y.lb i)/\c.lanes<=y.lcap i
 lne: ∀i j,1<=i->i<n->1<=j->j<n->y.lb i=y.lb j->i=j
 ww: ∀i,i<nw->y.ww i≠y.wl i
theorem C7 (y:Lay)(c:Cfg)(n nw cs cr:Nat)(i:Part):DX (jB y c n nw cs cr i):=by
 cases i with
 |host=>exact λD D' h he=>h.ext he
 |_=>exact Blks.dx _
theorem sV {F:Part->Nat->Prop}{i:Part}{G:Nat->Prop}{b:Nat}(h:Un (updI F i G) b):Un F b∨G b:=by
 obtain⟨j,hj⟩:=h;by_cases hji:j=i
 ·rw[hji,eY] at hj
  exact .inr hj
 ·rw[cM _ _ hji] at hj
  exact .inl ⟨j,hj⟩
section
variable {Hs H : aF} {F : Part → Nat → Prop} {bag : Int} {ev wv nv : Value} {y : Lay} {c : Cfg} {n nw cs cr : Nat} {pv : Value}
theorem BN.aDo {H':aF}(h:BN Hs H F bag ev wv nv y c n nw cs cr pv)(he:Ext H H'):BN Hs H' F bag ev wv nv y c n nw cs cr pv:=by
 refine {h with ext:=h.ext.tr he,sep:=h.sep.ext (C7 _ _ _ _ _ _) he,nb:=by rw[he.2 _ (bU h.nb) id,h.nb],ports:=h.ports.cZ λb hb=>he.2 b (h.ports.dO hb) id,lanes:=λi h1 h2=> ?_}
 obtain⟨q1,q2⟩:=h.lanes i h1 h2
 exact⟨by rw[he.2 _ (bU q1) id,q1],q2⟩
theorem BN.Ry {H':aF}{y':Lay}{nw' cs' cr':Nat}(h:BN Hs H F bag ev wv nv y c n nw cs cr pv)(i:Part){l:List (Nat×Blk)}(hB:Blks l H')(he:Ext H H')(hn: ∀q∈l,H.length<=q.1)(hi: ∀b,¬F i b)
  (hcon: ∀j D,updI (jB y c n nw cs cr) i (Blks l) j D->jB y' c n nw' cs' cr' j D)(e1:y'.nb=y.nb)(e2:y'.hb=y.hb)(e3: ∀i,i<n->dK y' c i=dK y c i)(e4:y'.lb=y.lb)(e5:y'.lcap=y.lcap)(e6: ∀i,1<=i->i<n->mE y' c i=mE y c i)(e7: ∀i,i<nw'->y'.ww i≠y'.wl i):
  BN Hs H' (updI F i (InB l)) bag ev wv nv y' c n nw' cs' cr' pv:=by
 have hlt: ∀b,InB l b->b<H'.length:=λb hb=>by
  obtain⟨q,hq,rfl⟩:=hb;exact bU (hB q hq)
 have hge: ∀b,InB l b->H.length<=b:=λb hb=>by
  obtain⟨q,hq,rfl⟩:=hb;exact hn q hq
 have hhas:Has (Blks l) (InB l) H':=Has.Ie hB (λq hq=>⟨q,hq,rfl⟩) hlt
 have hs:=h.sep.If i (C7 _ _ _ _ _ _) hi hhas he hge;have hun: ∀b,b<H.length-> ¬Un F b-> ¬Un (updI F i (InB l)) b:=λb hb hF hu=>(sV hu).elim hF λhg=>by have:=hge b hg;omega
 refine⟨h.ext.tr he,hs.wN hcon,λb hb=> ?_,?_,?_,by rw[e1];exact h.nb0,?_,λb hb=>⟨(h.pvF b hb).1,hun b (h.ports.dO hb) (h.pvF b hb).2⟩,λj h1 h2=> ?_,λi j=>by rw[e4];exact h.lne i j,e7⟩
 ·rcases sV hb with hb|hb
  ·exact h.new b hb
  ·exact aUt h.ext.1 (hge b hb)
 ·rw[e1,he.2 _ (bU h.nb) id,h.nb]
  unfold qC;rw[e2]
 ·rw[e1]
  exact hun _ (bU h.nb) h.nbF
 ·have hk:=h.ports.cZ (H':=H') λb hb=>he.2 b (h.ports.dO hb) id
  have em:(List.range n).map (dK y' c)=(List.range n).map (dK y c):=List.map_congr_left λi hi=>e3 i (aUR.mp hi)
  unfold Rw at hk⊢;rw[em];exact hk
 ·obtain⟨q1,q2,q3,q4⟩:=h.lanes j h1 h2
  rw[e4,e5,e6 j h1 h2]
  exact⟨by rw[he.2 _ (bU q1) id,q1],q2,hun _ (bU q1) q3,q4⟩
theorem lT {α:Type}(f:Nat->α)(i:Nat)(x:α):up1 f i x i=x:=if_pos rfl
theorem lE {α:Type}(f:Nat->α){i j:Nat}(x:α)(h:j≠i):up1 f i x j=f j:=if_neg h
theorem Iq {α:Type}(f:Nat->Nat->α)(i k:Nat)(x:α):up2 f i k x i k=x:=if_pos ⟨rfl,rfl⟩
theorem Ag {α:Type}(f:Nat->Nat->α){i k j l:Nat}(x:α)(h: ¬(j=i/\l=k)):up2 f i k x j l=f j l:=if_neg h
theorem BN.whl {H':aF}(h:BN Hs H F bag ev wv nv y c n n 0 0 pv)(hF: ∀i,n<=i-> ∀b,¬F (.whl i) b){wh ww wl wc lc:Nat}{wr lr:List Value}(hB:Blks (iK wh ww wl wc lc wr lr c.weights ⟨c.weights,0⟩) H')(he:Ext H H')(hne:ww≠wl)(h1:H.length<=wh)(h2:H.length<=ww)(h3:H.length<=wl):
  BN Hs H' (updI F (.whl n) (InB (iK wh ww wl wc lc wr lr c.weights ⟨c.weights,0⟩))) bag ev wv nv {y with wh:=up1 y.wh n wh,ww:=up1 y.ww n ww,wl:=up1 y.wl n wl,wc:=up1 y.wc n wc,lc:=up1 y.lc n lc,wr:=up1 y.wr n wr,lr:=up1 y.lr n lr} c n (n+1) 0 0 pv:=by
 refine h.Ry (.whl n) hB he (λq hq=> ?_) (hF n (aUi _)) (λj D hD=> ?_) rfl rfl (λi hi=> ?_) rfl rfl (λ_ _ _=>rfl) λi hi=> ?_
 ·simp only[iK,aUw,aUD,or_false] at hq
  rcases hq with rfl|rfl|rfl
  ·exact h1
  ·exact h2
  ·exact h3
 ·cases j with
  |whl i=>
   by_cases hi:i=n
   ·subst hi
    rw[eY] at hD;simp only[jB];rw[if_pos (Nat.lt_succ_self _),lT,lT,lT,lT,lT,lT,lT];exact hD
   ·rw[cM _ _ (λhh=>hi (by injection hh))] at hD
    simp only[jB] at hD⊢;rw[lE _ _ hi,lE _ _ hi,lE _ _ hi,lE _ _ hi,lE _ _ hi,lE _ _ hi,lE _ _ hi];by_cases hin:i<n
    ·rw[if_pos hin] at hD
     rw[if_pos U]
     exact hD
    ·rw[if_neg hin] at hD
     rw[if_neg U]
     exact hD
  |_=>
   rw[cM _ _ (λhh=>by cases hh)] at hD
   exact hD
 ·unfold dK jX
  simp only;rw[lE _ _ U]
 ·simp only
  by_cases hin:i=n
  ·subst hin
   rw[lT,lT];exact hne
  ·rw[lE _ _ hin,lE _ _ hin]
   exact h.ww i U
theorem BN.snd {k b:Nat}(h:BN Hs H F bag ev wv nv y c n (n+1) k k pv)(hF: ∀b,¬F (.snd n k) b)(hb:b=H.length):
  BN Hs (H++[iH ⟨c.start,c.start+c.room⟩]) (updI F (.snd n k) (InB [(b,iH ⟨c.start,c.start+c.room⟩)])) bag ev wv nv {y with sb:=up2 y.sb n k b} c n (n+1) (k+1) k pv:=by
 subst hb;refine h.Ry (.snd n k) (λq hq=> ?_) (Fr.app _ _ _) (λq hq=> ?_) hF (λj D hD=> ?_) rfl rfl (λi hi=>rfl) rfl rfl (λi h1 h2=> ?_) h.ww
 ·simp only[aUw,aUD,or_false] at hq
  subst hq;exact cG _ _
 ·simp only[aUw,aUD,or_false] at hq
  subst hq;exact aUi _
 ·cases j with
  |snd i k'=>
   by_cases hi:i=n/\k'=k
   ·obtain⟨rfl,rfl⟩:=hi
    rw[eY] at hD;simp only[jB];rw[if_pos (.inr ⟨rfl,Nat.lt_succ_self _⟩),Iq];exact hD
   ·rw[cM _ _ (λhh=>hi (by injection hh with h1 h2;exact⟨h1,h2⟩))] at hD
    simp only[jB] at hD⊢;rw[Ag _ _ hi];by_cases hd:DnB c n k i k'
    ·rw[if_pos hd] at hD
     rw[if_pos (by unfold DnB at hd ⊢; omega)]
     exact hD
    ·rw[if_neg hd] at hD
     rw[if_neg (by unfold DnB at hd ⊢; omega)]
     exact hD
  |_=>
   rw[cM _ _ (λhh=>by cases hh)] at hD
   exact hD
 ·have: ∀k',iZ {y with sb:=up2 y.sb n k H.length} i k'=iZ y i k':=λk'=>by
   unfold iZ;simp only;rw[Ag _ _ U]
  unfold mE;rw[List.map_congr_left λk' _=>this k']
theorem BN.rcv {k b:Nat}(h:BN Hs H F bag ev wv nv y c n (n+1) (k+1) k pv)(hF: ∀b,¬F (.rcv n k) b)(hb:b=H.length):
  BN Hs (H++[eU ⟨c.start,0⟩ c.room]) (updI F (.rcv n k) (InB [(b,eU ⟨c.start,0⟩ c.room)])) bag ev wv nv {y with rb:=up2 y.rb n k b} c n (n+1) (k+1) (k+1) pv:=by
 subst hb;refine h.Ry (.rcv n k) (λq hq=> ?_) (Fr.app _ _ _) (λq hq=> ?_) hF (λj D hD=> ?_) rfl rfl (λi hi=>rfl) rfl rfl (λi h1 h2=> ?_) h.ww
 ·simp only[aUw,aUD,or_false] at hq
  subst hq;exact cG _ _
 ·simp only[aUw,aUD,or_false] at hq
  subst hq;exact aUi _
 ·cases j with
  |rcv i k'=>
   by_cases hi:i=n/\k'=k
   ·obtain⟨rfl,rfl⟩:=hi
    rw[eY] at hD;simp only[jB];rw[if_pos (.inr ⟨rfl,Nat.lt_succ_self _⟩),Iq];exact hD
   ·rw[cM _ _ (λhh=>hi (by injection hh with h1 h2;exact⟨h1,h2⟩))] at hD
    simp only[jB] at hD⊢;rw[Ag _ _ hi];by_cases hd:DnB c n k i k'
    ·rw[if_pos hd] at hD
     rw[if_pos (by unfold DnB at hd ⊢; omega)]
     exact hD
    ·rw[if_neg hd] at hD
     rw[if_neg (by unfold DnB at hd ⊢; omega)]
     exact hD
  |_=>
   rw[cM _ _ (λhh=>by cases hh)] at hD
   exact hD
 ·have: ∀k',iZ {y with rb:=up2 y.rb n k H.length} i k'=iZ y i k':=λk'=>by
   unfold iZ;simp only;rw[Ag _ _ U]
  unfold mE;rw[List.map_congr_left λk' _=>this k']
theorem BN.Rx {H':aF}{N:Nat->Prop}{pv':Value}{n':Nat}(h:BN Hs H F bag ev wv nv y c n nw cs cr pv)(hf:Fr N H H')(hN: ∀b,N b-> ¬Un F b/\Hs.length<=b):
  Ext Hs H'/\Sep (jB y c n nw cs cr) F H':=by
 have hm:Mv N N H H':=⟨hf.1,λ_ h=> .inl h,λb hb hn=>hf.2 b hb hn⟩
 refine⟨⟨aUt h.ext.1 hf.1,λa ha _=> ?_⟩,h.sep.wO (C7 _ _ _ _ _ _) hm λa ha hh=>(hN a hh).1 ha⟩
 rw[hf.2 a (aUs ha h.ext.1) (λhh=>by have:=(hN a hh).2;omega),h.ext.2 a ha id]
end
theorem aDq {α:Type}(f:α->Bool): ∀l:List α,l.length=(l.filter f).length+(l.filter λx=> !f x).length
 |[]=>rfl
 |x::l=>by
  have:=aDq f l;rw[List.filter_cons,List.filter_cons];cases f x
  ·simp
   omega
  ·simp
   omega
theorem aRb {p:PlanD}{me:Nat}(h:dT p=true)(hm:(me:Int)<p.nodes)(hs:0<=p.start/\p.start<65536):(cT p me).ok/\p.nodes=((cT p me).nodes:Int)/\p.lanes=((cT p me).lanes:Int)/\p.room=((cT p me).room:Int)/\p.queue=((cT p me).queue:Int)/\p.rounds=((cT p me).rounds:Int)/\p.every=((cT p me).every:Int)/\p.start=((cT p me).start:Int)/\
  (∀i,i<(bes p.edges me).length->(bes p.edges me)[i]? =some (((cT p me).by'.getD i 0:Nat):Int))/\wOk p.weights=true:=by
 obtain⟨n,hok⟩:=nG h;have h':=h;unfold dT oW wS uZ wi at h;simp only[aUl,decide_eq_true_eq,Bool.not_eq_true'] at h;obtain⟨⟨⟨a1,a2⟩,⟨b1,b2⟩,⟨c1,c2⟩,⟨d1,d2⟩,⟨e1,e2⟩,⟨f1,f2⟩,g1,g2⟩,⟨h3,h4⟩,hwl,hwo,h5,h6⟩:=h;have hw:=hwo;unfold wOk at hwo;simp only[Bool.not_eq_true',Bool.or_eq_false_iff,decide_eq_false_iff_not] at hwo;obtain⟨w1,w2,w3⟩:=hwo;rw[List.any_eq_false] at w3;have hmem: ∀w∈bes p.edges me,0<=w/\w<(n:Int)/\w≠me:=λw hw=>by
  rw[Ga] at hw;obtain⟨q1,q2⟩:=hw;rcases q2 with q2|q2
  ·have:=hok.ve.ok _ q2
   unfold okE at this;simp only at this;omega
  ·have:=hok.ve.ok _ q2
   unfold okE at this;simp only at this;omega
 have hn:=hok.hn;have hpw:=B3 p.edges me;have hlen:(bes p.edges me).length<=5:=by
  have k1:=Fx ((bes p.edges me).filter λw=>decide (w<me)) 0 ((me:Int)-1) (hpw.sublist List.filter_sublist) (λx hx=>by
   obtain⟨y1,y2⟩:=List.mem_filter.mp hx;have:=hmem x y1;rw[decide_eq_true_eq] at y2;omega) U
  have k2:=Fx ((bes p.edges me).filter λw=> !decide (w<me)) ((me:Int)+1) ((n:Int)-1) (hpw.sublist List.filter_sublist) (λx hx=>by
   obtain⟨y1,y2⟩:=List.mem_filter.mp hx;have:=hmem x y1;simp only[Bool.not_eq_true',decide_eq_false_iff_not] at y2;omega) U
  have k3:=aDq (λw=>decide (w<(me:Int))) (bes p.edges me)
  have:=hok.h6;omega
 have hget: ∀i,i<(bes p.edges me).length->(bes p.edges me)[i]? =some (((cT p me).by'.getD i 0:Nat):Int):=λi hi=>by
  have hx:=hmem _ (List.getElem_mem hi);show _=some (((((bes p.edges me).map Int.toNat).getD i 0:Nat)):Int)
  rw[aUh,aUq,aUf hi,Option.map_some,aUG,Int.toNat_of_nonneg hx.1]
 have hbl:(cT p me).by'.length=(bes p.edges me).length:=by show((bes p.edges me).map Int.toNat).length=_;simp
 refine⟨⟨?_,?_,?_,?_,?_,?_,?_,?_,?_,?_,?_,?_,?_,?_⟩,?_,?_,?_,?_,?_,?_,?_,hget,hw⟩
 ·show 2<=p.nodes.toNat/\p.nodes.toNat<=6
  omega
 ·show 1<=p.lanes.toNat/\p.lanes.toNat<=3
  omega
 ·show 1<=p.room.toNat/\p.room.toNat<=8
  omega
 ·show 1<=p.queue.toNat/\p.queue.toNat<=8
  omega
 ·show 1<=p.rounds.toNat/\p.rounds.toNat<=4
  omega
 ·show 1<=p.every.toNat/\p.every.toNat<=8
  omega
 ·show p.weights.length=p.lanes.toNat
  omega
 ·intro x hx
  have:=w3 x hx;unfold pU at this;simp only[Bool.or_eq_true,decide_eq_true_eq,not_or] at this;omega
 ·show p.start.toNat<65536
  omega
 ·show me<p.nodes.toNat
  omega
 ·rw[hbl]
  exact hlen
 ·intro w hw
  obtain⟨z,hz,rfl⟩:=aUQ.mp hw;have:=hmem z hz;show z.toNat<p.nodes.toNat/\z.toNat≠me
  omega
 ·show((bes p.edges me).map Int.toNat).Nodup
  unfold List.Nodup;rw[List.pairwise_map];refine List.Pairwise.imp_of_mem (λ{a b} ha hb hab=> ?_) hpw
  have h1:=hmem a ha;have h2:=hmem b hb;omega
 ·intro d hd
  show(if d=me then 0 else _)<(cT p me).by'.length+1
  split
  ·omega
  ·split
   ·rename_i j hj
    have:=(List.findIdx?_eq_some_iff_getElem.mp hj).1;show j+1<((bes p.edges me).map Int.toNat).length+1
    omega
   ·omega
 ·show p.nodes=(p.nodes.toNat:Int)
  omega
 ·show p.lanes=(p.lanes.toNat:Int)
  omega
 ·show p.room=(p.room.toNat:Int)
  omega
 ·show p.queue=(p.queue.toNat:Int)
  omega
 ·show p.rounds=(p.rounds.toNat:Int)
  omega
 ·show p.every=(p.every.toNat:Int)
  omega
 ·show p.start=(p.start.toNat:Int)
  omega
def qD (c:Cfg)(n nw cs cr:Nat):Part->Prop
 | .host=>True
 | .whl i=>i<nw
 | .snd i k=>DnB c n cs i k
 | .rcv i k=>DnB c n cr i k
 |_=>False
def FE (F:Part->Nat->Prop)(c:Cfg)(n nw cs cr:Nat):Prop:= ∀j,¬qD c n nw cs cr j-> ∀b,¬F j b
theorem FE.Ir {F:Part->Nat->Prop}{c:Cfg}{n nw cs cr n' nw' cs' cr':Nat}{i:Part}{G:Nat->Prop}(h:FE F c n nw cs cr)(hi:qD c n' nw' cs' cr' i)(hm: ∀j,qD c n nw cs cr j->qD c n' nw' cs' cr' j):FE (updI F i G) c n' nw' cs' cr':=λj hj b hb=>by
 by_cases hji:j=i
 ·exact hj (by rw[hji];exact hi)
 ·rw[cM _ _ hji] at hb
  exact h j (λhd=>hj (hm j hd)) b hb
def Krow (H H':aF):Prop:= ∀(b:Nat)(cs:List Value),H[b]? =some (.cells cs 3 .row)->H'[b]? =some (.cells cs 3 .row)
theorem Krow.ext {H0 H H':aF}(h:Krow H0 H)(he:Ext H H'):Krow H0 H':=λb cs hb=>by
 have:=h b cs hb;rw[he.2 _ (bU this) id,this]
theorem Krow.iw {H H':aF}{v:Value}{zs:List Int}(h:Krow H H')(hv:Iw H v zs):Iw H' v zs:=hv.cZ λb hb=>by
 obtain⟨cs,hc⟩:=hv.blk hb;rw[hc,h b cs hc]
section
variable {Hs H : aF} {F : Part → Nat → Prop} {bag : Int} {ev wv nv : Value} {y : Lay} {c : Cfg} {n nw cs cr : Nat} {pv : Value} {m : Nat}
theorem BN.aRc {H':aF}{N:Nat->Prop}(h:BN Hs H F bag ev wv nv y c n nw cs cr pv)(hf:Fr N H H')(hN: ∀b,N b->b<H.length-> ¬Un F b/\Hs.length<=b/\b≠y.nb/\ ¬aT pv b/\ ∀i,1<=i->i<n->b≠y.lb i):BN Hs H' F bag ev wv nv y c n nw cs cr pv:=by
 have hf':Fr (λb=>N b/\b<H.length) H H':=⟨hf.1,λb hb hn=>hf.2 b hb λhh=>hn ⟨hh,hb⟩⟩
 obtain⟨x1,x2⟩:=h.Rx (pv':=pv) (n':=n) hf' λb hb=>⟨(hN b hb.1 hb.2).1,(hN b hb.1 hb.2).2.1⟩
 have hnb:=bU h.nb;refine {h with ext:=x1,sep:=x2,nb:= ?_,ports:=h.ports.cZ λb hb=>hf.2 b (h.ports.dO hb) λhh=>(hN b hh (h.ports.dO hb)).2.2.2.1 hb,lanes:=λi h1 h2=> ?_}
 ·rw[hf.2 _ hnb (λhh=>(hN _ hh hnb).2.2.1 rfl),h.nb]
 ·obtain⟨q1,q2⟩:=h.lanes i h1 h2
  have hl:=bU q1
  exact⟨by rw[hf.2 _ hl (λhh=>(hN _ hh hl).2.2.2.2 i h1 h2 rfl),q1],q2⟩
structure XN (Hs H:aF)(F:Part->Nat->Prop)(y:Lay)(n k xb:Nat)(w:Nat)(lv:Value):Prop where
 blk:H[xb]? =some (.cells [.I w,lv,pt (y.wh n)] 145 .fix)
 xF: ¬Un F xb
 x0:Hs.length<=xb
 rows:Rw (iZ y n) 149 2 H lv (List.range k)
 lvF: ∀b,aT lv b->Hs.length<=b/\ ¬Un F b/\ ∀i,1<=i->i<n->b≠y.lb i
theorem aRd {b:Nat}{a1 a2:Nat}(H:aF):bld prog 149 [(0,pt a1),(1,pt a2)]=some (.agg #[pt a1,pt a2])/\b9 149 2 1 [.pointer none,.pointer none] [(0,.agg #[pt a1,pt a2])] H=some (.slice (some ⟨H.length,0,none⟩) 1 1,H++[.cells [pt a1,pt a2] 149 .row]):=⟨rfl,rfl⟩
theorem aRe {p:PlanD}{pl i w xb len:Nat}{bv:Value}(hok:c.ok)(hpl:Hs[pl]? =some (plB p ev wv nv))(h1:1<=n)(e3:p.room=(c.room:Int))(e9:p.start=(c.start:Int))(hm:50<m){nb:Nat}{Hb:aF}{K:Ex->K (Value×aF)}{Q:aF->Value->Prop}
  (hK: ∀H' F' y' lv,y'.nb=nb->BN Hs H' F' bag ev wv nv y' c n (n+1) c.lanes c.lanes pv->FE F' c n (n+1) c.lanes c.lanes->XN Hs H' F' y' n c.lanes xb w lv->Krow Hb H'-> ∀(x4 qK Aw:Value),∃H2 r,Ow (lvl prog pkN m) (aL m) K (pt pl) x4 (pt nb) (pt xb) bv (.I len) (.I (i:Nat)) qK Aw H'=some (r,H2)/\Q H2 r):
  ∀(q k l:Nat)(H:aF)(F:Part->Nat->Prop)(y:Lay)(lv:Value),c.lanes-k=q->k<=c.lanes->q<l->y.nb=nb->BN Hs H F bag ev wv nv y c n (n+1) k k pv->FE F c n (n+1) k k->XN Hs H F y n k xb w lv->Krow Hb H-> ∀(x4:Value),
  ∃H2 r,aL l (aO prog (lvl prog pkN m) (aL m) Ou) (Oy (lvl prog pkN m) (aL m) K) (aG 2 (some (pt pl)::aG 1 (x4::some (pt nb)::aG 2 (some (pt xb)::aG 38 (bv::some (.I len)::some (.I (i:Nat))::aG 9 (some (.I c.lanes)::some (.I (k:Nat))::aG 63 [])))))) H=some (r,H2)/\Q H2 r:=by
 intro q;induction q with
 |zero=>
  intro k l H F y lv hq hk hl hnb h hfe hx hkr;intros;obtain⟨l,rfl⟩: ∃l',l=l'+1:=⟨l-1,by omega⟩
  have hke:k=c.lanes:=U
  subst hke;have c1:decide ((c.lanes:Int)<(c.lanes:Int))=false:=by simp
  rw[aL,aAY];simp only[gsR,c1];rw[aNa];exact hK H F y lv hnb h hfe hx hkr ..
 |succ q ih=>
  intro k l H F y lv hq hk hl hnb h hfe hx hkr;intros;obtain⟨l,rfl⟩: ∃l',l=l'+1:=⟨l-1,by omega⟩
  have h3:=hok.lanes.2;have hst:=hok.start;have hrm:=hok.room;have hkl:k<c.lanes:=U
  have c1:decide ((k:Int)<(c.lanes:Int))=true:=by rw[decide_eq_true_eq];omega
  have hpH: ∀G:aF,Ext Hs G->G[pl]? =some (plB p ev wv nv):=λG hG=>by rw[hG.2 _ (bU hpl) id,hpl]
  obtain⟨H1,hH1⟩:=aD (H++[iH ⟨c.start,c.start+c.room⟩]);obtain⟨H2,hH2⟩:=aD (H1++[eU ⟨c.start,0⟩ c.room]);have x1:Ext H H1:=by rw[hH1];exact Fr.app _ _ _
  have x2:Ext H1 H2:=by rw[hH2];exact Fr.app _ _ _
  have h1l:H1.length=H.length+1:=by rw[hH1];simp
  have h2l:H2.length=H.length+2:=by rw[hH2];simp;omega
  have g1:=h.snd (hfe (.snd n k) (by unfold qD DnB;omega)) (b:=H.length) rfl
  rw[<-hH1] at g1;have fe1:FE _ c n (n+1) (k+1) k:=hfe.Ir (i:= .snd n k) (G:=InB [(H.length,iH ⟨c.start,c.start+c.room⟩)]) (n':=n) (nw':=n+1) (cs':=k+1) (cr':=k) (show DnB c n (k+1) n k from .inr ⟨rfl,by omega⟩) (λj hj=>by
   cases j<;>simp only[qD] at hj⊢ <;>(try exact hj)<;>(unfold DnB at hj ⊢; omega))
  have g2:=g1.rcv (fe1 (.rcv n k) (by unfold qD DnB;omega)) (b:=H1.length) rfl
  rw[<-hH2] at g2;have fe2:FE _ c n (n+1) (k+1) (k+1):=fe1.Ir (i:= .rcv n k) (G:=InB [(H1.length,eU ⟨c.start,0⟩ c.room)]) (n':=n) (nw':=n+1) (cs':=k+1) (cr':=k+1) (show DnB c n (k+1) n k from .inr ⟨rfl,by omega⟩) (λj hj=>by
   cases j<;>simp only[qD] at hj⊢ <;>(try exact hj)<;>(unfold DnB at hj ⊢; omega))
  obtain⟨F2,hF2⟩:=aD (updI (updI F (.snd n k) (InB [(H.length,iH ⟨c.start,c.start+c.room⟩)])) (.rcv n k) (InB [(H1.length,eU ⟨c.start,0⟩ c.room)]));obtain⟨y2,hy2⟩: ∃y2:Lay,y2={y with sb:=up2 y.sb n k H.length,rb:=up2 y.rb n k H1.length}:=⟨_,rfl⟩;rw[<-hF2] at g2 fe2;have g2:BN Hs H2 F2 bag ev wv nv y2 c n (n+1) (k+1) (k+1) pv:=by rw[hy2];exact g2
  have hun2: ∀b,b<H.length-> ¬Un F b-> ¬Un F2 b:=λb hb hF hu=>by
   rw[hF2] at hu;rcases sV hu with hu|⟨q,hq,rfl⟩
   ·rcases sV hu with hu|⟨q,hq,rfl⟩
    ·exact hF hu
    ·simp only[aUw,aUD,or_false] at hq
     subst hq;simp at hb
   ·simp only[aUw,aUD,or_false] at hq
    subst hq;simp only at hb;omega
  obtain⟨eb,es⟩:=aRd (b:=0) (a1:=H.length) (a2:=H1.length) H2;have hl2:iZ y2 n k=[pt H.length,pt H1.length]:=by
   rw[hy2];unfold iZ;simp only;rw[Iq,Iq]
  have hrow:Rw (iZ y2 n) 149 2 H2 lv (List.range k):=by
   have hk0:=hx.rows.cZ (H':=H2) λb hb=>(x1.tr x2).2 b (hx.rows.dO hb) id
   have em:(List.range k).map (iZ y2 n)=(List.range k).map (iZ y n):=List.map_congr_left λj hj=>by
    have hj:=aUR.mp hj;rw[hy2];unfold iZ;simp only;rw[Ag _ _ U,Ag _ _ U]
   unfold Rw at hk0⊢;rw[em];exact hk0
  have hw1:Rr (iZ y2 n) 149 (H2++[.cells [pt H.length,pt H1.length] 149 .row]) (.slice (some ⟨H2.length,0,none⟩) 1 1) [k]:=by
   have:=wK (el:=iZ y2 n) (e:=149) k H2;rw[hl2] at this;exact this
  obtain⟨H3,hH3⟩:=aD (H2++[Blk.cells [pt H.length,pt H1.length] 149 .row]);have h3l:H3.length=H2.length+1:=by rw[hH3];simp
  obtain⟨lv',H4,k1,k2,k3,k4,k5⟩:=(hrow.uU [Blk.cells [pt H.length,pt H1.length] 149 .row]).wL (aCX y2 n) (aRa y2 n) aC (by':=16) hw1.rs (eD (n:=1000) aC (by simp;omega))
  rw[<-hH3] at k1 k3 k4 k5 es;rw[<-aUM] at k2;have hxl:=bU hx.blk;have hlvx: ¬aT lv xb:=λhh=>by
   obtain⟨cs',hc'⟩:=hx.rows.blk hh;rw[hx.blk] at hc';injection hc' with hc';injection hc' with _ _ h3;cases h3
  have bx2:H2[xb]? =some (.cells [.I w,lv,pt (y.wh n)] 145 .fix):=by rw[(x1.tr x2).2 _ hxl id,hx.blk]
  have bx1:H1[xb]? =some (.cells [.I w,lv,pt (y.wh n)] 145 .fix):=by rw[x1.2 _ hxl id,hx.blk]
  have bx4:H4[xb]? =some (.cells [.I w,lv,pt (y.wh n)] 145 .fix):=by rw[k4 xb U hlvx,hH3,aUg U,bx2]
  have sh:=xV k2;obtain⟨H5,hH5⟩:=aD (H4.set xb (.cells [.I w,lv',pt (y.wh n)] 145 .fix));have st:stN 1 (.Q xb 1) lv' H4=some (undef,H5):=by rw[hH5];exact nI bx4 aC (by simp) sh.1 sh.2
  have hfr:Fr (λb=>b=xb∨aT lv b) H2 H5:=⟨by rw[hH5];simp;omega,λb hb hn=>by
   rw[hH5,aUe (λhh=>hn (.inl hh.symm)),k4 b U (λhh=>hn (.inr hh)),hH3,aUg hb]⟩
  have hnbx:xb≠y.nb:=λhh=>by
   have:=h.nb;rw[<-hh,hx.blk] at this;injection this with this;injection this with _ h2 _
   revert h2
   decide
  have hpvx: ¬aT pv xb:=λhh=>by
   obtain⟨cs',hc'⟩:=h.ports.blk hh;rw[hx.blk] at hc';injection hc' with hc';injection hc' with _ _ h3;cases h3
  have hlbx: ∀i,1<=i->i<n->xb≠y.lb i:=λi a b hh=>by
   have:=(h.lanes i a b).1;rw[<-hh,hx.blk] at this;injection this with this;injection this with _ _ h3;cases h3
  have g5:BN Hs H5 F2 bag ev wv nv y2 c n (n+1) (k+1) (k+1) pv:=by
   refine g2.aRc hfr λb hb hbl=> ?_
   have e1:y2.nb=y.nb:=by rw[hy2]
   have e2:y2.lb=y.lb:=by rw[hy2]
   rw[e1,e2];rcases hb with rfl|hb
   ·exact⟨hun2 _ hxl hx.xF,hx.x0,hnbx,hpvx,hlbx⟩
   ·obtain⟨q1,q2,q3⟩:=hx.lvF b hb
    have hbH:=hx.rows.dO hb;refine⟨hun2 _ hbH q2,q1,λhh=> ?_,λhh=> ?_,q3⟩
    ·obtain⟨cs',hc'⟩:=hx.rows.blk hb
     rw[hh,h.nb] at hc';injection hc' with hc';injection hc' with _ _ h3;cases h3
    ·obtain⟨cs',hc'⟩:=hx.rows.blk hb
     obtain⟨cs2,hc2⟩:=h.ports.blk hh;rw[hc'] at hc2;injection hc2 with hc2;injection hc2 with _ h2 _
     revert h2
     decide
  have hwh:y2.wh=y.wh:=by rw[hy2]
  have hlv'x: ¬aT lv' xb:=λhh=>by
   rcases k5 xb hh with hh|hh
   ·exact hlvx hh
   ·omega
  have hx5:XN Hs H5 F2 y2 n (k+1) xb w lv':=by
   refine⟨by rw[hwh,hH5];exact dN bx4,hun2 _ hxl hx.xF,hx.x0,k2.cZ λb hb=>by rw[hH5];exact aUe λhh=>hlv'x (by rw[hh];exact hb),λb hb=> ?_⟩
   have e2:y2.lb=y.lb:=by rw[hy2]
   rw[e2];have hsl:=h.ext.1;rcases k5 b hb with hb|hb
   ·obtain⟨q1,q2,q3⟩:=hx.lvF b hb
    exact⟨q1,hun2 _ (hx.rows.dO hb) q2,q3⟩
   ·refine⟨by omega,λhu=>by have:=g2.sep.oB b hu;omega,λi a b' hh=> ?_⟩
    have:=bU (h.lanes i a b').1;omega
  have hp0:=hpH H h.ext;have hp1:=hpH H1 (h.ext.tr x1);have l9:ld1 (.Q pl 9) H=some (.int .u16 c.start,H):=by rw[cQ hp0 9 (.int .u16 p.start) rfl,e9]
  have l3:ld1 (.Q pl 3) H=some (.I c.room,H):=by rw[cQ hp0 3 (.I p.room) rfl,e3]
  have l9':ld1 (.Q pl 9) H1=some (.int .u16 c.start,H1):=by rw[cQ hp1 9 (.int .u16 p.start) rfl,e9]
  have l3':ld1 (.Q pl 3) H1=some (.I c.room,H1):=by rw[cQ hp1 3 (.I p.room) rfl,e3]
  have ecs:IntKind.u64.wrap (c.start:Int)=(c.start:Int):=zQ _ U
  have s1:=aN1 (H:=H) (m:=m) U c.start c.room hst hrm
  have s2:=aNY (H:=H1) (m:=m) U c.start c.room hst hrm
  rw[<-hH1] at s1;rw[<-hH2] at s2;have lx:ld1 (.pointer (some ⟨xb,1,none⟩)) H=some (lv,H):=bA hx.blk rfl;have lx1:ld1 (.pointer (some ⟨xb,1,none⟩)) H1=some (lv,H1):=bA bx1 rfl;have lx2:ld1 (.pointer (some ⟨xb,1,none⟩)) H2=some (lv,H2):=bA bx2 rfl;have lvc:=λG=>aDg hx.rows G
  have ek:=mC k U
  rw[aL,aAY];simp only[gsR,c1,lx,l9,l3,dJ _ _ kK o6,ecs,s1,lx1,lvc,l9',Cx,l3',s2,lx2,eb,es,k1,st,aV,ek];refine ih (k+1) l H5 F2 y2 lv' U U U (by rw[hy2];exact hnb) g5 fe2 hx5 (λb cs hb=> ?_) ..
  have hb2:=(hkr.ext (x1.tr x2)) b cs hb;rw[hfr.2 b (bU hb2) (λhh=> ?_),hb2]
  rcases hh with rfl|hh
  ·rw[bx2] at hb2
   injection hb2 with hb2;injection hb2 with _ _ h3;cases h3
  ·obtain⟨cs',hc'⟩:=hrow.blk hh
   rw[hb2] at hc';injection hc' with hc';injection hc' with _ h2 _
   revert h2
   decide
end
theorem Sep.aRg {ι:Type}{A:ι->aF->Prop}{F:ι->Nat->Prop}{H:aF}(h:Sep A F H)(i:ι)(hi: ∀b,¬F i b){B:aF->Prop}{G:Nat->Prop}(hB:Has B G H)(hd: ∀b,G b-> ¬Un F b):Sep (updI A i B) (updI F i G) H:=by
 refine⟨λj=> ?_,λj k b hj hk=> ?_⟩
 ·by_cases hji:j=i
  ·rw[hji,eY,eY]
   exact hB
  ·rw[cM _ _ hji,cM _ _ hji]
   exact h.own j
 ·by_cases hji:j=i
  ·by_cases hki:k=i
   ·rw[hji,hki]
   ·rw[hji,eY] at hj
    rw[cM _ _ hki] at hk;exact absurd ⟨k,hk⟩ (hd b hj)
  ·rw[cM _ _ hji] at hj
   by_cases hki:k=i
   ·rw[hki,eY] at hk
    exact absurd ⟨j,hj⟩ (hd b hk)
   ·rw[cM _ _ hki] at hk
    exact h.sep j k b hj hk
section
variable {Hs H : aF} {F : Part → Nat → Prop} {bag : Int} {ev wv nv : Value} {y : Lay} {c : Cfg} {n nw cs cr : Nat} {pv : Value} {m : Nat}
theorem C8 (hn:1<=n)(i k:Nat):DnB c n c.lanes i k↔DnB c (n+1) 0 i k:=by
 unfold DnB
 constructor<;>intro h<;>omega
theorem BN.aRf {w xb:Nat}{lv:Value}(h:BN Hs H F bag ev wv nv y c n (n+1) c.lanes c.lanes pv)(hfe:FE F c n (n+1) c.lanes c.lanes)(hx:XN Hs H F y n c.lanes xb w lv)(hn:1<=n)(hn6:n<=6)(hl:1<=c.lanes)(hw:w=fZ c n):
  ∃y' pv' H3 H4 H',y'.nb=y.nb/\b9 145 3 1 [.I 0,.N,.pointer none] [(0,.agg #[.I w,lv,pt (y.wh n)])] H=some (.slice (some ⟨H.length,0,none⟩) 1 1,H3)/\Go.Abs.app 145 3 40 pv (.slice (some ⟨H.length,0,none⟩) 1 1) H3=some (pv',H4)/\
   stN 1 (.Q y.nb 13) pv' H4=some (undef,H')/\BN Hs H' F bag ev wv nv y' c (n+1) (n+1) 0 0 pv'/\FE F c (n+1) (n+1) 0 0/\Krow H H':=by
 obtain⟨b,cap,rest,hlv,hcap,hlb⟩: ∃b cap rest,lv= .slice (some ⟨b,0,none⟩) c.lanes cap/\c.lanes<=cap/\H[b]? =some (.cells (((List.range c.lanes).map (iZ y n)).flatten++rest) 149 .row):=by
  obtain⟨_,⟨_,h0⟩|⟨c',cap,rest,h1,h2,_,h3⟩⟩:=hx.rows
  ·rw[aUH] at h0
   omega
  ·rw[aUH] at h1 h2
   exact⟨c',cap,rest,h1,h2,h3⟩
 obtain⟨y',hy'⟩: ∃y':Lay,y'={y with lb:=up1 y.lb n b,lcap:=up1 y.lcap n cap,lrest:=up1 y.lrest n rest}:=⟨_,rfl⟩;have hbF:=hx.lvF b (by rw[hlv];exact⟨_,_,_,rfl⟩)
 have hpo: ∀i,i<n->dK y' c i=dK y c i:=λi hi=>by
  rw[hy'];unfold dK jX;simp only;rw[lE _ _ U,lE _ _ U]
 have hpn:dK y' c n=[.I w,lv,pt (y.wh n)]:=by
  rw[hy',hw,hlv];unfold dK jX;simp only;rw[if_neg U,lT,lT]
 have hrw:Rw (dK y' c) 145 3 H pv (List.range n):=by
  have:=h.ports;unfold Rw at this⊢;rw[List.map_congr_left λi hi=>hpo i (aUR.mp hi)]
  exact this
 have eb:b9 145 3 1 [.I 0,.N,.pointer none] [(0,.agg #[.I w,lv,pt (y.wh n)])] H=some (.slice (some ⟨H.length,0,none⟩) 1 1,H++[.cells [.I w,lv,pt (y.wh n)] 145 .row]):=by
  rw[hlv];rfl
 have hw1:Rr (dK y' c) 145 (H++[.cells [.I w,lv,pt (y.wh n)] 145 .row]) (.slice (some ⟨H.length,0,none⟩) 1 1) [n]:=by
  have:=wK (el:=dK y' c) (e:=145) n H;rw[hpn] at this;exact this
 obtain⟨pv',H4,k1,k2,k3,k4,k5⟩:=(hrw.uU [Blk.cells [.int .i64 w,lv,pt (y.wh n)] 145 .row]).wL (C3 y' c) (aDp y' c) aC (by':=40) hw1.rs (eD (n:=1000) aC (by simp;omega))
 rw[<-aUM] at k2;have hlen:(H++[Blk.cells [.int .i64 w,lv,pt (y.wh n)] 145 .row]).length=H.length+1:=by simp
 rw[hlen] at k3 k4 k5;have hnl:=bU h.nb;have hnpv: ¬aT pv y.nb:=λhh=>by
  obtain⟨cs',hc'⟩:=h.ports.blk hh;rw[h.nb] at hc';injection hc' with hc';injection hc' with _ _ h3;cases h3
 have bn4:H4[y.nb]? =some (qC bag ev wv nv y c pv):=by rw[k4 _ U hnpv,aUg hnl,h.nb]
 have sh:=xV k2;have st:stN 1 (.Q y.nb 13) pv' H4=some (undef,H4.set y.nb (qC bag ev wv nv y c pv')):=nI bn4 aC (by simp) sh.1 sh.2
 have hfr:Fr (λb=>b=y.nb∨aT pv b) H (H4.set y.nb (qC bag ev wv nv y c pv')):=⟨by simp;omega,λb hb hn=>by
  rw[aUe (λhh=>hn (.inl hh.symm)),k4 b U (λhh=>hn (.inr hh)),aUg hb]⟩
 have hNF: ∀b,(b=y.nb∨aT pv b)-> ¬Un F b/\Hs.length<=b:=λb hb=>by
  rcases hb with rfl|hb
  ·exact⟨h.nbF,h.nb0⟩
  ·exact⟨(h.pvF b hb).2,(h.pvF b hb).1⟩
 obtain⟨x1,x2⟩:=h.Rx (pv':=pv) (n':=n) hfr hNF;have hlkeep: ∀(a:Nat)(cs':List Value),H[a]? =some (.cells cs' 149 .row)->(H4.set y.nb (qC bag ev wv nv y c pv'))[a]? =some (.cells cs' 149 .row):=λa cs' ha=>by
  rw[hfr.2 a (bU ha) (λhh=> ?_),ha]
  rcases hh with rfl|hh
  ·rw[h.nb] at ha
   injection ha with ha;injection ha with _ _ h3;cases h3
  ·obtain⟨cs2,hc2⟩:=h.ports.blk hh
   rw[ha] at hc2;injection hc2 with hc2;injection hc2 with _ h2 _
   revert h2
   decide
 have hpvn: ¬aT pv' y.nb:=λhh=>by
  rcases k5 _ hh with hh|hh
  ·exact hnpv hh
  ·omega
 have hsl:=h.ext.1;refine⟨y',pv',_,H4,_,by rw[hy'],eb,k1,st,?_,λj hj=>hfe j λhd=>hj ?_,λb cs hb=> ?_⟩
 ·refine⟨x1,x2.wN λj D hD=> ?_,h.new,?_,by rw[hy'];exact h.nbF,by rw[hy'];exact h.nb0,k2.cZ λb hb=>aUe λhh=>hpvn (by rw[hh];exact hb),λb hb=> ?_,λi h1 h2=> ?_,λi j a1 a2 a3 a4 he=> ?_,by rw[hy'];exact h.ww⟩
  ·rw[hy']
   cases j with
   |snd i k=>
    simp only[jB] at hD⊢;by_cases hd:DnB c n c.lanes i k
    ·rw[if_pos hd] at hD
     rw[if_pos ((C8 hn i k).mp hd)];exact hD
    ·rw[if_neg hd] at hD
     rw[if_neg (λhh=>hd ((C8 hn i k).mpr hh))]
     exact hD
   |rcv i k=>
    simp only[jB] at hD⊢;by_cases hd:DnB c n c.lanes i k
    ·rw[if_pos hd] at hD
     rw[if_pos ((C8 hn i k).mp hd)];exact hD
    ·rw[if_neg hd] at hD
     rw[if_neg (λhh=>hd ((C8 hn i k).mpr hh))]
     exact hD
   |_=>exact hD
  ·rw[hy']
   exact dN bn4
  ·rcases k5 b hb with hb|hb
   ·exact h.pvF b hb
   ·exact⟨by omega,λhu=>by have:=h.sep.oB b hu;omega⟩
  ·by_cases hin:i=n
   ·subst hin
    have e1:y'.lb i=b:=by rw[hy'];exact lT _ _ _
    have e2:y'.lcap i=cap:=by rw[hy'];exact lT _ _ _
    have e3:mE y' c i= .cells (((List.range c.lanes).map (iZ y i)).flatten++rest) 149 .row:=by
     rw[hy'];unfold mE;simp only;rw[lT];rfl
    rw[e1,e2,e3]
    exact⟨hlkeep _ _ hlb,hbF.1,hbF.2.1,hcap⟩
   ·obtain⟨q1,q2,q3,q4⟩:=h.lanes i h1 U
    have e1:y'.lb i=y.lb i:=by rw[hy'];exact lE _ _ hin
    have e2:y'.lcap i=y.lcap i:=by rw[hy'];exact lE _ _ hin
    have e3:mE y' c i=mE y c i:=by
     rw[hy'];unfold mE;simp only;rw[lE _ _ hin];rfl
    rw[e1,e2,e3]
    exact⟨hlkeep _ _ q1,q2,q3,q4⟩
  ·have e1: ∀i,y'.lb i=up1 y.lb n b i:=λi=>by rw[hy']
   rw[e1,e1] at he;by_cases hi:i=n
   ·by_cases hj:j=n
    ·rw[hi,hj]
    ·rw[hi,lT,lE _ _ hj] at he
     exact absurd he (hbF.2.2 j a3 U)
   ·by_cases hj:j=n
    ·rw[hj,lT,lE _ _ hi] at he
     exact absurd he.symm (hbF.2.2 i a1 U)
    ·rw[lE _ _ hi,lE _ _ hj] at he
     exact h.lne i j a1 U a3 U he
 ·cases j<;>simp only[qD] at hd⊢ <;>(try exact hd)<;>exact(C8 hn _ _).mp hd
 ·rw[hfr.2 b (bU hb) (λhh=> ?_),hb]
  rcases hh with rfl|hh
  ·rw[h.nb] at hb
   injection hb with hb;injection hb with _ _ h3;cases h3
  ·obtain⟨cs2,hc2⟩:=h.ports.blk hh
   rw[hb] at hc2;injection hc2 with hc2;injection hc2 with _ h2 _
   revert h2
   decide
end
end Go.Proofs.YtciiopkbmjppfaaGreatDoor
