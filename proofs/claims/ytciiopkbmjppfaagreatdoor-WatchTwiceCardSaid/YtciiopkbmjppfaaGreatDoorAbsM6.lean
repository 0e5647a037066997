/-
  PARTS OF THIS CLAIM'S PROOF, laid together by a program of mine.
-/
import Derived.Test.YtciiopkbmjppfaaGreatDoorAbsM5
set_option linter.unusedVariables false
set_option linter.unusedSimpArgs false
set_option linter.unusedSectionVars false
set_option maxRecDepth 100000
namespace Go.Proofs.YtciiopkbmjppfaaGreatDoor.Rg
open Go.Proofs.Tryz
open Go.Abs Go.Abs.M
section
variable {H : aG} {a n ports lanes m : Nat} {L : List En}
theorem RI.aOj {p s mb:Nat}{l:List fN}{top free:Int}{fl:List Nat}{f:gV->Option Value}(hi:RI H a L n ports lanes p s mb l top free fl f){b:Nat}{y x:Pkt}(hb:H[b]? =some (pkB y))(hq: ∀(i q:Nat)(z:Pkt)(d:Int),l[i]? =some (some (q,z),d)->q≠b):
  RI (H.set b (pkB x)) a L n ports lanes p s mb l top free fl f:=by
 have keep: ∀(c:Nat)(z:Blk),H[c]? =some z->(∀cs,z≠ .cells cs 31 .fix)->(H.set b (pkB x))[c]? =some z:=λc z hc hz=>by
  rw[kX (λhh=>by subst hh;rw[hb] at hc;cases hc;exact hz _ rfl),hc]
 refine⟨keep _ _ hi.hd (λcs hh=>by cases hh),⟨⟨keep _ _ hi.pool.pool.hp (λcs hh=>by cases hh),keep _ _ hi.pool.pool.hs (λcs hh=>by cases hh),λi q z d hl=>by
  rw[kX (hq i q z d hl),hi.pool.pool.hq i q z d hl]⟩,hi.pool.chain,hi.pool.nodup,hi.pool.full,hi.pool.cnt,hi.pool.len⟩,hi.len,hi.cnt,hi.nd,hi.full,?_,hi.no,λw v hv=>⟨?_,(hi.yes w v hv).2⟩,hi.sep,hi.b1,hi.b2⟩
 ·obtain⟨es,c,h1,h2⟩:=hi.mp
  exact⟨es,c,keep _ _ h1 (λcs hh=>by cases hh),h2⟩
 ·refine(hi.yes w v hv).1.rS λc hc=> ?_
  obtain⟨xs,hx⟩:=(hi.yes w v hv).1.blk hc;rw[hx];exact keep _ _ hx (λcs hh=>by cases hh)
theorem aOk (h:IsRings H a L n ports lanes)(hm:100<m)(i o k:Int)(hp:lR L (i,o,k)=[]):
  ∃H',lvl prog pk8 m (.func 132) [.Q a 0,.I i,.I o,.I k] H=some (tH [],H')/\Ext H H':=by
 obtain⟨H1,g1,g2⟩:=aBN (h.app [pkB pk0]) (m:=m-1) U i o k
 rw[hp] at g1;have hv:tH []= .tuple #[pk0.cF,.bool false]:=rfl;rw[hv] at g1;have hb0:H1[H.length]? =some (pkB pk0):=by rw[g2.2 H.length (by simp) id];simp
 have hl1:H.length<H1.length:=by have:=g2.1;simp at this;omega
 have hst:stN 4 (.Q H1.length 0) pk0.cF (H1++[pkB pk0])=some (undef,H1++[pkB pk0]):=Qi H1 pk0;have hld:ldN 4 (.Q H1.length 0) (H1++[pkB pk0])=some (pk0.cF,H1++[pkB pk0]):=vE (by simp)
 have hb1:(H1++[pkB pk0])[H.length]? =some (pkB pk0):=by rw[aSZ hl1,hb0]
 have hst2:stN 4 (.Q H.length 0) pk0.cF (H1++[pkB pk0])=some (undef,H1++[pkB pk0]):=by
  rw[Qj (y:=pk0) hb1,Df hb1]
 have hld2:ldN 4 (.pointer (some ⟨H.length,0,none⟩)) (H1++[pkB pk0])=some (pk0.cF,H1++[pkB pk0]):=vE hb1;refine⟨H1++[pkB pk0],aV (aQ rfl) U ?_,⟨by simp;omega,λb hb _=> ?_⟩⟩
 ·rw[P3]
  simp -implicitDefEqProofs only[gsB,wU,x_newB,g1,ext_0,ext_1,hst,hld,hst2,hld2,r_opt,ob_some,iteV_false,oneOf_two];rfl
 ·rw[aSZ U,g2.2 b (by simp;omega) id,aSZ hb]
theorem aOl (h:IsRings H a L n ports lanes)(hm:100<m)(i o k:Int){x:Pkt}{xs:List Pkt}(hp:lR L (i,o,k)=x::xs):
    ∃H',lvl prog pk8 m (.func 132) [.Q a 0,.I i,.I o,.I k] H=some (.tuple #[x.cF,.bool true],H')/\Ch AR H H'/\IsRings H' a (lB L (i,o,k)) n ports lanes:=by
  obtain⟨H1,g1,g2⟩:=aBN (h.app [pkB pk0]) (m:=m-1) U i o k
  rw[hp] at g1;have hv:tH (x::xs)= .tuple #[x.cF,.bool true]:=rfl;rw[hv] at g1;obtain⟨w,hw⟩: ∃w:gV,w=(i,o,k):=⟨_,rfl⟩;obtain⟨p,s,mb,l,top,free,fl,f,hi0⟩:=h;have hqlt: ∀(j q:Nat)(z:Pkt)(d:Int),l[j]? =some (some (q,z),d)->q<H.length:=λj q z d hl=>(aSW.mp (hi0.pool.pool.hq j q z d hl)).1
  have hl1:H.length<H1.length:=by have:=g2.1;simp at this;omega
  have hi1:RI H1 a L n ports lanes p s mb l top free fl f:=hi0.Gw λb y hb _=>by
    have hlt:=(aSW.mp hb).1;rw[g2.2 b (by simp;omega) id,aSZ hlt,hb]
  have hb0:H1[H.length]? =some (pkB pk0):=by rw[g2.2 H.length (by simp) id];simp
  obtain⟨WB,hWB⟩: ∃WB:Blk,WB= .cells [.int .i64 i,.int .i64 o,.int .i64 k] 189 .fix:=⟨_,rfl⟩;obtain⟨H5,hH5⟩:=aD (H1++[pkB x]++[WB]);have hst1:stN 4 (.pointer (some ⟨H1.length,0,none⟩)) x.cF (H1++[pkB pk0])=some (undef,H1++[pkB x]):=Qi H1 x;have hst2:=Qk (i,o,k) (H1++[pkB x]);simp only at hst2;rw[<-hWB,<-hH5] at hst2;have hi:RI H5 a L n ports lanes p s mb l top free fl f:=by rw[hH5];exact(hi1.app _).app _
  have hc5:Ch AR H H5:=by
    refine(Ch.app AR H [pkB pk0]).wA ((Ch.ext g2).wA ?_);rw[hH5,aS3];exact Ch.app _ _ _
  have at0:H5[H.length]? =some (pkB pk0):=by rw[hH5,aS3,aSZ hl1,hb0]
  have at4:H5[H1.length]? =some (pkB x):=by rw[hH5,aS3,aTg (aS1 _)];simp
  have atW:H5[(H1++[pkB x]).length]? =some WB:=by rw[hH5,uH]
  have l0:=hi.ld0;have l1:=hi.ld1;have hldw:ldN 3 (.Q ((H1++[pkB x]).length) 0) H5=some (kO (i,o,k),H5):=zK (by rw[atW,hWB])
  -- the queue
  obtain⟨v,hf⟩: ∃v,f w=some v:=by
    cases hf:f w with
    |some v=>exact⟨v,rfl⟩
    |none=>
      have:=hi.no w hf;have h2:=Qf L w;rw[this,hw,hp] at h2;simp at h2
  have hg:=hi.mp.wW vD w (.N);rw[hf] at hg;simp only[aTp] at hg;obtain⟨hr,hne⟩:=hi.yes w v hf;obtain⟨k0,ks,hq⟩: ∃k0 ks,qOf L w=k0::ks:=by
    cases hx:qOf L w with
    |nil=>exact absurd hx hne
    |cons a b=>exact⟨a,b,rfl⟩
  obtain⟨x',xs',hp',hin,hlen,hrest⟩:=Qc hq;rw[hw,hp] at hp';cases hp';rw[hq] at hr;obtain⟨bb,oo,a1,a2,a3⟩:=hr.Wy (i:=0) (x:=j8 k0) rfl .i64;have a1':cQ 1 v (.I 0)=some (.Q bb oo):=a1;have hk0:j8 k0= .I k0:=rfl;obtain⟨q0,d0,hslot⟩:=hi.full _ hin;obtain⟨H6,hd,hM6,hmore⟩:=hi.pool.aN4 (pr:=pk8) (aQ rfl) (aQ rfl) (m:=m-1) U k0 (q0,x) d0 hslot
  have keep6:=hi.aBP hmore.same;have c6:Ch AR H5 H6:=⟨hmore.len,λb y hy hn'=>keep6 b y hy (λcs hh=>hn' (by rw[hh];exact .inl ⟨rfl,rfl⟩)) (λcs hh=>hn' (by rw[hh];exact .inr (.inl ⟨rfl,rfl⟩)))⟩
  have hd6:=keep6 _ _ hi.hd (λcs hh=>by cases hh) (λcs hh=>by cases hh)
  have l16:ld1 (.Q a 1) H6=some (.map (some mb),H6):=by rw[fJ,hd6];rfl
  have at06:=keep6 _ _ at0 (λcs hh=>by cases hh) (λcs hh=>by cases hh)
  have at46:=keep6 _ _ at4 (λcs hh=>by cases hh) (λcs hh=>by cases hh)
  have atW6:H6[(H1++[pkB x]).length]? =some WB:=keep6 _ _ atW (λcs hh=>by rw[hWB] at hh;cases hh) (λcs hh=>by rw[hWB] at hh;cases hh)
  have hldw6:ldN 3 (.Q ((H1++[pkB x]).length) 0) H6=some (kO (i,o,k),H6):=zK (by rw[atW6,hWB])
  have hm6:IsMap kO H6 mb f:=by
    obtain⟨es,c,e1,e2⟩:=hi.mp
    exact⟨es,c,keep6 _ _ e1 (λcs hh=>by cases hh) (λcs hh=>by cases hh),e2⟩
  have hq6: ∀w' v',f w'=some v'->RowO 3 H6 v' ((qOf L w').map j8):=λw' v' hf'=>by
    have:=(hi.yes w' v' hf').1;refine this.rS λb hb=> ?_
    obtain⟨ys,hys⟩:=this.blk hb;rw[hys,keep6 _ _ hys (λcs hh=>by cases hh) (λcs hh=>by cases hh)]
  have hg6:=hm6.wW vD w (.N);rw[hf] at hg6;simp only[aTp] at hg6;have hr6:=hq6 w v hf;rw[hq] at hr6;obtain⟨v',hcut,hrow',hhome⟩:=RowO.aHs (P:=prog) (x:=j8 k0) (cs:=ks.map j8) hr6 szI;obtain⟨X,hset,hm7,⟨xe,xc,hX⟩⟩:=hm6.aOb vD w v' (by rw[hf];simp)
  obtain⟨H7,hH7⟩:=aD (H6.set mb X);rw[<-hH7] at hset hm7;have hmb6: ∃es c,H6[mb]? =some (.map es c):=by
    obtain⟨es,c,e1,e2⟩:=hm6
    exact⟨_,_,e1⟩
  have k67: ∀(b:Nat)(cs:List Value)(e:TypeId)(kk:Kind),H6[b]? =some (.cells cs e kk)->H7[b]? =some (.cells cs e kk):=λb cs e kk hb=>by
    have hne:b≠mb:=λhh=>by
      subst hh;obtain⟨es,c,e1⟩:=hmb6;rw[hb] at e1;cases e1
    rw[hH7,kX hne,hb]
  have len7:H7.length=H6.length:=by rw[hH7];simp
  have l17:ld1 (.Q a 1) H7=some (.map (some mb),H7):=by rw[fJ,k67 _ _ _ _ hd6];rfl
  have hldw7:ldN 3 (.Q ((H1++[pkB x]).length) 0) H7=some (kO (i,o,k),H7):=zK (by rw[hWB] at atW6;rw[k67 _ _ _ _ atW6])
  have hg7:=hm7.wW vD w (.N);have hupd:upd f w (some v') w=some v':=by unfold upd;rw[if_pos rfl]
  rw[hupd] at hg7;simp only[aTp] at hg7;have hlen':=hrow'.K0;have c7:Ch AR H6 H7:=by
    obtain⟨es,c,e1⟩:=hmb6;rw[hH7];exact Ch.Wx e1 trivial _
  -- the ending: from a heap H8 that is H7 but for the map
  have fin: ∀(H8:aG)(f8:gV->Option Value),Ch AR H7 H8->(∀(b:Nat)(cs:List Value)(e:TypeId)(kk:Kind),H6[b]? =some (.cells cs e kk)->H8[b]? =some (.cells cs e kk))->H6.length<=H8.length->IsMap kO H8 mb f8->
      (∀w',w'≠w->f8 w'=f w')->(f8 w=some v'/\ks≠[]∨f8 w=none/\ks=[])->
      ldN 4 (.Q H1.length 0) H8=some (x.cF,H8)/\stN 4 (.Q H.length 0) x.cF H8=some (undef,H8.set H.length (pkB x))/\ldN 4 (.Q H.length 0) (H8.set H.length (pkB x))=some (x.cF,H8.set H.length (pkB x))/\Ch AR H (H8.set H.length (pkB x))/\IsRings (H8.set H.length (pkB x)) a (lB L w) n ports lanes:=by
    intro H8 f8 c8 k68 hl8 hm8 hoth hself;have at48:=k68 _ _ _ _ at46;have at08:=k68 _ _ _ _ at06;have at08':H8[H.length]? =some (pkB pk0):=at08;have hlt8:=(aSW.mp at08).1;refine⟨vE at48,Qj at08',vE (aS2 hlt8),?_,?_⟩
    · refine⟨by simp;omega,λb y hy hn'=> ?_⟩
      have hltb:=(aSW.mp hy).1;rw[kX U]
      exact(((hc5.wA c6).wA c7).wA c8).2 b y hy hn'
    · have hRI:RI H8 a (lB L w) n ports lanes p s mb (l.set k0 (none,top)) k0 (free+1) (k0::fl) f8:=by
        refine⟨k68 _ _ _ _ hd6,hM6.aBM λb cs e kk hb _=>k68 b cs e kk hb,by simp[hi.len],by have:=hi.cnt;simp;omega,?_,?_,hm8,?_,?_,?_,hi.b1,hi.b2⟩
        · exact(List.Sublist.map _ (List.eraseP_sublist)).nodup hi.nd
        · intro e he
          obtain⟨h1,h2⟩:=hrest e he;obtain⟨q',d',hs⟩:=hi.full e h1
          exact⟨q',d',by rw[aSX (λhh=>h2 hi.nd hh.symm),hs]⟩
        · intro w' hw'
          by_cases hww:w'=w
          · subst hww
            rw[Cb,if_pos rfl,hq];rcases hself with⟨h1,_⟩|⟨_,h2⟩
            · rw[h1] at hw';cases hw'
            · exact h2
          · rw[hoth w' hww] at hw'
            rw[Cb,if_neg (λhh=>hww hh.symm)]
            exact hi.no w' hw'
        · intro w' u hw'
          by_cases hww:w'=w
          · subst hww
            rw[Cb,if_pos rfl,hq];rcases hself with⟨h1,h2⟩|⟨h1,_⟩
            · rw[h1] at hw'
              cases hw';refine⟨hrow'.rS λb hb=> ?_,h2⟩
              obtain⟨ys,hys⟩:=hrow'.blk hb;rw[hys,k68 _ _ _ _ hys]
            · rw[h1] at hw';cases hw'
          · rw[hoth w' hww] at hw'
            rw[Cb,if_neg (λhh=>hww hh.symm)]
            refine⟨(hq6 w' u hw').rS λb hb=> ?_,(hi.yes w' u hw').2⟩
            obtain⟨ys,hys⟩:=(hq6 w' u hw').blk hb;rw[hys,k68 _ _ _ _ hys]
        · intro w1 w2 v1 v2 b hf1 hf2 hne' hh1 hh2
          by_cases e1:w1=w
          · rw[hoth w2 (λhh=>hne' (e1.trans hh.symm))] at hf2
            rw[e1] at hf1;rcases hself with⟨h1,_⟩|⟨h1,_⟩
            · rw[h1] at hf1
              cases hf1;exact hi.sep w w2 v v2 b hf hf2 (by rw[<-e1];exact hne') (hhome b hh1) hh2
            · rw[h1] at hf1;cases hf1
          · rw[hoth w1 e1] at hf1
            by_cases e2:w2=w
            · rw[e2] at hf2
              rcases hself with⟨h1,_⟩|⟨h1,_⟩
              · rw[h1] at hf2
                cases hf2;exact hi.sep w1 w v1 v b hf1 hf e1 hh1 (hhome b hh2)
              · rw[h1] at hf2;cases hf2
            · rw[hoth w2 e2] at hf2
              exact hi.sep w1 w2 v1 v2 b hf1 hf2 hne' hh1 hh2
      refine⟨_,_,_,_,_,_,_,_,hRI.aOj at08' λj q z d hl=> ?_⟩
      by_cases hj:k0=j
      · subst hj
        have hlt:=(aSW.mp hslot).1;rw[aS2 hlt] at hl;cases hl
      · rw[aSX hj] at hl
        have:=hqlt j q z d hl;omega
  rw[hw] at hg hg6 hset hg7;cases hks:ks with
  |nil=>
    subst hks;have e1:((([]:List Nat).map j8).length:Int)=0:=rfl;have e2:((((([]:List Nat).map j8).length:Nat):Int)==0)=true:=rfl;obtain⟨X8,hdel,hm8,⟨ye,yc,hX8⟩⟩:=hm7.aN9 vD w (by rw[hupd];simp)
    have hmb7: ∃es c,H7[mb]? =some (.map es c):=by
      obtain⟨es,c,e1,e2⟩:=hm7
      exact⟨_,_,e1⟩
    obtain⟨r1,r2,r3,r4,r5⟩:=fin (H7.set mb X8) _ (by
      obtain⟨es,c,e1⟩:=hmb7;exact Ch.Wx e1 trivial _) (λb cs e kk hb=>by
        have h7:=k67 b cs e kk hb;have hne:b≠mb:=λhh=>by
          subst hh;obtain⟨es,c,e1⟩:=hmb7;rw[h7] at e1;cases e1
        rw[kX hne,h7]) (by simp[len7]) hm8 (λw' hww=>by simp[upd,hww]) (.inr ⟨by simp[upd],rfl⟩)
    rw[hw] at hdel r5;refine⟨_,aV (aQ rfl) U ?_,r4,r5⟩
    rw[P3];simp -implicitDefEqProofs only[gsB,wU,x_newB,g1,ext_0,ext_1,hst1,bW,hst2,r_nil,r_fAddr,aTh,l0,l1,hldw,hg,a1',a3 H5 rfl,hk0,hd,l16,hldw6,hg6,hcut,hset,l17,hldw7,hg7,hlen',b_eql,e2,hdel,r1,r2,r3,r_opt,ob_some,ifB_true,iteV_true,oneOf_two]
  |cons k1 ks1=>
    subst hks;have e2:(((((k1::ks1).map j8).length:Nat):Int)==0)=false:=by simp;omega
    obtain⟨r1,r2,r3,r4,r5⟩:=fin H7 _ (Ch.aHq _ _) k67 U hm7 (λw' hww=>by simp[upd,hww]) (.inl ⟨hupd,by simp⟩)
    rw[hw] at r5;refine⟨_,aV (aQ rfl) U ?_,r4,r5⟩
    rw[P3];simp -implicitDefEqProofs only[gsB,wU,x_newB,g1,ext_0,ext_1,hst1,bW,hst2,r_nil,r_fAddr,aTh,l0,l1,hldw,hg,a1',a3 H5 rfl,hk0,hd,l16,hldw6,hg6,hcut,hset,l17,hldw7,hg7,hlen',b_eql,e2,r1,r2,r3,r_opt,ob_some,ifB_true,iteV_true,iteV_false,oneOf_two]
end
section
variable {H : aG} {a n ports lanes m : Nat} {L : List En}
theorem aOn (h:IsRings H a L n ports lanes)(hm:100<m)(w:gV)(x:Pkt): ∃H' L',lvl prog pk8 m (.func 124) [.Q a 0,.I w.1,.I w.2.1,.I w.2.2,x.cF] H=some (.bool (pV w ports lanes&&decide (L.length<n)),H')/\Ch AR H H'/\IsRings H' a L' n ports lanes/\
  ((pV w ports lanes&&decide (L.length<n))=true/\(∃k,L'=L++[(w,k,x)])∨(pV w ports lanes&&decide (L.length<n))=false/\L'=L):=by
 by_cases hv:(pV w ports lanes&&decide (L.length<n))=true
 ·rw[aS4,decide_eq_true_eq] at hv
  obtain⟨H',k,g1,g2,g3⟩:=aOi h hm w x hv.1 hv.2;rw[hv.1,aTG hv.2]
  exact⟨H',_,g1,g2,g3,.inl ⟨rfl,k,rfl⟩⟩
 ·have hf:(pV w ports lanes&&decide (L.length<n))=false:=by simpa using hv
  obtain⟨H',g1,g2⟩:=aOh h hm w x (by
   rw[Bool.and_eq_false_iff] at hf;exact hf.imp id λh=>by have:=of_decide_eq_false h;omega)
  rw[hf];have hc:Ch AR H H':=Ch.ext g2;obtain⟨p,s,mb,l,top,free,fl,f,hi⟩:=h
  exact⟨H',L,g1,hc,⟨p,s,mb,l,top,free,fl,f,hi.Gw λb x hx _=>by rw[g2.2 b (aSW.mp hx).1 id,hx]⟩,.inr ⟨rfl,rfl⟩⟩
theorem IsRings.ext {H':aG}(h:IsRings H a L n ports lanes)(he:Ext H H'):IsRings H' a L n ports lanes:=by
 obtain⟨p,s,mb,l,top,free,fl,f,hi⟩:=h
 exact⟨p,s,mb,l,top,free,fl,f,hi.Gw λb x hx _=>by rw[he.2 b (aSW.mp hx).1 id,hx]⟩
theorem aOm (h:IsRings H a L n ports lanes)(hm:100<m)(w:gV): ∃H',lvl prog pk8 m (.func 132) [.Q a 0,.I w.1,.I w.2.1,.I w.2.2] H=some (tH (lR L w),H')/\Ch AR H H'/\IsRings H' a (lB L w) n ports lanes:=by
 cases hp:lR L w with
 |nil=>
  obtain⟨H',g1,g2⟩:=aOk h hm w.1 w.2.1 w.2.2 hp;have hL:lB L w=L:=by
   unfold lB;apply List.eraseP_of_forall_not;intro e he hd;have:e∈L.filter λe=>decide (e.1=w):=List.mem_filter.mpr ⟨he,hd⟩
   have hl:(lR L w).length=0:=by rw[hp];rfl
   unfold lR at hl;rw[aTa] at hl;rw[aTe.mp hl] at this;cases this
  rw[hL]
  exact⟨H',g1,Ch.ext g2,h.ext g2⟩
 |cons x xs=>
  obtain⟨H',g1,g2,g3⟩:=aOl h hm w.1 w.2.1 w.2.2 hp
  exact⟨H',g1,g2,g3⟩
end
end Go.Proofs.YtciiopkbmjppfaaGreatDoor.Rg
namespace Go.Proofs.YtciiopkbmjppfaaGreatDoor
open Go.Proofs.Tryz
open Go.Abs Go.Abs.M
def tI (L:List Rg.En):List (Go.Abs.dO×Pkt):=L.map λe=>(e.1,e.2.2)
theorem aBQ (L:List Rg.En)(w:Go.Abs.dO):Rg.lR L w=jB (tI L) w:=by
 unfold Rg.lR jB tI;induction L with
 |nil=>rfl
 |cons e L ih=>
  rw[aTr,List.filter_cons,List.filter_cons];by_cases h:e.1=w
  ·simp only[h,decide_true,if_true,aTr]
   rw[ih]
  ·simp only[h,decide_false]
   exact ih
theorem aOo (L:List Rg.En)(w:Go.Abs.dO):tI (Rg.lB L w)=mA (tI L) w:=by
 unfold Rg.lB mA tI;induction L with
 |nil=>rfl
 |cons e L ih=>
  rw[aTr,List.eraseP_cons,List.eraseP_cons];by_cases h:e.1=w
  ·simp only[h,decide_true,if_true,cond_true]
  ·simp only[h,decide_false,cond_false,aTr]
   rw[ih]
def RingsN (D:aG)(a:Nat)(L:List (Go.Abs.dO×Pkt))(cap ports lanes:Nat):Prop:= ∃Le:List Rg.En,Rg.IsRings D a Le cap ports lanes/\tI Le=L
theorem aOt (w:Go.Abs.dO)(ports lanes:Nat):Rg.pV w ports lanes=wP w ports lanes:=by
 unfold Rg.pV wP;rw[Bool.eq_iff_iff];simp only[aS4,decide_eq_true_eq];omega
section
variable {D : aG} {m a cap ports lanes : Nat} {L : List (Go.Abs.dO × Pkt)}
theorem RingsN.ext {D':aG}(h:RingsN D a L cap ports lanes)(he:Ext D D'):RingsN D' a L cap ports lanes:=by
 obtain⟨Le,h1,h2⟩:=h
 exact⟨Le,h1.ext he,h2⟩
theorem aOr (hm:300<m)(po la sl:Nat)(h:1<=po/\po<=16/\1<=la/\la<=3/\1<=sl/\sl<=200): ∃a H',lvl prog pkN m (.func 86) [.I po,.I la,.I sl] D=some (.Q a 0,H')/\RingsN H' a [] sl po la/\Ext D H'/\D.length<=a:=by
 obtain⟨a,H',h1,h2,h3,h4⟩:=Rg.aOg (H:=D) hm po la sl h
 exact⟨a,H',h1,⟨[],h3,rfl⟩,h2,h4⟩
theorem aOq (h:RingsN D a L cap ports lanes)(hm:0<m)(i o k:Int):lvl prog pkN m (.func 70) [.Q a 0,.I i,.I o,.I k] D=some (.I (jB L (i,o,k)).length,D):=by
 obtain⟨Le,h1,rfl⟩:=h;rw[<-aBQ,<-Rg.Qf];exact Rg.aOf h1 hm i o k
theorem aBR (h:RingsN D a L cap ports lanes)(hm:100<m)(w:Go.Abs.dO)(x:Pkt): ∃r H',lvl prog pkN m (.func 124) [.Q a 0,.I w.1,.I w.2.1,.I w.2.2,x.cF] D=some (r,H')/\RingsN H' a (if wP w ports lanes=true/\L.length<cap then L++[(w,x)] else L) cap ports lanes:=by
 obtain⟨Le,h1,rfl⟩:=h;have hl:(tI Le).length=Le.length:=by simp[tI]
 obtain⟨H',L',g1,g2,g3,g4⟩:=Rg.aOn h1 hm w x;rw[aOt,aS4,decide_eq_true_eq] at g4;refine⟨_,H',g1,⟨L',g3,?_⟩⟩;rw[hl];rcases g4 with⟨hv,k,rfl⟩|⟨hv,rfl⟩
 ·rw[if_pos hv]
  simp[tI]
 ·rw[if_neg (by intro hh;rw[hh.1,aTG hh.2] at hv;cases hv)]
theorem aOs (h:RingsN D a L cap ports lanes)(hm:100<m)(i o k:Int): ∃H',lvl prog pkN m (.func 132) [.Q a 0,.I i,.I o,.I k] D=some (Rg.tH (jB L (i,o,k)),H')/\RingsN H' a (mA L (i,o,k)) cap ports lanes:=by
 obtain⟨Le,h1,rfl⟩:=h;obtain⟨H',g1,g2,g3⟩:=Rg.aOm h1 hm (i,o,k);rw[<-aBQ,<-aOo]
 exact⟨H',g1,_,g3,rfl⟩
end
section
variable {D : aG} {m a lanes queue : Nat} {L G : List Pkt} {w0 w1 w2 cv : Value}
theorem aOz:bld prog 31 []=some pk0.cF:=rfl
theorem Gx {H:aG}{b:Nat}{y:Pkt}(x:Pkt)(hb:H[b]? =some (cM y)):stN 4 (.Q b 0) x.cF H=some (undef,H.set b (cM x)):=sD hb aC rfl rfl (aS1 4) rfl
theorem aOu:prog.cellsOf 31=4:=by kernel_rfl
theorem aOx (h:HostI D a L G lanes queue w0 w1 w2 cv)(hm:3<m)(k:Nat)(hk:k<lanes)(hw:cW L k=[]): ∃H',lvl prog pkN m (.func 123) [.Q a 0,.I k] D=some (.tuple #[pk0.cF,.bool false],H')/\HostAt H' a L G lanes queue:=by
 refine iB (aQ rfl) U ?_
 rw[aAk];obtain⟨u0,u1,u2,cu,h'⟩:HostAt (D++[cM pk0]) a L G lanes queue:=HostAt.ext ⟨w0,w1,w2,cv,h⟩ (Fr.app _ _ _);have e0: ∀H:aG,H++[Blk.cells [Value.int .i64 0,.int .i64 0,.int .i64 0,.int .u32 0] 31 .fix]=H++[cM pk0]:=λ_=>rfl
 have e1:=Pv h' (m:=m-1) U k hk
 rw[hw] at e1;have st:stN 4 (.Q D.length 0) pk0.cF (D++[cM pk0])=some (undef,D++[cM pk0]):=by
  rw[Gx pk0 (cD _ _),gQ]
 have l4:=(nY (cD D (cM pk0))).2;have c1:((([]:List Pkt).length:Int)==0)=true:=rfl;simp only[gsR,e0,e1,c1,aOz,st,l4]
 exact⟨_,rfl,_,_,_,_,h'⟩
theorem HostI.ext {D':aG}(h:HostI D a L G lanes queue w0 w1 w2 cv)(he:Ext D D'):HostI D' a L G lanes queue w0 w1 w2 cv:=
 ⟨by rw[he.2 a (b9 h.blk) id,h.blk],h.lanes,h.queue,λk hk=>(h.q k hk).ext he,h.came.ext he,h.apart,h.apartC⟩
theorem aOy (h:HostI D a L G lanes queue w0 w1 w2 cv)(hm:3<m)(k:Nat)(hk:k<lanes){x:Pkt}{xs:List Pkt}(hw:cW L k=x::xs): ∃H',lvl prog pkN m (.func 123) [.Q a 0,.I k] D=some (.tuple #[x.cF,.bool true],H')/\HostAt H' a (oU L k) G lanes queue:=by
 have h3:k<3:=aTb hk h.lanes.2;refine iB (aQ rfl) U ?_
 rw[aAk];have e0: ∀H:aG,H++[Blk.cells [Value.int .i64 0,.int .i64 0,.int .i64 0,.int .u32 0] 31 .fix]=H++[cM pk0]:=λ_=>rfl
 obtain⟨D1,hD1⟩:=aD (D++[cM pk0]);obtain⟨D3,hD3⟩:=aD (D1++[cM x]);have h1l:D1.length=D.length+1:=by rw[hD1];simp
 have i1:HostI D1 a L G lanes queue w0 w1 w2 cv:=h.ext (by rw[hD1];exact Fr.app _ _ _)
 have i3:HostI D3 a L G lanes queue w0 w1 w2 cv:=i1.ext (by rw[hD3];exact Fr.app _ _ _)
 have e1:=Pv i1 (m:=m-1) U k hk
 rw[hw] at e1;have c1:(((x::xs).length:Int)==0)=false:=by simp;omega
 have e2:=Gn 3 1 a 0 .i64 k h3;rw[Nat.mul_one,aTh] at e2;have q1:=i1.q k h3;rw[hw] at q1;obtain⟨b,o,a1,_,a3⟩:=q1.rs.dS B8 (i:=0) (x:=x) rfl .i64;have a1:cQ 4 (w3 w0 w1 w2 k) (.I 0)=some (.Q b o):=a1;have a3:=(a3 D1 rfl).1;have a3':ldN 4 (.Q b o) D1=some (x.cF,D1):=a3;have st0:stN 4 (.Q D1.length 0) x.cF (D1++[cM pk0])=some (undef,D3):=by
  rw[Gx x (cD _ _),gQ,hD3]
 have q3:=i3.q k h3;rw[hw] at q3;obtain⟨v',g1,g2,g3⟩:=q3.aNm (P:=prog) B8 aOu;have g1:=g1 D3 q3;have st1:stN 1 (.Q a k) v' D3=some (undef,D3.set a (.cells (([w0,w1,w2,cv,.I lanes,.I queue]:List Value).set k v') 155 .fix)):=nA i3.blk aC (by simp;omega) g2.zG.1 g2.zG.2
 obtain⟨Y,hY⟩:=aD (Blk.cells (([w0,w1,w2,cv,.int .i64 lanes,.int .i64 queue]:List Value).set k v') 155 .fix);rw[<-hY] at st1;have hal:a<D.length:=b9 h.blk;have b12:(D3.set a Y)[D1.length]? =some (cM x):=by rw[aSX U,hD3,cD]
 have b00:(D3.set a Y)[D.length]? =some (cM pk0):=by rw[aSX U,hD3,hD1,aSZ (by simp),cD]
 have l12:=(nY b12).2;have st2:stN 4 (.Q D.length 0) x.cF (D3.set a Y)=some (undef,(D3.set a Y).set D.length (cM x)):=sD b00 aC rfl rfl (aS1 4) rfl
 have l00:=(nY (dN (y:=cM x) b00)).2;simp only[gsR,e0,<-hD1,e1,c1,e2,B7 i1 h3,a1,a3',st0,B7 i3 h3,g1,st1,l12,st2,l00];refine⟨_,rfl,?_⟩;have hE:(D3.set a Y).set D.length (cM x)=(D++[cM x]++[cM x]).set a Y:=by
  rw[List.set_comm _ _ U,hD3,hD1]
  congr 1
  simp
 rw[hE,hY];have he1:Ext D (D++[cM x]):=Fr.app _ _ _;have he:Ext D (D++[cM x]++[cM x]):=he1.tr (Fr.app _ _ _);have q0:=h.q k h3;rw[hw] at q0;refine h.aA9 h3 (he.Av λ_ h=>h.elim) ?_ (λb hb=> .inl (g3 b hb)) λj hj hjk=> ?_
 ·rw[Gp,if_pos rfl,hw]
  refine g2.wS λb hb=> ?_
  have hb2:=(h.q k h3).vA (g3 b hb);rw[hD3,hD1,aS3,aSZ hb2,aS3,aSZ hb2]
 ·rw[Gp,if_neg U]
theorem aOB (b o n c:Nat):bin prog .eql 42 (.slice (some ⟨b,o,none⟩) n c) (.N)=some (.bool false):=by
 have h1:prog.underlying 42=some (.slice 31):=by kernel_rfl
 simp[bin,cK,jI,hP,eqV,h1]
theorem aOA:bin prog .eql 42 (.N) (.N)=some (.bool true):=by
 have h1:prog.underlying 42=some (.slice 31):=by kernel_rfl
 simp[bin,cK,jI,hP,eqV,h1]
theorem aOv {v:Value}{xs:List Pkt}(hx:Rs Pkt.lX 31 D v xs)(hr:eF xs.length 32=true)(hm:0<m): ∃H' u,lvl prog pkN m (.func 88) [v] D=some (u,H')/\Ext D H'/\Rw Pkt.lX 31 4 H' u xs/\New D u:=by
 rcases hx with⟨rfl,rfl⟩|⟨b,o,c,hv,hlc,hx2⟩
 ·refine⟨D,.N,aV (aQ rfl) hm ?_,Fr.dY _ _,Rw.fE,New.iJ _⟩
  rw[aAu];simp only[gsR,aOA]
 ·have b0:bV 31 4 0 [.I 0,.I 0,.I 0,.int .u32 0] [] D=some (.slice (some ⟨D.length,0,none⟩) 0 0,D++[.cells [] 31 .row]):=rfl
  have h0:Rw Pkt.lX 31 4 (D++[.cells [] 31 .row]) (.slice (some ⟨D.length,0,none⟩) 0 0) []:=⟨rfl,.inr ⟨D.length,0,[],rfl,aS1 _,rfl,by simp⟩⟩
  have hx:Rs Pkt.lX 31 D v xs:= .inr ⟨b,o,c,hv,hlc,hx2⟩;obtain⟨u,H',g1,g2,g3,g4⟩:=h0.wD B8 Pw aC (by':=32) (H0:=D) (hx.ext (Fr.app _ _ _)) (λb ⟨_,_,_,h⟩=>by cases h;exact aS1 _) (Fr.app _ _ _) (by simpa using hr)
  refine dP (aQ rfl) hm ⟨H',u,?_,g4,g2,g3⟩;subst hv;rw[aAu];simp only[gsR,aOB,b0,g1]
theorem aOw (h:HostI D a L G lanes queue w0 w1 w2 cv)(hm:1<m)(hr:eF G.length 32=true): ∃H' v,lvl prog pkN m (.func 50) [.Q a 0] D=some (v,H')/\Ext D H'/\Rw Pkt.lX 31 4 H' v G/\New D v:=by
 obtain⟨H',u,g1,g2⟩:=aOv (D:=D) (m:=m-1) h.came.rs hr U
 refine dP (aQ rfl) U ⟨H',u,?_,g2⟩
 rw[aMi];have l3:ld1 (.Q a 3) D=some (cv,D):=bA h.blk rfl;simp only[gsR,l3,g1]
end
def cN (b n:Nat):Value:= .slice (some ⟨b,0,none⟩) n n
section
variable {H : aG} {m : Nat}
theorem aBT:prog.underlying 227=some (.int .u64):=by kernel_rfl
theorem aOC (hm:1<m)(n:Nat)(hn:n<=16):lvl prog pkN m (.func 150) [.int .u64 1,.int .u64 n] H=some (.tuple #[.int .u64 0,.int .u64 n],H):=by
 have main:lvl prog pkN (m-1) (.func 171) [.int .u64 1,.int .u64 n] H=some (.tuple #[.int .u64 0,.int .u64 n],H):=by
  refine aV (aQ rfl) U ?_
  rw[aMd];have p1:bin prog .and 112 (.int .u64 1) (.int .u64 4294967295)=some (.int .u64 1):=by kernel_rfl
  have p2:bin prog .shr 112 (.int .u64 1) (.int .u64 32)=some (.int .u64 0):=by kernel_rfl
  have p3:bin prog .and 112 (.int .u64 n) (.int .u64 4294967295)=some (.int .u64 n):=by
   have:=wG (P:=prog) .u64 rfl 112 (a:=n) (b:=4294967295) (by show _<18446744073709551616;omega) (by show _<18446744073709551616;omega)
   rw[show n&&&4294967295=n by rw[show(4294967295:Nat)=2 ^ 32-1 from rfl,Nat.and_two_pow_sub_one_eq_mod];exact aTu U] at this
   exact this
  have p4:bin prog .shr 112 (.int .u64 n) (.int .u64 32)=some (.int .u64 0):=by
   have:=Ee (P:=prog) .u64 .u64 112 n 32 aC
   rw[Nat.shiftRight_eq_div_pow,Nat.div_eq_of_lt U] at this
   exact this
  have q1:IntKind.u64.wrap (1*(n:Int))=n:=by rw[Int.one_mul];exact zC n U
  have q2:IntKind.u64.wrap (0*(n:Int))=0:=by rw[Int.zero_mul];rfl
  have q3:IntKind.u64.wrap (0+0)=0:=rfl;have q4:IntKind.u64.wrap (1*0)=0:=rfl;have q5:IntKind.u64.wrap (0*0)=0:=rfl;have p5:bin prog .and 112 (.int .u64 0) (.int .u64 4294967295)=some (.int .u64 0):=by kernel_rfl
  have p6:bin prog .shr 112 (.int .u64 0) (.int .u64 32)=some (.int .u64 0):=by kernel_rfl
  simp only[gsR,p1,p2,p3,p4,Va,q1,q2,aT,q3,q4,q5,p5,p6]
 refine aV (aQ rfl) U ?_
 rw[aL8];simp only[gsR,main]
def iO (n k:Nat):Blk:= .cells (List.replicate k (.int .i64 (-1))++List.replicate (n-k) (.int .i64 0)) 3 .row
theorem aOD (k:Nat):cA (List.replicate k (Value.I (-1)))=true:=by
 unfold cA;rw[List.all_replicate]
 split<;>rfl
theorem aBS {n k j:Nat}(hj:k+j<=n):cT (List.replicate k (Value.I (-1))++List.replicate (n-k) (.I 0)) k (List.replicate j (.I (-1)))=List.replicate (k+j) (.I (-1))++List.replicate (n-(k+j)) (.I 0):=by
 have:=rR (List.replicate j (Value.I (-1))) (List.replicate j (.I 0)) (List.replicate k (Value.I (-1))) (List.replicate (n-(k+j)) (.I 0)) (by simp)
 rw[aTC] at this;rw[show List.replicate (n-k) (Value.I 0)=List.replicate j (.I 0)++List.replicate (n-(k+j)) (.I 0) by rw[List.replicate_append_replicate];congr 1;omega]
 rw[<-aS3,this,List.replicate_append_replicate]
theorem aOE {n k:Nat}(G:aG)(hk:k<=n)(h1:1<=k)(c:Nat):cpy 1 (.slice (some ⟨G.length,k,none⟩) (n-k) c) (.slice (some ⟨G.length,0,none⟩) k n) (G++[iO n k])=some (.I (min k (n-k):Nat),G++[iO n (k+min k (n-k))]):=by
 have hb:(G++[iO n k])[G.length]? =some (iO n k):=cD _ _;have hs:dW 1 (.slice (some ⟨G.length,0,none⟩) k n) (min k (n-k)) (G++[iO n k])=some (List.replicate (min k (n-k)) (.I (-1))):=by
  unfold dW;by_cases h0:min k (n-k)=0
  ·simp[h0]
  ·simp only
   rw[if_neg h0,hb];unfold iO;simp only;rw[if_pos (by simp;omega)]
   congr 1
   rw[List.drop_zero,List.take_append_of_le_length (by simp;omega),List.take_replicate]
   congr 1
   omega
 unfold cpy;have h2:iR (.slice (some ⟨G.length,0,none⟩) k n)=some k:=rfl;rw[h2];simp only;rw[hs];simp only;rw[hb];unfold iO;simp only;rw[if_pos ⟨by decide,by simp;omega,aOD _⟩,aBS U,gQ]
theorem aOG {n:Nat}(hn:n<=16){G:aG}: ∀(q k l:Nat),n-k=q->k<=n->1<=k->q<l-> ∀(x4:Value),
  aL l (aO prog (lvl prog pkN m) (aL m) Np) (Nq (lvl prog pkN m) (aL m)) (aF 4 (x4::aF 2 (some (cN G.length n)::some (.I (k:Nat))::aF 39 []))) (G++[iO n k])=some (cN G.length n,G++[iO n n]):=by
 intro q;induction q using Nat.strongRecOn with
 |ind q ih=>
  intro k l hq hk h1 hl;intros;obtain⟨l,rfl⟩: ∃l',l=l'+1:=⟨l-1,by omega⟩
  have e1:cY (cN G.length n)=some (.I n):=rfl;rw[aL,aLJ];by_cases hc:k=n
  ·subst hc
   have c1:decide ((k:Int)<(k:Int))=false:=by simp
   simp only[gsR,e1,c1];rw[aLN];simp only[gsR]
  ·have c1:decide ((k:Int)<(n:Int))=true:=by rw[decide_eq_true_eq];omega
   have hb:(G++[iO n k])[G.length]? =some (iO n k):=cD _ _;have s1:slc prog 1 (cN G.length n) (some (.I (k:Nat))) none none (G++[iO n k])=some (.slice (some ⟨G.length,k,none⟩) (n-k) (n-k),G++[iO n k]):=by
    have:=oN (P:=prog) (sz:=1) (b:=G.length) (o:=0) (len:=n) (cap:=n) (lo:=some (.I (k:Nat))) (hi:=none) (mx:=none) hb (λ_=>by kernel_rfl) (iA 0 .i64 k) rfl rfl hk (aS1 _) (aS1 _)
    rw[aTh,Nat.mul_one] at this;exact this
   have s2:slc prog 1 (cN G.length n) none (some (.I (k:Nat))) none (G++[iO n k])=some (.slice (some ⟨G.length,0,none⟩) k n,G++[iO n k]):=by
    have:=oN (P:=prog) (sz:=1) (b:=G.length) (o:=0) (len:=n) (cap:=n) (lo:=none) (hi:=some (.I (k:Nat))) (mx:=none) hb (λ_=>by kernel_rfl) rfl (iA n .i64 k) rfl (Nat.zero_le _) hk (aS1 _)
    rw[Nat.zero_mul] at this;exact this
   have s3:=aOE G hk h1 (n-k);have e4:IntKind.i64.wrap ((k:Int)+((min k (n-k):Nat):Int))=((k+min k (n-k):Nat):Int):=by rw[bJ U U];omega
   simp only[gsR,e1,c1,s1,s2,s3,aT,e4];exact ih (n-(k+min k (n-k))) U (k+min k (n-k)) l rfl U U U ..
theorem aOF (hm:40<m)(n:Nat)(h1:1<=n)(hn:n<=16){b c:Nat}{e:TypeId}{kk:Kind}(hb:H[b]? =some (.cells [.I (-1)] e kk)):lvl prog pkN m (.func 126) [.slice (some ⟨b,0,none⟩) 1 c,.I n] H=some (cN H.length n,H++[iO n n]):=by
 refine aV (aQ rfl) U ?_
 rw[aLO];have c1:decide ((n:Int)<0)=false:=by rw[decide_eq_false_iff_not];omega
 have c2:decide ((0:Int)<0)=false:=rfl;have c3:decide ((9223372036854775807:Int)<(n:Int))=false:=by rw[decide_eq_false_iff_not];omega
 have e0:cY (.slice (some ⟨b,0,none⟩) 1 c)=some (.I 1):=rfl;have e1:IntKind.u64.wrap (1:Int)=1:=rfl;have e2:IntKind.u64.wrap (n:Int)=n:=zC n U
 have e3:=aOC (H:=H) (m:=m-1) U n hn
 have x0:ext 0 (.tuple #[.int .u64 0,.int .u64 n])=some (.int .u64 0):=rfl;have x1:ext 1 (.tuple #[.int .u64 0,.int .u64 n])=some (.int .u64 n):=rfl;have e4:IntKind.i64.wrap (n:Int)=n:=zD n U
 have mk:=uI (H:=H) 3 1 8 [.I 0] .i64 .i64 (n:Int) U U U rfl
 have hz:H++[Blk.cells (List.replicate (n:Int).toNat [Value.int .i64 0]).flatten 3 .row]=H++[iO n 0]:=by
  have: ∀n,(List.replicate n [Value.I 0]).flatten=List.replicate n (.I 0):=by
   intro n;induction n with
   |zero=>rfl
   |succ n ih=>rw[List.replicate_succ,aTw,ih];rfl
  rw[aTo,this];rfl
 rw[hz,aTo] at mk;have cp:cpy 1 (.slice (some ⟨H.length,0,none⟩) n n) (.slice (some ⟨b,0,none⟩) 1 c) (H++[iO n 0])=some (.I (1:Nat),H++[iO n 1]):=by
  have hs:dW 1 (.slice (some ⟨b,0,none⟩) 1 c) 1 (H++[iO n 0])=some [.I (-1)]:=by
   unfold dW;simp only;rw[if_neg aC,lN hb]
   rfl
  unfold cpy;have h2:iR (.slice (some ⟨b,0,none⟩) 1 c)=some 1:=rfl;rw[h2];simp only;rw[Nat.min_eq_left h1,hs];simp only;rw[cD];unfold iO;simp only;rw[if_pos ⟨by decide,by simp;omega,rfl⟩]
  have:=aBS (n:=n) (k:=0) (j:=1) U
  rw[show List.replicate 1 (Value.I (-1))=[.I (-1)] from rfl] at this
  rw[this,gQ];rfl
 simp only[gsR,c1,c2,c3,e0,dJ _ _ iU aBT,e1,e2,e3,x0,x1,dJ _ _ aBT iU,e4,mk,cp];exact aOG hn (n-1) 1 (m-1) rfl h1 (aS1 _) U ..
end
end Go.Proofs.YtciiopkbmjppfaaGreatDoor
namespace Go.Abs
open M
open Classical
def Blks (l:List (Nat×Blk))(D:aG):Prop:= ∀p∈l,D[p.1]? =some p.2
def InB (l:List (Nat×Blk))(b:Nat):Prop:= ∃p∈l,p.1=b
def qR (l:List (Nat×Blk)):Prop:= ∀p∈l,p.2≠Blk.dead
theorem Blks.dx (l:List (Nat×Blk)):DX (Blks l):=λD D' h he p hp=>by
 have h1:=h p hp;rw[he.2 p.1 (aSW.mp h1).1 id,h1]
theorem Blks.aOH {l:List (Nat×Blk)}(hl:qR l):Pos (Blks l):=λD H hs h p hp=>hs.2 p.1 p.2 (h p hp) (hl p hp)
theorem Has.inB {l:List (Nat×Blk)}{F:Nat->Prop}{H:aG}(h:Has (Blks l) F H)(hl:qR l){b:Nat}(hb:InB l b):F b:=by
 obtain⟨p,hp,rfl⟩:=hb;have h1:=h.at_ p hp;refine Classical.byContradiction λhF=> ?_
 have hlt:=(aSW.mp h1).1;rw[rU] at hlt;rw[uN hF hlt] at h1;exact hl p hp (aTy h1).symm
theorem Has.Gy {l:List (Nat×Blk)}{F:Nat->Prop}{H:aG}(hb:Blks l H)(hF: ∀p∈l,F p.1)(hlt: ∀b,F b->b<H.length):Has (Blks l) F H:=
 ⟨λp hp=>by rw[Aw (hF p hp),hb p hp],hlt⟩
theorem Mv.aOI {F:Nat->Prop}{A:Nat->Prop}{H H':aG}(h:Fr A H H')(hA: ∀b,A b->F b):Mv F F H H':=⟨h.1,λ_ hb=> .inl hb,λb hb hF=>h.2 b hb λhh=>hF (hA b hh)⟩
theorem aOK {ι α:Type}(f:ι->α)(i:ι):updI f i (f i)=f:=by
 funext j
 unfold updI;split
 ·rename_i h
  rw[h]
 ·rfl
theorem Sep.aOJ {ι:Type}{A:ι->aG->Prop}{F:ι->Nat->Prop}{H H':aG}(h:Sep A F H)(i:ι)(hA: ∀j,j≠i->DX (A j)){l l':List (Nat×Blk)}(hi:A i=Blks l)(hl:qR l)(hsub: ∀p∈l',InB l p.1)(hf:Fr (InB l) H H')(hB:Blks l' H'):
  Sep (updI A i (Blks l')) F H'/\Mv (Un F) (Un F) H H':=by
 have h0:=h.own i;rw[hi] at h0;have hm:Mv (F i) (F i) H H':=Mv.aOI hf λb hb=>h0.inB hl hb
 have h1:Has (Blks l') (F i) H':=Has.Gy hB (λp hp=>h0.inB hl (hsub p hp)) λb hb=>aTb (h0.lt b hb) hf.1
 have h2:=h.K2 i hA h1 hm;rw[aOK] at h2;exact h2
theorem Sep.see {ι:Type}{A:ι->aG->Prop}{F:ι->Nat->Prop}{H:aG}(h:Sep A F H)(i:ι){l:List (Nat×Blk)}(hi:A i=Blks l)(hl:qR l):Blks l H:=by
 have h0:=h.own i;rw[hi] at h0;exact h0.aHz (Blks.aOH hl)
theorem Sep.wY {ι:Type}{A:ι->aG->Prop}{F:ι->Nat->Prop}{H:aG}(h:Sep A F H)(i:ι){l:List (Nat×Blk)}(hi:A i=Blks l)(hl:qR l){b:Nat}{x:Blk}(hm:(b,x)∈l):H[b]? =some x:=h.see i hi hl _ hm
theorem Sep.Gz {ι:Type}{A:ι->aG->Prop}{F:ι->Nat->Prop}{H H':aG}(h:Sep A F H)(i:ι)(hA: ∀j,DX (A j))(hi: ∀b,¬F i b){B:aG->Prop}{G:Nat->Prop}(hB:Has B G H')(he:Ext H H')(hn: ∀b,G b->H.length<=b):
  Sep (updI A i B) (updI F i G) H':=by
 have hm:Mv (F i) G H H':=⟨he.1,λb hb=> .inr (hn b hb),λb hb _=>he.2 b hb id⟩
 exact(h.K2 i (λj _=>hA j) hB hm).1
theorem Has.aBU {A:aG->Prop}{H:aG}{P:Program}{pr:eI}(hp:FrP pr){n:Nat}{fn:Fn}{args:List Value}{B:Value->aG->Prop}
  (hc: ∀D:aG,D.length=H.length->(∀(b:Nat)(x:Blk),D[b]? =some x->x=Blk.dead)-> ∃r D',lvl P pr n fn args D=some (r,D')/\B r D'):
  ∃r H' G,lvl P pr n fn args H=some (r,H')/\Has (B r) G H'/\Ext H H'/\ ∀b,G b->H.length<=b:=by
 obtain⟨r,D',h1,h2⟩:=hc (rst (λ_=>False) H) (rU _ _) λb x hb=>by
  have hlt:=(aSW.mp hb).1;rw[rU] at hlt;rw[uN (λh=>h) hlt] at hb
  cases hb;rfl
 obtain⟨H',F',h3,rfl,h4,h5⟩:=W8 hp h1
 exact⟨r,H',F',h3,⟨h2,h5⟩,h4.W6.2,h4.W6.1⟩
end Go.Abs
namespace Go.Abs
open M
theorem pW (p:Nat->Bool){n:Nat}(hn:n<=16):cC p n<65536:=aTb (A5 p n) (show 2 ^ n<=2 ^ 16 from Nat.pow_le_pow_right U hn)
def dB (m:List Int)(n:Nat):Nat:=cC (λi=>decide (m.getD i 0= -1)) n
def fU (m:List Int)(n:Nat):Nat:=cC (λk=>decide ((k:Int)∉m)) n
theorem Ql (n:Nat):cC (λ_=>true) n=2 ^ n-1:=by
 induction n with
 |zero=>rfl
 |succ n ih=>
  rw[cC,ih,if_pos rfl,Nat.pow_succ];have:0<2 ^ n:=Nat.pow_pos U
  omega
theorem aOT (n:Nat):dB (List.replicate n (-1)) n=2 ^ n-1:=by
 rw[<-Ql];refine Ek λi hi=> ?_
 rw[decide_eq_true_eq,aS0,List.getElem?_replicate_of_lt hi];rfl
theorem aOW (n:Nat):fU (List.replicate n (-1)) n=2 ^ n-1:=by
 rw[<-Ql];refine Ek λi hi=> ?_
 rw[decide_eq_true_eq];intro h;have:=List.eq_of_mem_replicate h;omega
theorem aOS {m:List Int}{n i k:Nat}(hi:i<n)(hl:m.length=n):dB (m.set i (k:Int)) n=iK (dB m n) (2 ^ i):=by
 apply Nat.eq_of_testBit_eq;intro j;rw[K3,dB,dB,iC,iC,Nat.testBit_two_pow];by_cases hj:i=j
 ·subst hj
  have:(m.set i (k:Int)).getD i 0=k:=by rw[aS0,aS2 U,aTp]
  rw[this];simp
 ·rw[aS0,aSX hj,<-aS0]
  simp[hj]
theorem aOU {m:List Int}{n i k:Nat}(hi:i<n)(hl:m.length=n)(hf:m.getD i 0= -1):fU (m.set i (k:Int)) n=iK (fU m n) (2 ^ k):=by
 apply Nat.eq_of_testBit_eq;intro j;rw[K3,fU,fU,iC,iC,Nat.testBit_two_pow];have hi':i<m.length:=U
 have key:((j:Int)∈m.set i (k:Int))↔((j:Int)∈m∨j=k):=by
  constructor
  ·intro h
   rcases List.mem_or_eq_of_mem_set h with h|h
   ·exact .inl h
   ·exact .inr U
  ·intro h
   rcases h with h|h
   ·obtain⟨l,hl,he⟩:=List.mem_iff_getElem.mp h
    have hne:l≠i:=by
     intro hh;subst hh;rw[aS0,aSY hl,aTp,he] at hf;omega
    refine List.mem_iff_getElem.mpr ⟨l,by simpa using hl,?_⟩
    rw[List.getElem_set_ne (λhh=>hne hh.symm),he]
   ·subst h
    exact List.mem_set hi' _
 rw[show(decide ((j:Int)∉m.set i (k:Int)))=(decide ((j:Int)∉m)&& !decide (k=j)) by
  rw[Bool.eq_iff_iff];simp only[decide_eq_true_eq,aS4,Bool.not_eq_true',decide_eq_false_iff_not];rw[key];constructor
  ·intro h
   exact⟨λhh=>h (.inl hh),λhh=>h (.inr hh.symm)⟩
  ·rintro ⟨h1,h2⟩ h
   rcases h with h|h
   ·exact h1 h
   ·exact h2 h.symm]
 rw[Bool.and_assoc]
def gI (rows:List Nat)(i k:Nat):Bool:=(rows.getD i 0).testBit k
def grM (gr:Nat->Option Nat)(kk i:Nat):Nat:=cC (λk=>gr k==some i) kk
def grL (gr:Nat->Option Nat)(n kk:Nat):List Nat:=(List.range n).map (grM gr kk)
theorem wZ (gr:Nat->Option Nat)(n kk:Nat):(grL gr n kk).length=n:=by simp[grL]
theorem Cc {gr:Nat->Option Nat}{n kk i:Nat}(hi:i<n):(grL gr n kk)[i]? =some (grM gr kk i):=by simp[grL,hi]
theorem aOP (gr:Nat->Option Nat)(n:Nat):grL gr n 0=List.replicate n 0:=by
 apply aTx;intro i;by_cases hi:i<n
 ·rw[Cc hi,List.getElem?_replicate_of_lt hi]
  rfl
 ·rw[aS7 (by rw[wZ];omega),aS7 (by simp;omega)]
theorem aBZ {gr:Nat->Option Nat}{kk i:Nat}(h:gr kk≠some i):grM gr (kk+1) i=grM gr kk i:=by
 unfold grM;rw[cC,if_neg (by simpa using h),Nat.add_zero]
theorem aOQ {gr:Nat->Option Nat}{kk i:Nat}(h:gr kk=some i):grM gr (kk+1) i=grM gr kk i|||2 ^ kk:=by
 apply Nat.eq_of_testBit_eq;intro j;rw[Xg,grM,grM,iC,iC];by_cases hj:j=kk
 ·subst hj
  simp[h]
 ·by_cases hlt:j<kk
  ·simp[hlt,show j<kk+1 by omega,show¬kk=j by omega]
  ·simp[hlt,show¬j<kk+1 by omega,show¬kk=j by omega]
theorem aBX {gr:Nat->Option Nat}{n kk:Nat}(h: ∀i,i<n->gr kk≠some i):grL gr n (kk+1)=grL gr n kk:=by
 unfold grL;refine List.map_congr_left λi hi=>aBZ (h i (aTA.mp hi))
theorem aOO {gr:Nat->Option Nat}{n kk i:Nat}(hi:i<n)(h:gr kk=some i):grL gr n (kk+1)=(grL gr n kk).set i (grM gr kk i|||2 ^ kk):=by
 apply aTx;intro j;by_cases hj:j<n
 ·rw[Cc hj]
  by_cases hij:i=j
  ·subst hij
   rw[aS2 (by rw[wZ];exact hi),aOQ h]
  ·rw[aSX hij,Cc hj,aBZ (by rw[h];simp;exact hij)]
 ·rw[aS7 (by rw[wZ];omega),aS7 (by rw[List.length_set,wZ];omega)]
theorem aBY (gr:Nat->Option Nat){kk:Nat}(hk:kk<=16)(i:Nat):grM gr kk i<65536:=pW _ hk
theorem aOR {rows:List Nat}{m:List Int}{G:List Nat}{n k:Nat}(hr:rows.length=n)(hk:k<n):
  iS (gI rows) m G n k=if(k:Int)∈m then none else fF (λi=>((fK rows n).getD k 0&&&dB m n).testBit i) (G.getD k 0) n:=by
 unfold iS;split
 ·rfl
 ·refine Ei λi hi=> ?_
  have hc:(fK rows n).getD k 0=cC (λi=>(rows.getD i 0).testBit k) rows.length:=by
   rw[aS0,fK,aS9,aTE hk];rfl
  rw[Nat.testBit_and,hc,dB,iC,iC,hr,aTG hi,aTj,aTj,gI,Bool.and_comm]
theorem aOV {m:List Int}{n k:Nat}(hk:k<n):(fU m n).testBit k=decide ((k:Int)∉m):=by rw[fU,iC,aTG hk,aTj]
theorem aON {rows:List Nat}{n k:Nat}(hr:rows.length<=16)(hk:k<n):(fK rows n).getD k 0<65536:=by
 rw[aS0,fK,aS9,aTE hk];exact pW _ hr
theorem aB0 {req:Nat->Nat->Bool}{m:List Int}{G:List Nat}{n k i:Nat}(h:iS req m G n k=some i):m.getD i 0= -1/\i<n:=by
 unfold iS at h
 split at h
 ·cases h
 ·have:=uO h
  rw[aS4,decide_eq_true_eq] at this
  exact⟨this.2.1,this.1⟩
theorem aOL {req:Nat->Nat->Bool}{n:Nat}{first:Bool}{m0:List Int}{g0:List Nat}{s:Mat}{i:Nat}(hm:s.m.getD i 0=m0.getD i 0):
  acc (iS req m0 g0 n) n first s i=match fF (λk=>(grM (iS req m0 g0 n) n i).testBit k) (s.a.getD i 0) n with
   |none=>s
   |some k=>⟨s.m.set i (k:Int),if first=true then s.g.set k ((i+1)%n) else s.g,if first=true then s.a.set i ((k+1)%n) else s.a⟩:=by
 have e:fF (λk=>(grM (iS req m0 g0 n) n i).testBit k) (s.a.getD i 0) n=fF (λk=>iS req m0 g0 n k==some i) (s.a.getD i 0) n:=Ei λk hk=>by
  rw[grM,iC,aTG hk,aTj]
 rw[e];unfold acc;split
 ·rfl
 ·rename_i hn
  have:fF (λk=>iS req m0 g0 n k==some i) (s.a.getD i 0) n=none:=by
   rw[Ej];intro k hk;rw[beq_eq_false_iff_ne];intro hh;exact hn (hm.trans (aB0 hh).1)
  rw[this]
theorem aBV {gr:Nat->Option Nat}{n:Nat}{first:Bool}: ∀(l:List Nat)(s:Mat),l.Nodup->(∀i∈l,i<s.m.length)->(∀i∈l,s.m.getD i 0= -1->(l.foldl (acc gr n first) s).m.getD i 0= -1)->l.foldl (acc gr n first) s=s
 |[],s,_,_,_=>rfl
 |i::l,s,hn,hl,h=>by
  rw[List.foldl_cons] at h⊢;have hi:=hl i (aS5 ..);rw[List.nodup_cons] at hn;rcases K6 (gr:=gr) (n:=n) (first:=first) (s:=s) hi with h1|⟨h1,h2⟩
  ·rw[h1] at h⊢
   exact aBV l s hn.2 (λj hj=>hl j (aTd _ hj)) λj hj=>h j (aTd _ hj)
  ·have h3:=A4 (gr:=gr) (n:=n) (first:=first) (j:=i) l (acc gr n first s i) hn.1
   exact absurd (h3.symm.trans (h i (aS5 ..) h2)) h1
theorem aOY {req:Nat->Nat->Bool}{n:Nat}{first:Bool}{s:Mat}(hl:s.m.length=n)(h:dB (rnd req n first s).m n=dB s.m n):rnd req n first s=s:=by
 refine aBV _ _ List.nodup_range (λi hi=>by rw[aTA] at hi;omega) λi hi h0=> ?_
 rw[aTA] at hi;have h1:(dB (rnd req n first s).m n).testBit i=(dB s.m n).testBit i:=by rw[h]
 rw[dB,dB,iC,iC,aTG hi,aTj,aTj,aTG h0,decide_eq_true_eq] at h1;exact h1
theorem aOM (M n:Nat):M&&&(2 ^ n-1)=cC (λi=>M.testBit i) n:=by
 apply Nat.eq_of_testBit_eq;intro i;rw[Nat.testBit_and,iC,<-Ql,iC,Bool.and_true,Bool.and_comm]
theorem aBW (p q:Nat->Bool)(n:Nat):cC p n&&&cC q n=cC (λi=>p i&&q i) n:=by
 apply Nat.eq_of_testBit_eq;intro i;rw[Nat.testBit_and,iC,iC,iC];cases decide (i<n)<;>simp
theorem zL (p:Nat->Bool)(n:Nat):cC p n=0↔lL p n=false:=by
 rw[aHS];constructor
 ·intro h
  cases hw:lL p n with
  |false=>rfl
  |true=>
   obtain⟨i,h1,h2⟩:=wH.mp hw;rw[h i h1] at h2;cases h2
 ·intro h i hi
  cases hp:p i with
  |false=>rfl
  |true=>
   rw[wH.mpr ⟨i,hi,hp⟩] at h;cases h
theorem aOX (p:Nat->Bool)(fr n:Nat):fF (λi=>(cC p n).testBit i) fr n=fF p fr n:=Ei λi hi=>by rw[iC,aTG hi,aTj]
theorem Hi {p:Nat->Bool}{k:Nat}(h:p k=true):cC p (k+1)=cC p k|||2 ^ k:=by
 apply Nat.eq_of_testBit_eq;intro j;rw[Xg,iC,iC];by_cases hj:j=k
 ·subst hj
  simp[h]
 ·by_cases hlt:j<k
  ·simp[hlt,show j<k+1 by omega,show¬k=j by omega]
  ·simp[hlt,show¬j<k+1 by omega,show¬k=j by omega]
theorem G9 {p:Nat->Bool}{k:Nat}(h:p k=false):cC p (k+1)=cC p k:=by rw[cC,h];simp
theorem aB1 {p q:Nat->Bool}{n:Nat}(h: ∀i,i<n->p i=q i):lL p n=lL q n:=by
 rw[Bool.eq_iff_iff,wH,wH];constructor
 ·rintro ⟨i,h1,h2⟩
  exact⟨i,h1,by rw[<-h i h1];exact h2⟩
 ·rintro ⟨i,h1,h2⟩
  exact⟨i,h1,by rw[h i h1];exact h2⟩
theorem aOZ {W:List Int}{s:Whl}{p q:Nat->Bool}(h: ∀i,i<W.length->p i=q i):fZ W s p=fZ W s q:=by
 have h1:lL p W.length=lL q W.length:=aB1 h;have h2: ∀l:List Int,∀i,i<W.length->kG l p i=kG l q i:=λl i hi=>by unfold kG;rw[h i hi]
 have h3:iT W s p=iT W s q:=by unfold iT;rw[aB1 (h2 s.l)]
 unfold fZ;rw[h1,h3,Ei (h2 _)]
end Go.Abs
namespace Go.Proofs.YtciiopkbmjppfaaGreatDoor
open Go.Proofs.Tryz
open Go.Abs Go.Abs.M
def dF (zs:List Int)(rest:List Value):Blk:= .cells (zs.map (λz:Int=> .int .i64 z)++rest) 3 .row
def fV (b n c:Nat):Value:= .slice (some ⟨b,0,none⟩) n c
def pX (ww wl wc lc n:Nat)(fr:Nat):Blk:= .cells [fV ww n wc,fV wl n lc,.int .i64 fr] 197 .fix
def iP (wh ww wl wc lc:Nat)(wr lr:List Value)(W:List Int)(x:Whl):List (Nat×Blk):=
 [(wh,pX ww wl wc lc W.length x.fr),(ww,dF W wr),(wl,dF x.l lr)]
theorem aB2: ∀W:List Int,cA (W.map λz:Int=>Value.I z)=true
 |[]=>rfl
 |_::W=>aB2 W
theorem aB4 {ww wl wc lc n fr:Nat}{zs:List Int}{lr:List Value}:pX ww wl wc lc n fr≠dF zs lr:=λh=>by
 injection h with _ h2
 revert h2
 decide
section
variable {H : aG} {m : Nat}
theorem aO1 (hm:0<m)(M i:Nat)(hM:M<65536)(hi:i<16):lvl prog pkN m (.func 153) [.int .u16 M,.I i] H=some (.bool (M.testBit i),H):=by
 refine aV (aQ rfl) U ?_
 rw[aL9];have c1:decide ((0:Int)<=(i:Int))=true:=by rw[decide_eq_true_eq];omega
 have c2:decide ((i:Int)<16)=true:=by rw[decide_eq_true_eq];omega
 have e1:bin prog .shr 23 (.int .u16 (M:Int)) (.I (i:Int))=some (.int .u16 ((M>>>i:Nat):Int)):=Ee .u16 .i64 23 M i (by show i<=16;omega)
 have hlt:M>>>i<65536:=Nat.lt_of_le_of_lt (Nat.shiftRight_le M i) hM;have e2:bin prog .and 23 (.int .u16 ((M>>>i:Nat):Int)) (.int .u16 ((1:Nat):Int))=some (.int .u16 (((M>>>i)&&&1:Nat):Int)):=wG .u16 rfl 23 (by show _<65536;exact hlt) (by show(1:Nat)<65536;omega)
 have e2':bin prog .and 23 (.int .u16 ((M>>>i:Nat):Int)) (.int .u16 1)=some (.int .u16 (((M>>>i)&&&1:Nat):Int)):=e2;have e3:((((M>>>i)&&&1:Nat):Int)==1)=M.testBit i:=by
  rw[Nat.testBit,Nat.and_comm 1];rw[Nat.and_one_is_mod];rcases Nat.mod_two_eq_zero_or_one (M>>>i) with h|h<;>rw[h]<;>rfl
 simp only[gsR,c1,c2,e1,e2',e3]
theorem vF {a i:Nat}(ha:a<65536)(hi:i<16):bin prog .shl 23 (.int .u16 1) (.I (i:Int))=some (.int .u16 ((2 ^ i:Nat):Int))/\bin prog .or 23 (.int .u16 (a:Int)) (.int .u16 ((2 ^ i:Nat):Int))=some (.int .u16 ((a|||2 ^ i:Nat):Int)):=by
 have hp:=El hi;constructor
 ·have:=Ec (P:=prog) .u16 .i64 rfl 23 1 i (by show i<=16;omega)
  rw[Nat.one_mul] at this;rw[show(2:Nat) ^ i%2 ^ IntKind.u16.bits=2 ^ i from aTu hp] at this
  exact this
 ·exact K4 .u16 rfl _ (by show _<65536;exact ha) (by show _<65536;exact hp)
theorem zM {wl n c:Nat}{zs:List Int}{lr:List Value}(hb:H[wl]? =some (dF zs lr))(hn:zs.length=n){i:Nat}(hi:i<n):cQ 1 (fV wl n c) (.I (i:Int))=some (.Q wl i)/\ld1 (.Q wl i) H=some (.I (zs.getD i 0),H):=by
 constructor
 ·have:=oL 1 wl 0 n c .i64 (i:Int) U U
  simpa[fV] using this
 ·refine bA hb ?_
  rw[aSZ (by simp;omega),aS9,aS0,aSY U]
  rfl
theorem aO2 {wl lc:Nat}{zs:List Int}{lr:List Value}(hb:H[wl]? =some (dF zs lr))(h3:zs.length<=3): ∀(q i k:Nat),zs.length-i=q->i<=zs.length->q<k-> ∀(x2:Value),
  aL k (aO prog (lvl prog pkN m) (aL m) N0) (N3 (lvl prog pkN m) (aL m)) (aF 2 (x2::some (.int .u16 (cC (λj=>decide (0<zs.getD j 0)) i:Nat))::aF 5 (some (fV wl zs.length lc)::some (.I zs.length)::some (.I (i:Nat))::aF 12 []))) H=some (.int .u16 (cC (λj=>decide (0<zs.getD j 0)) zs.length:Nat),H):=by
 intro q;induction q with
 |zero=>
  intro i k hq hi hk;intros;obtain⟨k,rfl⟩: ∃k',k=k'+1:=⟨k-1,by omega⟩
  have hie:i=zs.length:=U
  subst hie;have c1:decide ((zs.length:Int)<(zs.length:Int))=false:=by simp
  rw[aL,aAp];simp only[gsR,c1];rw[aMa];simp only[gsR]
 |succ q ih=>
  intro i k hq hi hk;intros;obtain⟨k,rfl⟩: ∃k',k=k'+1:=⟨k-1,by omega⟩
  have c1:decide ((i:Int)<(zs.length:Int))=true:=by rw[decide_eq_true_eq];omega
  obtain⟨a1,a2⟩:=zM (c:=lc) hb rfl (i:=i) U
  have e4:=aA (i:=i) U
  rw[aL,aAp];by_cases hp:0<zs.getD i 0
  ·obtain⟨e1,e2⟩:=vF (a:=cC (λj=>decide (0<zs.getD j 0)) i) (i:=i) (pW _ U) U
   rw[<-Hi (p:=λj=>decide (0<zs.getD j 0)) (k:=i) (aTG hp)] at e2
   simp only[gsR,c1,a1,a2,aTG hp,e1,e2,aT,e4];exact ih (i+1) k U U U ..
  ·have e2:=G9 (p:=λj=>decide (0<zs.getD j 0)) (k:=i) (aTH hp)
   simp only[gsR,c1,a1,a2,aTH hp,aT,e4];rw[<-e2];exact ih (i+1) k U U U ..
theorem aB3 (hm:10<m){wh ww wl wc lc n fr:Nat}{zs:List Int}{lr:List Value}(h0:H[wh]? =some (pX ww wl wc lc n fr))(hb:H[wl]? =some (dF zs lr))(hn:zs.length=n)(h3:n<=3):
  lvl prog pkN m (.func 154) [.pointer (some ⟨wh,0,none⟩)] H=some (.int .u16 (cC (λj=>decide (0<zs.getD j 0)) n:Nat),H):=by
 subst hn;refine aV (aQ rfl) U ?_
 rw[aMb];have l1:ld1 (.Q wh 1) H=some (fV wl zs.length lc,H):=bA h0 rfl;have l2:cY (fV wl zs.length lc)=some (.I zs.length):=rfl;simp only[gsR,l1,l2];exact aO2 hb h3 zs.length 0 (m-1) U U U ..
theorem aO0 {wl ww n lc wc:Nat}{l W:List Int}{lr wr:List Value}(hn:n=W.length)(b2:H[wl]? =some (dF l lr))(b1:H[ww]? =some (dF W wr))(hl:l.length=W.length):cpy 1 (fV wl n lc) (fV ww n wc) H=some (.I n,H.set wl (dF W lr)):=by
 subst hn;have hs:dW 1 (fV ww W.length wc) W.length H=some (W.map λz:Int=> .I z):=by
  unfold dW fV;simp only;split
  ·rename_i h0
   rw[aTe.mp h0];rfl
  ·rw[b1]
   unfold dF;simp only;rw[if_pos ⟨aS1 _,by simp⟩,List.drop_zero,List.take_append_of_le_length (by simp)]
   congr 1
   rw[List.take_of_length_le (by simp)]
 unfold cpy;have h2:iR (fV ww W.length wc)=some W.length:=rfl;rw[h2];simp only[fV];have hs':=hs;unfold fV at hs';rw[Nat.min_self,hs'];simp only;rw[b2];unfold dF;simp only;have:=rR (W.map λz:Int=>Value.I z) (l.map λz:Int=>Value.I z) [] lr (by simp[hl])
 rw[List.nil_append,List.nil_append,List.length_nil] at this;rw[if_pos ⟨by decide,by simp;omega,aB2 W⟩,this]
def nC (o:Option Nat):Value:= .int .i64 (match o with|some k=>(k:Int)|none=> -1)
theorem Cd (k:IntKind)(n:Int)(H':aG):chk (some (Value.int k n,H')) (.int k n)=true:=by simp[chk,veq]
theorem aO3 (hm:20<m){wh ww wl wc lc:Nat}{wr lr:List Value}{W:List Int}{x:Whl}(hB:Blks (iP wh ww wl wc lc wr lr W x) H)(hne:ww≠wl)(hx:WhlI W.length x)(hW: ∀y∈W,0<y/\y<=5)(h1:1<=W.length)(h3:W.length<=3)(M:Nat)(hM:M<65536):
  ∃H',lvl prog pkN m (.func 131) [.pointer (some ⟨wh,0,none⟩),.int .u16 M] H=some (nC (fZ W x λi=>M.testBit i).1,H')/\Fr (λb=>b=wh∨b=wl) H H'/\Blks (iP wh ww wl wc lc wr lr W (fZ W x λi=>M.testBit i).2) H':=by
 have b0:H[wh]? =some (pX ww wl wc lc W.length x.fr):=hB _ (aS5 ..);have b1:H[ww]? =some (dF W wr):=hB (ww,dF W wr) (by simp[iP])
 have b2:H[wl]? =some (dF x.l lr):=hB (wl,dF x.l lr) (by simp[iP])
 have n01:wh≠ww:=λh=>by rw[h,b1] at b0;exact aB4 (aTy b0).symm
 have n02:wh≠wl:=λh=>by rw[h,b2] at b0;exact aB4 (aTy b0).symm
 obtain⟨n,hn⟩:=aD W.length;have hxl:=hx.len;have hxf:=hx.fr;obtain⟨p,hp⟩: ∃p:Nat->Bool,p=λi=>M.testBit i:=⟨_,rfl⟩
 rw[<-hp];refine iB (aQ rfl) U ?_
 rw[aLW];have l0:ld1 (.Q wh 0) H=some (fV ww W.length wc,H):=bA b0 rfl;have l0':cY (fV ww W.length wc)=some (.I W.length):=rfl;have hpow:2 ^ W.length<65536:=El U
 have hpos:0<2 ^ W.length:=Nat.pow_pos U
 have e1:=(vF (a:=0) (i:=W.length) U U).1
 have e2:IntKind.u16.wrap ((2 ^ W.length:Nat)-(1:Int))=((2 ^ W.length-1:Nat):Int):=by rw[Ay];omega
 have e3:bin prog .and 23 (.int .u16 (M:Int)) (.int .u16 ((2 ^ W.length-1:Nat):Int))=some (.int .u16 ((cC p W.length:Nat):Int)):=by
  rw[wG .u16 rfl _ (by show _<65536;exact hM) (by show _<65536;omega),aOM,hp]
 have hml: ∀q:Nat->Bool,cC q W.length<65536:=λq=>pW q U
 by_cases ha:lL p W.length=true
 ·have c1:(((cC p W.length:Nat):Int)==0)=false:=by
   rw[beq_eq_false_iff_ne];intro h;have:=(zL p W.length).mp U
   rw[ha] at this;cases this
  have s1:=aB3 (m:=m-1) U b0 b2 hxl h3
  have a1:bin prog .and 23 (.int .u16 ((cC p W.length:Nat):Int)) (.int .u16 ((cC (λj=>decide (0<x.l.getD j 0)) W.length:Nat):Int))=some (.int .u16 ((cC (kG x.l p) W.length:Nat):Int)):=by
   rw[wG .u16 rfl _ (by show _<65536;exact hml _) (by show _<65536;exact hml _),aBW]
   rfl
  obtain⟨i,hi,hil,hip,hip2⟩:=Xe (s:=x) (λy hy=>(hW y hy).1) ha
  have hres:fZ W x p=(some i,⟨(iT W x p).set i ((iT W x p).getD i 0-1),(i+1)%W.length⟩):=by
   unfold fZ;rw[if_pos ha,hi]
  have hpk: ∀G:aG,lvl prog pkN (m-1) (.func 129) [.int .u16 ((cC (kG (iT W x p) p) W.length:Nat):Int),.I x.fr,.I W.length] G=some (.I i,G):=λG=>by
   rw[L3 _ U,K7 (hml _) U hxf,aOX,hi]
  have e5:=aA (i:=i) U
  have e6:bin prog .rem 3 (.I ((i+1:Nat):Int)) (.I W.length)=some (.I (((i+1)%W.length:Nat):Int)):=wK (i+1) W.length _ rfl U
  rw[hres];by_cases hc:lL (kG x.l p) W.length=true
  ·have hf:iT W x p=x.l:=by unfold iT;rw[if_pos hc]
   rw[hf] at hpk hip2⊢;have c2:(((cC (kG x.l p) W.length:Nat):Int)==0)=false:=by
    rw[beq_eq_false_iff_ne];intro h;have:=(zL (kG x.l p) W.length).mp U
    rw[hc] at this;cases this
   have l2:ld1 (.Q wh 2) H=some (.I x.fr,H):=bA b0 rfl;have l1:ld1 (.Q wh 1) H=some (fV wl W.length lc,H):=bA b0 rfl;obtain⟨g1,g2⟩:=zM (c:=lc) b2 hxl hil;have hle:x.l.getD i 0<=5:=by
    have:i<x.l.length:=U
    rw[aS0,aSY this,aTp]
    exact(hx.wt _ (List.getElem_mem this)).2
   have e7:IntKind.i64.wrap (x.l.getD i 0-1)=x.l.getD i 0-1:=bJ U U
   have st1:stN 1 (.Q wl i) (.I (x.l.getD i 0-1)) H=some (undef,H.set wl (dF (x.l.set i (x.l.getD i 0-1)) lr)):=by
    rw[iD b2 aC (by simp;omega),List.set_append_left _ _ (by simp;omega),<-List.map_set]
    rfl
   have b0':(H.set wl (dF (x.l.set i (x.l.getD i 0-1)) lr))[wh]? =some (pX ww wl wc lc W.length x.fr):=by rw[aSX (λh=>n02 h.symm),b0]
   have st2:stN 1 (.Q wh 2) (.I (((i+1)%W.length:Nat):Int)) (H.set wl (dF (x.l.set i (x.l.getD i 0-1)) lr))=some (undef,(H.set wl (dF (x.l.set i (x.l.getD i 0-1)) lr)).set wh (pX ww wl wc lc W.length ((i+1)%W.length))):=iD b0' aC (by simp)
   simp only[gsR,l0,l0',e1,dX,e2,e3,c1,s1,a1,c2,l2,Cd,hpk,l1,g1,g2,e7,st1,aT,e5,e6,st2];refine⟨_,rfl,⟨by simp,λb hb hbn=> ?_⟩,λq hq=> ?_⟩
   ·rw[aSX (λh=>hbn (.inl h.symm)),aSX (λh=>hbn (.inr h.symm))]
   ·simp only[iP,aTf,aTm,or_false] at hq
    rcases hq with rfl|rfl|rfl
    ·exact dN b0'
    ·rw[aSX n01,aSX hne.symm,b1]
    ·rw[aSX n02]
     exact dN b2
  ·have hf:iT W x p=W:=by unfold iT;rw[if_neg hc]
   rw[hf] at hpk hip2⊢;have c2:(((cC (kG x.l p) W.length:Nat):Int)==0)=true:=by
    rw[beq_iff_eq];have:=(zL (kG x.l p) W.length).mpr (by simpa using hc)
    omega
   have l1:ld1 (.Q wh 1) H=some (fV wl W.length lc,H):=bA b0 rfl;obtain⟨H1,hH1⟩:=aD (H.set wl (dF W lr));have cp:cpy 1 (fV wl W.length lc) (fV ww W.length wc) H=some (.I W.length,H1):=by rw[hH1];exact aO0 rfl b2 b1 hxl
   have b01:H1[wh]? =some (pX ww wl wc lc W.length x.fr):=by rw[hH1,aSX (λh=>n02 h.symm),b0]
   have b11:H1[ww]? =some (dF W wr):=by rw[hH1,aSX hne.symm,b1]
   have b21:H1[wl]? =some (dF W lr):=by rw[hH1];exact dN b2
   have s2:=aB3 (m:=m-1) U b01 b21 rfl h3
   have a2:bin prog .and 23 (.int .u16 ((cC p W.length:Nat):Int)) (.int .u16 ((cC (λj=>decide (0<W.getD j 0)) W.length:Nat):Int))=some (.int .u16 ((cC (kG W p) W.length:Nat):Int)):=by
    rw[wG .u16 rfl _ (by show _<65536;exact hml _) (by show _<65536;exact hml _),aBW]
    rfl
   have l2:ld1 (.Q wh 2) H1=some (.I x.fr,H1):=bA b01 rfl;have l11:ld1 (.Q wh 1) H1=some (fV wl W.length lc,H1):=bA b01 rfl;obtain⟨g1,g2⟩:=zM (c:=lc) b21 rfl hil;have hle:W.getD i 0<=5:=by
    rw[aS0,aSY hil,aTp]
    exact(hW _ (List.getElem_mem hil)).2
   have e7:IntKind.i64.wrap (W.getD i 0-1)=W.getD i 0-1:=bJ U U
   have st1:stN 1 (.Q wl i) (.I (W.getD i 0-1)) H1=some (undef,H1.set wl (dF (W.set i (W.getD i 0-1)) lr)):=by
    rw[iD b21 aC (by simp;omega),List.set_append_left _ _ (by simp;omega),<-List.map_set]
    rfl
   have b0':(H1.set wl (dF (W.set i (W.getD i 0-1)) lr))[wh]? =some (pX ww wl wc lc W.length x.fr):=by rw[aSX (λh=>n02 h.symm),b01]
   have st2:stN 1 (.Q wh 2) (.I (((i+1)%W.length:Nat):Int)) (H1.set wl (dF (W.set i (W.getD i 0-1)) lr))=some (undef,(H1.set wl (dF (W.set i (W.getD i 0-1)) lr)).set wh (pX ww wl wc lc W.length ((i+1)%W.length))):=iD b0' aC (by simp)
   simp only[gsR,l0,l0',e1,dX,e2,e3,c1,s1,a1,c2,l1,cp,s2,a2,l2,Cd,hpk,l11,g1,g2,e7,st1,aT,e5,e6,st2];refine⟨_,rfl,⟨by simp[hH1],λb hb hbn=> ?_⟩,λq hq=> ?_⟩
   ·rw[aSX (λh=>hbn (.inl h.symm)),aSX (λh=>hbn (.inr h.symm)),hH1,aSX (λh=>hbn (.inr h.symm))]
   ·simp only[iP,aTf,aTm,or_false] at hq
    rcases hq with rfl|rfl|rfl
    ·exact dN b0'
    ·rw[aSX n01,aSX hne.symm,b11]
    ·rw[aSX n02]
     exact dN b21
 ·have c1:(((cC p W.length:Nat):Int)==0)=true:=by
   rw[beq_iff_eq];have:=(zL p W.length).mpr (by simpa using ha)
   omega
  have hres:fZ W x p=(none,x):=by
   unfold fZ;rw[if_neg ha]
  rw[hres];simp only[gsR,l0,l0',e1,dX,e2,e3,c1]
  exact⟨_,rfl,Fr.dY _ _,hB⟩
end
def tJ (zs:List Nat):List Int:=zs.map λz:Nat=>(z:Int)
def dU (zs:List Nat):Blk:=dF (tJ zs) []
def dV (zs:List Nat):Blk:= .cells (zs.map λz:Nat=> .int .u16 (z:Int)) 23 .row
def oW (ga aa n:Nat):Blk:= .cells [cN ga n,cN aa n] 199 .fix
def fB (ab ga aa:Nat)(g a:List Nat):List (Nat×Blk):=[(ab,oW ga aa g.length),(ga,dU g),(aa,dU a)]
def stB (mb n ins outs:Nat):Blk:= .cells [cN mb n,.int .u16 ins,.int .u16 outs] 210 .fix
theorem aB6 (zs:List Nat):(tJ zs).length=zs.length:=by simp[tJ]
theorem aO6 (zs:List Nat)(i:Nat):(tJ zs).getD i 0=((zs.getD i 0:Nat):Int):=by
 unfold tJ;rw[aS0,aS0,aS9];cases zs[i]? <;>rfl
theorem aO7 (zs:List Nat)(i z:Nat):tJ (zs.set i z)=(tJ zs).set i (z:Int):=by simp[tJ,List.map_set]
theorem aB5 {zs:List Nat}{n i:Nat}(h: ∀z∈zs,z<n)(hi:i<zs.length):zs.getD i 0<n:=by
 rw[aS0,aSY hi];exact h _ (List.getElem_mem hi)
section
variable {H : aG} {m : Nat}
theorem Hj {b n:Nat}{zs:List Nat}(hb:H[b]? =some (dU zs))(hn:zs.length=n){i:Nat}(hi:i<n):cQ 1 (cN b n) (.I (i:Int))=some (.Q b i)/\ld1 (.Q b i) H=some (.I (zs.getD i 0:Nat),H):=by
 have:=zM (c:=n) hb ((aB6 zs).trans hn) hi;rw[aO6] at this;exact this
theorem Hl {b n c:Nat}{zs:List Nat}(hb:H[b]? =some (dV zs))(hn:zs.length=n){i:Nat}(hi:i<n):cQ 1 (.slice (some ⟨b,0,none⟩) n c) (.I (i:Int))=some (.Q b i)/\ld1 (.Q b i) H=some (.int .u16 (zs.getD i 0:Nat),H):=by
 constructor
 ·have:=oL 1 b 0 n c .i64 (i:Int) U U
  simpa using this
 ·refine bA hb ?_
  rw[aS9,aS0,aSY U]
  rfl
theorem aB7 {b i:Nat}{zs:List Int}{lr:List Value}(z:Int)(hb:H[b]? =some (dF zs lr))(hi:i<zs.length):stN 1 (.Q b i) (.I z) H=some (undef,H.set b (dF (zs.set i z) lr)):=by
 rw[iD hb aC (by simp;omega),List.set_append_left _ _ (by simp;omega),<-List.map_set]
 rfl
theorem aB8 {b i:Nat}{zs:List Nat}(z:Nat)(hb:H[b]? =some (dU zs))(hi:i<zs.length):stN 1 (.Q b i) (.I z) H=some (undef,H.set b (dU (zs.set i z))):=by
 rw[aB7 (z:Int) hb (by rw[aB6];exact hi),<-aO7]
 rfl
theorem aB9 {b i:Nat}{zs:List Nat}(z:Nat)(hb:H[b]? =some (dV zs))(hi:i<zs.length):stN 1 (.Q b i) (.int .u16 z) H=some (undef,H.set b (dV (zs.set i z))):=by
 rw[iD hb aC (by simp;omega),<-List.map_set]
 rfl
theorem mB (i:Nat)(hi:i<1000):IntKind.i64.wrap ((i:Int)+1)=((i+1:Nat):Int):=by rw[bJ U U];omega
section
variable {ab ga aa sb mb cb : Nat} {rows : List Nat} {M : List Int} {g a : List Nat} {n : Nat}
theorem aO5 (hB:Blks (fB ab ga aa g a) H)(hs:H[sb]? =some (stB mb n (dB M n) (fU M n)))(hc:H[cb]? =some (dV (fK rows n)))(hg:g.length=n)(hgl: ∀z∈g,z<n)(hr:rows.length=n)(hM:M.length=n)(h1:1<=n)(h16:n<=16)(hm:2<m):
  ∀(q i k:Nat),n-i=q->i<=n->q<k-> ∀(x6:Value),
  aL k (aO prog (lvl prog pkN m) (aL m) Nr) (Ns (lvl prog pkN m) (aL m)) (some (.Q ab 0)::some (.Q sb 0)::some (cN cb n)::aF 3 (x6::some (cN H.length n)::aF 6 (some (cN cb n)::some (.I n)::some (.I (i:Nat))::aF 40 []))) (H++[dV (grL (iS (gI rows) M g n) n i)])=some (cN H.length n,H++[dV (grL (iS (gI rows) M g n) n n)]):=by
 obtain⟨gr,hgr⟩:=aD (iS (gI rows) M g n);rw[<-hgr];have b0:H[ab]? =some (oW ga aa n):=by rw[<-hg];exact hB _ (aS5 ..)
 have b1:H[ga]? =some (dU g):=hB (ga,dU g) (by simp[fB])
 intro q;induction q with
 |zero=>
  intro i k hq hi hk;intros;obtain⟨k,rfl⟩: ∃k',k=k'+1:=⟨k-1,by omega⟩
  have hie:i=n:=U
  subst hie;have c1:decide ((i:Int)<(i:Int))=false:=by simp
  rw[aL,aAl];simp only[gsR,c1];rw[aLS];simp only[gsR]
 |succ q ih=>
  intro i k hq hi hk;intros;obtain⟨k,rfl⟩: ∃k',k=k'+1:=⟨k-1,by omega⟩
  have hin:i<n:=U
  have c1:decide ((i:Int)<(n:Int))=true:=by rw[decide_eq_true_eq];omega
  obtain⟨G,hG⟩:=aD (H++[dV (grL gr n i)]);have e0:G[ab]? =some (oW ga aa n):=by rw[hG];exact lN b0 _
  have e1:G[ga]? =some (dU g):=by rw[hG];exact lN b1 _
  have e2:G[sb]? =some (stB mb n (dB M n) (fU M n)):=by rw[hG];exact lN hs _
  have e3:G[cb]? =some (dV (fK rows n)):=by rw[hG];exact lN hc _
  have e4:G[H.length]? =some (dV (grL gr n i)):=by rw[hG];exact cD _ _
  obtain⟨a1,a2⟩:=Hl (c:=n) e3 (aHP _ _) hin;have a1:cQ 1 (cN cb n) (.I (i:Int))=some (.Q cb i):=a1;have l1:ld1 (.Q sb 1) G=some (.int .u16 (dB M n:Nat),G):=bA e2 rfl;have l2:ld1 (.Q sb 2) G=some (.int .u16 (fU M n:Nat),G):=bA e2 rfl;have l0:ld1 (.Q ab 0) G=some (cN ga n,G):=bA e0 rfl;obtain⟨a3,a4⟩:=Hj e1 hg hin;have hcl:(fK rows n).getD i 0<65536:=aON U hin
  have hil:dB M n<65536:=pW _ h16;have hol:fU M n<65536:=pW _ h16;have a5:bin prog .and 23 (.int .u16 ((fK rows n).getD i 0:Nat)) (.int .u16 (dB M n:Nat))=some (.int .u16 ((fK rows n).getD i 0&&&dB M n:Nat)):=wG .u16 rfl _ (by show _<65536;exact hcl) (by show _<65536;exact hil)
  have hal:(fK rows n).getD i 0&&&dB M n<65536:=Nat.lt_of_le_of_lt Nat.and_le_left hcl;have a6:cY (cN cb n)=some (.I n):=rfl;have hgi:g.getD i 0<n:=aB5 hgl U
  have a7:lvl prog pkN m (.func 129) [.int .u16 ((fK rows n).getD i 0&&&dB M n:Nat),.I (g.getD i 0:Nat),.I n] G=some (nC (fF (λj=>((fK rows n).getD i 0&&&dB M n).testBit j) (g.getD i 0) n),G):=by
   rw[L3 _ U,K7 hal h16 hgi]
   rfl
  have hgm:gr i=if(i:Int)∈M then none else fF (λj=>((fK rows n).getD i 0&&&dB M n).testBit j) (g.getD i 0) n:=by rw[hgr];exact aOR hr hin
  have e9:=mB i U
  rw[aL,aAl];rw[<-hG];cases hp:fF (λj=>((fK rows n).getD i 0&&&dB M n).testBit j) (g.getD i 0) n with
  |none=>
   rw[hp] at a7 hgm;have hno:gr i=none:=by rw[hgm];split<;>rfl
   have c2:((-1:Int)!= -1)=false:=rfl;have hL:=aBX (gr:=gr) (n:=n) (kk:=i) (λj _=>by rw[hno];simp)
   simp only[gsR,c1,a1,a2,l1,a5,l0,a3,a4,a6,a7,nC,c2,aT,e9];rw[hG,<-hL];exact ih (i+1) k U U U ..
  |some j=>
   rw[hp] at a7 hgm;have hjn:=(uO hp).1;have c2:(((j:Int))!= -1)=true:=by rw[bne_iff_ne];omega
   have c3:=aO1 (H:=G) (m:=m) U (fU M n) i hol U
   rw[aOV hin] at c3;by_cases hmem:(i:Int)∈M
   ·have hno:gr i=none:=by rw[hgm,if_pos hmem]
    have hL:=aBX (gr:=gr) (n:=n) (kk:=i) (λj _=>by rw[hno];simp)
    rw[aTH (not_not_intro hmem)] at c3;simp only[gsR,c1,a1,a2,l1,a5,l0,a3,a4,a6,a7,nC,c2,l2,c3,aT,e9];rw[hG,<-hL];exact ih (i+1) k U U U ..
   ·have hyes:gr i=some j:=by rw[hgm,if_neg hmem]
    have hL:=aOO (n:=n) (kk:=i) hjn hyes;rw[aTG hmem] at c3;obtain⟨a8,a9⟩:=Hl (c:=n) e4 (wZ _ _ _) hjn;have hv:(grL gr n i).getD j 0=grM gr i j:=by rw[aS0,Cc hjn];rfl
    rw[hv] at a9;obtain⟨s1,s2⟩:=vF (a:=grM gr i j) (i:=i) (aBY _ U _) U
    have st:=aB9 (grM gr i j|||2 ^ i) e4 (i:=j) (by rw[wZ];exact hjn)
    rw[<-hL] at st;have a8':cQ 1 (cN H.length n) (.I (j:Int))=some (.Q H.length j):=a8;simp only[gsR,c1,a1,a2,l1,a5,l0,a3,a4,a6,a7,nC,c2,l2,c3,a8',a9,s1,s2,st,aT,e9];rw[hG,gQ];exact ih (i+1) k U U U ..
theorem aO4 (hB:Blks (fB ab ga aa g a) H)(hs:H[sb]? =some (stB mb n (dB M n) (fU M n)))(hc:H[cb]? =some (dV (fK rows n)))(hg:g.length=n)(hgl: ∀z∈g,z<n)(hr:rows.length=n)(hM:M.length=n)(h1:1<=n)(h16:n<=16)(hm:30<m):
  lvl prog pkN m (.func 128) [.Q ab 0,.Q sb 0,cN cb n] H=some (cN H.length n,H++[dV (grL (iS (gI rows) M g n) n n)]):=by
 refine aV (aQ rfl) U ?_
 rw[aLT];have a6:cY (cN cb n)=some (.I n):=rfl;have mk:=uI (H:=H) 23 1 2 [.int .u16 0] .i64 .i64 (n:Int) U U U rfl
 have hz:H++[Blk.cells (List.replicate (n:Int).toNat [Value.int .u16 0]).flatten 23 .row]=H++[dV (grL (iS (gI rows) M g n) n 0)]:=by
  have: ∀n,(List.replicate n [Value.int .u16 0]).flatten=List.replicate n (.int .u16 0):=by
   intro n;induction n with
   |zero=>rfl
   |succ n ih=>rw[List.replicate_succ,aTw,ih];rfl
  rw[aTo,this,aOP,dV,List.map_replicate];rfl
 rw[hz,aTo] at mk;simp only[gsR,a6,mk];exact aO5 hB hs hc hg hgl hr hM h1 h16 U n 0 (m-1) rfl U U ..
end
end
structure RunS (H:aG)(ab ga aa sb mb cb:Nat)(rows:List Nat)(n:Nat)(s:Mat):Prop where
 arb:Blks (fB ab ga aa s.g s.a) H
 st:H[sb]? =some (stB mb n (dB s.m n) (fU s.m n))
 mt:H[mb]? =some (dF s.m [])
 cols:H[cb]? =some (dV (fK rows n))
section
variable {H : aG} {m : Nat} {ab ga aa sb mb cb : Nat} {rows : List Nat} {n : Nat} {s : Mat}
theorem RunS.ext {H':aG}(h:RunS H ab ga aa sb mb cb rows n s)(he:Ext H H'):RunS H' ab ga aa sb mb cb rows n s:=
 ⟨Blks.dx _ _ _ h.arb he,by rw[he.2 _ (b9 h.st) id,h.st],by rw[he.2 _ (b9 h.mt) id,h.mt],by rw[he.2 _ (b9 h.cols) id,h.cols]⟩
theorem zN {zs:List Nat}{ws:List Int}{lr:List Value}:dV zs≠dF ws lr:=λh=>by
 injection h with _ h2
 revert h2
 decide
theorem Qo {mb n i o:Nat}{ws:List Int}{lr:List Value}:stB mb n i o≠dF ws lr:=λh=>by
 injection h with _ h2
 revert h2
 decide
theorem aCb {mb n i o:Nat}{zs:List Nat}:stB mb n i o≠dV zs:=λh=>by
 injection h with _ h2
 revert h2
 decide
theorem Qm {ga aa n:Nat}{ws:List Int}{lr:List Value}:oW ga aa n≠dF ws lr:=λh=>by
 injection h with _ h2
 revert h2
 decide
theorem aO9 {ga aa n mb k i o:Nat}:oW ga aa n≠stB mb k i o:=λh=>by
 injection h with _ h2
 revert h2
 decide
theorem aCa {a i:Nat}(ha:a<65536)(hi:i<16):bin prog .andNot 23 (.int .u16 (a:Int)) (.int .u16 ((2 ^ i:Nat):Int))=some (.int .u16 ((iK a (2 ^ i):Nat):Int)):=
 Xa .u16 rfl _ (by show _<65536;exact ha) (by show _<65536;exact El hi)
theorem RunS.aO8 (h:RunS H ab ga aa sb mb cb rows n s)(hI:MatI n s)(hn:1<=n)(hne:ga≠aa)(hma:mb≠ga)(hmb:mb≠aa)(first:Bool){i k:Nat}(hi:i<n)(hk:k<n)(hf:s.m.getD i 0= -1):
  let H1:=H.set mb (dF (s.m.set i (k:Int)) [])
  let H2:=H1.set sb (stB mb n (iK (dB s.m n) (2 ^ i)) (fU s.m n))
  let H3:=H2.set sb (stB mb n (iK (dB s.m n) (2 ^ i)) (iK (fU s.m n) (2 ^ k)))
  let H4:=H3.set ga (dU (s.g.set k ((i+1)%n)))
  let H5:=H4.set aa (dU (s.a.set i ((k+1)%n)))
  H1[sb]? =some (stB mb n (dB s.m n) (fU s.m n))/\H2[sb]? =some (stB mb n (iK (dB s.m n) (2 ^ i)) (fU s.m n))/\
  RunS H3 ab ga aa sb mb cb rows n ⟨s.m.set i (k:Int),s.g,s.a⟩/\H4[aa]? =some (dU s.a)/\RunS H5 ab ga aa sb mb cb rows n ⟨s.m.set i (k:Int),s.g.set k ((i+1)%n),s.a.set i ((k+1)%n)⟩:=by
 intro H1 H2 H3 H4 H5;have b0:H[ab]? =some (oW ga aa s.g.length):=h.arb _ (aS5 ..);have b1:H[ga]? =some (dU s.g):=h.arb (ga,dU s.g) (by simp[fB])
 have b2:H[aa]? =some (dU s.a):=h.arb (aa,dU s.a) (by simp[fB])
 have nsm:sb≠mb:=λhh=>by have:=h.st;rw[hh,h.mt] at this;exact Qo (aTy this).symm
 have nsg:sb≠ga:=λhh=>by have:=h.st;rw[hh,b1] at this;exact Qo (aTy this).symm
 have nsa:sb≠aa:=λhh=>by have:=h.st;rw[hh,b2] at this;exact Qo (aTy this).symm
 have nsc:sb≠cb:=λhh=>by have:=h.st;rw[hh,h.cols] at this;exact aCb (aTy this).symm
 have ncm:cb≠mb:=λhh=>by have:=h.cols;rw[hh,h.mt] at this;exact zN (aTy this).symm
 have ncg:cb≠ga:=λhh=>by have:=h.cols;rw[hh,b1] at this;exact zN (aTy this).symm
 have nca:cb≠aa:=λhh=>by have:=h.cols;rw[hh,b2] at this;exact zN (aTy this).symm
 have nam:ab≠mb:=λhh=>by have:=h.mt;rw[<-hh,b0] at this;exact Qm (aTy this)
 have nag:ab≠ga:=λhh=>by have:=b1;rw[<-hh,b0] at this;exact Qm (aTy this)
 have naa:ab≠aa:=λhh=>by have:=b2;rw[<-hh,b0] at this;exact Qm (aTy this)
 have nas:ab≠sb:=λhh=>by have:=h.st;rw[<-hh,b0] at this;exact aO9 (aTy this)
 have s1:H1[sb]? =some (stB mb n (dB s.m n) (fU s.m n)):=by rw[aSX nsm.symm,h.st]
 have s2:H2[sb]? =some (stB mb n (iK (dB s.m n) (2 ^ i)) (fU s.m n)):=dN s1;have k3: ∀b,b≠sb->b≠mb->H3[b]? =H[b]? :=λb h1 h2=>by rw[aSX h1.symm,aSX h1.symm,aSX h2.symm]
 have hins:=aOS (k:=k) hi hI.ml;have houts:=aOU (k:=k) hi hI.ml hf;have m3:H3[mb]? =some (dF (s.m.set i (k:Int)) []):=by
  rw[aSX nsm,aSX nsm];exact dN h.mt
 have s3:H3[sb]? =some (stB mb n (dB (s.m.set i (k:Int)) n) (fU (s.m.set i (k:Int)) n)):=by rw[hins,houts];exact dN s2
 have g3:H3[ga]? =some (dU s.g):=by rw[k3 ga nsg.symm hma.symm,b1]
 have a3:H3[aa]? =some (dU s.a):=by rw[k3 aa nsa.symm hmb.symm,b2]
 have r3:H3[ab]? =some (oW ga aa s.g.length):=by rw[k3 ab nas nam,b0]
 have c3:H3[cb]? =some (dV (fK rows n)):=by rw[k3 cb nsc.symm ncm,h.cols]
 have a4:H4[aa]? =some (dU s.a):=by rw[aSX hne,a3]
 have k5: ∀b,b≠ga->b≠aa->H5[b]? =H3[b]? :=λb h1 h2=>by rw[aSX h2.symm,aSX h1.symm]
 refine⟨s1,s2,⟨λp hp=> ?_,s3,m3,c3⟩,a4,⟨λp hp=> ?_,by rw[k5 sb nsg nsa,s3],by rw[k5 mb hma hmb,m3],by rw[k5 cb ncg nca,c3]⟩⟩
 ·simp only[fB,aTf,aTm,or_false] at hp
  rcases hp with rfl|rfl|rfl
  ·exact r3
  ·exact g3
  ·exact a3
 ·simp only[fB,aTf,aTm,or_false] at hp
  rcases hp with rfl|rfl|rfl
  ·rw[k5 ab nag naa,r3,List.length_set]
  ·rw[aSX hne.symm]
   exact dN g3
  ·exact dN a4
end
section
variable {H : aG} {m : Nat} {ab ga aa sb mb cb : Nat} {rows : List Nat} {n : Nat} {s0 : Mat}
theorem aPa {H0:aG}{rounds rd was:Nat}(hI0:MatI n s0)(h1:1<=n)(h16:n<=16)(hne:ga≠aa)(hma:mb≠ga)(hmb:mb≠aa)(hsb:H0.length<=sb)(hmb0:H0.length<=mb)(hm:2<m){K:Ex->K (Value×aG)}{Q:aG->Value->Prop}
  (hK: ∀H',RunS H' ab ga aa sb mb cb rows n (rnd (gI rows) n (rd==0) s0)->Fr (λb=>b=ga∨b=aa) H0 H'-> ∀(x6 lH zZ Aa qB:Value),∃H2 r,Oq (lvl prog pkN m) (aL m) K (.Q ab 0) x6 (.I n) (.Q sb 0) (cN cb n) lH (.int .u16 was) (.I rounds) (.I (rd:Nat)) zZ Aa qB H'=some (r,H2)/\Q H2 r):
  ∀(q i k:Nat)(H:aG)(gb:Nat),n-i=q->i<=n->q<k->RunS H ab ga aa sb mb cb rows n ((List.range i).foldl (acc (iS (gI rows) s0.m s0.g n) n (rd==0)) s0)->Fr (λb=>b=ga∨b=aa) H0 H->H[gb]? =some (dV (grL (iS (gI rows) s0.m s0.g n) n n))->
  ∀(x6:Value),∃H2 r,aL k (aO prog (lvl prog pkN m) (aL m) On) (Ou (lvl prog pkN m) (aL m) K) (some (.Q ab 0)::aF 5 (x6::some (.I n)::aF 1 (some (.Q sb 0)::some (cN cb n)::some (.I (rd:Nat))::some (.int .u16 was)::aF 33 (some (.I rounds)::some (.I (rd:Nat))::aF 9 (some (cN gb n)::some (.I n)::some (.I (i:Nat))::aF 75 []))))) H=some (r,H2)/\Q H2 r:=by
 intro q;induction q with
 |zero=>
  intro i k H gb hq hi hk hS hfr hgb;intros;obtain⟨k,rfl⟩: ∃k',k=k'+1:=⟨k-1,by omega⟩
  have hie:i=n:=U
  subst hie;have c1:decide ((i:Int)<(i:Int))=false:=by simp
  rw[aL,aAy];simp only[gsR,c1];rw[aME];exact hK H hS hfr ..
 |succ q ih=>
  intro i k H gb hq hi hk hS hfr hgb;intros;obtain⟨k,rfl⟩: ∃k',k=k'+1:=⟨k-1,by omega⟩
  have hin:i<n:=U
  obtain⟨gr,hgr⟩:=aD (iS (gI rows) s0.m s0.g n);obtain⟨s,hs⟩:=aD ((List.range i).foldl (acc gr n (rd==0)) s0);rw[<-hgr] at hS hgb ih;rw[<-hs] at hS;have hI:MatI n s:=by rw[hs];exact MatI.Px U _ hI0
  have hmi:s.m.getD i 0=s0.m.getD i 0:=by rw[hs];exact A4 _ _ (by simp)
  have hnext:(List.range (i+1)).foldl (acc gr n (rd==0)) s0=match fF (λk=>(grM gr n i).testBit k) (s.a.getD i 0) n with
   |none=>s
   |some k=>⟨s.m.set i (k:Int),if(rd==0)=true then s.g.set k ((i+1)%n) else s.g,if(rd==0)=true then s.a.set i ((k+1)%n) else s.a⟩:=by
   rw[aTv,List.foldl_append,List.foldl_cons,List.foldl_nil,<-hs,hgr];exact aOL hmi
  have c1:decide ((i:Int)<(n:Int))=true:=by rw[decide_eq_true_eq];omega
  have b0:H[ab]? =some (oW ga aa s.g.length):=hS.arb _ (aS5 ..);have b1:H[ga]? =some (dU s.g):=hS.arb (ga,dU s.g) (by simp[fB])
  have b2:H[aa]? =some (dU s.a):=hS.arb (aa,dU s.a) (by simp[fB])
  rw[hI.gl] at b0;obtain⟨a1,a2⟩:=Hl (c:=n) hgb (wZ _ _ _) hin;have a1:cQ 1 (cN gb n) (.I (i:Int))=some (.Q gb i):=a1;have hv:(grL gr n n).getD i 0=grM gr n i:=by rw[aS0,Cc hin];rfl
  rw[hv] at a2;have l1:ld1 (.Q ab 1) H=some (cN aa n,H):=bA b0 rfl;obtain⟨a3,a4⟩:=Hj b2 hI.al hin;have hai:s.a.getD i 0<n:=aB5 hI.a (by rw[hI.al];exact hin)
  have a5:lvl prog pkN m (.func 129) [.int .u16 (grM gr n i:Nat),.I (s.a.getD i 0:Nat),.I n] H=some (nC (fF (λj=>(grM gr n i).testBit j) (s.a.getD i 0) n),H):=by
   rw[L3 _ U,K7 (aBY gr h16 i) h16 hai]
   rfl
  have e9:=mB i U
  rw[aL,aAy];cases hp:fF (λk=>(grM gr n i).testBit k) (s.a.getD i 0) n with
  |none=>
   rw[hp] at a5 hnext;have c2:((-1:Int)== -1)=true:=rfl;simp only[gsR,c1,a1,a2,l1,a3,a4,a5,nC,c2,aT,e9];exact ih (i+1) k H gb U U U (by rw[hnext];exact hS) hfr hgb ..
  |some j=>
   rw[hp] at a5 hnext;have hjn:=(uO hp).1;have hjb:=(uO hp).2;have hfree:s.m.getD i 0= -1:=by
    have:gr j=some i:=by
     rw[grM,iC,aTG hjn,aTj,beq_iff_eq] at hjb;exact hjb
    rw[hgr] at this;exact hmi.trans (aB0 this).1
   have c2:((j:Int)== -1)=false:=by rw[beq_eq_false_iff_ne];omega
   obtain⟨t1,t2,t3,t4,t5⟩:=hS.aO8 hI h1 hne hma hmb (rd==0) hin hjn hfree;have l2:ld1 (.Q sb 0) H=some (cN mb n,H):=bA hS.st rfl;have i2:cQ 1 (cN mb n) (.I (i:Int))=some (.Q mb i):=(zM (c:=n) hS.mt hI.ml hin).1;have st1:=aB7 (i:=i) (j:Int) hS.mt (by rw[hI.ml];exact hin)
   obtain⟨H1,hH1⟩:=aD (H.set mb (dF (s.m.set i (j:Int)) []));rw[<-hH1] at t1 t2 t3 t4 t5 st1;have l3:ld1 (.Q sb 1) H1=some (.int .u16 (dB s.m n:Nat),H1):=bA t1 rfl;have hil:dB s.m n<65536:=pW _ h16;have hol:fU s.m n<65536:=pW _ h16;have hi1:=(vF (a:=0) (i:=i) U U).1
   have hj1:=(vF (a:=0) (i:=j) U U).1
   have hi2:=aCa (i:=i) hil U
   have hj2:=aCa (i:=j) hol U
   have st2:stN 1 (.Q sb 1) (.int .u16 (iK (dB s.m n) (2 ^ i):Nat)) H1=some (undef,H1.set sb (stB mb n (iK (dB s.m n) (2 ^ i)) (fU s.m n))):=iD t1 aC (by simp)
   obtain⟨H2,hH2⟩:=aD (H1.set sb (stB mb n (iK (dB s.m n) (2 ^ i)) (fU s.m n)));rw[<-hH2] at t2 t3 t4 t5 st2;have l4:ld1 (.Q sb 2) H2=some (.int .u16 (fU s.m n:Nat),H2):=bA t2 rfl;have st3:stN 1 (.Q sb 2) (.int .u16 (iK (fU s.m n) (2 ^ j):Nat)) H2=some (undef,H2.set sb (stB mb n (iK (dB s.m n) (2 ^ i)) (iK (fU s.m n) (2 ^ j)))):=iD t2 aC (by simp)
   obtain⟨H3,hH3⟩:=aD (H2.set sb (stB mb n (iK (dB s.m n) (2 ^ i)) (iK (fU s.m n) (2 ^ j))));rw[<-hH3] at t3 t4 t5 st3;have ngs:gb≠sb:=λhh=>by have:=hS.st;rw[<-hh,hgb] at this;exact aCb (aTy this).symm
   have ngm:gb≠mb:=λhh=>by have:=hS.mt;rw[<-hh,hgb] at this;exact zN (aTy this)
   have ngg:gb≠ga:=λhh=>by have:=b1;rw[<-hh,hgb] at this;exact zN (aTy this)
   have nga:gb≠aa:=λhh=>by have:=b2;rw[<-hh,hgb] at this;exact zN (aTy this)
   have k3: ∀b,b≠sb->b≠mb->H3[b]? =H[b]? :=λb h1 h2=>by rw[hH3,hH2,hH1,aSX h1.symm,aSX h1.symm,aSX h2.symm]
   have hl3:H3.length=H.length:=by rw[hH3,hH2,hH1];simp
   have f3:Fr (λb=>b=ga∨b=aa) H0 H3:=⟨by rw[hl3];exact hfr.1,λb hb hn=>by rw[k3 b U U,hfr.2 b hb hn]⟩
   have g3:H3[gb]? =some (dV (grL gr n n)):=by rw[k3 gb ngs ngm,hgb]
   by_cases hrd:rd=0
   ·subst hrd
    have c3:(((0:Nat):Int)==0)=true:=rfl;have q0:H3[ab]? =some (oW ga aa s.g.length):=t3.arb _ (aS5 ..);rw[hI.gl] at q0;have q1:H3[ga]? =some (dU s.g):=t3.arb (ga,dU s.g) (by simp[fB])
    have l5:ld1 (.Q ab 0) H3=some (cN ga n,H3):=bA q0 rfl;have l6:ld1 (.Q ab 1) H3=some (cN aa n,H3):=bA q0 rfl;have e10:=mB j U
    have r1:bin prog .rem 3 (.I ((i+1:Nat):Int)) (.I n)=some (.I (((i+1)%n:Nat):Int)):=wK (i+1) n _ rfl U
    have r2:bin prog .rem 3 (.I ((j+1:Nat):Int)) (.I n)=some (.I (((j+1)%n:Nat):Int)):=wK (j+1) n _ rfl U
    have i5:=(Hj q1 hI.gl hjn).1;have i6:=(Hj (b:=aa) (H:=H) b2 hI.al hin).1;have st4:=aB8 (i:=j) ((i+1)%n) q1 (by rw[hI.gl];exact hjn)
    obtain⟨H4,hH4⟩:=aD (H3.set ga (dU (s.g.set j ((i+1)%n))));rw[<-hH4] at t4 t5 st4;have st5:=aB8 (i:=i) ((j+1)%n) t4 (by rw[hI.al];exact hin)
    obtain⟨H5,hH5⟩:=aD (H4.set aa (dU (s.a.set i ((j+1)%n))));rw[<-hH5] at t5 st5;simp only[gsR,c1,a1,a2,l1,a3,a4,a5,nC,c2,l2,i2,st1,l3,hi1,hi2,st2,l4,hj1,hj2,st3,c3,l5,l6,aT,e9,e10,r1,r2,i5,i6,st4,st5];refine ih (i+1) k H5 gb U U U (by rw[hnext];exact t5) ?_ ?_ ..
    ·refine⟨by rw[hH5,hH4];simp;exact f3.1,λb hb hn=> ?_⟩
     rw[hH5,hH4,aSX (λhh=>hn (.inr hh.symm)),aSX (λhh=>hn (.inl hh.symm)),f3.2 b hb hn]
    ·rw[hH5,hH4,aSX nga.symm,aSX ngg.symm,g3]
   ·have c3:((rd:Int)==0)=false:=by rw[beq_eq_false_iff_ne];omega
    have c4:(rd==0)=false:=by simpa using hrd
    rw[c4] at hnext;simp only[gsR,c1,a1,a2,l1,a3,a4,a5,nC,c2,l2,i2,st1,l3,hi1,hi2,st2,l4,hj1,hj2,st3,c3,aT,e9];refine ih (i+1) k H3 gb U U U ?_ f3 g3 ..
    rw[c4,hnext];exact t3
end
section
variable {H : aG} {m : Nat} {ab ga aa sb mb cb : Nat} {rows : List Nat} {n : Nat}
def mC (rows:List Nat)(n:Nat)(s:Mat):Nat->Mat
 |0=>s
 |k+1=>rnd (gI rows) n (k==0) (mC rows n s k)
theorem Qp {s:Mat}(h:MatI n s)(hn:1<=n): ∀k,MatI n (mC rows n s k)
 |0=>h
 |k+1=>(Qp h hn k).rnd U
theorem aCd (req:Nat->Nat->Bool): ∀(k:Nat)(s:Mat),tC req n (k+1) s=rnd req n false (tC req n k s)
 |0,s=>rfl
 |k+1,s=>by
  rw[tC,aCd req k,tC]
theorem Qq (g a:List Nat): ∀k,mC rows n ⟨List.replicate n (-1),g,a⟩ (k+1)=jV (gI rows) n (k+1) g a
 |0=>rfl
 |k+1=>by
  rw[mC,Qq g a k];unfold jV;have:(k+1==0)=false:=rfl;rw[this,show k+1+1-1=k+1 by omega,aCd]
  rfl
theorem aCc {s:Mat}(h:MatI n s)(hn:1<=n){k:Nat}(he:mC rows n s (k+1)=mC rows n s k): ∀j,mC rows n s (k+j)=mC rows n s k
 |0=>rfl
 |j+1=>by
  rw[<-Nat.add_assoc,mC,aCc h hn he j];rw[mC] at he;exact aHO (by rw[(Qp h hn k).ml];exact aS1 _) _ he
theorem aPd {H0:aG}{rounds:Nat}{g a:List Nat}(hI0:MatI n ⟨List.replicate n (-1),g,a⟩)(h1:1<=n)(h16:n<=16)(hne:ga≠aa)(hma:mb≠ga)(hmb:mb≠aa)(hsb:H0.length<=sb)(hmb0:H0.length<=mb)(hr:rows.length=n)(hrd:1<=rounds)(hr16:rounds<=16)(hm:80<m){Q:aG->Value->Prop}
  (hK: ∀H',RunS H' ab ga aa sb mb cb rows n (mC rows n ⟨List.replicate n (-1),g,a⟩ rounds)->Fr (λb=>b=ga∨b=aa) H0 H'->Q H' (cN mb n)):
  ∀(q i k:Nat)(H:aG),rounds-i=q->i<=rounds->q<k->RunS H ab ga aa sb mb cb rows n (mC rows n ⟨List.replicate n (-1),g,a⟩ i)->Fr (λb=>b=ga∨b=aa) H0 H->
  ∀(x6 lH eQ zZ Aa qB:Value),∃H2 r,aL k (aO prog (lvl prog pkN m) (aL m) Om) (Ot (lvl prog pkN m) (aL m)) (some (.Q ab 0)::aF 5 (x6::some (.I n)::aF 1 (some (.Q sb 0)::some (cN cb n)::lH::eQ::aF 33 (some (.I rounds)::some (.I (i:Nat))::aF 9 (zZ::Aa::qB::aF 75 []))))) H=some (r,H2)/\Q H2 r:=by
 have out: ∀(H:aG),RunS H ab ga aa sb mb cb rows n (mC rows n ⟨List.replicate n (-1),g,a⟩ rounds)->Fr (λb=>b=ga∨b=aa) H0 H-> ∀(x0 x6 x7 iW lH eQ Iu Ab zZ Aa qB:Value),∃H2 r,Oo (lvl prog pkN m) (aL m) x0 x6 x7 (.Q sb 0) iW lH eQ Iu Ab zZ Aa qB H=some (r,H2)/\Q H2 r:=by
  intro H hS hfr;intros;have l2:ld1 (.Q sb 0) H=some (cN mb n,H):=bA hS.st rfl;unfold Oo;simp only[gsR,l2]
  exact⟨_,_,rfl,hK H hS hfr⟩
 intro q;induction q with
 |zero=>
  intro i k H hq hi hk hS hfr;intros;obtain⟨k,rfl⟩: ∃k',k=k'+1:=⟨k-1,by omega⟩
  have hie:i=rounds:=U
  subst hie;have c1:decide ((i:Int)<(i:Int))=false:=by simp
  rw[aL,aAx];simp only[gsR,c1];rw[aAz];exact out H hS hfr ..
 |succ q ih=>
  intro i k H hq hi hk hS hfr;intros;obtain⟨k,rfl⟩: ∃k',k=k'+1:=⟨k-1,by omega⟩
  have c1:decide ((i:Int)<(rounds:Int))=true:=by rw[decide_eq_true_eq];omega
  obtain⟨s0,hs0⟩:=aD (mC rows n ⟨List.replicate n (-1),g,a⟩ i);have hI:MatI n s0:=by rw[hs0];exact Qp hI0 h1 i
  rw[<-hs0] at hS;have l1:ld1 (.Q sb 1) H=some (.int .u16 (dB s0.m n:Nat),H):=bA hS.st rfl;have a1:=aO4 (m:=m) hS.arb hS.st hS.cols hI.gl hI.g hr hI.ml h1 h16 U
  have a2:cY (cN H.length n)=some (.I n):=rfl;rw[aL,aAx];simp only[gsR,c1,l1,a1,a2];refine aPa (H0:=H0) (s0:=s0) (was:=dB s0.m n) (rd:=i) (rounds:=rounds) hI h1 h16 hne hma hmb hsb hmb0 U ?_ n 0 m _ H.length U U U (hS.ext (Fr.app _ _ _)) ⟨by have:=hfr.1;simp;omega,λb hb hn=>by rw[aSZ (aTb hb hfr.1),hfr.2 b hb hn]⟩ (cD _ _) ..
  intro H' hS' hfr';intros;have l3:ld1 (.Q sb 1) H'=some (.int .u16 (dB (rnd (gI rows) n (i==0) s0).m n:Nat),H'):=bA hS'.st rfl;have hrk:rnd (gI rows) n (i==0) s0=mC rows n ⟨List.replicate n (-1),g,a⟩ (i+1):=by rw[mC,hs0]
  have e9:=mB i U
  unfold Oq;by_cases hst:dB (rnd (gI rows) n (i==0) s0).m n=dB s0.m n
  ·have c2:(((dB (rnd (gI rows) n (i==0) s0).m n:Nat):Int)==((dB s0.m n:Nat):Int))=true:=by rw[hst];simp
   have hsame:=aOY hI.ml hst;simp only[gsR,l3,c2];rw[aAz];refine out H' ?_ hfr' ..;have:mC rows n ⟨List.replicate n (-1),g,a⟩ rounds=rnd (gI rows) n (i==0) s0:=by
    have:=aCc (rows:=rows) hI0 h1 (k:=i) (by rw[<-hrk,hsame,hs0]) (rounds-i)
    rw[show i+(rounds-i)=rounds by omega] at this
    rw[this,hsame,hs0]
   rw[this];exact hS'
  ·have c2:(((dB (rnd (gI rows) n (i==0) s0).m n:Nat):Int)==((dB s0.m n:Nat):Int))=false:=by rw[beq_eq_false_iff_ne];omega
   rw[hrk] at hS';simp only[gsR,l3,c2,aT,e9];exact ih (i+1) k H' U U U hS' hfr' ..
theorem aPc {g a:List Nat}{qb rounds:Nat}(hB:Blks (fB ab ga aa g a) H)(hne:ga≠aa)(hg:g.length=n)(ha:a.length=n)(hgl: ∀z∈g,z<n)(hal: ∀z∈a,z<n)(h1:1<=n)(h15:n<=15)(hq:H[qb]? =some (dV rows))(hr:rows.length=n)(hrl: ∀z∈rows,z<65536)(hrd:1<=rounds)(hr16:rounds<=16)(hm:100<m):
  ∃H' mb,lvl prog pkN m (.func 92) [.pointer (some ⟨ab,0,none⟩),cN qb n,.int .i64 rounds] H=some (cN mb n,H')/\H'[mb]? =some (dF (jV (gI rows) n rounds g a).m [])/\H.length<=mb/\Fr (λb=>b=ga∨b=aa) H H'/\Blks (fB ab ga aa (jV (gI rows) n rounds g a).g (jV (gI rows) n rounds g a).a) H':=by
 have main: ∃H' r,lvl prog pkN m (.func 92) [.pointer (some ⟨ab,0,none⟩),cN qb n,.int .i64 rounds] H=some (r,H')/\(r=cN (H.length+1) n/\H'[H.length+1]? =some (dF (jV (gI rows) n rounds g a).m [])/\Fr (λb=>b=ga∨b=aa) H H'/\Blks (fB ab ga aa (jV (gI rows) n rounds g a).g (jV (gI rows) n rounds g a).a) H'):=by
  have h16:n<=16:=U
  have b0:H[ab]? =some (oW ga aa g.length):=hB _ (aS5 ..);have b1:H[ga]? =some (dU g):=hB (ga,dU g) (by simp[fB])
  have b2:H[aa]? =some (dU a):=hB (aa,dU a) (by simp[fB])
  rw[hg] at b0;refine dP (aQ rfl) U ?_
  rw[aMF];have l0:ld1 (.pointer (some ⟨ab,0,none⟩)) H=some (cN ga n,H):=bA b0 rfl;have e0: ∀b,cY (cN b n)=some (.int .i64 n):=λ_=>rfl
  have c1:((n:Int)!=(n:Int))=false:=by simp
  have c2:decide ((rounds:Int)<1)=false:=by rw[decide_eq_false_iff_not];omega
  have c3:decide ((16:Int)<(rounds:Int))=false:=by rw[decide_eq_false_iff_not];omega
  have e1:=(vF (a:=0) (i:=n) U U).1
  have hpow:2 ^ n<2 ^ 17:=Nat.pow_lt_pow_right U U
  have hpos:0<2 ^ n:=Nat.pow_pos U
  have hpl:2 ^ n<65536:=El U
  have e2:IntKind.u16.wrap ((2 ^ n:Nat)-(1:Int))=((2 ^ n-1:Nat):Int):=by rw[Ay];omega
  have e3:bV 3 1 1 [.int .i64 0] [(0,.int .i64 (-1))] H=some (.slice (some ⟨H.length,0,none⟩) 1 1,H++[.cells [.int .i64 (-1)] 3 .row]):=rfl;obtain⟨H1,hH1⟩:=aD (H++[Blk.cells [.int .i64 (-1)] 3 .row]);rw[<-hH1] at e3;have h1l:H1.length=H.length+1:=by rw[hH1];simp
  have e4:=aOF (H:=H1) (m:=m-1) U n h1 h16 (c:=1) (by rw[hH1];exact cD H _)
  obtain⟨H2,hH2⟩:=aD (H1++[iO n n]);rw[<-hH2] at e4;have h2l:H2.length=H.length+2:=by rw[hH2];simp;omega
  have e5:bld prog 210 [(0,cN H1.length n),(1,.int .u16 (2 ^ n-1:Nat)),(2,.int .u16 (2 ^ n-1:Nat))]=some (.agg #[cN H1.length n,.int .u16 (2 ^ n-1:Nat),.int .u16 (2 ^ n-1:Nat)]):=rfl;have e6:H2++[Blk.cells (Value.cells (.agg #[cN H1.length n,.int .u16 (2 ^ n-1:Nat),.int .u16 (2 ^ n-1:Nat)])).toList 210 .fix]=H2++[stB H1.length n (2 ^ n-1) (2 ^ n-1)]:=rfl;obtain⟨H3,hH3⟩:=aD (H2++[stB H1.length n (2 ^ n-1) (2 ^ n-1)]);have h3l:H3.length=H.length+3:=by rw[hH3];simp;omega
  have x3:Ext H H3:=by
   have y1:Ext H H1:=by rw[hH1];exact Fr.app _ _ _
   have y2:Ext H1 H2:=by rw[hH2];exact Fr.app _ _ _
   have y3:Ext H2 H3:=by rw[hH3];exact Fr.app _ _ _
   exact(y1.tr y2).tr y3
  have hq3:H3[qb]? =some (dV rows):=by rw[x3.2 _ (b9 hq) id,hq]
  have e7:lvl prog pkN (m-1) (.func 127) [cN qb n,.I n] H3=some (cN H3.length n,H3++[dV (fK rows n)]):=by
   rw[aI3 _ U]
   unfold tD cN;simp only;rw[if_pos U,hq3]
   unfold dV;simp only;rw[if_pos (by simp;omega),List.drop_zero,List.take_of_length_le (by simp;omega),Xh rows hrl]
   simp only[aTo]
  simp only[gsR,l0,e0,c1,c2,c3,e1,dX,e2,e3,e4,e5,e6,<-hH3,e7];have hI0:MatI n ⟨List.replicate n (-1),g,a⟩:=MatI.aBd hg ha hgl hal;have x4:Ext H (H3++[dV (fK rows n)]):=by
   have y4:Ext H3 (H3++[dV (fK rows n)]):=Fr.app _ _ _;exact x3.tr y4
  have x4':Ext H3 (H3++[dV (fK rows n)]):=Fr.app _ _ _;have hm3:H3[H1.length]? =some (dF (List.replicate n (-1)) []):=by
   have:H2[H1.length]? =some (iO n n):=by rw[hH2];exact cD _ _
   rw[hH3,lN this];unfold iO dF;rw[Nat.sub_self,List.map_replicate];rfl
  have hs3:H3[H2.length]? =some (stB H1.length n (2 ^ n-1) (2 ^ n-1)):=by rw[hH3];exact cD _ _
  have hS:RunS (H3++[dV (fK rows n)]) ab ga aa H2.length H1.length H3.length rows n ⟨List.replicate n (-1),g,a⟩:=by
   refine⟨Blks.dx _ _ _ hB x4,?_,by rw[x4'.2 _ (b9 hm3) id,hm3],cD _ _⟩
   rw[x4'.2 _ (b9 hs3) id,hs3];simp only;rw[aOT,aOW]
  have hgal:=b9 b1;have haal:=b9 b2;refine aPd (H0:=H) (rounds:=rounds) hI0 h1 h16 hne U U U U hr hrd hr16 U ?_ rounds 0 (m-1) _ U U U hS (x4.Av λ_ h=>h.elim) ..
  intro H' hS' hfr';have hmt:=hS'.mt;obtain⟨r',hr'⟩: ∃r',rounds=r'+1:=⟨rounds-1,by omega⟩
  have harb:=hS'.arb;rw[hr',Qq,<-hr',h1l] at hmt;rw[hr',Qq,<-hr'] at harb
  exact⟨by rw[h1l],hmt,hfr',harb⟩
 obtain⟨H',r,g1,rfl,g2,g3,g4⟩:=main
 exact⟨H',H.length+1,g1,g2,by omega,g3,g4⟩
theorem aPb (h1:1<=n)(h16:n<=16)(hm:0<m): ∃ab ga aa H',lvl prog pkN m (.func 85) [.int .i64 n] H=some (.pointer (some ⟨ab,0,none⟩),H')/\Blks (fB ab ga aa (List.replicate n 0) (List.replicate n 0)) H'/\ga≠aa/\Ext H H'/\H.length<=ab/\H.length<=ga/\H.length<=aa:=by
 have mk:=λH:aG=>uI (H:=H) 3 1 8 [.I 0] .i64 .i64 (n:Int) U U U rfl
 have hz: ∀H:aG,H++[Blk.cells (List.replicate (n:Int).toNat [Value.int .i64 0]).flatten 3 .row]=H++[dU (List.replicate n 0)]:=λH=>by
  have: ∀n,(List.replicate n [Value.I 0]).flatten=List.replicate n (.I 0):=by
   intro n;induction n with
   |zero=>rfl
   |succ n ih=>rw[List.replicate_succ,aTw,ih];rfl
  rw[aTo,this,dU,dF,tJ,List.map_replicate,List.map_replicate,List.append_nil];rfl
 have mk': ∀H:aG,gZ 3 1 8 [.I 0] (.I (n:Int)) (.I (n:Int)) H=some (cN H.length n,H++[dU (List.replicate n 0)]):=λH=>by
  have:=mk H;rw[hz,aTo] at this;exact this
 obtain⟨H1,hH1⟩:=aD (H++[dU (List.replicate n 0)]);obtain⟨H2,hH2⟩:=aD (H1++[dU (List.replicate n 0)]);have h1l:H1.length=H.length+1:=by rw[hH1];simp
 have h2l:H2.length=H.length+2:=by rw[hH2];simp;omega
 have e5:bld prog 199 [(0,cN H.length n),(1,cN H1.length n)]=some (.agg #[cN H.length n,cN H1.length n]):=rfl;have c2:decide ((n:Int)<1)=false:=by rw[decide_eq_false_iff_not];omega
 have c3:decide ((16:Int)<(n:Int))=false:=by rw[decide_eq_false_iff_not];omega
 have e6:H2++[Blk.cells (Value.cells (.agg #[cN H.length n,cN H1.length n])).toList 199 .fix]=H2++[oW H.length H1.length n]:=rfl;have y1:Ext H H1:=by rw[hH1];exact Fr.app _ _ _
 have y2:Ext H1 H2:=by rw[hH2];exact Fr.app _ _ _
 have y3:Ext H2 (H2++[oW H.length H1.length n]):=Fr.app _ _ _;refine⟨H2.length,H.length,H1.length,H2++[oW H.length H1.length n],aV (aQ rfl) U ?_,λp hp=> ?_,by omega,(y1.tr y2).tr y3,by omega,by omega,by omega⟩
 ·rw[aMy]
  simp only[gsR,c2,c3,mk',<-hH1,<-hH2,e5,e6]
 ·have q1:H1[H.length]? =some (dU (List.replicate n 0)):=by rw[hH1];exact cD _ _
  have q2:H2[H1.length]? =some (dU (List.replicate n 0)):=by rw[hH2];exact cD _ _
  simp only[fB,aTf,aTm,or_false,aTC] at hp;rcases hp with rfl|rfl|rfl
  ·exact cD _ _
  ·simp only
   rw[y3.2 _ (by rw[h2l];omega) id,y2.2 _ U id,q1]
  ·simp only
   rw[y3.2 _ (by rw[h2l,h1l];omega) id,q2]
end
end Go.Proofs.YtciiopkbmjppfaaGreatDoor
namespace Go.Proofs.YtciiopkbmjppfaaGreatDoor
open Go.Proofs.Tryz
open Go.Abs Go.Abs.M
open Classical
def cP (p:PlanD)(me:Nat):Cfg where
 nodes:=p.nodes.toNat
 lanes:=p.lanes.toNat
 room:=p.room.toNat
 queue:=p.queue.toNat
 rounds:=p.rounds.toNat
 every:=p.every.toNat
 weights:=p.weights
 start:=p.start.toNat
 me:=me
 by':=(bes p.edges me).map Int.toNat
 port:=λd=>if d=me then 0 else match ((bes p.edges me).map Int.toNat).findIdx? λw:Nat=>decide ((w:Int)=nx p me d) with
  |some j=>j+1
  |none=>0
structure Lay where
 nb:Nat
 pb:Nat
 pcap:Nat
 prest:List Value
 lb:Nat->Nat
 lcap:Nat->Nat
 lrest:Nat->List Value
 wh:Nat->Nat
 ww:Nat->Nat
 wl:Nat->Nat
 wc:Nat->Nat
 lc:Nat->Nat
 wr:Nat->List Value
 lr:Nat->List Value
 sb:Nat->Nat->Nat
 rb:Nat->Nat->Nat
 ab:Nat
 ga:Nat
 aa:Nat
 hb:Nat
 rg:Nat
inductive Part where
 |node
 |host
 |rings
 |arb
 |whl (i:Nat)
 |snd (i k:Nat)
 |rcv (i k:Nat)
abbrev pt (b:Nat):Value:= .Q b 0
def gJ (c:Cfg)(i:Nat):Nat:=if i=0 then c.me else c.by'.getD (i-1) 0
def j9 (y:Lay)(c:Cfg)(i:Nat):Value:=if i=0 then .N else .slice (some ⟨y.lb i,0,none⟩) c.lanes (y.lcap i)
def dK (y:Lay)(c:Cfg)(i:Nat):List Value:=[.I (gJ c i),j9 y c i,pt (y.wh i)]
def jD (y:Lay)(i k:Nat):List Value:=[pt (y.sb i k),pt (y.rb i k)]
def eP (y:Lay)(c:Cfg):Value:= .slice (some ⟨y.pb,0,none⟩) c.aJ y.pcap
def Qs (bag:Int)(ev wv nv:Value)(y:Lay)(c:Cfg)(ticks:Nat):List Value:=
 [pt y.ab,.I c.nodes,ev,.I c.lanes,.I c.room,.I c.queue,.I c.rounds,.I c.every,.I bag,wv,.int .u16 c.start,nv,.I c.me,eP y c,pt y.hb,pt y.rg,.I ticks]
def vG (bag:Int)(ev wv nv:Value)(y:Lay)(c:Cfg)(ticks:Nat):Blk:= .cells (Qs bag ev wv nv y c ticks) 120 .fix
def xH (y:Lay)(c:Cfg):Blk:= .cells (((List.range c.aJ).map (dK y c)).flatten++y.prest) 145 .row
def mD (y:Lay)(c:Cfg)(i:Nat):Blk:= .cells (((List.range c.lanes).map (jD y i)).flatten++y.lrest i) 149 .row
def jE (bag:Int)(ev wv nv:Value)(y:Lay)(c:Cfg)(ticks:Nat):List (Nat×Blk):=
 (y.nb,vG bag ev wv nv y c ticks)::(y.pb,xH y c)::(List.range c.by'.length).map λj=>(y.lb (j+1),mD y c (j+1))
def iQ (bag:Int)(ev wv nv:Value)(y:Lay)(c:Cfg)(s:NS):Part->aG->Prop
 | .node=>Blks (jE bag ev wv nv y c s.ticks)
 | .host=>λD=>HostAt D y.hb s.hL s.hG c.lanes c.queue
 | .rings=>λD=>RingsN D y.rg s.rL (c.aJ*c.lanes*c.room) c.aJ c.lanes
 | .arb=>Blks (fB y.ab y.ga y.aa s.g s.a)
 | .whl i=>Blks (if i<c.aJ then iP (y.wh i) (y.ww i) (y.wl i) (y.wc i) (y.lc i) (y.wr i) (y.lr i) c.weights (s.whl i) else [])
 | .snd i k=>Blks (if 1<=i/\i<c.aJ/\k<c.lanes then [(y.sb i k,iM (s.snd i k))] else [])
 | .rcv i k=>Blks (if 1<=i/\i<c.aJ/\k<c.lanes then [(y.rb i k,eO (s.rcv i k) c.room)] else [])
structure LayOk (y:Lay)(c:Cfg):Prop where
 pcap:c.aJ<=y.pcap
 lcap: ∀i,1<=i->i<c.aJ->c.lanes<=y.lcap i
 ga:y.ga≠y.aa
 ww: ∀i,i<c.aJ->y.ww i≠y.wl i
structure NodeAt (H0 H:aG)(F:Part->Nat->Prop)(y:Lay)(p:PlanD)(ev wv nv:Value)(c:Cfg)(t:Nat)(s:NS):Prop where
 ok:c.ok
 hc:c=cP p c.me
 hp: ∃n,OkP p n
 lay:LayOk y c
 ext:Ext H0 H
 old: ∀b,Un F b->H0.length<=b
 plan:PV H0 p ev wv nv
 inv:NInv c t s
 sep:Sep (iQ p.bag ev wv nv y c s) F H
theorem tK (bag:Int)(ev wv nv:Value)(y:Lay)(c:Cfg)(s:NS)(i:Part):DX (iQ bag ev wv nv y c s i):=by
 cases i with
 |host=>exact λD D' h he=>h.ext he
 |rings=>exact λD D' h he=>h.ext he
 |_=>exact Blks.dx _
theorem Hn {l:List (Nat×Blk)}(h: ∀p∈l,∃cs e k,p.2= .cells cs e k):qR l:=λp hp hd=>by
 obtain⟨cs,e,k,he⟩:=h p hp;rw[he] at hd;cases hd
theorem xG {bag:Int}{ev wv nv:Value}{y:Lay}{c:Cfg}{ticks:Nat}:qR (jE bag ev wv nv y c ticks):=Hn λp hp=>by
 simp only[jE,aTf,aTz] at hp;rcases hp with rfl|rfl|⟨j,_,rfl⟩<;>exact⟨_,_,_,rfl⟩
theorem aCi {ab ga aa:Nat}{g a:List Nat}:qR (fB ab ga aa g a):=Hn λp hp=>by
 simp only[fB,aTf,aTm,or_false] at hp;rcases hp with rfl|rfl|rfl<;>exact⟨_,_,_,rfl⟩
theorem aCj {wh ww wl wc lc:Nat}{wr lr:List Value}{W:List Int}{x:Whl}:qR (iP wh ww wl wc lc wr lr W x):=Hn λp hp=>by
 simp only[iP,aTf,aTm,or_false] at hp;rcases hp with rfl|rfl|rfl<;>exact⟨_,_,_,rfl⟩
theorem Ho {b:Nat}{cs:List Value}{e:TypeId}{k:Kind}:qR [(b,Blk.cells cs e k)]:=Hn λp hp=>by
 simp only[aTf,aTm,or_false] at hp;subst hp
 exact⟨_,_,_,rfl⟩
section
variable {H0 H : aG} {F : Part → Nat → Prop} {y : Lay} {p : PlanD} {ev wv nv : Value} {c : Cfg} {t : Nat} {s : NS}
theorem NodeAt.fW {H':aG}(h:NodeAt H0 H F y p ev wv nv c t s)(he:Ext H H'):NodeAt H0 H' F y p ev wv nv c t s:=
 {h with ext:=h.ext.tr he,sep:=h.sep.ext (tK _ _ _ _ _ _ _) he}
theorem NodeAt.nbB (h:NodeAt H0 H F y p ev wv nv c t s):H[y.nb]? =some (vG p.bag ev wv nv y c s.ticks):=h.sep.wY .node rfl xG (aS5 ..)
theorem NodeAt.ld (h:NodeAt H0 H F y p ev wv nv c t s)(j:Nat)(v:Value)(hv:(Qs p.bag ev wv nv y c s.ticks)[j]? =some v):ld1 (.Q y.nb j) H=some (v,H):=bA h.nbB hv
theorem Ck (y:Lay)(c:Cfg)(i:Nat):(dK y c i).length=3:=rfl
theorem aCk (y:Lay)(i k:Nat):(jD y i k).length=2:=rfl
theorem NodeAt.aCf (h:NodeAt H0 H F y p ev wv nv c t s):Rs (dK y c) 145 H (eP y c) (List.range c.aJ):=by
 have hb:H[y.pb]? =some (xH y c):=h.sep.wY .node rfl xG (by simp[jE])
 refine .inr ⟨y.pb,0,y.pcap,by rw[aTq];rfl,by rw[aTq];exact h.lay.pcap,λ_=>⟨_,_,[],y.prest,rfl,λ_=>rfl,by rw[hb,List.nil_append];rfl⟩⟩
theorem NodeAt.aPe (h:NodeAt H0 H F y p ev wv nv c t s){i:Nat}(h1:1<=i)(h2:i<c.aJ):Rs (jD y i) 149 H (j9 y c i) (List.range c.lanes):=by
 have hb:H[y.lb i]? =some (mD y c i):=h.sep.wY .node rfl xG (by
  simp only[jE,aTf,aTz,aTA];exact .inr (.inr ⟨i-1,by unfold Cfg.aJ at h2;omega,by rw[Nat.sub_add_cancel h1]⟩))
 unfold j9;rw[if_neg U]
 refine .inr ⟨y.lb i,0,y.lcap i,by rw[aTq],by rw[aTq];exact h.lay.lcap i h1 h2,λ_=>⟨_,_,[],y.lrest i,rfl,λ_=>rfl,by rw[hb,List.nil_append];rfl⟩⟩
theorem NodeAt.w7 (h:NodeAt H0 H F y p ev wv nv c t s){i:Nat}(hi:i<c.aJ): ∃b o,cQ 3 (eP y c) (.I (i:Int))=some (.Q b o)/\ ∀H',NodeAt H0 H' F y p ev wv nv c t s∨H'[b]? =H[b]? ->
  ldN 3 (.Q b o) H'=some (.agg ⟨dK y c i⟩,H')/\ld1 (.Q b o) H'=some (.I (gJ c i),H')/\ld1 (.Q b (o+1)) H'=some (j9 y c i,H')/\ld1 (.Q b (o+2)) H'=some (pt (y.wh i),H'):=by
 obtain⟨b,o,g1,g2,g3⟩:=h.aCf.dS (Ck y c) (i:=i) (x:=i) (by simp[hi]) .i64
 have hb:b=y.pb:=by
  obtain⟨o',n',c',hh⟩:=g2;unfold eP at hh;injection hh with hh;injection hh with hh;injection hh with hh;exact hh.symm
 refine⟨b,o,g1,λH' hH'=> ?_⟩
 have hsame:H'[b]? =H[b]? :=by
  rcases hH' with h'|h'
  ·have q1:H[y.pb]? =some (xH y c):=h.sep.wY .node rfl xG (by simp[jE])
   have q2:H'[y.pb]? =some (xH y c):=h'.sep.wY .node rfl xG (by simp[jE])
   rw[hb,q1,q2]
  ·exact h'
 obtain⟨q1,q2,_⟩:=g3 H' hsame
 exact⟨q1,q2 0 _ rfl,q2 1 _ rfl,q2 2 _ rfl⟩
theorem NodeAt.Cf (h:NodeAt H0 H F y p ev wv nv c t s){i k:Nat}(h1:1<=i)(hi:i<c.aJ)(hk:k<c.lanes): ∃b o,cQ 2 (j9 y c i) (.I (k:Int))=some (.Q b o)/\
  ldN 2 (.Q b o) H=some (.agg ⟨jD y i k⟩,H)/\ld1 (.Q b o) H=some (pt (y.sb i k),H)/\ld1 (.Q b (o+1)) H=some (pt (y.rb i k),H):=by
 obtain⟨b,o,g1,g2,g3⟩:=(h.aPe h1 hi).dS (aCk y i) (i:=k) (x:=k) (by simp[hk]) .i64
 obtain⟨q1,q2,_⟩:=g3 H rfl
 exact⟨b,o,g1,q1,q2 0 _ rfl,q2 1 _ rfl⟩
theorem NodeAt.Cj (h:NodeAt H0 H F y p ev wv nv c t s){i k:Nat}(h1:1<=i)(hi:i<c.aJ)(hk:k<c.lanes):H[y.sb i k]? =some (iM (s.snd i k)):=
 h.sep.wY (.snd i k) (l:=[(y.sb i k,Go.Proofs.YtciiopkbmjppfaaGreatDoor.iM (s.snd i k))]) (by simp only[iQ];rw[if_pos ⟨h1,hi,hk⟩]) Ho (aS5 ..)
theorem NodeAt.Cg (h:NodeAt H0 H F y p ev wv nv c t s){i k:Nat}(h1:1<=i)(hi:i<c.aJ)(hk:k<c.lanes):H[y.rb i k]? =some (eO (s.rcv i k) c.room):=
 h.sep.wY (.rcv i k) (l:=[(y.rb i k,Go.Proofs.YtciiopkbmjppfaaGreatDoor.eO (s.rcv i k) c.room)]) (by simp only[iQ];rw[if_pos ⟨h1,hi,hk⟩]) Ho (aS5 ..)
theorem NodeAt.aPf (h:NodeAt H0 H F y p ev wv nv c t s){i:Nat}(hi:i<c.aJ):Blks (iP (y.wh i) (y.ww i) (y.wl i) (y.wc i) (y.lc i) (y.wr i) (y.lr i) c.weights (s.whl i)) H:=
 h.sep.see (.whl i) (by simp only[iQ];rw[if_pos hi]) aCj
theorem NodeAt.Hm (h:NodeAt H0 H F y p ev wv nv c t s)(ht:t<1000000000)(i k:Nat):SndOk (s.snd i k):=by
 have:=h.inv.snd i k
 exact⟨this.le,this.wide,by have h1:=this.big;have h2:=this.wide;omega⟩
theorem NodeAt.Ci (h:NodeAt H0 H F y p ev wv nv c t s)(ht:t<1000000000)(i k:Nat):RcvOk (s.rcv i k) c.room:=by
 have:=h.inv.rcv i k
 exact⟨this.h,h.ok.room.2,by have:=this.big;omega⟩
theorem NodeAt.aCh {H':aG}{F':Part->Nat->Prop}{t':Nat}{s':NS}(h:NodeAt H0 H F y p ev wv nv c t s)(hi:NInv c t' s')(hs:Sep (iQ p.bag ev wv nv y c s') F' H')(hm:Mv (Un F) (Un F') H H'):NodeAt H0 H' F' y p ev wv nv c t' s':=
 {h with inv:=hi,sep:=hs,ext:=⟨aTc h.ext.1 hm.le,λb hb _=>by
   rw[hm.keep b (aTb hb h.ext.1) (λhu=>by have:=h.old b hu;omega),h.ext.2 b hb id]⟩,old:=λb hb=>(hm.own b hb).elim (h.old b) λhl=>aTc h.ext.1 hl}
theorem NodeAt.aCe {H':aG}{F':Nat->Prop}{t':Nat}{s':NS}(h:NodeAt H0 H F y p ev wv nv c t s)(i:Part){B:aG->Prop}(hB:Has B F' H')(hm:Mv (F i) F' H H')(hi:NInv c t' s')
  (hBi: ∀D,B D->iQ p.bag ev wv nv y c s' i D)(hj: ∀j,j≠i-> ∀D,iQ p.bag ev wv nv y c s j D->iQ p.bag ev wv nv y c s' j D):NodeAt H0 H' (updI F i F') y p ev wv nv c t' s'/\Mv (Un F) (Un (updI F i F')) H H':=by
 obtain⟨h1,h2⟩:=h.sep.K2 i (λj _=>tK _ _ _ _ _ _ _ j) hB hm
 refine⟨h.aCh hi (h1.wE λj D hD=> ?_) h2,h2⟩
 by_cases hji:j=i
 ·rw[hji,eV] at hD
  rw[hji];exact hBi D hD
 ·rw[cL _ _ hji] at hD
  exact hj j hji D hD
theorem NodeAt.Ce {H':aG}{t':Nat}{s':NS}(h:NodeAt H0 H F y p ev wv nv c t s)(i:Part){l l':List (Nat×Blk)}(hA:iQ p.bag ev wv nv y c s i=Blks l)(hl:qR l)(hsub: ∀q∈l',InB l q.1)(hf:Fr (InB l) H H')(hB:Blks l' H')(hi:NInv c t' s')
  (hBi:iQ p.bag ev wv nv y c s' i=Blks l')(hj: ∀j,j≠i->iQ p.bag ev wv nv y c s' j=iQ p.bag ev wv nv y c s j):NodeAt H0 H' F y p ev wv nv c t' s'/\Mv (Un F) (Un F) H H':=by
 obtain⟨h1,h2⟩:=h.sep.aOJ i (λj _=>tK _ _ _ _ _ _ _ j) hA hl hsub hf hB
 refine⟨h.aCh hi (h1.wE λj D hD=> ?_) h2,h2⟩
 by_cases hji:j=i
 ·rw[hji,eV] at hD
  rw[hji,hBi];exact hD
 ·rw[cL _ _ hji] at hD
  rw[hj j hji];exact hD
theorem NodeAt.aCg {H':aG}{t':Nat}{i k:Nat}{x':Snd}(h:NodeAt H0 H F y p ev wv nv c t s)(h1:1<=i)(h2:i<c.aJ)(hk:k<c.lanes)(hp:Put1 H (y.sb i k) (Go.Proofs.YtciiopkbmjppfaaGreatDoor.iM x') H')(hi:NInv c t' {s with snd:=up2 s.snd i k x'}):
  NodeAt H0 H' F y p ev wv nv c t' {s with snd:=up2 s.snd i k x'}/\Mv (Un F) (Un F) H H':=by
 refine h.Ce (.snd i k) (l:=[(y.sb i k,Go.Proofs.YtciiopkbmjppfaaGreatDoor.iM (s.snd i k))]) (l':=[(y.sb i k,Go.Proofs.YtciiopkbmjppfaaGreatDoor.iM x')]) (by simp only[iQ];rw[if_pos ⟨h1,h2,hk⟩]) Ho ?_ ?_ ?_ hi ?_ ?_
 ·intro q hq
  simp only[aTf,aTm,or_false] at hq;subst hq
  exact⟨_,aS5 ..,rfl⟩
 ·exact⟨hp.le,λb hb hn=>hp.keep b hb λhh=>hn ⟨_,aS5 ..,hh.symm⟩⟩
 ·intro q hq
  simp only[aTf,aTm,or_false] at hq;subst hq;exact hp.at_
 ·simp only[iQ]
  rw[if_pos ⟨h1,h2,hk⟩,up2,if_pos ⟨rfl,rfl⟩]
 ·intro j hj
  cases j with
  |snd i' k'=>
   have e:up2 s.snd i k x' i' k'=s.snd i' k':=if_neg λhh=>hj (by rw[hh.1,hh.2])
   simp only[iQ];rw[e]
  |_=>rfl
theorem NodeAt.Qr {H':aG}{t':Nat}{i k:Nat}{x':Rcv}(h:NodeAt H0 H F y p ev wv nv c t s)(h1:1<=i)(h2:i<c.aJ)(hk:k<c.lanes)(hp:Put1 H (y.rb i k) (Go.Proofs.YtciiopkbmjppfaaGreatDoor.eO x' c.room) H')(hi:NInv c t' {s with rcv:=up2 s.rcv i k x'}):
  NodeAt H0 H' F y p ev wv nv c t' {s with rcv:=up2 s.rcv i k x'}/\Mv (Un F) (Un F) H H':=by
 refine h.Ce (.rcv i k) (l:=[(y.rb i k,Go.Proofs.YtciiopkbmjppfaaGreatDoor.eO (s.rcv i k) c.room)]) (l':=[(y.rb i k,Go.Proofs.YtciiopkbmjppfaaGreatDoor.eO x' c.room)]) (by simp only[iQ];rw[if_pos ⟨h1,h2,hk⟩]) Ho ?_ ?_ ?_ hi ?_ ?_
 ·intro q hq
  simp only[aTf,aTm,or_false] at hq;subst hq
  exact⟨_,aS5 ..,rfl⟩
 ·exact⟨hp.le,λb hb hn=>hp.keep b hb λhh=>hn ⟨_,aS5 ..,hh.symm⟩⟩
 ·intro q hq
  simp only[aTf,aTm,or_false] at hq;subst hq;exact hp.at_
 ·simp only[iQ]
  rw[if_pos ⟨h1,h2,hk⟩,up2,if_pos ⟨rfl,rfl⟩]
 ·intro j hj
  cases j with
  |rcv i' k'=>
   have e:up2 s.rcv i k x' i' k'=s.rcv i' k':=if_neg λhh=>hj (by rw[hh.1,hh.2])
   simp only[iQ];rw[e]
  |_=>rfl
end
def zO:Value:= .agg #[.pointer none,.pointer none]
def dQ (a b:Value):Blk:= .cells [a,b] 149 .fix
section
variable {H0 H : aG} {F : Part → Nat → Prop} {y : Lay} {p : PlanD} {ev wv nv : Value} {c : Cfg} {t : Nat} {s : NS} {m : Nat}
theorem Hp:bld prog 149 []=some zO:=rfl
theorem Cl {b:Nat}{a0 b0:Value}(a1 b1:Value)(h:H[b]? =some (dQ a0 b0))(ha:cA [a1,b1]=true):stN 2 (.Q b 0) (.agg #[a1,b1]) H=some (undef,H.set b (dQ a1 b1)):=sD h aC rfl rfl (aS1 2) ha
theorem vH {b:Nat}{a0 b0:Value}(h:H[b]? =some (dQ a0 b0)):ldN 2 (.Q b 0) H=some (.agg #[a0,b0],H)/\ld1 (.Q b 0) H=some (a0,H)/\ld1 (.Q b 1) H=some (b0,H):=⟨m9 h (aS1 2),bA h rfl,bA h rfl⟩
theorem aPh (h:NodeAt H0 H F y p ev wv nv c t s)(hm:0<m)(i k:Int)(hno: ¬(1<=i/\i<c.aJ/\0<=k/\k<c.lanes)): ∃H',lvl prog pkN m (.func 96) [pt y.nb,.I i,.I k] H=some (.tuple #[zO,.bool false],H')/\Ext H H':=by
 refine iB (aQ rfl) U ?_
 rw[aAE];have e0: ∀H:aG,H++[Blk.cells [Value.pointer none,.pointer none] 149 .fix]=H++[dQ (.pointer none) (.pointer none)]:=λ_=>rfl
 have h1:=h.fW (H':=H++[dQ (.pointer none) (.pointer none)]) (Fr.app _ _ _);have l13:=h1.ld 13 (eP y c) rfl;have l3:=h1.ld 3 (.I c.lanes) rfl;have e1:cY (eP y c)=some (.I c.aJ):=rfl;have st:stN 2 (.Q H.length 0) zO (H++[dQ (.pointer none) (.pointer none)])=some (undef,H++[dQ (.pointer none) (.pointer none)]):=by
  rw[zO,Cl _ _ (cD _ _) rfl,gQ]
 have ld:=(vH (cD H (dQ (.pointer none) (.pointer none)))).1;have fin: ∃H',(some (Value.tuple #[.agg #[.pointer none,.pointer none],.bool false],H++[dQ (.pointer none) (.pointer none)]):Option (Value×aG))=some (.tuple #[zO,.bool false],H')/\Ext H H':=⟨_,rfl,Fr.app _ _ _⟩;by_cases c1:i<1
 ·simp only[gsR,e0,aTG c1,Hp,st,ld]
  exact fin
 ·by_cases c2:(c.aJ:Int)<=i
  ·simp only[gsR,e0,aTH c1,l13,e1,aTG c2,Hp,st,ld]
   exact fin
  ·by_cases c3:k<0
   ·simp only[gsR,e0,aTH c1,l13,e1,aTH c2,aTG c3,Hp,st,ld]
    exact fin
   ·have c4:(c.lanes:Int)<=k:=U
    simp only[gsR,e0,aTH c1,l13,e1,aTH c2,aTH c3,l3,aTG c4,Hp,st,ld];exact fin
theorem Qt (h:NodeAt H0 H F y p ev wv nv c t s)(hm:0<m){i k:Nat}(h1:1<=i)(h2:i<c.aJ)(hk:k<c.lanes): ∃H',lvl prog pkN m (.func 96) [pt y.nb,.I i,.I k] H=some (.tuple #[.agg #[pt (y.sb i k),pt (y.rb i k)],.bool true],H')/\Ext H H':=by
 refine iB (aQ rfl) U ?_
 rw[aAE];have e0: ∀H:aG,H++[Blk.cells [Value.pointer none,.pointer none] 149 .fix]=H++[dQ (.pointer none) (.pointer none)]:=λ_=>rfl
 have g1:=h.fW (H':=H++[dQ (.pointer none) (.pointer none)]) (Fr.app _ _ _);have l13:=g1.ld 13 (eP y c) rfl;have l3:=g1.ld 3 (.I c.lanes) rfl;have e1:cY (eP y c)=some (.I c.aJ):=rfl;obtain⟨b,o,a1,a2⟩:=g1.w7 h2;obtain⟨_,_,a3,_⟩:=a2 _ (.inl g1);obtain⟨b',o',a4,a5,_,_⟩:=g1.Cf h1 h2 hk;have a5:ldN 2 (.Q b' o') (H++[dQ (.pointer none) (.pointer none)])=some (.agg #[pt (y.sb i k),pt (y.rb i k)],H++[dQ (.pointer none) (.pointer none)]):=a5;have st:stN 2 (.Q H.length 0) (.agg #[pt (y.sb i k),pt (y.rb i k)]) (H++[dQ (.pointer none) (.pointer none)])=some (undef,H++[dQ (pt (y.sb i k)) (pt (y.rb i k))]):=by
  rw[Cl _ _ (cD _ _) rfl,gQ]
 have ld:=(vH (cD H (dQ (pt (y.sb i k)) (pt (y.rb i k))))).1;have c1:decide ((i:Int)<1)=false:=by rw[decide_eq_false_iff_not];omega
 have c2:decide ((c.aJ:Int)<=(i:Int))=false:=by rw[decide_eq_false_iff_not];omega
 have c3:decide ((k:Int)<0)=false:=by rw[decide_eq_false_iff_not];omega
 have c4:decide ((c.lanes:Int)<=(k:Int))=false:=by rw[decide_eq_false_iff_not];omega
 simp only[gsR,e0,c1,l13,e1,c2,c3,l3,c4,a1,a3,a4,a5,st,ld]
 exact⟨_,rfl,Fr.app _ _ _⟩
theorem kP (a b:Value):ext 0 (.tuple #[a,b])=some a/\ext 1 (.tuple #[a,b])=some b:=⟨rfl,rfl⟩
theorem aPn (h:NodeAt H0 H F y p ev wv nv c t s)(hm:1<m){i k:Nat}(h1:1<=i)(h2:i<c.aJ)(hk:k<c.lanes): ∃H',lvl prog pkN m (.func 55) [pt y.nb,.I i,.I k] H=some (pt (y.sb i k),H')/\Ext H H':=by
 obtain⟨H1,g1,x1⟩:=Qt h (m:=m-1) U h1 h2 hk
 have e0: ∀H:aG,H++[Blk.cells [Value.pointer none,.pointer none] 149 .fix]=H++[dQ (.pointer none) (.pointer none)]:=λ_=>rfl
 have st:stN 2 (.Q H1.length 0) (.agg #[pt (y.sb i k),pt (y.rb i k)]) (H1++[dQ (.pointer none) (.pointer none)])=some (undef,H1++[dQ (pt (y.sb i k)) (pt (y.rb i k))]):=by
  rw[Cl _ _ (cD _ _) rfl,gQ]
 have ld:=(vH (cD H1 (dQ (pt (y.sb i k)) (pt (y.rb i k))))).2.1;refine iB (aQ rfl) U ⟨H1++[dQ (pt (y.sb i k)) (pt (y.rb i k))],?_,x1.tr (Fr.app _ _ _)⟩
 rw[aMl];simp only[gsR,g1,kP,e0,st,ld]
theorem aPl (h:NodeAt H0 H F y p ev wv nv c t s)(hm:1<m){i k:Nat}(h1:1<=i)(h2:i<c.aJ)(hk:k<c.lanes): ∃H',lvl prog pkN m (.func 57) [pt y.nb,.I i,.I k] H=some (pt (y.rb i k),H')/\Ext H H':=by
 obtain⟨H1,g1,x1⟩:=Qt h (m:=m-1) U h1 h2 hk
 have e0: ∀H:aG,H++[Blk.cells [Value.pointer none,.pointer none] 149 .fix]=H++[dQ (.pointer none) (.pointer none)]:=λ_=>rfl
 have st:stN 2 (.Q H1.length 0) (.agg #[pt (y.sb i k),pt (y.rb i k)]) (H1++[dQ (.pointer none) (.pointer none)])=some (undef,H1++[dQ (pt (y.sb i k)) (pt (y.rb i k))]):=by
  rw[Cl _ _ (cD _ _) rfl,gQ]
 have ld:=(vH (cD H1 (dQ (pt (y.sb i k)) (pt (y.rb i k))))).2.2;refine iB (aQ rfl) U ⟨H1++[dQ (pt (y.sb i k)) (pt (y.rb i k))],?_,x1.tr (Fr.app _ _ _)⟩
 rw[aMm];simp only[gsR,g1,kP,e0,st,ld]
theorem aCm (h:NodeAt H0 H F y p ev wv nv c t s)(hm:0<m):lvl prog pkN m (.func 32) [pt y.nb] H=some (pt y.hb,H):=by
 refine aV (aQ rfl) U ?_
 rw[aMe];simp only[gsR,h.ld 14 (pt y.hb) rfl]
theorem aPm (h:NodeAt H0 H F y p ev wv nv c t s)(hm:0<m):lvl prog pkN m (.func 69) [pt y.nb] H=some (pt y.rg,H):=by
 refine aV (aQ rfl) U ?_
 rw[aMu];simp only[gsR,h.ld 15 (pt y.rg) rfl]
def fiI (l:List Nat)(z:Int):Int:=match l.findIdx? (λw:Nat=>decide ((w:Int)=z)) with
 |some j=>(j:Int)
 |none=> -1
theorem aPi {l:List Nat}{z:Int}{i:Nat}(hi:i<l.length)(h1:(l.getD i 0:Int)=z)(h2: ∀j,j<i->(l.getD j 0:Int)≠z):fiI l z=i:=by
 have:l.findIdx? (λw:Nat=>decide ((w:Int)=z))=some i:=by
  rw[List.findIdx?_eq_some_iff_getElem];refine⟨hi,?_,λj hj=> ?_⟩
  ·rw[aS0,aSY hi] at h1
   simpa using h1
  ·have:=h2 j hj
   rw[aS0,aSY U] at this
   simpa using this
 unfold fiI;rw[this]
theorem aPj {l:List Nat}{z:Int}(h: ∀j,j<l.length->(l.getD j 0:Int)≠z):fiI l z= -1:=by
 have:l.findIdx? (λw:Nat=>decide ((w:Int)=z))=none:=by
  rw[List.findIdx?_eq_none_iff];intro x hx;obtain⟨j,hj,rfl⟩:=List.mem_iff_getElem.mp hx;have:=h j hj;rw[aS0,aSY hj] at this;simpa using this
 unfold fiI;rw[this]
def lC (y:Lay)(c:Cfg)(i:Nat):Blk:= .cells (dK y c i) 145 .fix
theorem aPp (hm:0<m){cb:Nat}{z:Int}(i:Nat)(hc:H[cb]? =some (.cells [.I z] 3 .fix)):lvl prog pkN m (.func 149) [.agg ⟨dK y c i⟩,pt cb] H=some (.bool ((gJ c i:Int)==z),H++[lC y c i]):=by
 refine aV (aQ rfl) U ?_
 rw[aL7];have e0:H++[Blk.cells (Value.cells (.agg ⟨dK y c i⟩)).toList 145 .fix]=H++[lC y c i]:=rfl;have l0:ld1 (.pointer (some ⟨H.length,0,none⟩)) (H++[lC y c i])=some (.int .i64 (gJ c i),H++[lC y c i]):=bA (cD _ _) rfl;have l1:ld1 (pt cb) (H++[lC y c i])=some (.int .i64 z,H++[lC y c i]):=bA (lN hc _) rfl;simp only[gsR,e0,l0,l1]
theorem aPo (hm:0<m){cb:Nat}{z:Int}(i:Nat)(hc:H[cb]? =some (.cells [.I z] 3 .fix)):lvl prog pkN m (.func 102) [.agg ⟨dK y c i⟩,pt cb] H=some (.bool ((gJ c i:Int)==z),H++[lC y c i]):=by
 refine aV (aQ rfl) U ?_
 rw[aLz];have e0:H++[Blk.cells (Value.cells (.agg ⟨dK y c i⟩)).toList 145 .fix]=H++[lC y c i]:=rfl;have l0:ld1 (.pointer (some ⟨H.length,0,none⟩)) (H++[lC y c i])=some (.int .i64 (gJ c i),H++[lC y c i]):=bA (cD _ _) rfl;have l1:ld1 (pt cb) (H++[lC y c i])=some (.int .i64 z,H++[lC y c i]):=bA (lN hc _) rfl;simp only[gsR,e0,l0,l1]
theorem aPk {fid:FuncId}{cb:Nat}{z:Int}{v:Value}(hf: ∀(H:aG)(i:Nat),H[cb]? =some (.cells [.I z] 3 .fix)->lvl prog pkN m (.func fid) [.agg ⟨dK y c i⟩,pt cb] H=some (.bool ((gJ c i:Int)==z),H++[lC y c i]))
  (hb:c.by'.length<=5): ∀(q i k:Nat)(H:aG),c.by'.length-i=q->i<=c.by'.length->q<k->Rs (dK y c) 145 H v ((List.range c.aJ).drop 1)->H[cb]? =some (.cells [.I z] 3 .fix)->(∀j,j<i->(c.by'.getD j 0:Int)≠z)-> ∀(x4:Value),
  ∃H2,aL k (aO prog (lvl prog pkN m) (aL m) Nl) (Gb (lvl prog pkN m) (aL m)) (v::some (.func (.func fid) #[] #[pt cb])::aF 2 (x4::aF 2 (some (.I c.by'.length)::some (.I (i:Nat))::aF 10 []))) H=some (.I (fiI c.by' z),H2)/\Ext H H2:=by
 intro q;induction q with
 |zero=>
  intro i k H hq hi hk hv hc hno;intros;obtain⟨k,rfl⟩: ∃k',k=k'+1:=⟨k-1,by omega⟩
  have c1:decide ((i:Int)<(c.by'.length:Int))=false:=by rw[decide_eq_false_iff_not];omega
  rw[aL,aAi];simp only[gsR,c1];rw[aLw];rw[aPj λj hj=>hno j U]
  simp only[gsR]
  exact⟨_,rfl,Fr.dY _ _⟩
 |succ q ih=>
  intro i k H hq hi hk hv hc hno;intros;obtain⟨k,rfl⟩: ∃k',k=k'+1:=⟨k-1,by omega⟩
  have c1:decide ((i:Int)<(c.by'.length:Int))=true:=by rw[decide_eq_true_eq];omega
  have hx:((List.range c.aJ).drop 1)[i]? =some (i+1):=by
   rw[List.getElem?_drop,aTE (by unfold Cfg.aJ;omega),Nat.add_comm]
  obtain⟨b,o,a1,_,a3⟩:=hv.dS (Ck y c) hx .i64;have a3:=(a3 H rfl).1;have hcall:=hf H (i+1) hc;have hto:gJ c (i+1)=c.by'.getD i 0:=by unfold gJ;rw[if_neg U];rfl
  rw[hto] at hcall;have e9:=mB i U
  have hcv:kQ (lvl prog pkN m) (.func (.func fid) #[] #[pt cb]) [.agg ⟨dK y c (i+1)⟩] H=some (.bool ((c.by'.getD i 0:Int)==z),H++[lC y c (i+1)]):=hcall;rw[aL,aAi];by_cases he:(c.by'.getD i 0:Int)=z
  ·have c2:((c.by'.getD i 0:Int)==z)=true:=by simpa using he
   rw[c2] at hcv;simp only[gsR,c1,a1,a3,hcv];rw[aLy];rw[aPi U he hno]
   simp only[gsR]
   exact⟨_,rfl,Fr.app _ _ _⟩
  ·have c2:((c.by'.getD i 0:Int)==z)=false:=by simpa using he
   rw[c2] at hcv;simp only[gsR,c1,a1,a3,hcv,aT,e9];obtain⟨H2,g1,g2⟩:=ih (i+1) k (H++[lC y c (i+1)]) U U U (hv.ext (Fr.app _ _ _)) (lN hc _) (λj hj=>by
    by_cases hji:j=i
    ·rw[hji];exact he
    ·exact hno j U) ..
   exact⟨H2,g1,(show Ext H (H++[lC y c (i+1)]) from Fr.app _ _ _).tr g2⟩
theorem aCn {fid:FuncId}{cb:Nat}{z:Int}{v:Value}(hm:20<m)(hf: ∀(H:aG)(i:Nat),H[cb]? =some (.cells [.I z] 3 .fix)->lvl prog pkN (m-1) (.func fid) [.agg ⟨dK y c i⟩,pt cb] H=some (.bool ((gJ c i:Int)==z),H++[lC y c i]))
  (hb:c.by'.length<=5)(hv:Rs (dK y c) 145 H v ((List.range c.aJ).drop 1))(hc:H[cb]? =some (.cells [.I z] 3 .fix)): ∃H2,lvl prog pkN m (.func 101) [v,.func (.func fid) #[] #[pt cb]] H=some (.I (fiI c.by' z),H2)/\Ext H H2:=by
 refine iB (aQ rfl) U ?_
 rw[aLx];have hl:=hv.fR;have:((List.range c.aJ).drop 1).length=c.by'.length:=by simp[Cfg.aJ]
 rw[this] at hl;simp only[gsR,hl];exact aPk hf hb c.by'.length 0 (m-1) H U U U hv hc (λj hj=>by omega) ..
theorem aPg:prog.cellsOf 145=3:=by kernel_rfl
theorem NodeAt.aCl (h:NodeAt H0 H F y p ev wv nv c t s): ∃v,slc prog 3 (eP y c) (some (.I 1)) none none H=some (v,H)/\Rs (dK y c) 145 H v ((List.range c.aJ).drop 1):=by
 have hne:List.range c.aJ≠[]:=by unfold Cfg.aJ;simp
 obtain⟨v',g1,g2,_⟩:=h.aCf.D9 (P:=prog) (Ck y c) aPg hne (l:=1) (r:=c.aJ) (lo:=some (.I 1)) (hi:=none) (iA 0 .i64 1) (by rw[aTq];rfl) (by unfold Cfg.aJ;omega) (by rw[aTq];exact aS1 _)
 rw[List.take_of_length_le (by rw[aTq];exact aS1 _)] at g2
 exact⟨v',g1,g2⟩
end
section
variable {H0 H : aG} {F : Part → Nat → Prop} {y : Lay} {p : PlanD} {ev wv nv : Value} {c : Cfg} {t : Nat} {s : NS} {m : Nat}
def xI (z:Int):Blk:= .cells [.int .i64 z] 3 .fix
theorem aCo (h:NodeAt H0 H F y p ev wv nv c t s)(hm:40<m)(d:Nat)(hd:d<c.nodes): ∃H',lvl prog pkN m (.func 125) [pt y.nb,.I d] H=some (.I (c.port d:Nat),H')/\Ext H H':=by
 have hport:c.port d=if d=c.me then 0 else match c.by'.findIdx? λw:Nat=>decide ((w:Int)=nx p c.me d) with
   |some j=>j+1
   |none=>0:=by
  have:=congrArg Cfg.port h.hc;have h2:=congrArg Cfg.by' h.hc;rw[this,h2];rfl
 refine iB (aQ rfl) U ?_
 rw[aLI];have l12:=h.ld 12 (.I c.me) rfl;by_cases hme:d=c.me
 ·have c1:((d:Int)==(c.me:Int))=true:=by rw[hme];simp
  rw[if_pos hme] at hport;rw[hport];simp only[gsR,l12,c1]
  exact⟨_,rfl,Fr.dY _ _⟩
 ·have c1:((d:Int)==(c.me:Int))=false:=by rw[beq_eq_false_iff_ne];omega
  rw[if_neg hme] at hport;obtain⟨n,hn⟩:=h.hp;have hnn:c.nodes=n:=by
   have:=congrArg Cfg.nodes h.hc;rw[this];show p.nodes.toNat=n
   rw[hn.hn];simp
  have hmen:c.me<n:=by rw[<-hnn];exact h.ok.me
  obtain⟨row,hrow⟩: ∃row,p.next[c.me]? =some row:=⟨_,aSY (by rw[hn.nl];exact hmen)⟩
  have l11:=h.ld 11 nv rfl;obtain⟨pp,u,r1,r2,r3⟩:=(h.plan.ext h.ext).n.Ez hrow .i64;have hrl:row.length=n:=hn.rl _ (aS6 hrow);have hx:row[d]? =some (nx p c.me d):=by
   unfold nx;rw[aTo,aTo,aS0,aS0,hrow,aTp];rw[aSY (by rw[hrl];omega)]
   rfl
  obtain⟨b,o,i1,_,i3⟩:=r3.dS eM hx .i64;have i3:=(i3 H rfl).2.1 0 _ rfl;have i3:ld1 (.pointer (some ⟨b,o,none⟩)) H=some (.int .i64 (nx p c.me d),H):=i3;have e0: ∀H:aG,H++[Blk.cells [Value.int .i64 0] 3 .fix]=H++[xI 0]:=λ_=>rfl
  have st:stN 1 (.Q H.length 0) (.I (nx p c.me d)) (H++[xI 0])=some (undef,H++[xI (nx p c.me d)]):=by
   rw[iD (cD H (xI 0)) aC (by simp),gQ]
   rfl
  obtain⟨H1,hH1⟩:=aD (H++[xI (nx p c.me d)]);have x1:Ext H H1:=by rw[hH1];exact Fr.app _ _ _
  have h1:=h.fW x1;have l13:=h1.ld 13 (eP y c) rfl;obtain⟨v,t1,t2⟩:=h1.aCl;obtain⟨H2,g1,g2⟩:=aCn (m:=m-1) (fid:=149) (cb:=H.length) (z:=nx p c.me d) U (λG i hG=>aPp U i hG) h.ok.by' t2 (by rw[hH1];exact cD _ _)
  have e1:IntKind.i64.wrap (fiI c.by' (nx p c.me d)+1)=(c.port d:Nat):=by
   rw[hport];unfold fiI;cases hf:c.by'.findIdx? λw:Nat=>decide ((w:Int)=nx p c.me d) with
   |none=>rfl
   |some j=>
    have:=(List.findIdx?_eq_some_iff_getElem.mp hf).1;have:=h.ok.by';exact mB j U
  simp only[gsR,l12,c1,l11,r1,r2,i1,i3,e0,st,<-hH1,l13,t1,g1,aT,e1]
  exact⟨_,rfl,x1.tr g2⟩
theorem aPs (x:Pkt):(pS c x s).2={s with hL:=(pS c x s).2.hL}:=by
 unfold pS;split
 ·rfl
 ·split<;>rfl
theorem aPq {D:aG}{hb:Nat}(hm:2<m)(x:Pkt)(hq: ∀k:Int,(cW s.hL k).length<=c.queue)(h8:c.queue<=8)(h:HostAt D hb s.hL s.hG c.lanes c.queue):
  ∃r D',lvl prog pkN m (.func 87) [pt hb,x.cF] D=some (r,D')/\(r= .int .u16 (pS c x s).1/\HostAt D' hb (pS c x s).2.hL s.hG c.lanes c.queue):=by
 obtain⟨w0,w1,w2,cv,h⟩:=h;unfold pS;by_cases h1:0<=x.lane/\x.lane<c.lanes
 ·rw[if_neg (not_not_intro h1)]
  by_cases h2:(cW s.hL x.lane).length=c.queue
  ·rw[if_pos h2]
   exact⟨_,_,aNo h hm x h1 h2,rfl,HostAt.ext ⟨w0,w1,w2,cv,h⟩ (Fr.app _ _ _)⟩
  ·rw[if_neg h2]
   obtain⟨H',g1,g2⟩:=aNq h hm x h1 h2 (eJ (n:=1000) aC (by have:=hq x.lane;omega))
   exact⟨_,_,g1,rfl,g2⟩
 ·rw[if_pos h1]
  exact⟨_,_,aNp h hm x h1,rfl,HostAt.ext ⟨w0,w1,w2,cv,h⟩ (Fr.app _ _ _)⟩
theorem NodeAt.Hq {H':aG}{F':Nat->Prop}{t':Nat}{L G:List Pkt}(h:NodeAt H0 H F y p ev wv nv c t s)(hB:Has (λD=>HostAt D y.hb L G c.lanes c.queue) F' H')(hm:Mv (F .host) F' H H')(hi:NInv c t' {s with hL:=L,hG:=G}):
  NodeAt H0 H' (updI F .host F') y p ev wv nv c t' {s with hL:=L,hG:=G}/\Mv (Un F) (Un (updI F .host F')) H H':=
 h.aCe .host hB hm hi (λD hD=>hD) λj hj D hD=>by
  cases j with
  |host=>exact absurd rfl hj
  |_=>exact hD
theorem NodeAt.Qu {H':aG}{F':Nat->Prop}{t':Nat}{L:List (Go.Abs.dO×Pkt)}(h:NodeAt H0 H F y p ev wv nv c t s)(hB:Has (λD=>RingsN D y.rg L (c.aJ*c.lanes*c.room) c.aJ c.lanes) F' H')(hm:Mv (F .rings) F' H H')(hi:NInv c t' {s with rL:=L}):
  NodeAt H0 H' (updI F .rings F') y p ev wv nv c t' {s with rL:=L}/\Mv (Un F) (Un (updI F .rings F')) H H':=
 h.aCe .rings hB hm hi (λD hD=>hD) λj hj D hD=>by
  cases j with
  |rings=>exact absurd rfl hj
  |_=>exact hD
theorem Has.vI {A B:aG->Prop}{F:Nat->Prop}{H:aG}(h:Has A F H)(hAB: ∀D,A D->B D):Has B F H:=⟨hAB _ h.at_,h.lt⟩
theorem aPr (h:NodeAt H0 H F y p ev wv nv c t s)(hm:10<m)(x:Pkt)(hb:0<=x.body/\x.body<4294967296): ∃H' F',lvl prog pkN m (.func 49) [pt y.nb,x.cF] H=some (.int .u16 (pR c x s).1,H')/\NodeAt H0 H' F' y p ev wv nv c t (pR c x s).2/\Mv (Un F) (Un F') H H':=by
 have hinv:=h.inv.aNu h.ok hb;obtain⟨H1,hH1⟩:=aD (H++[cM x]);have x1:Ext H H1:=by rw[hH1];exact Fr.app _ _ _
 have h1:=h.fW x1;have b1:H1[H.length]? =some (cM x):=by rw[hH1];exact cD _ _
 have e0:H++[Blk.cells (Value.cells x.cF).toList 31 .fix]=H1:=by rw[hH1];rfl
 have l0:ld1 (.Q H.length 0) H1=some (.I x.src,H1):=bA b1 rfl;have l1:ld1 (.Q H.length 1) H1=some (.I x.dst,H1):=bA b1 rfl;have l4:=(nY b1).2;have n1:=h1.ld 1 (.I c.nodes) rfl;have n12:=h1.ld 12 (.I c.me) rfl;have n14:=h1.ld 14 (pt y.hb) rfl;have mvx:Mv (Un F) (Un F) H H1:=Mv.nS x1 _;by_cases hno:x.src≠c.me∨x.dst<0∨(c.nodes:Int)<=x.dst∨x.dst=c.me
 ·have hr:pR c x s=(1,s):=by unfold pR;rw[if_pos hno]
  rw[hr];refine⟨H1,F,aV (aQ rfl) U ?_,h1,mvx⟩
  rw[aAs];by_cases c1:x.src=c.me
  ·have c1':(x.src !=(c.me:Int))=false:=by simp[c1]
   by_cases c2:x.dst<0
   ·simp only[gsR,e0,l0,n12,c1',l1,aTG c2]
    rfl
   ·by_cases c3:(c.nodes:Int)<=x.dst
    ·simp only[gsR,e0,l0,n12,c1',l1,aTH c2,n1,aTG c3]
     rfl
    ·have c4:x.dst=c.me:=by
      rcases hno with h|h|h|h
      ·exact absurd c1 h
      ·exact absurd h c2
      ·exact absurd h c3
      ·exact h
     have c4':(x.dst==(c.me:Int))=true:=by simp[c4]
     simp only[gsR,e0,l0,n12,c1',l1,aTH c2,n1,aTH c3,c4'];rfl
  ·have c1':(x.src !=(c.me:Int))=true:=by simpa using c1
   simp only[gsR,e0,l0,n12,c1'];rfl
 ·have hr:pR c x s=pS c x s:=by unfold pR;rw[if_neg hno]
  rw[hr] at hinv⊢;rw[aPs] at hinv⊢;obtain⟨r,H2,F',g1,g2,g3⟩:=(h1.sep.own .host).yZ qL (n:=m-1) (λD hD=>aPq (m:=m-1) U x h1.inv.hQ h.ok.queue.2 hD)
  obtain⟨hrv,_⟩:=g2.at_;obtain⟨k1,k2⟩:=h1.Hq (Has.vI g2 λD hD=>hD.2) g3 hinv
  have c1:(x.src !=(c.me:Int))=false:=by
   simp only[bne_eq_false_iff_eq];exact Classical.byContradiction λhh=>hno (.inl hh)
  have c2:decide (x.dst<0)=false:=by rw[decide_eq_false_iff_not];exact λhh=>hno (.inr (.inl hh))
  have c3:decide ((c.nodes:Int)<=x.dst)=false:=by rw[decide_eq_false_iff_not];exact λhh=>hno (.inr (.inr (.inl hh)))
  have c4:(x.dst==(c.me:Int))=false:=by rw[beq_eq_false_iff_ne];exact λhh=>hno (.inr (.inr (.inr hh)))
  refine⟨H2,_,aV (aQ rfl) U ?_,k1,mvx.nT k2⟩
  rw[aAs];have g1:lvl prog pkN (m-1) (.func 87) [pt y.hb,x.cF] H1=some (.int .u16 (pS c x s).1,H2):=by rw[<-hrv];exact g1
  simp only[gsR,e0,l0,n12,c1,l1,c2,n1,c3,c4,n14,l4,g1]
end
theorem aPx (a b c d:UInt8):dD [a,b,c,d]<4294967296:=Ps 4 _ rfl
theorem aCq (a b:UInt8):dD [a,b]<65536:=Ps 2 _ rfl
theorem aCp {bs:List UInt8}{f:Frm}(h:jZ bs=some f):f.ok:=by
 have h1:(fG bs).ok:=⟨UInt8.toNat_lt _,UInt8.toNat_lt _,aCq _ _,by show 0<256;decide,by show 0<256;decide,by show 0<4294967296;decide⟩
 have h2:(kK bs).ok:=⟨UInt8.toNat_lt _,UInt8.toNat_lt _,aCq _ _,UInt8.toNat_lt _,UInt8.toNat_lt _,aPx _ _ _ _⟩;unfold jZ u5 at h
 split at h
 ·split at h
  ·cases h;exact h1
  ·cases h
 ·split at h
  ·split at h
   ·cases h;exact h2
   ·cases h
  ·cases h
theorem aPy {α:Type}(f:Nat->Nat->α)(i k:Nat):up2 f i k (f i k)=f:=by
 funext j l
 unfold up2;split
 ·rename_i h
  rw[h.1,h.2]
 ·rfl
theorem vJ (b:Nat)(H':aG):chk (some (pt b,H')) (pt b)=true:=by simp[chk,veq]
theorem aCs (x:Pkt)(H':aG):chk (some (x.cF,H')) x.cF=true:=by simp[chk,veq,rH,Pkt.cF,Pkt.lX]
theorem aCr {n:Nat}(h:n≠0):((n:Int)!=0)=true:=by
 rw[bne_iff_ne];omega
theorem aPt {room:Nat}{x:Rcv}{s:Nat}:(x.eW room s).1≠0->(x.eW room s).2=x:=by
 unfold Rcv.eW
 generalize bU x.n s=w
 by_cases c1:w<x.n
 ·simp only[if_pos c1]
  exact λ_=>trivial
 ·by_cases c2:x.dE room<=w
  ·simp only[if_neg c1,if_pos c2]
   exact λ_=>trivial
  ·simp only[if_neg c1,if_neg c2]
   exact λh=>absurd rfl h
theorem aPv {c:Cfg}{s:NS}{i:Nat}{f:Frm}(hn: ¬c.nodes<=max f.src f.dst)(h0:((s.rcv i f.lane).eW c.room f.seq).1=0):
  nW c i f s=(0,{s with rcv:=up2 s.rcv i f.lane ((s.rcv i f.lane).eW c.room f.seq).2,rL:=nB c s.rL ((i:Int),(c.port f.dst:Int),(f.lane:Int)) ⟨f.src,f.dst,f.lane,f.body⟩}):=by
 unfold nW;rw[if_neg hn]
 generalize (s.rcv i f.lane).eW c.room f.seq=q at*
 obtain⟨e,r⟩:=q;simp only at h0;subst h0;rfl
theorem aPu {c:Cfg}{s:NS}{i:Nat}{f:Frm}(hn: ¬c.nodes<=max f.src f.dst)(h0:((s.rcv i f.lane).eW c.room f.seq).1≠0):
  nW c i f s=(((s.rcv i f.lane).eW c.room f.seq).1,s):=by
 unfold nW;rw[if_neg hn]
 generalize (s.rcv i f.lane).eW c.room f.seq=q at*
 obtain⟨e,r⟩:=q;cases e with
 |zero=>exact absurd rfl h0
 |succ e=>rfl
section
variable {H0 H : aG} {F : Part → Nat → Prop} {y : Lay} {p : PlanD} {ev wv nv : Value} {c : Cfg} {t : Nat} {s : NS} {m : Nat}
theorem aPw (h:NodeAt H0 H F y p ev wv nv c t s)(ht:t<1000000000)(hm:200<m){i:Nat}{f:Frm}(h1:1<=i)(h2:i<c.aJ)(hl:f.lane<c.lanes)(hf:f.ok):
  ∃H' F',lvl prog pkN m (.func 105) [pt y.nb,.I i,.agg #[pt (y.sb i f.lane),pt (y.rb i f.lane)],frV f] H=some (.int .u16 (nW c i f s).1,H')/\NodeAt H0 H' F' y p ev wv nv c (t+1) (nW c i f s).2/\Mv (Un F) (Un F') H H':=by
 have hinv:=h.inv.aNt h.ok i f hl hf.body;have hm0:0<m:=U
 have fs:=hf.src;have fd:=hf.dst;have fl:=hf.lane;have fq:=hf.seq;obtain⟨H1,hH1⟩:=aD (H++[dQ (pt (y.sb i f.lane)) (pt (y.rb i f.lane))]);obtain⟨H2,hH2⟩:=aD (H1++[frB f]);have x1:Ext H H1:=by rw[hH1];exact Fr.app _ _ _
 have x2:Ext H1 H2:=by rw[hH2];exact Fr.app _ _ _
 have g2:=(h.fW x1).fW x2;have mv2:Mv (Un F) (Un F) H H2:=Mv.nS (x1.tr x2) _;have e1:H++[Blk.cells (Value.cells (.agg #[pt (y.sb i f.lane),pt (y.rb i f.lane)])).toList 149 .fix]=H1:=by rw[hH1];rfl
 have e2:H1++[Blk.cells (Value.cells (frV f)).toList 157 .fix]=H2:=by rw[hH2];rfl
 have bl:H2[H.length]? =some (dQ (pt (y.sb i f.lane)) (pt (y.rb i f.lane))):=by
  have:H1[H.length]? =some (dQ (pt (y.sb i f.lane)) (pt (y.rb i f.lane))):=by rw[hH1];exact cD _ _
  rw[x2.2 _ (b9 this) id,this]
 have bf:H2[H1.length]? =some (frB f):=by rw[hH2];exact cD _ _
 obtain⟨l0,l1,l2,l3,l4,l5,l6⟩:=lQ bf;have n1:=g2.ld 1 (.I c.nodes) rfl;have ec:IntKind.i64.wrap (max (f.src:Int) (f.dst:Int))=max (f.src:Int) (f.dst:Int):=bJ U U
 by_cases c1:c.nodes<=max f.src f.dst
 ·have hr:nW c i f s=(30,s):=by unfold nW;rw[if_pos c1]
  rw[hr];have c1':decide ((c.nodes:Int)<=max (f.src:Int) (f.dst:Int))=true:=by rw[decide_eq_true_eq];omega
  refine⟨H2,F,aV (aQ rfl) U ?_,{g2 with inv:=g2.inv.pU (Nat.le_succ t)},mv2⟩
  rw[Nm];simp only[gsR,e1,e2,l3,l4,wQ,dJ _ _ u8U iU,ec,n1,c1'];rfl
 ·have c1':decide ((c.nodes:Int)<=max (f.src:Int) (f.dst:Int))=false:=by rw[decide_eq_false_iff_not];omega
  have lr:=(vH bl).2.2;obtain⟨H3,r1,r2⟩:=aM1 (m:=m-1) U (g2.Cg h1 h2 hl) (g2.Ci ht i f.lane) f.seq fq
  have hri:NInv c (t+1) {s with rcv:=up2 s.rcv i f.lane ((s.rcv i f.lane).eW c.room f.seq).2}:=
   {g2.inv.pU (t':=t+1) U with rcv:=zH (g2.inv.pU (t':=t+1) U).rcv ((g2.inv.rcv i f.lane).aBh h.ok.room.2 f.seq)}
  obtain⟨g3,mv3⟩:=g2.Qr h1 h2 hl r2 hri;by_cases c2:((s.rcv i f.lane).eW c.room f.seq).1=0
  ·have c2':((((s.rcv i f.lane).eW c.room f.seq).1:Int)!=0)=false:=by rw[c2];rfl
   have hr:=aPv (c:=c) (s:=s) (i:=i) c1 c2;rw[hr] at hinv⊢;obtain⟨x,hx⟩: ∃x:Pkt,x=⟨f.src,f.dst,f.lane,f.body⟩:=⟨_,rfl⟩;obtain⟨H4,hH4⟩:=aD (H3++[cM x]);have x4:Ext H3 H4:=by rw[hH4];exact Fr.app _ _ _
   have g4:=g3.fW x4;have b4:H4[H3.length]? =some (cM x):=by rw[hH4];exact cD _ _
   have bf3:H3[H1.length]? =some (frB f):=by
    rw[mv3.keep _ (b9 bf) (λhu=> ?_),bf]
    have h3:=h.sep.nU _ hu;have:=x1.1;omega
   obtain⟨k0,k1,k2,k3,k4,k5,k6⟩:=lQ bf3;have eb:bld prog 31 [(0,.I f.src),(1,.I f.dst),(2,.I f.lane),(3,.int .u32 f.body)]=some x.cF:=by rw[hx];rfl
   have ez: ∀H:aG,H++[Blk.cells [Value.int .i64 0,.int .i64 0,.int .i64 0,.int .u32 0] 31 .fix]=H++[cM pk0]:=λ_=>rfl
   have st:stN 4 (.Q H3.length 0) x.cF (H3++[cM pk0])=some (undef,H4):=by rw[Gx x (cD _ _),gQ,hH4]
   have q1:ld1 (.Q H3.length 1) H4=some (.I f.dst,H4):=bA b4 (by rw[hx];rfl)
   have n15:=g4.ld 15 (pt y.rg) rfl;have hdn:f.dst<c.nodes:=U
   obtain⟨H5,t1,x5⟩:=aCo g4 (m:=m-1) U f.dst hdn
   have g5:=g4.fW x5;have n15':=g5.ld 15 (pt y.rg) rfl;have b5:H5[H3.length]? =some (cM x):=by rw[x5.2 _ (b9 b4) id,b4]
   have q2:ld1 (.Q H3.length 2) H5=some (.I f.lane,H5):=bA b5 (by rw[hx];rfl)
   have q2':ld1 (.Q H3.length 2) H4=some (.I f.lane,H4):=bA b4 (by rw[hx];rfl)
   have q3:=(nY b5).2;have q3':=(nY b4).2;obtain⟨r,H6,F',p1,p2,p3⟩:=(g5.sep.own .rings).yZ qL (n:=m-1) (λD hD=>aBR (m:=m-1) hD U ((i:Int),(c.port f.dst:Int),(f.lane:Int)) x)
   have hpw:(if wP ((i:Int),(c.port f.dst:Int),(f.lane:Int)) c.aJ c.lanes=true/\s.rL.length<c.aJ*c.lanes*c.room then s.rL++[(((i:Int),(c.port f.dst:Int),(f.lane:Int)),x)] else s.rL)=nB c s.rL ((i:Int),(c.port f.dst:Int),(f.lane:Int)) ⟨f.src,f.dst,f.lane,f.body⟩:=by
    rw[hx];rfl
   obtain⟨k1',k2'⟩:=g5.Qu (Has.vI p2 λD hD=>by rw[<-hpw];exact hD) p3 hinv
   refine⟨H6,_,aV (aQ rfl) U ?_,k1',((mv2.nT mv3).nT (Mv.nS (x4.tr x5) _)).nT k2'⟩
   rw[Nm];have es:IntKind.i64.wrap (f.src:Int)=f.src:=zD _ U
   have ed:IntKind.i64.wrap (f.dst:Int)=f.dst:=zD _ U
   have el:IntKind.i64.wrap (f.lane:Int)=f.lane:=zD _ U
   have p1:lvl prog pkN (m-1) (.func 124) [pt y.rg,.I i,.I (c.port f.dst:Nat),.I f.lane,x.cF] H5=some (r,H6):=p1;simp only[gsR,e1,e2,l3,l4,wQ,dJ _ _ u8U iU,ec,n1,c1',lr,l2,r1,c2',k3,k4,k1,k5,es,ed,el,eb,ez,st,n15,q1,t1,n15',vJ,q2,q2',Cd,q3,q3',aCs,p1];rfl
  ·have hsame:=aPt c2
   have hr:=aPu (c:=c) (s:=s) (i:=i) c1 c2;obtain⟨e,he⟩:=aD (((s.rcv i f.lane).eW c.room f.seq).1);rw[<-he] at hr r1 c2;have c2':=aCr c2;rw[hr];rw[hsame,aPy] at g3;refine⟨H3,F,aV (aQ rfl) hm0 ?_,g3,mv2.nT mv3⟩;rw[Nm];simp only[gsR,e1,e2,l3,l4,wQ,dJ _ _ u8U iU,ec,n1,c1',lr,l2,r1,c2']
end
section
variable {H0 H : aG} {F : Part → Nat → Prop} {y : Lay} {p : PlanD} {ev wv nv : Value} {c : Cfg} {t : Nat} {s : NS} {m : Nat}
theorem qS (H:aG):H++[Blk.cells [Value.int .u8 0,.int .u8 0,.int .u16 0,.int .u8 0,.int .u8 0,.int .u32 0] 157 .fix]=H++[zfB]:=rfl
theorem Cm (H:aG):H++[Blk.cells [Value.pointer none,.pointer none] 149 .fix]=H++[dQ (.pointer none) (.pointer none)]:=rfl
theorem qT (H:aG)(f:Frm):stN 6 (.Q H.length 0) (frV f) (H++[zfB])=some (undef,H++[frB f]):=by
 rw[Gi f (cD H zfB),gQ]
theorem Qv (H:aG)(a b:Value)(ha:cA [a,b]=true):stN 2 (.Q H.length 0) (.agg #[a,b]) (H++[dQ (.pointer none) (.pointer none)])=some (undef,H++[dQ a b]):=by
 rw[Cl a b (cD _ _) ha,gQ]
theorem aCu {bs:List UInt8}{f:Frm}(h:jZ bs=some f):lA bs= .tuple #[frV f,.int .u16 0]:=by
 unfold lA;rw[h]
theorem aCt {bs:List UInt8}(h:jZ bs=none):lA bs= .tuple #[frV Frm.lO,.int .u16 30]:=by
 unfold lA;rw[h]
theorem aPz (h:NodeAt H0 H F y p ev wv nv c t s)(ht:t<1000000000)(hm:400<m)(fr:Int){u:Value}{bs:List UInt8}(hu:Bs H u bs):
  ∃H' F',lvl prog pkN m (.func 66) [pt y.nb,.I fr,u] H=some (.int .u16 (gT c fr bs s).1,H')/\NodeAt H0 H' F' y p ev wv nv c (t+1) (gT c fr bs s).2/\Mv (Un F) (Un F') H H':=by
 have hm0:0<m:=U
 have hmono:=h.inv.pU (Nat.le_succ t);obtain⟨H1,hH1⟩:=aD (H++[xI fr]);have x1:Ext H H1:=by rw[hH1];exact Fr.app _ _ _
 have g1:=h.fW x1;have b1:H1[H.length]? =some (xI fr):=by rw[hH1];exact cD _ _
 have e0:H++[Blk.cells (Value.cells (.int .i64 fr)).toList 3 .fix]=H1:=by rw[hH1];rfl
 have l13:=g1.ld 13 (eP y c) rfl;obtain⟨v,t1,t2⟩:=g1.aCl;obtain⟨H2,i1,x2⟩:=aCn (m:=m-1) (fid:=102) (cb:=H.length) (z:=fr) U (λG i hG=>aPo U i hG) h.ok.by' t2 b1
 have g2:=g1.fW x2;cases hfi:c.by'.findIdx? λw:Nat=>decide ((w:Int)=fr) with
 |none=>
  have hr:gT c fr bs s=(1,s):=by unfold gT;rw[hfi]
  have hf:fiI c.by' fr= -1:=by unfold fiI;rw[hfi]
  have e1:IntKind.i64.wrap ((-1:Int)+1)=0:=rfl;have c1:((0:Int)==0)=true:=rfl;rw[hf] at i1;rw[hr];refine⟨H2,F,aV (aQ rfl) hm0 ?_,{g2 with inv:=hmono},Mv.nS (x1.tr x2) _⟩;rw[zB];simp only[gsR,e0,l13,t1,i1,aT,e1,c1];rfl
 |some j=>
  have hjl:=(List.findIdx?_eq_some_iff_getElem.mp hfi).1;have hf:fiI c.by' fr=(j:Int):=by unfold fiI;rw[hfi]
  have h5:=h.ok.by';have e1:IntKind.i64.wrap ((j:Int)+1)=((j+1:Nat):Int):=mB j U
  have c1:(((j+1:Nat):Int)==0)=false:=by rw[beq_eq_false_iff_ne];omega
  have hp1:1<=j+1:=U
  have hp2:j+1<c.aJ:=by unfold Cfg.aJ;omega
  rw[hf] at i1;obtain⟨H3,d1,x3⟩:=aA4 (m:=m-1) U (hu.ext (x1.tr x2))
  have g3:=g2.fW x3;cases hdec:jZ bs with
  |none=>
   have hr:gT c fr bs s=(30,s):=by unfold gT;rw[hfi];simp only;rw[hdec]
   rw[aCt hdec] at d1;have c2:((30:Int)!=0)=true:=rfl;rw[hr];have x4:Ext H3 (H3++[frB Frm.lO]):=Fr.app _ _ _;refine⟨H3++[frB Frm.lO],F,aV (aQ rfl) hm0 ?_,{g3.fW x4 with inv:=hmono},Mv.nS (((x1.tr x2).tr x3).tr x4) _⟩;rw[zB];simp only[gsR,e0,l13,t1,i1,aT,e1,c1,d1,kP,qS,qT,c2];rfl
  |some f=>
   have hok:=aCp hdec;have fl:=hok.lane;rw[aCu hdec] at d1;have c2:((0:Int)!=0)=false:=rfl;obtain⟨H4,hH4⟩:=aD (H3++[frB f]);have x4:Ext H3 H4:=by rw[hH4];exact Fr.app _ _ _
   have g4:=g3.fW x4;have b4:H4[H3.length]? =some (frB f):=by rw[hH4];exact cD _ _
   have l4:=(lQ b4).2.1;have el:IntKind.i64.wrap (f.lane:Int)=f.lane:=zD _ U
   by_cases hl:c.lanes<=f.lane
   ·have hr:gT c fr bs s=(30,s):=by unfold gT;rw[hfi];simp only;rw[hdec];simp only;rw[if_pos hl]
    obtain⟨H5,n1,x5⟩:=aPh g4 (m:=m-1) U ((j+1:Nat):Int) (f.lane:Int) U
    have x6:Ext H5 (H5++[dQ (.pointer none) (.pointer none)]):=Fr.app _ _ _;rw[hr];refine⟨H5++[dQ (.pointer none) (.pointer none)],F,aV (aQ rfl) hm0 ?_,{(g4.fW x5).fW x6 with inv:=hmono},Mv.nS (((((x1.tr x2).tr x3).tr x4).tr x5).tr x6) _⟩;rw[zB];have st:=Qv H5 (.pointer none) (.pointer none) rfl;simp only[gsR,e0,l13,t1,i1,aT,e1,c1,d1,kP,qS,qT,c2,<-hH4,l4,dJ _ _ u8U iU,el,n1,Cm,zO,st];rfl
   ·have hlt:f.lane<c.lanes:=U
    obtain⟨H5,n1,x5⟩:=Qt g4 (m:=m-1) U hp1 hp2 hlt
    obtain⟨H6,hH6⟩:=aD (H5++[dQ (pt (y.sb (j+1) f.lane)) (pt (y.rb (j+1) f.lane))]);have x6:Ext H5 H6:=by rw[hH6];exact Fr.app _ _ _
    have g6:=(g4.fW x5).fW x6;have b6:H6[H5.length]? =some (dQ (pt (y.sb (j+1) f.lane)) (pt (y.rb (j+1) f.lane))):=by rw[hH6];exact cD _ _
    obtain⟨q0,q1,q2⟩:=vH b6;have b46:H6[H3.length]? =some (frB f):=by rw[(x5.tr x6).2 _ (b9 b4) id,b4]
    obtain⟨k0,k1,k2,k3,k4,k5,k6⟩:=lQ b46;have st:=Qv H5 (pt (y.sb (j+1) f.lane)) (pt (y.rb (j+1) f.lane)) rfl;have mv6:Mv (Un F) (Un F) H H6:=Mv.nS (((((x1.tr x2).tr x3).tr x4).tr x5).tr x6) _;by_cases hk2:f.kind=2
    ·have hr:gT c fr bs s=(0,{s with snd:=up2 s.snd (j+1) f.lane ((s.snd (j+1) f.lane).fM f.seq)}):=by unfold gT;rw[hfi];simp only;rw[hdec];simp only;rw[if_neg hl,if_pos hk2]
     have c3:((f.kind:Int)==2)=true:=by rw[hk2];rfl
     obtain⟨H7,w,s1,s2⟩:=aM6 (m:=m-1) U (g6.Cj hp1 hp2 hlt) (g6.Hm ht _ _) f.seq hok.seq
     have hri:NInv c (t+1) {s with snd:=up2 s.snd (j+1) f.lane ((s.snd (j+1) f.lane).fM f.seq)}:=
      {hmono with snd:=zH hmono.snd (((h.inv.snd _ _).aNz _).Pz (Nat.le_succ t))}
     obtain⟨g7,mv7⟩:=g6.aCg hp1 hp2 hlt s2 hri;rw[hr];refine⟨H7,F,aV (aQ rfl) hm0 ?_,g7,mv6.nT mv7⟩;rw[zB];simp only[gsR,e0,l13,t1,i1,aT,e1,c1,d1,kP,qS,qT,c2,<-hH4,l4,dJ _ _ u8U iU,el,n1,Cm,st,<-hH6,k0,c3,q1,k2,s1];rfl
    ·have c3:((f.kind:Int)==2)=false:=by rw[beq_eq_false_iff_ne];omega
     by_cases hk3:f.kind=3
     ·have hr:gT c fr bs s=(0,{s with rcv:=up2 s.rcv (j+1) f.lane ((s.rcv (j+1) f.lane).fA c.room f.seq)}):=by unfold gT;rw[hfi];simp only;rw[hdec];simp only;rw[if_neg hl,if_neg hk2,if_pos hk3]
      have c4:((f.kind:Int)==3)=true:=by rw[hk3];rfl
      obtain⟨H7,w,s1,s2⟩:=aM3 (m:=m-1) U (g6.Cg hp1 hp2 hlt) (g6.Ci ht _ _) f.seq hok.seq
      have hri:NInv c (t+1) {s with rcv:=up2 s.rcv (j+1) f.lane ((s.rcv (j+1) f.lane).fA c.room f.seq)}:=
       {hmono with rcv:=zH hmono.rcv ((h.inv.rcv _ _).aNy h.ok.room.2 _)}
      obtain⟨g7,mv7⟩:=g6.Qr hp1 hp2 hlt s2 hri;rw[hr];refine⟨H7,F,aV (aQ rfl) hm0 ?_,g7,mv6.nT mv7⟩;rw[zB];simp only[gsR,e0,l13,t1,i1,aT,e1,c1,d1,kP,qS,qT,c2,<-hH4,l4,dJ _ _ u8U iU,el,n1,Cm,st,<-hH6,k0,c3,c4,q2,k2,s1];rfl
     ·have c4:((f.kind:Int)==3)=false:=by rw[beq_eq_false_iff_ne];omega
      have hr:gT c fr bs s=nW c (j+1) f s:=by unfold gT;rw[hfi];simp only;rw[hdec];simp only;rw[if_neg hl,if_neg hk2,if_neg hk3]
      obtain⟨H7,F',s1,g7,mv7⟩:=aPw g6 ht (m:=m-1) U hp1 hp2 hlt hok
      rw[hr];refine⟨H7,F',aV (aQ rfl) hm0 ?_,g7,mv6.nT mv7⟩;rw[zB];simp only[gsR,e0,l13,t1,i1,aT,e1,c1,d1,kP,qS,qT,c2,<-hH4,l4,dJ _ _ u8U iU,el,n1,Cm,st,<-hH6,k0,c3,c4,q0,k6,s1]
end
theorem aPG {H H':aG}{a n ports lanes p s mb:Nat}{L:List Rg.En}{l:List Rg.fN}{top free:Int}{fl:List Nat}{f:Rg.gV->Option Value}(h:Rg.RI H a L n ports lanes p s mb l top free fl f)(hk: ∀(b:Nat)(x:Blk),H[b]? =some x->x≠ .dead->H'[b]? =some x):Rg.RI H' a L n ports lanes p s mb l top free fl f:=by
 refine⟨hk _ _ h.hd (λhd=>by cases hd),⟨⟨hk _ _ h.pool.pool.hp (λhd=>by cases hd),hk _ _ h.pool.pool.hs (λhd=>by cases hd),λi q x d hi=>hk _ _ (h.pool.pool.hq i q x d hi) (λhd=>by cases hd)⟩,h.pool.chain,h.pool.nodup,h.pool.full,h.pool.cnt,h.pool.len⟩,
  h.len,h.cnt,h.nd,h.full,?_,h.no,λw v hv=>⟨?_,(h.yes w v hv).2⟩,h.sep,h.b1,h.b2⟩
 ·obtain⟨es,c,h1,h2⟩:=h.mp
  exact⟨es,c,hk _ _ h1 (λhd=>by cases hd),h2⟩
 ·refine(h.yes w v hv).1.rS λb hb=> ?_
  obtain⟨xs,hx⟩:=(h.yes w v hv).1.blk hb;rw[hx];exact hk _ _ hx (λhd=>by cases hd)
theorem RingsN.aPD {D H:aG}{a cap ports lanes:Nat}{L:List (Go.Abs.dO×Pkt)}(hs:Sub D H)(h:RingsN D a L cap ports lanes):RingsN H a L cap ports lanes:=by
 obtain⟨Le,⟨p,s,mb,l,top,free,fl,f,hi⟩,h2⟩:=h
 exact⟨Le,⟨p,s,mb,l,top,free,fl,f,aPG hi hs.2⟩,h2⟩
theorem HostAt.aPA {D H:aG}{a lanes queue:Nat}{L G:List Pkt}(hs:Sub D H)(h:HostAt D a L G lanes queue):HostAt H a L G lanes queue:=by
 obtain⟨w0,w1,w2,cv,h⟩:=h;have key: ∀w (xs:List Pkt),Pq D w xs->Pq H w xs:=λw xs hw=>hw.wS λb hb=>by
  obtain⟨cs,hc⟩:=hw.blk hb;rw[hc];exact hs.2 b _ hc (λhd=>by cases hd)
 exact⟨w0,w1,w2,cv,hs.2 a _ h.blk (λhd=>by cases hd),h.lanes,h.queue,λk hk=>key _ _ (h.q k hk),key _ _ h.came,h.apart,h.apartC⟩
section
variable {H0 H : aG} {F : Part → Nat → Prop} {y : Lay} {p : PlanD} {ev wv nv : Value} {c : Cfg} {t : Nat} {s : NS} {m : Nat}
theorem NodeAt.aPC (h:NodeAt H0 H F y p ev wv nv c t s):RingsN H y.rg s.rL (c.aJ*c.lanes*c.room) c.aJ c.lanes:=RingsN.aPD (Eb _ _) (h.sep.own .rings).at_
theorem NodeAt.aCv (h:NodeAt H0 H F y p ev wv nv c t s):HostAt H y.hb s.hL s.hG c.lanes c.queue:=HostAt.aPA (Eb _ _) (h.sep.own .host).at_
theorem Qw (h:NodeAt H0 H F y p ev wv nv c t s)(hm:0<m)(i o k:Nat):lvl prog pkN m (.func 70) [pt y.rg,.I i,.I o,.I k] H=some (.I (fT s.rL i o k),H):=aOq h.aPC hm i o k
theorem aPF {i o:Nat}(hi:i<c.aJ)(ho:o<c.aJ)(h3:c.lanes<=3)(ht:t<1000000000)(hm:10<m): ∀(q k l:Nat)(H:aG),c.lanes-k=q->k<=c.lanes->q<l->NodeAt H0 H F y p ev wv nv c t s-> ∀(x6:Value),
  ∃H2,aL l (aO prog (lvl prog pkN m) (aL m) Nt) (Nu (lvl prog pkN m) (aL m)) (some (pt y.nb)::some (.I (i:Nat))::some (.I (o:Nat))::aF 3 (x6::some (.int .u16 (cC (dL c s i o) k:Nat))::aF 5 (some (.I c.lanes)::some (.I (k:Nat))::aF 35 []))) H=some (.int .u16 (cC (dL c s i o) c.lanes:Nat),H2)/\Ext H H2:=by
 intro q;induction q with
 |zero=>
  intro k l H hq hk hl h;intros;obtain⟨l,rfl⟩: ∃l',l=l'+1:=⟨l-1,by omega⟩
  have hke:k=c.lanes:=U
  have c1:decide ((k:Int)<(c.lanes:Int))=false:=by rw[decide_eq_false_iff_not];omega
  rw[aL,aAm];simp only[gsR,c1];rw[aLU];simp only[gsR]
  exact⟨_,by rw[hke],Fr.dY _ _⟩
 |succ q ih=>
  intro k l H hq hk hl h;intros;obtain⟨l,rfl⟩: ∃l',l=l'+1:=⟨l-1,by omega⟩
  have hkl:k<c.lanes:=U
  have c1:decide ((k:Int)<(c.lanes:Int))=true:=by rw[decide_eq_true_eq];omega
  have l15:=h.ld 15 (pt y.rg) rfl;have r1:=Qw h (m:=m) U i o k
  have e9:=mB k U
  rw[aL,aAm];by_cases hz:fT s.rL i o k=0
  ·have c2:(((fT s.rL i o k:Nat):Int)==0)=true:=by rw[hz];rfl
   have hno:dL c s i o k=false:=by unfold dL;rw[hz];simp
   simp only[gsR,c1,l15,r1,c2,aT,e9];rw[<-G9 hno];exact ih (k+1) l H U U U h ..
  ·have c2:(((fT s.rL i o k:Nat):Int)==0)=false:=by rw[beq_eq_false_iff_ne];omega
   obtain⟨s1,s2⟩:=vF (a:=cC (dL c s i o) k) (i:=k) (pW _ U) U
   by_cases ho0:o=0
   ·have c3:((o:Int)==0)=true:=by rw[ho0];rfl
    have hyes:dL c s i o k=true:=by unfold dL;simp[hkl,ho0];rw[<-ho0];omega
    simp only[gsR,c1,l15,r1,c2,c3,s1,s2,aT,e9];rw[<-Hi hyes];exact ih (k+1) l H U U U h ..
   ·have c3:((o:Int)==0)=false:=by rw[beq_eq_false_iff_ne];omega
    have l13:=h.ld 13 (eP y c) rfl;obtain⟨b,oo,a1,a2⟩:=h.w7 ho;obtain⟨_,_,a3,_⟩:=a2 _ (.inl h);obtain⟨b',o',a4,_,a5,_⟩:=h.Cf U ho hkl
    have u1:=aAX (m:=m) U (h.Cj U ho hkl) (h.Hm ht o k)
    obtain⟨H1,hH1⟩:=aD (H++[Blk.cells [.int .u64 (s.snd o k).s,.int .u64 (s.snd o k).l] 170 .fix]);rw[<-hH1] at u1;have x1:Ext H H1:=by rw[hH1];exact Fr.app _ _ _
    by_cases hu:0<(s.snd o k).gR
    ·have c4:decide (0<((s.snd o k).gR:Int))=true:=by rw[decide_eq_true_eq];omega
     have hyes:dL c s i o k=true:=by unfold dL;simp[hkl,hu];omega
     simp only[gsR,Nat.add_zero,c1,l15,r1,c2,c3,l13,a1,a3,a4,a5,u1,c4,s1,s2,aT,e9];rw[<-Hi hyes];obtain⟨H2,k1,k2⟩:=ih (k+1) l H1 U U U (h.fW x1) ..
     exact⟨H2,k1,x1.tr k2⟩
    ·have c4:decide (0<((s.snd o k).gR:Int))=false:=by rw[decide_eq_false_iff_not];omega
     have hno:dL c s i o k=false:=by unfold dL;simp[hkl,hu,ho0]
     simp only[gsR,Nat.add_zero,c1,l15,r1,c2,c3,l13,a1,a3,a4,a5,u1,c4,aT,e9];rw[<-G9 hno];obtain⟨H2,k1,k2⟩:=ih (k+1) l H1 U U U (h.fW x1) ..
     exact⟨H2,k1,x1.tr k2⟩
theorem aCw (h:NodeAt H0 H F y p ev wv nv c t s)(ht:t<1000000000)(hm:20<m){i o:Nat}(hi:i<c.aJ)(ho:o<c.aJ): ∃H2,lvl prog pkN m (.func 130) [pt y.nb,.I i,.I o] H=some (.int .u16 (cC (dL c s i o) c.lanes:Nat),H2)/\Ext H H2:=by
 refine iB (aQ rfl) U ?_
 rw[aLV];have l3:=h.ld 3 (.I c.lanes) rfl;simp only[gsR,l3];exact aPF hi ho h.ok.lanes.2 ht U c.lanes 0 (m-1) H U U (by have:=h.ok.lanes;omega) h ..
theorem NodeAt.aPB (h:NodeAt H0 H F y p ev wv nv c t s){b:Nat}(hb: ¬Un F b)(hb0:H0.length<=b)(x:Blk):NodeAt H0 (H.set b x) F y p ev wv nv c t s:=by
 have hm:Mv (λa=>a=b) (λa=>a=b) H (H.set b x):=⟨by simp,λ_ h=> .inl h,λa _ ha=>aSX λhh=>ha hh.symm⟩
 refine {h with ext:=⟨by simp;exact h.ext.1,λa ha _=> ?_⟩,sep:=h.sep.wF (tK _ _ _ _ _ _ _) hm λa ha hh=>hb (by rw[<-hh];exact ha)}
 rw[aSX U,h.ext.2 a ha id]
def gW (c:Cfg)(s:NS)(i o:Nat):List Nat:=(List.range c.aJ).map λj=>if j<i then cC (gF c s j) c.aJ else if j=i then cC (gF c s i) o else 0
theorem tL (c:Cfg)(s:NS)(i o:Nat):(gW c s i o).length=c.aJ:=by simp[gW]
theorem xJ {c:Cfg}{s:NS}{i o j:Nat}(hj:j<c.aJ):(gW c s i o)[j]? =some (if j<i then cC (gF c s j) c.aJ else if j=i then cC (gF c s i) o else 0):=by simp[gW,hj]
theorem aPH (c:Cfg)(s:NS)(i:Nat):gW c s i c.aJ=gW c s (i+1) 0:=by
 unfold gW;refine List.map_congr_left λj hj=> ?_
 by_cases h1:j<i
 ·rw[if_pos h1,if_pos U]
 ·by_cases h2:j=i
  ·rw[if_neg h1,if_pos h2,if_pos U,h2]
  ·rw[if_neg h1,if_neg h2,if_neg U]
   split<;>rfl
theorem aPI (c:Cfg)(s:NS):gW c s 0 0=List.replicate c.aJ 0:=by
 apply aTx;intro j;by_cases hj:j<c.aJ
 ·rw[xJ hj,List.getElem?_replicate_of_lt hj,if_neg U]
  split<;>rfl
 ·rw[aS7 (by rw[tL];omega),aS7 (by simp;omega)]
theorem aCx {c:Cfg}{s:NS}{i o v:Nat}(hi:i<c.aJ)(hv:cC (gF c s i) (o+1)=v):gW c s i (o+1)=(gW c s i o).set i v:=by
 apply aTx;intro j;by_cases hj:j<c.aJ
 ·by_cases hij:i=j
  ·subst hij
   rw[aS2 (by rw[tL];exact hi),xJ hj,if_neg U,if_pos rfl,hv]
  ·rw[aSX hij,xJ hj,xJ hj,if_neg (show¬j=i by omega),if_neg (show¬j=i by omega)]
 ·rw[aS7 (by rw[tL];omega),aS7 (by rw[List.length_set,tL];omega)]
theorem aPK (c:Cfg)(s:NS):gI (gW c s c.aJ 0)=gF c s:=by
 funext i k
 unfold gI;by_cases hi:i<c.aJ
 ·rw[aS0,xJ hi,if_pos hi,aTp,iC]
  unfold gF;cases decide (k<c.aJ)<;>simp
 ·rw[aS0,aS7 (by rw[tL];omega)]
  unfold gF;simp[hi]
theorem aPJ {c:Cfg}{s:NS}(h6:c.aJ<=16): ∀z∈gW c s c.aJ 0,z<65536:=λz hz=>by
 unfold gW at hz;obtain⟨j,hj,rfl⟩:=aTz.mp hz;rw[if_pos (aTA.mp hj)];exact pW _ h6
theorem aPE {c:Cfg}{s:NS}{i o:Nat}(hi:i<c.aJ)(ho:o<c.aJ):gF c s i o=lL (dL c s i o) c.lanes:=by
 unfold gF lL;simp[hi,ho]
end
section
variable {H0 H : aG} {F : Part → Nat → Prop} {y : Lay} {p : PlanD} {ev wv nv : Value} {c : Cfg} {t : Nat} {s : NS} {m : Nat}
theorem aPL {Ha:aG}{i:Nat}(hi:i<c.aJ)(hun: ¬Un F Ha.length)(hb0:H0.length<=Ha.length)(ht:t<1000000000)(hm:30<m)(h6:c.aJ<=6){K:Ex->K (Value×aG)}{Q:aG->Value->Prop}
  (hK: ∀H',NodeAt H0 H' F y p ev wv nv c t s->H'[Ha.length]? =some (dV (gW c s i c.aJ))->Ext Ha H'-> ∀(x2 x4 q9 rA:Value),∃H2 r,Ox (lvl prog pkN m) (aL m) K (pt y.nb) x2 (cN Ha.length c.aJ) x4 (.I c.aJ) (.I (i:Nat)) q9 rA H'=some (r,H2)/\Q H2 r):
  ∀(q o k:Nat)(H:aG),c.aJ-o=q->o<=c.aJ->q<k->NodeAt H0 H F y p ev wv nv c t s->H[Ha.length]? =some (dV (gW c s i o))->Ext Ha H-> ∀(x2:Value),
  ∃H2 r,aL k (aO prog (lvl prog pkN m) (aL m) Ow) (O0 (lvl prog pkN m) (aL m) K) (some (pt y.nb)::aF 1 (x2::some (cN Ha.length c.aJ)::some (.I (i:Nat))::aF 11 (some (.I c.aJ)::some (.I (i:Nat))::aF 6 (some (.I c.aJ)::some (.I (o:Nat))::aF 18 [])))) H=some (r,H2)/\Q H2 r:=by
 intro q;induction q with
 |zero=>
  intro o k H hq ho hk h hb he;intros;obtain⟨k,rfl⟩: ∃k',k=k'+1:=⟨k-1,by omega⟩
  have hoe:o=c.aJ:=U
  subst hoe;have c1:decide ((c.aJ:Int)<(c.aJ:Int))=false:=by simp
  rw[aL,aAB];simp only[gsR,c1];rw[aMH];exact hK H h hb he ..
 |succ q ih=>
  intro o k H hq ho hk h hb he;intros;obtain⟨k,rfl⟩: ∃k',k=k'+1:=⟨k-1,by omega⟩
  have hol:o<c.aJ:=U
  have c1:decide ((o:Int)<(c.aJ:Int))=true:=by rw[decide_eq_true_eq];omega
  obtain⟨H1,m1,x1⟩:=aCw h ht (m:=m) U hi hol
  have h1:=h.fW x1;have b1:H1[Ha.length]? =some (dV (gW c s i o)):=by rw[x1.2 _ (b9 hb) id,hb]
  have e9:=mB o U
  have hask:=aPE (c:=c) (s:=s) hi hol;rw[aL,aAB];by_cases hz:cC (dL c s i o) c.lanes=0
  ·have c2:(((cC (dL c s i o) c.lanes:Nat):Int)!=0)=false:=by rw[hz];rfl
   have hno:gF c s i o=false:=by rw[hask];exact(zL _ _).mp hz
   have hr:gW c s i (o+1)=gW c s i o:=by
    rw[aCx hi (G9 hno)];apply aTx;intro j;by_cases hij:i=j
    ·subst hij
     rw[aS2 (by rw[tL];exact hi),xJ hi,if_neg U,if_pos rfl]
    ·rw[aSX hij]
   simp only[gsR,c1,m1,c2,aT,e9];exact ih (o+1) k H1 U U U h1 (by rw[hr];exact b1) (he.tr x1) ..
  ·have c2:(((cC (dL c s i o) c.lanes:Nat):Int)!=0)=true:=aCr hz
   have hyes:gF c s i o=true:=by
    rw[hask];cases hw:lL (dL c s i o) c.lanes with
    |true=>rfl
    |false=>exact absurd ((zL _ _).mpr hw) hz
   obtain⟨a1,a2⟩:=Hl (c:=c.aJ) b1 (tL _ _ _ _) hi;have a1:cQ 1 (cN Ha.length c.aJ) (.I (i:Int))=some (.Q Ha.length i):=a1;have hv:(gW c s i o).getD i 0=cC (gF c s i) o:=by rw[aS0,xJ hi,if_neg U,if_pos rfl];rfl
   rw[hv] at a2;obtain⟨s1,s2⟩:=vF (a:=cC (gF c s i) o) (i:=o) (pW _ U) U
   have st:=aB9 (cC (gF c s i) o|||2 ^ o) b1 (i:=i) (by rw[tL];exact hi)
   rw[<-aCx hi (Hi hyes)] at st;simp only[gsR,c1,m1,c2,a1,a2,s1,s2,st,aT,e9];refine ih (o+1) k _ U U U (h1.aPB hun hb0 _) (dN b1) ?_ ..
   have he1:=he.tr x1
   exact⟨by simp;exact he1.1,λb hb hn=>by rw[aSX U,he1.2 b hb id]⟩
theorem aPN {Ha:aG}(hun: ¬Un F Ha.length)(hb0:H0.length<=Ha.length)(ht:t<1000000000)(hm:40<m)(h6:c.aJ<=6):
  ∀(q i k:Nat)(H:aG),c.aJ-i=q->i<=c.aJ->q<k->NodeAt H0 H F y p ev wv nv c t s->H[Ha.length]? =some (dV (gW c s i 0))->Ext Ha H-> ∀(x2 x4 q9 rA:Value),
  ∃H2 r,aL k (aO prog (lvl prog pkN m) (aL m) Ov) (Oy (lvl prog pkN m) (aL m)) (some (pt y.nb)::aF 1 (x2::some (cN Ha.length c.aJ)::x4::aF 11 (some (.I c.aJ)::some (.I (i:Nat))::aF 6 (q9::rA::aF 18 [])))) H=some (r,H2)/\(r=cN Ha.length c.aJ/\H2[Ha.length]? =some (dV (gW c s c.aJ 0))/\Ext Ha H2/\NodeAt H0 H2 F y p ev wv nv c t s):=by
 intro q;induction q with
 |zero=>
  intro i k H hq hi hk h hb he;intros;obtain⟨k,rfl⟩: ∃k',k=k'+1:=⟨k-1,by omega⟩
  have hie:i=c.aJ:=U
  subst hie;have c1:decide ((c.aJ:Int)<(c.aJ:Int))=false:=by simp
  rw[aL,aAA];simp only[gsR,c1];rw[aMG];simp only[gsR]
  exact⟨_,_,rfl,rfl,hb,he,h⟩
 |succ q ih=>
  intro i k H hq hi hk h hb he;intros;obtain⟨k,rfl⟩: ∃k',k=k'+1:=⟨k-1,by omega⟩
  have hil:i<c.aJ:=U
  have c1:decide ((i:Int)<(c.aJ:Int))=true:=by rw[decide_eq_true_eq];omega
  have l13:=h.ld 13 (eP y c) rfl;have e1:cY (eP y c)=some (.I c.aJ):=rfl;rw[aL,aAA];simp only[gsR,c1,l13,e1];refine aPL hil hun hb0 ht U h6 ?_ c.aJ 0 m H U U U h hb he ..
  intro H' h' hb' he';intros;have e9:=mB i U
  unfold Ox;simp only[gsR,aT,e9];rw[aPH] at hb';exact ih (i+1) k H' U U U h' hb' he' ..
theorem aPM (h:NodeAt H0 H F y p ev wv nv c t s)(ht:t<1000000000)(hm:50<m): ∃H2,lvl prog pkN m (.func 93) [pt y.nb] H=some (cN H.length c.aJ,H2)/\H2[H.length]? =some (dV (gW c s c.aJ 0))/\Ext H H2:=by
 have h6:c.aJ<=6:=by have:=h.ok.by';unfold Cfg.aJ;omega
 have main: ∃H2 r,lvl prog pkN m (.func 93) [pt y.nb] H=some (r,H2)/\(r=cN H.length c.aJ/\H2[H.length]? =some (dV (gW c s c.aJ 0))/\Ext H H2/\NodeAt H0 H2 F y p ev wv nv c t s):=by
  refine dP (aQ rfl) U ?_
  rw[aMI];have l13:=h.ld 13 (eP y c) rfl;have e1:cY (eP y c)=some (.I c.aJ):=rfl;have mk:=uI (H:=H) 23 1 2 [.int .u16 0] .i64 .i64 (c.aJ:Int) U U U rfl
  have hz:H++[Blk.cells (List.replicate (c.aJ:Int).toNat [Value.int .u16 0]).flatten 23 .row]=H++[dV (gW c s 0 0)]:=by
   have: ∀n,(List.replicate n [Value.int .u16 0]).flatten=List.replicate n (.int .u16 0):=by
    intro n;induction n with
    |zero=>rfl
    |succ n ih=>rw[List.replicate_succ,aTw,ih];rfl
   rw[aTo,this,aPI,dV,List.map_replicate];rfl
  rw[hz,aTo] at mk;have x1:Ext H (H++[dV (gW c s 0 0)]):=Fr.app _ _ _;have h1:=h.fW x1;have l13':=h1.ld 13 (eP y c) rfl;simp only[gsR,l13,e1,mk,l13'];exact aPN (λhu=>by have:=h.sep.nU _ hu;omega) h.ext.1 ht U h6 c.aJ 0 (m-1) _ U U U h1 (cD _ _) x1 ..
 obtain⟨H2,r,g1,rfl,g2,g3,_⟩:=main
 exact⟨H2,g1,g2,g3⟩
theorem aCA (L:List (Go.Abs.dO×Pkt))(i o k:Nat):fT L i o k<=L.length:=by
 unfold fT jB;rw[aTa];exact List.length_filter_le _ _
def tM (L:List (Go.Abs.dO×Pkt))(k o:Nat):Nat:=((List.range o).map λo=>fT L 0 o k).sum
theorem aCz (L:List (Go.Abs.dO×Pkt))(k o:Nat):tM L k (o+1)=tM L k o+fT L 0 o k:=by
 unfold tM;rw[aTv,List.map_append,List.sum_append];simp
theorem aCy (L:List (Go.Abs.dO×Pkt))(k:Nat): ∀o,tM L k o<=o*L.length
 |0=>by simp[tM]
 |o+1=>by
  have:=aCy L k o;have:=aCA L 0 o k;rw[aCz,Nat.succ_mul];omega
theorem aCB (h:c.ok):c.aJ*c.lanes*c.room<=144:=by
 have h1:c.aJ<=6:=by have:=h.by';unfold Cfg.aJ;omega
 have h2:=h.lanes.2;have h3:=h.room.2
 calc c.aJ*c.lanes*c.room<=6*3*8:=Nat.mul_le_mul (Nat.mul_le_mul h1 h2) h3
  _=144:=rfl
theorem aPO {kk:Nat}(hm:30<m){K:Ex->K (Value×aG)}{Q:aG->Value->Prop}(h:NodeAt H0 H F y p ev wv nv c t s)
  (hK: ∀(dR gN:Value),∃H2 r,Gd (lvl prog pkN m) (aL m) K (pt y.nb) (.I (kk:Nat)) (.I (u6 c s.rL kk:Nat)) (.I c.lanes) (.I (kk:Nat)) dR gN H=some (r,H2)/\Q H2 r):
  ∀(q o k:Nat),c.aJ-o=q->o<=c.aJ->q<k-> ∃H2 r,aL k (aO prog (lvl prog pkN m) (aL m) Oi) (Ol (lvl prog pkN m) (aL m) K) (some (pt y.nb)::aF 1 (some (.I (kk:Nat))::some (.I (tM s.rL kk o:Nat))::aF 7 (some (.I c.lanes)::some (.I (kk:Nat))::aF 6 (some (.I c.aJ)::some (.I (o:Nat))::aF 41 [])))) H=some (r,H2)/\Q H2 r:=by
 intro q;induction q with
 |zero=>
  intro o k hq ho hk;intros;obtain⟨k,rfl⟩: ∃k',k=k'+1:=⟨k-1,by omega⟩
  have hoe:o=c.aJ:=U
  subst hoe;have c1:decide ((c.aJ:Int)<(c.aJ:Int))=false:=by simp
  rw[aL,aAw];simp only[gsR,c1];rw[aMC];exact hK ..
 |succ q ih=>
  intro o k hq ho hk;intros;obtain⟨k,rfl⟩: ∃k',k=k'+1:=⟨k-1,by omega⟩
  have h6:c.aJ<=6:=by have:=h.ok.by';unfold Cfg.aJ;omega
  have c1:decide ((o:Int)<(c.aJ:Int))=true:=by rw[decide_eq_true_eq];omega
  have l15:=h.ld 15 (pt y.rg) rfl;have r1:=Qw h (m:=m) U 0 o kk
  have e9:=mB o U
  have hrl:=aTc h.inv.rN (aCB h.ok);have hb1:tM s.rL kk o<=6*144:=aTc (aCy _ _ _) (Nat.mul_le_mul U hrl)
  have hb2:=aCA s.rL 0 o kk;have e8:IntKind.i64.wrap ((tM s.rL kk o:Nat)+((fT s.rL 0 o kk:Nat):Int))=(tM s.rL kk (o+1):Nat):=by
   rw[aCz,bJ U U]
   omega
  have r1:lvl prog pkN m (.func 70) [pt y.rg,.I 0,.I o,.I kk] H=some (.I (fT s.rL 0 o kk),H):=r1;rw[aL,aAw];simp only[gsR,c1,l15,r1,aT,e8,e9];exact ih (o+1) k U U U ..
def aPQ (w:List Pkt):Value:=match w with
 |[]=> .tuple #[pk0.cF,.bool false]
 |x::_=> .tuple #[x.cF,.bool true]
def xK (L:List Pkt)(k:Nat):List Pkt:=if cW L k=[] then L else oU L k
theorem aPP {D:aG}{hb:Nat}(hm:3<m){k:Nat}(hk:k<c.lanes)(h:HostAt D hb s.hL s.hG c.lanes c.queue):
  ∃r D',lvl prog pkN m (.func 123) [pt hb,.I k] D=some (r,D')/\(r=aPQ (cW s.hL k)/\HostAt D' hb (xK s.hL k) s.hG c.lanes c.queue):=by
 obtain⟨w0,w1,w2,cv,h⟩:=h;cases hw:cW s.hL k with
 |nil=>
  obtain⟨H',g1,g2⟩:=aOx h hm k hk hw
  exact⟨_,_,g1,rfl,by unfold xK;rw[if_pos hw];exact g2⟩
 |cons x xs=>
  obtain⟨H',g1,g2⟩:=aOy h hm k hk hw
  exact⟨_,_,g1,rfl,by unfold xK;rw[if_neg (by rw[hw];simp)];exact g2⟩
end
theorem zP (H:aG):H++[Blk.cells [Value.int .i64 0,.int .i64 0,.int .i64 0,.int .u32 0] 31 .fix]=H++[cM pk0]:=rfl
theorem Qx (H:aG)(x:Pkt):stN 4 (.Q H.length 0) x.cF (H++[cM pk0])=some (undef,H++[cM x]):=by rw[Gx x (cD _ _),gQ]
theorem aPU {c:Cfg}{t:Nat}{s:NS}(h:NInv c t s)(k:Int):NInv c t {s with hL:=oU s.hL k}:=by
 refine {h with hL:=λx hx=>h.hL x (aBi hx),hQ:=λj=> ?_}
 have e:=Gp s.hL k j
 show(cW (oU s.hL k) j).length<=c.queue
 rw[e];by_cases hj:j=k
 ·rw[if_pos hj,List.length_tail]
  have:=h.hQ k;omega
 ·rw[if_neg hj]
  exact h.hQ j
section
variable {H0 H : aG} {F : Part → Nat → Prop} {y : Lay} {p : PlanD} {ev wv nv : Value} {c : Cfg} {t : Nat} {s : NS} {m : Nat}
theorem aPS {K:Ex->K (Value×aG)}{Q:aG->Value->Prop}{k:Nat}(hk:k<c.lanes)(hm:200<m)(h:NodeAt H0 H F y p ev wv nv c t s)
  (hK: ∀H' F',NodeAt H0 H' F' y p ev wv nv c t (gS c s k)->Mv (Un F) (Un F') H H'-> ∀(x2 x3 dR gN:Value),∃H2 r,K .normal (some (pt y.nb)::aF 1 (x2::x3::aF 7 (some (.I c.lanes)::some (.I (k+1:Nat))::aF 6 (dR::gN::aF 41 [])))) H'=some (r,H2)/\Q H2 r):
  ∀(dR gN:Value),∃H2 r,Gd (lvl prog pkN m) (aL m) K (pt y.nb) (.I (k:Nat)) (.I (u6 c s.rL k:Nat)) (.I c.lanes) (.I (k:Nat)) dR gN H=some (r,H2)/\Q H2 r:=by
 intros;have h3:=h.ok.lanes.2;have e9:=mB k U
 have l4:=h.ld 4 (.I c.room) rfl;unfold Gd;by_cases c1:c.room<=u6 c s.rL k
 ·have c1':decide ((c.room:Int)<=(u6 c s.rL k:Nat))=true:=by rw[decide_eq_true_eq];omega
  have hr:gS c s k=s:=by unfold gS;rw[if_pos c1]
  rw[hr] at hK;simp only[gsR,l4,c1',aT,e9];exact hK H F h (Mv.W7 _ _) ..
 ·have c1':decide ((c.room:Int)<=(u6 c s.rL k:Nat))=false:=by rw[decide_eq_false_iff_not];omega
  have l14:=h.ld 14 (pt y.hb) rfl;obtain⟨r,H1,F1,n1,n2,n3⟩:=(h.sep.own .host).yZ qL (n:=m) (λD hD=>aPP (m:=m) U hk hD)
  obtain⟨hrv,_⟩:=n2.at_;rw[hrv] at n1;cases hw:cW s.hL k with
  |nil=>
   have hr:gS c s k=s:=by unfold gS;rw[if_neg c1,hw]
   rw[hr] at hK;have hnl:xK s.hL k=s.hL:=by unfold xK;rw[if_pos hw]
   obtain⟨g1,mv1⟩:=h.Hq (L:=s.hL) (G:=s.hG) (Has.vI n2 λD hD=>by rw[<-hnl];exact hD.2) n3 h.inv
   rw[hw] at n1;have n1:lvl prog pkN m (.func 123) [pt y.hb,.I k] H=some (.tuple #[pk0.cF,.bool false],H1):=n1;have x2:Ext H1 (H1++[cM pk0]):=Fr.app _ _ _;simp only[gsR,l4,c1',l14,n1,kP,zP,Qx,aT,e9];exact hK (H1++[cM pk0]) _ (g1.fW x2) (mv1.nT (Mv.nS x2 _)) ..
  |cons x xs=>
   have hr:gS c s k={s with hL:=oU s.hL k,rL:=nB c s.rL (0,(c.port x.dst.toNat:Int),k) x}:=by unfold gS;rw[if_neg c1,hw]
   have hinv:=h.inv.aBe h.ok k;rw[hr] at hK hinv;have hnl:xK s.hL k=oU s.hL k:=by unfold xK;rw[if_neg (by rw[hw];simp)]
   obtain⟨g1,mv1⟩:=h.Hq (L:=oU s.hL k) (G:=s.hG) (Has.vI n2 λD hD=>by rw[<-hnl];exact hD.2) n3 (aPU h.inv k)
   rw[hw] at n1;have n1:lvl prog pkN m (.func 123) [pt y.hb,.I k] H=some (.tuple #[x.cF,.bool true],H1):=n1;obtain⟨H2,hH2⟩:=aD (H1++[cM x]);have x2:Ext H1 H2:=by rw[hH2];exact Fr.app _ _ _
   have g2:=g1.fW x2;have b2:H2[H1.length]? =some (cM x):=by rw[hH2];exact cD _ _
   have hxm:x∈s.hL:=by
    have:x∈cW s.hL k:=by rw[hw];exact aS5 ..
    exact(List.mem_filter.mp this).1
   have hxd:=(h.inv.hL x hxm).dst;obtain⟨d,hd⟩: ∃d:Nat,x.dst=d:=⟨x.dst.toNat,by omega⟩
   have hdt:x.dst.toNat=d:=U
   rw[hdt] at hK hinv;have q1:ld1 (.Q H1.length 1) H2=some (.I d,H2):=bA b2 (by rw[<-hd];rfl)
   have l15:=g2.ld 15 (pt y.rg) rfl;obtain⟨H3,t1,x3⟩:=aCo g2 (m:=m) U d U
   have g3:=g2.fW x3;have l15':=g3.ld 15 (pt y.rg) rfl;have b3:H3[H1.length]? =some (cM x):=by rw[x3.2 _ (b9 b2) id,b2]
   have q3:=(nY b3).2;have q3':=(nY b2).2;obtain⟨r',H4,F4,p1,p2,p3⟩:=(g3.sep.own .rings).yZ qL (n:=m) (λD hD=>aBR (m:=m) hD U (0,(c.port d:Int),(k:Int)) x)
   obtain⟨g4,mv4⟩:=g3.Qu (L:=nB c s.rL (0,(c.port d:Int),k) x) p2 p3 hinv;have p1:lvl prog pkN m (.func 124) [pt y.rg,.I 0,.I (c.port d:Nat),.I k,x.cF] H3=some (r',H4):=p1;simp only[gsR,l4,c1',l14,n1,kP,zP,Qx,<-hH2,l15,q1,t1,l15',vJ,q3,q3',aCs,p1,aT,e9];exact hK H4 _ g4 ((mv1.nT (Mv.nS (x2.tr x3) _)).nT mv4) ..
theorem aPT {Hs:aG}{Fs:Part->Nat->Prop}{s0:NS}(h3:c.lanes<=3)(hm:300<m)(h6:c.aJ<=6):
  ∀(q k l:Nat)(H:aG)(F:Part->Nat->Prop),c.lanes-k=q->k<=c.lanes->q<l->NodeAt H0 H F y p ev wv nv c t ((List.range k).foldl (gS c) s0)->Mv (Un Fs) (Un F) Hs H-> ∀(x2 x3 dR gN:Value),
  ∃H2 r,aL l (aO prog (lvl prog pkN m) (aL m) Oh) (Oj (lvl prog pkN m) (aL m)) (some (pt y.nb)::aF 1 (x2::x3::aF 7 (some (.I c.lanes)::some (.I (k:Nat))::aF 6 (dR::gN::aF 41 [])))) H=some (r,H2)/\(r=aK []/\ ∃F2,NodeAt H0 H2 F2 y p ev wv nv c t (eX c s0)/\Mv (Un Fs) (Un F2) Hs H2):=by
 intro q;induction q with
 |zero=>
  intro k l H F hq hk hl h hmv;intros;obtain⟨l,rfl⟩: ∃l',l=l'+1:=⟨l-1,by omega⟩
  have hke:k=c.lanes:=U
  have c1:decide ((k:Int)<(c.lanes:Int))=false:=by rw[decide_eq_false_iff_not];omega
  rw[aL,aAv];simp only[gsR,c1];rw[aMB];rw[hke] at h
  exact⟨_,_,rfl,rfl,F,h,hmv⟩
 |succ q ih=>
  intro k l H F hq hk hl h hmv;intros;obtain⟨l,rfl⟩: ∃l',l=l'+1:=⟨l-1,by omega⟩
  have hkl:k<c.lanes:=U
  have c1:decide ((k:Int)<(c.lanes:Int))=true:=by rw[decide_eq_true_eq];omega
  have l13:=h.ld 13 (eP y c) rfl;have e1:cY (eP y c)=some (.I c.aJ):=rfl;rw[aL,aAv];simp only[gsR,c1,l13,e1];refine aPO (kk:=k) U h ?_ c.aJ 0 m U U U ..
  refine aPS hkl U h ?_
  intro H' F' h' hmv';intros;have hn:(List.range (k+1)).foldl (gS c) s0=gS c ((List.range k).foldl (gS c) s0) k:=by rw[aTv,List.foldl_append];rfl
  rw[<-hn] at h';exact ih (k+1) l H' F' U U U h' (hmv.nT hmv') ..
theorem aPR (h:NodeAt H0 H F y p ev wv nv c t s)(hm:400<m): ∃H2 F2,lvl prog pkN m (.func 91) [pt y.nb] H=some (aK [],H2)/\NodeAt H0 H2 F2 y p ev wv nv c t (eX c s)/\Mv (Un F) (Un F2) H H2:=by
 have h6:c.aJ<=6:=by have:=h.ok.by';unfold Cfg.aJ;omega
 have main: ∃H2 r,lvl prog pkN m (.func 91) [pt y.nb] H=some (r,H2)/\(r=aK []/\ ∃F2,NodeAt H0 H2 F2 y p ev wv nv c t (eX c s)/\Mv (Un F) (Un F2) H H2):=by
  refine dP (aQ rfl) U ?_
  rw[aMD];have l3:=h.ld 3 (.I c.lanes) rfl;simp only[gsR,l3];exact aPT h.ok.lanes.2 U h6 c.lanes 0 (m-1) H F U U (by have:=h.ok.lanes;omega) h (Mv.W7 _ _) ..
 obtain⟨H2,r,g1,rfl,F2,g2,g3⟩:=main
 exact⟨H2,F2,g1,g2,g3⟩
end
def slV (v:Value):Value:=if cA [v]=true then v else .N
theorem aP0 (v:Value):cA [slV v]=true:=by
 unfold slV;split
 ·assumption
 ·rfl
def nD (u:Nat×Value):List Value:=[.I u.1,slV u.2]
theorem aCD (u:Nat×Value):(nD u).length=2:=rfl
theorem aCC (u:Nat×Value):cA (nD u)=true:=by
 have:=aP0 u.2;unfold cA nD at*;simp only[List.all_cons,List.all_nil,Bool.and_true] at*;rw[this];rfl
theorem aPY {H:aG}{v:Value}{bs:List UInt8}(h:By H v bs):slV v=v/\bV 104 2 1 [.int .i64 0,.slice none 0 0] [(0,.agg #[.int .i64 0,v])] []=some (.slice (some ⟨0,0,none⟩) 1 1,[Blk.cells [.int .i64 0,v] 104 .row]):=by
 obtain⟨_,⟨rfl,_⟩|⟨c,cap,rest,rfl,_⟩⟩:=h<;>exact⟨rfl,rfl⟩
theorem aPW {H:aG}{v:Value}{bs:List UInt8}(h:By H v bs)(to:Nat)(G:aG):bV 104 2 1 [.I 0,.N] [(0,.agg #[.I to,v])] G=some (.slice (some ⟨G.length,0,none⟩) 1 1,G++[.cells (nD (to,v)) 104 .row]):=by
 obtain⟨_,⟨rfl,_⟩|⟨c,cap,rest,rfl,_⟩⟩:=h<;>rfl
theorem aPX {H:aG}{v:Value}{bs:List UInt8}(h:By H v bs)(to:Nat):bld prog 104 [(0,.I to),(1,v)]=some (.agg #[.I to,v]):=by
 obtain⟨_,⟨rfl,_⟩|⟨c,cap,rest,rfl,_⟩⟩:=h<;>rfl
theorem zQ {α:Type}{el:α->List Value}{e:TypeId}{sz:Nat}{H:aG}{v:Value}{xs:List α}(h:Rw el e sz H v xs):v.cells.toList=[v]/\cA [v]=true:=by
 obtain⟨_,⟨rfl,_⟩|⟨c,cap,rest,rfl,_⟩⟩:=h<;>exact⟨rfl,rfl⟩
theorem aCE {α:Type}{el:α->List Value}{e:TypeId}{sz:Nat}{H:aG}{v:Value}{xs:List α}(h:Rw el e sz H v xs)(H':aG):chk (some (v,H')) v=true:=by
 obtain⟨_,⟨rfl,_⟩|⟨c,cap,rest,rfl,_⟩⟩:=h<;>simp[chk,veq]
def vK (v:Value):Blk:= .cells [v] 102 .fix
def pnB (nb:Nat):Blk:= .cells [pt nb] 72 .fix
def qU (vb cb:Nat):Value:= .func (.func 89) #[] #[pt vb,pt cb]
structure OutR (H:aG)(A:Nat->Prop)(v:Value)(us:List (Nat×Value))(outs:eN):Prop where
 rw_:Rw nD 104 2 H v us
 home: ∀b,aS v b->A b
 len:us.length=outs.length
 at_: ∀(i:Nat)(u:Nat×Value)(o:Nat×List UInt8),us[i]? =some u->outs[i]? =some o->u.1=o.1/\By H u.2 o.2/\ ∀b,Go.Abs.aS u.2 b->A b
structure TickS (H0 Hs H:aG)(Fs F:Part->Nat->Prop)(y:Lay)(p:PlanD)(ev wv nv:Value)(c:Cfg)(t:Nat)(s:NS)(vb cb:Nat)(outs:eN):Prop where
 node:NodeAt H0 H F y p ev wv nv c t s
 mv:Mv (Un Fs) (Un F) Hs H
 h0:H0.length<=Hs.length
 cell:H[cb]? =some (pnB y.nb)
 cbF: ¬Un F cb
 vbF: ¬Un F vb
 vb0:Hs.length<=vb
 rows: ∃v us,H[vb]? =some (vK v)/\OutR H (λb=>Hs.length<=b/\ ¬Un F b) v us outs
theorem OutR.xL {H H':aG}{A A':Nat->Prop}{v:Value}{us:List (Nat×Value)}{outs:eN}(h:OutR H A v us outs)(hk: ∀b,b<H.length->A b->H'[b]? =H[b]? /\A' b):OutR H' A' v us outs where
 rw_:=h.rw_.cZ λb hb=>(hk b (h.rw_.dZ hb) (h.home b hb)).1
 home:=λb hb=>(hk b (h.rw_.dZ hb) (h.home b hb)).2
 len:=h.len
 at_:=λi u o hu ho=>by
  obtain⟨g1,g2,g3⟩:=h.at_ i u o hu ho
  exact⟨g1,g2.cZ λb hb=>(hk b (g2.dZ hb) (g3 b hb)).1,λb hb=>(hk b (g2.dZ hb) (g3 b hb)).2⟩
section
variable {H0 Hs H : aG} {Fs F : Part → Nat → Prop} {y : Lay} {p : PlanD} {ev wv nv : Value} {c : Cfg} {t : Nat} {s : NS} {m : Nat} {vb cb : Nat} {outs : eN}
theorem TickS.tN {H':aG}{F':Part->Nat->Prop}{t':Nat}{s':NS}(h:TickS H0 Hs H Fs F y p ev wv nv c t s vb cb outs)(hn:NodeAt H0 H' F' y p ev wv nv c t' s')(hm:Mv (Un F) (Un F') H H'):TickS H0 Hs H' Fs F' y p ev wv nv c t' s' vb cb outs:=by
 have key: ∀b,b<H.length-> ¬Un F b->H'[b]? =H[b]? /\ ¬Un F' b:=λb hb hF=>⟨hm.keep b hb hF,λhF'=>(hm.own b hF').elim hF λhl=>by omega⟩
 obtain⟨v,us,r1,r2⟩:=h.rows
 exact⟨hn,h.mv.nT hm,h.h0,by rw[(key cb (b9 h.cell) h.cbF).1,h.cell],(key cb (b9 h.cell) h.cbF).2,(key vb (b9 r1) h.vbF).2,h.vb0,v,us,by rw[(key vb (b9 r1) h.vbF).1,r1],
  r2.xL λb hb hA=>⟨(key b hb hA.2).1,hA.1,(key b hb hA.2).2⟩⟩
theorem TickS.ext {H':aG}(h:TickS H0 Hs H Fs F y p ev wv nv c t s vb cb outs)(he:Ext H H'):TickS H0 Hs H' Fs F y p ev wv nv c t s vb cb outs:=h.tN (h.node.fW he) (Mv.nS he _)
theorem NodeAt.aPV {H':aG}{N:Nat->Prop}(h:NodeAt H0 H F y p ev wv nv c t s)(hf:Fr N H H')(hN: ∀b,N b-> ¬Un F b/\H0.length<=b):NodeAt H0 H' F y p ev wv nv c t s:=by
 have hm:Mv N N H H':=⟨hf.1,λ_ h=> .inl h,λb hb hn=>hf.2 b hb hn⟩
 refine {h with ext:=⟨aTc h.ext.1 hf.1,λa ha _=> ?_⟩,sep:=h.sep.wF (tK _ _ _ _ _ _ _) hm λa ha hh=>(hN a hh).1 ha}
 rw[hf.2 a (aTb ha h.ext.1) (λhh=>by have:=(hN a hh).2;omega),h.ext.2 a ha id]
theorem aPZ {n:Nat}(h:n<3000):eF n 32=true:=eJ (n:=3000) aC U
theorem Qy (h:TickS H0 Hs H Fs F y p ev wv nv c t s vb cb outs)(hm:200<m){o:Nat}(ho:o<c.aJ){f:Frm}(hf:f.ok)(hl:outs.length<1000):
  ∃H',kQ (lvl prog pkN m) (qU vb cb) [.I o,frV f] H=some (aK [],H')/\TickS H0 Hs H' Fs F y p ev wv nv c t s vb cb (outs++[(gJ c o,k9 f)])/\
   ∀(b:Nat)(cs:List Value)(e:TypeId)(k:Kind),H[b]? =some (.cells cs e k)->e≠104->b≠vb->H'[b]? =some (.cells cs e k):=by
 show∃H',lvl prog pkN m (.func 89) [.I o,frV f,pt vb,pt cb] H=_/\_
 obtain⟨H1,hH1⟩:=aD (H++[frB f]);have x1:Ext H H1:=by rw[hH1];exact Fr.app _ _ _
 have e0:H++[Blk.cells (Value.cells (frV f)).toList 157 .fix]=H1:=by rw[hH1];rfl
 have b1:H1[H.length]? =some (frB f):=by rw[hH1];exact cD _ _
 have l6:=(lQ b1).2.2.2.2.2.2;obtain⟨H2,w,n1,x2,n2,n3⟩:=aNb (H:=H1) (m:=m-1) U f hf
 have h2:=(h.ext x1).ext x2;obtain⟨v,us,r1,r2⟩:=h2.rows;have lv:ld1 (pt vb) H2=some (v,H2):=bA r1 rfl;have lc:ld1 (pt cb) H2=some (pt y.nb,H2):=bA h2.cell rfl;have l13:=h2.node.ld 13 (eP y c) rfl;obtain⟨b,oo,a1,a2⟩:=h2.node.w7 ho;obtain⟨_,a3,_,_⟩:=a2 _ (.inl h2.node);have eb:=aPX n2 (gJ c o);have es:=aPW n2 (gJ c o) H2;have hw:Rr nD 104 (H2++[.cells (nD (gJ c o,w)) 104 .row]) (.slice (some ⟨H2.length,0,none⟩) 1 1) [(gJ c o,w)]:=wB (el:=nD) _ H2;obtain⟨H3,hH3⟩:=aD (H2++[Blk.cells (nD (gJ c o,w)) 104 .row]);have hul:us.length<1000:=by have:=r2.len;omega
 obtain⟨v',H4,k1,k2,k3,k4,k5⟩:=(r2.rw_.uM [Blk.cells (nD (gJ c o,w)) 104 .row]).wC aCD aCC aC (by':=32) hw.rs (aPZ (by show us.length+1<3000;omega))
 rw[<-hH3] at k1 k3 k4 k5 es;have h3l:H3.length=H2.length+1:=by rw[hH3];simp
 have hvb:vb<H2.length:=b9 r1;have hvh: ¬aS v vb:=λhh=>by
  obtain⟨cs,hc⟩:=r2.rw_.blk hh;rw[r1] at hc;injection hc with hc;injection hc with _ h2 _
  revert h2
  decide
 have r4:H4[vb]? =some (vK v):=by
  rw[k4 vb U hvh,hH3,aSZ hvb,r1]
 have sh:=zQ k2;have st:stN 1 (pt vb) v' H4=some (undef,H4.set vb (vK v')):=nA r4 aC (by simp) sh.1 sh.2
 refine iB (aQ rfl) U ⟨H4.set vb (vK v'),?_,?_,?_⟩
 ·rw[aMz]
  simp only[gsR,Nat.add_zero,e0,l6,n1,kP,lv,lc,l13,a1,a3,eb,es,k1,st]
 ·have hfr:Fr (λb=>b=vb∨aS v b) H2 (H4.set vb (vK v')):=⟨by simp;omega,λb hb hn=>by
   rw[aSX (λhh=>hn (.inl hh.symm)),k4 b U (λhh=>hn (.inr hh)),hH3,aSZ hb]⟩
  have hN: ∀b,(b=vb∨aS v b)-> ¬Un F b/\Hs.length<=b:=λb hb=>by
   rcases hb with rfl|hb
   ·exact⟨h2.vbF,h2.vb0⟩
   ·exact⟨(r2.home b hb).2,(r2.home b hb).1⟩
  have hnF: ∀b,H2.length<=b-> ¬Un F b:=λb hb hu=>by have:=h2.node.sep.nU b hu;omega
  have hs2:=h2.mv.le;refine⟨h2.node.aPV hfr λb hb=>⟨(hN b hb).1,aTc h2.h0 (hN b hb).2⟩,⟨aTc hs2 hfr.1,h2.mv.own,λb hb hF=> ?_⟩,h2.h0,?_,h2.cbF,h2.vbF,h2.vb0,v',us++[(gJ c o,w)],dN r4,?_⟩
  ·rw[hfr.2 b (aTb hb hs2) (λhh=>by have:=(hN b hh).2;omega),h2.mv.keep b hb hF]
  ·rw[hfr.2 cb (b9 h2.cell) (λhh=> ?_),h2.cell]
   rcases hh with hh|hh
   ·have:=h2.cell
    rw[hh,r1] at this;injection this with this;injection this with _ h2 _
    revert h2
    decide
   ·obtain⟨cs,hc⟩:=r2.rw_.blk hh
    rw[h2.cell] at hc;injection hc with hc;injection hc with _ h2 _
    revert h2
    decide
  ·have hv'vb: ¬aS v' vb:=λhh=>by
    rcases k5 vb hh with hh|hh
    ·exact hvh hh
    ·omega
   have keepB: ∀(bv:Value)(bs:List UInt8),By H2 bv bs->By (H4.set vb (vK v')) bv bs:=λbv bs hb=>hb.cZ λb hhb=>hfr.2 b (hb.dZ hhb) λhh=>by
    obtain⟨cs,hc⟩:=hb.blk hhb;rcases hh with rfl|hh
    ·rw[r1] at hc
     injection hc with hc;injection hc with _ h2 _
     revert h2
     decide
    ·obtain⟨cs',hc'⟩:=r2.rw_.blk hh
     rw[hc] at hc';injection hc' with hc';injection hc' with _ h2 _
     revert h2
     decide
   refine⟨k2.cZ λb hb=>aSX λhh=>hv'vb (by rw[hh];exact hb),λb hb=> ?_,by simp[r2.len],λi u oo hu hoo=> ?_⟩
   ·rcases k5 b hb with hh|hh
    ·exact r2.home b hh
    ·exact⟨by omega,hnF b U⟩
   ·by_cases hi:i<us.length
    ·rw[aSZ hi] at hu
     rw[aSZ (by rw[<-r2.len];exact hi)] at hoo
     obtain⟨g1,g2,g3⟩:=r2.at_ i u oo hu hoo
     exact⟨g1,keepB _ _ g2,g3⟩
    ·have hi2:i=us.length:=by
      have:=(aSW.mp hu).1;simp at this;omega
     subst hi2;rw[aTg (aS1 _),Nat.sub_self] at hu;rw[aTg (by rw[r2.len];exact aS1 _),r2.len,Nat.sub_self] at hoo
     simp only[List.getElem?_cons_zero,aTn] at hu hoo;subst hu hoo;refine⟨rfl,keepB _ _ n2,λb hb=> ?_⟩
     have hbn:=n3 b hb;have hsb:Hs.length<=b:=by
      have:=h.mv.le;have:=x1.1;omega
     refine⟨hsb,λhu=> ?_⟩
     have:=h.node.sep.nU b hu;have:=x1.1;omega
 ·intro b cs e k hb hne hbv
  have hb2:H2[b]? =some (.cells cs e k):=by rw[(x1.tr x2).2 _ (b9 hb) id,hb]
  rw[aSX (λhh=>hbv hh.symm),k4 b (by rw[h3l];have:=b9 hb2;omega) (λhh=> ?_),hH3,aSZ (b9 hb2),hb2]
  obtain⟨cs',hc'⟩:=r2.rw_.blk hh;rw[hb2] at hc';injection hc' with hc';injection hc' with _ h2 _;exact hne h2
end
theorem aP5 {W:List Int}{x w:Whl}{may:Nat->Bool}(h:fZ W x may=(none,w)):w=x:=by
 unfold fZ at h
 split at h
 ·split at h
  ·cases h
  ·cases h;rfl
 ·cases h;rfl
theorem aP4 {α:Type}(f:Nat->α)(i:Nat):up1 f i (f i)=f:=by
 funext j
 unfold up1;split
 ·rename_i h
  rw[h]
 ·rfl
theorem Cn (y:Lay)(c:Cfg)(H':aG):chk (some (eP y c,H')) (eP y c)=true:=by simp[chk,veq,eP]
section
variable {H0 Hs H : aG} {Fs F : Part → Nat → Prop} {y : Lay} {p : PlanD} {ev wv nv : Value} {c : Cfg} {t : Nat} {s : NS} {m : Nat} {vb cb : Nat} {outs : eN}
theorem NodeAt.aP1 {H':aG}{t' o:Nat}{x':Whl}(h:NodeAt H0 H F y p ev wv nv c t s)(ho:o<c.aJ)(hf:Fr (λb=>b=y.wh o∨b=y.wl o) H H')(hB:Blks (iP (y.wh o) (y.ww o) (y.wl o) (y.wc o) (y.lc o) (y.wr o) (y.lr o) c.weights x') H')(hi:NInv c t' {s with whl:=up1 s.whl o x'}):
  NodeAt H0 H' F y p ev wv nv c t' {s with whl:=up1 s.whl o x'}/\Mv (Un F) (Un F) H H':=by
 refine h.Ce (.whl o) (l:=iP (y.wh o) (y.ww o) (y.wl o) (y.wc o) (y.lc o) (y.wr o) (y.lr o) c.weights (s.whl o)) (l':=iP (y.wh o) (y.ww o) (y.wl o) (y.wc o) (y.lc o) (y.wr o) (y.lr o) c.weights x') (by simp only[iQ];rw[if_pos ho]) aCj ?_ ?_ hB hi ?_ ?_
 ·intro q hq
  simp only[iP,aTf,aTm,or_false] at hq;rcases hq with rfl|rfl|rfl
  ·exact⟨_,aS5 ..,rfl⟩
  ·exact⟨_,aTd _ (aS5 ..),rfl⟩
  ·exact⟨_,aTd _ (aTd _ (aS5 ..)),rfl⟩
 ·refine hf.Av λb hb=> ?_
  rcases hb with rfl|rfl
  ·exact⟨_,aS5 ..,rfl⟩
  ·exact⟨_,aTd _ (aTd _ (aS5 ..)),rfl⟩
 ·have e:up1 s.whl o x' o=x':=if_pos rfl
  simp only[iQ];rw[if_pos ho,e]
 ·intro j hj
  cases j with
  |whl i'=>
   have e:up1 s.whl o x' i'=s.whl i':=if_neg λhh=>hj (by rw[hh])
   simp only[iQ];rw[e]
  |_=>rfl
theorem aP6 (h:NodeAt H0 H F y p ev wv nv c t s)(hm:30<m){i o:Nat}(ho:o<c.aJ)(hi:NInv c (t+1) {s with whl:=up1 s.whl o (fZ c.weights (s.whl o) (dL c s i o)).2}):
  ∃H',lvl prog pkN m (.func 131) [pt (y.wh o),.int .u16 (cC (dL c s i o) c.lanes:Nat)] H=some (nC (fZ c.weights (s.whl o) (dL c s i o)).1,H')/\NodeAt H0 H' F y p ev wv nv c (t+1) {s with whl:=up1 s.whl o (fZ c.weights (s.whl o) (dL c s i o)).2}/\Mv (Un F) (Un F) H H':=by
 have hw:=h.ok.wlen;have hl:=h.ok.lanes;have hx:=h.inv.whl o;rw[<-hw] at hx;obtain⟨H',g1,g2,g3⟩:=aO3 (m:=m) U (h.aPf ho) (h.lay.ww o ho) hx (λy hy=>by have:=h.ok.wts y hy;omega) U U (cC (dL c s i o) c.lanes) (pW _ U)
 have hc:fZ c.weights (s.whl o) (λj=>(cC (dL c s i o) c.lanes).testBit j)=fZ c.weights (s.whl o) (dL c s i o):=aOZ λj hj=>by
  rw[iC,aTG U,aTj]
 rw[hc] at g1 g3;obtain⟨k1,k2⟩:=h.aP1 ho g2 g3 hi
 exact⟨H',g1,k1,k2⟩
theorem aP3 (h:NodeAt H0 H F y p ev wv nv c t s)(hm:100<m)(i o k:Nat)(hi:NInv c t {s with rL:=mA s.rL ((i:Int),(o:Int),(k:Int))}):
  ∃H' F',lvl prog pkN m (.func 132) [pt y.rg,.I i,.I o,.I k] H=some (Rg.tH (jB s.rL ((i:Int),(o:Int),(k:Int))),H')/\NodeAt H0 H' F' y p ev wv nv c t {s with rL:=mA s.rL ((i:Int),(o:Int),(k:Int))}/\Mv (Un F) (Un F') H H':=by
 obtain⟨r,H',F',p1,p2,p3⟩:=(h.sep.own .rings).yZ qL (n:=m) (B:=λr D'=>r=Rg.tH (jB s.rL ((i:Int),(o:Int),(k:Int)))/\RingsN D' y.rg (mA s.rL ((i:Int),(o:Int),(k:Int))) (c.aJ*c.lanes*c.room) c.aJ c.lanes) (λD hD=>by
  obtain⟨D',g1,g2⟩:=aOs (m:=m) hD U i o k
  exact⟨_,D',g1,rfl,g2⟩)
 obtain⟨hr,_⟩:=p2.at_;rw[hr] at p1;obtain⟨g4,mv4⟩:=h.Qu (Has.vI p2 λD hD=>hD.2) p3 hi
 exact⟨H',_,p1,g4,mv4⟩
theorem aP2 (h:NodeAt H0 H F y p ev wv nv c t s)(hm:10<m)(x:Pkt)(hl:s.hG.length<1000000000)(hi:NInv c t {s with hG:=s.hG++[x]}):
  ∃H' F',lvl prog pkN m (.func 134) [pt y.hb,x.cF] H=some (aK [],H')/\NodeAt H0 H' F' y p ev wv nv c t {s with hG:=s.hG++[x]}/\Mv (Un F) (Un F') H H':=by
 obtain⟨r,H',F',p1,p2,p3⟩:=(h.sep.own .host).yZ qL (n:=m) (B:=λr D'=>r=aK []/\HostAt D' y.hb s.hL (s.hG++[x]) c.lanes c.queue) (λD hD=>by
  obtain⟨w0,w1,w2,cv,hI⟩:=hD;obtain⟨D',g1,g2⟩:=aNs hI (m:=m) U x (eJ (n:=1000000001) aC U)
  exact⟨_,D',g1,rfl,g2⟩)
 obtain⟨hr,_⟩:=p2.at_;rw[hr] at p1;obtain⟨g4,mv4⟩:=h.Hq (L:=s.hL) (Has.vI p2 λD hD=>hD.2) p3 hi
 exact⟨H',_,p1,g4,mv4⟩
end
section
variable {H0 Hs H : aG} {Fs F : Part → Nat → Prop} {y : Lay} {p : PlanD} {ev wv nv : Value} {c : Cfg} {t : Nat} {s : NS} {m : Nat} {vb cb : Nat} {outs : eN}
def Qz (s:NS)(o k:Nat)(x:Pkt):Frm:=⟨1,k,(s.snd o k).j6.1%65536,(x.src%256).toNat,(x.dst%256).toNat,x.body.toNat⟩
theorem aP9 (s:NS)(o k:Nat)(x:Pkt)(hk:k<3)(hb:0<=x.body/\x.body<4294967296):(Qz s o k x).ok where
 kind:=by show 1<256;decide
 lane:=by show k<256;omega
 seq:=Nat.mod_lt _ aC
 src:=by show(x.src%256).toNat<256;omega
 dst:=by show(x.dst%256).toNat<256;omega
 body:=by show x.body.toNat<4294967296;omega
theorem aP8 (s:NS)(o k:Nat)(x:Pkt)(hb:0<=x.body)(hk:k<3):
  bld prog 157 [(0,.int .u8 1),(1,.int .u8 k),(2,.int .u16 ((s.snd o k).j6.1%65536:Nat)),(3,.int .u8 (x.src%256)),(4,.int .u8 (x.dst%256)),(5,.int .u32 x.body)]=some (frV (Qz s o k x)):=by
 have e1:(((x.src%256).toNat:Nat):Int)=x.src%256:=Int.toNat_of_nonneg (Int.emod_nonneg _ aC)
 have e2:(((x.dst%256).toNat:Nat):Int)=x.dst%256:=Int.toNat_of_nonneg (Int.emod_nonneg _ aC)
 have e3:((x.body.toNat:Nat):Int)=x.body:=Int.toNat_of_nonneg hb;rw[<-e1,<-e2,<-e3];rfl
theorem TickS.b15 {H':aG}{F':Part->Nat->Prop}{b:Nat}{x:Blk}(hm:Mv (Un F) (Un F') H H')(hb:H[b]? =some x)(hF: ¬Un F b):H'[b]? =some x/\ ¬Un F' b:=
 ⟨by rw[hm.keep b (b9 hb) hF,hb],λhF'=>(hm.own b hF').elim hF λhl=>by have:=b9 hb;omega⟩
def aP7 (H0 Hs:aG)(Fs:Part->Nat->Prop)(y:Lay)(p:PlanD)(ev wv nv:Value)(c:Cfg)(t:Nat)(vb cb:Nat)(outs:eN)(r:NS×eN)(mb:Nat)(X:Blk)(H':aG)(v:Value):Prop:=
 v=aK []/\H'[mb]? =some X/\ ∃F',TickS H0 Hs H' Fs F' y p ev wv nv c (t+1) r.1 vb cb (outs++r.2)/\ ¬Un F' mb
theorem aQa (h:TickS H0 Hs H Fs F y p ev wv nv c t s vb cb outs)(ht:t<100000000)(hm:300<m){i o:Nat}(hi:i<c.aJ)(ho:o<c.aJ)(hl:outs.length<1000){mb:Nat}{zs:List Int}(hmb:H[mb]? =some (dF zs []))(hmF: ¬Un F mb)(hmv:mb≠vb):
    ∃H' v,lvl prog pkN m (.func 94) [pt y.nb,.I i,.I o,qU vb cb] H=some (v,H')/\aP7 H0 Hs Fs y p ev wv nv c t vb cb outs (iL c s i o) mb (dF zs []) H' v:=by
  have hm0:0<m:=U
  have hn:=h.node;have hlanes:=hn.ok.lanes;have hmono:=hn.inv.pU (Nat.le_succ t);have l13:=hn.ld 13 (eP y c) rfl;obtain⟨b,oo,a1,a2⟩:=hn.w7 ho;obtain⟨_,_,_,a3⟩:=a2 _ (.inl hn);obtain⟨H1,m1,x1⟩:=aCw hn U (m:=m-1) U hi ho
  have h1:=h.ext x1;obtain⟨_,_,_,a4⟩:=a2 _ (.inl h1.node);have l13':=h1.node.ld 13 (eP y c) rfl;have hwi:NInv c (t+1) {s with whl:=up1 s.whl o (fZ c.weights (s.whl o) (dL c s i o)).2}:={hmono with whl:=aNH hmono.whl (aNJ hn.ok (hmono.whl o) _)};obtain⟨H2,w1,g2,mv2⟩:=aP6 h1.node (m:=m-1) U ho hwi
  have h2:=h1.tN g2 mv2;have hb2:=TickS.b15 ((Mv.nS x1 (Un F)).nT mv2) hmb hmF;cases hpk:(fZ c.weights (s.whl o) (dL c s i o)).1 with
  |none=>
    obtain⟨w',hw'⟩: ∃w',fZ c.weights (s.whl o) (dL c s i o)=(none,w'):=⟨_,Prod.ext hpk rfl⟩;have hr:iL c s i o=(s,[]):=by unfold iL;rw[hw']
    have hww:=aP5 hw';rw[hw'] at h2 w1;simp only at h2 w1;rw[hww,aP4] at h2;have c1:decide ((-1:Int)<0)=true:=rfl;refine⟨H2,_,aV (aQ rfl) hm0 ?_,rfl,hb2.1,F,?_,hb2.2⟩
    · rw[O8]
      simp only[gsR,l13,a1,a3,m1,a4,vJ,l13',Cn,w1,nC,c1]
    · rw[hr]
      rw[List.append_nil];exact h2
  |some k=>
    obtain⟨w',hw'⟩: ∃w',fZ c.weights (s.whl o) (dL c s i o)=(some k,w'):=⟨_,Prod.ext hpk rfl⟩;rw[hw'] at h2 w1 hwi;simp only at h2 w1 hwi;obtain⟨hkl,hmk⟩:=aNI hw';rw[hn.ok.wlen] at hkl;have c1:decide ((k:Int)<0)=false:=by rw[decide_eq_false_iff_not];omega
    -- the queue has one
    have hq0:0<fT s.rL i o k:=by
      unfold dL at hmk;rw[aS4,aS4,decide_eq_true_eq,decide_eq_true_eq] at hmk;exact hmk.1.2
    obtain⟨x,xs,hq⟩: ∃x xs,jB s.rL ((i:Int),(o:Int),(k:Int))=x::xs:=by
      unfold fT at hq0;cases hh:jB s.rL ((i:Int),(o:Int),(k:Int)) with
      |nil=>rw[hh] at hq0;simp at hq0
      |cons x xs=>exact⟨x,xs,rfl⟩
    have hxm:x∈jB s.rL ((i:Int),(o:Int),(k:Int)):=by rw[hq];exact aS5 ..
    obtain⟨e,he1,he2,_⟩:=aNG hxm;have hpk0:=hn.inv.rL e he1;rw[he2] at hpk0;have hr:iL c s i o=if o=0 then({s with whl:=up1 s.whl o w',rL:=mA s.rL ((i:Int),(o:Int),(k:Int)),rcv:=pQ s i k,hG:=s.hG++[x]},[])
        else({s with whl:=up1 s.whl o w',rL:=mA s.rL ((i:Int),(o:Int),(k:Int)),rcv:=pQ s i k,snd:=up2 s.snd o k (s.snd o k).j6.2},[(gJ c o,k9 (Qz s o k x))]):=by
      unfold iL;rw[hw'];simp only;rw[hq];by_cases h0:o=0
      · rw[if_pos h0,if_pos h0]
        rfl
      · rw[if_neg h0,if_neg h0]
        unfold pT gJ;rw[if_neg h0];rfl
    have hi3:NInv c (t+1) {s with whl:=up1 s.whl o w',rL:=mA s.rL ((i:Int),(o:Int),(k:Int))}:={hwi with rL:=λe he=>hwi.rL e (aNF he),rN:=aTc (aNE _ _) hwi.rN}
    obtain⟨H3,F3,p1,g3,mv3⟩:=aP3 h2.node (m:=m-1) U i o k hi3
    have h3:=h2.tN g3 mv3;have hb3:=TickS.b15 mv3 hb2.1 hb2.2;have p1:lvl prog pkN (m-1) (.func 132) [pt y.rg,.I i,.I o,.I k] H2=some (.tuple #[x.cF,.bool true],H3):=by
      rw[p1];show some (Rg.tH (jB s.rL ((i:Int),(o:Int),(k:Int))),H3)=_
      rw[hq];rfl
    obtain⟨H4,hH4⟩:=aD (H3++[cM x]);have x4:Ext H3 H4:=by rw[hH4];exact Fr.app _ _ _
    have h4:=h3.ext x4;have q4:H4[H3.length]? =some (cM x):=by rw[hH4];exact cD _ _
    have qF4: ¬Un F3 H3.length:=λhu=>by have:=h3.node.sep.nU _ hu;omega
    have hb4:=TickS.b15 (Mv.nS x4 (Un F3)) hb3.1 hb3.2;have l15:=h2.node.ld 15 (pt y.rg) rfl
    -- behind the pop: the lane of the input is free
    have free: ∃H5,TickS H0 Hs H5 Fs F3 y p ev wv nv c (t+1) {s with whl:=up1 s.whl o w',rL:=mA s.rL ((i:Int),(o:Int),(k:Int)),rcv:=pQ s i k} vb cb outs/\H5[H3.length]? =some (cM x)/\H5[mb]? =some (dF zs [])/\
        ((i=0/\H5=H4)∨(0<i/\ ∃u,lvl prog pkN (m-1) (.func 133) [pt (y.rb i k)] H4=some (u,H5))):=by
      by_cases hi0:i=0
      · refine⟨H4,?_,q4,hb4.1,.inl ⟨hi0,rfl⟩⟩
        have:pQ s i k=s.rcv:=by unfold pQ;rw[if_pos hi0]
        rw[this];exact h4
      · obtain⟨H5,u,r1,r2⟩:=aM2 (m:=m-1) U (h4.node.Cg U hi hkl) (h4.node.Ci U i k)
        have hfr:pQ s i k=up2 s.rcv i k (s.rcv i k).qP:=by unfold pQ;rw[if_neg hi0]
        have hi5:NInv c (t+1) {s with whl:=up1 s.whl o w',rL:=mA s.rL ((i:Int),(o:Int),(k:Int)),rcv:=up2 s.rcv i k (s.rcv i k).qP}:={hi3 with rcv:=zH hi3.rcv (hi3.rcv i k).aNx};obtain⟨g5,mv5⟩:=h4.node.Qr U hi hkl r2 hi5
        refine⟨H5,?_,(TickS.b15 mv5 q4 qF4).1,(TickS.b15 mv5 hb4.1 hb4.2).1,.inr ⟨by omega,u,r1⟩⟩
        rw[hfr];exact h4.tN g5 mv5
    obtain⟨H5,h5,q5,hb5,hfree⟩:=free
    -- behind that: it is at the host, or on its way
    have hi5:=h5.node.inv;obtain⟨l0,l1,l2,l3,l4⟩:ld1 (.pointer (some ⟨H3.length,0,none⟩)) H5=some (.int .i64 x.src,H5)/\ld1 (.pointer (some ⟨H3.length,1,none⟩)) H5=some (.int .i64 x.dst,H5)/\ld1 (.pointer (some ⟨H3.length,2,none⟩)) H5=some (.int .i64 x.lane,H5)/\ld1 (.pointer (some ⟨H3.length,3,none⟩)) H5=some (.int .u32 x.body,H5)/\ldN 4 (.pointer (some ⟨H3.length,0,none⟩)) H5=some (x.cF,H5):=⟨bA q5 rfl,bA q5 rfl,bA q5 rfl,bA q5 rfl,(nY q5).2⟩;have hst:=Qx H3 x;rw[<-hH4] at hst;have ifree:0<i-> ∃bi oi bj oj,cQ 3 (eP y c) (.int .i64 (i:Int))=some (.pointer (some ⟨bi,oi,none⟩))/\ld1 (.pointer (some ⟨bi,oi+1,none⟩)) H4=some (j9 y c i,H4)/\cQ 2 (j9 y c i) (.int .i64 (k:Int))=some (.pointer (some ⟨bj,oj,none⟩))/\ld1 (.pointer (some ⟨bj,oj+1,none⟩)) H4=some (pt (y.rb i k),H4):=λhpos=>by
      obtain⟨bi,oi,j1,j2⟩:=h4.node.w7 hi;obtain⟨_,_,j3,_⟩:=j2 _ (.inl h4.node);obtain⟨bj,oj,j4,_,_,j5⟩:=h4.node.Cf U hi hkl
      exact⟨bi,oi,bj,oj,j1,j3,j4,j5⟩
    have l13'':=h4.node.ld 13 (eP y c) rfl;by_cases ho0:o=0
    · rw[if_pos ho0] at hr
      have c3:((o:Int)==0)=true:=by rw[ho0];rfl
      have hgl:s.hG.length<=t:=hn.inv.hG;have hi6:NInv c (t+1) {s with whl:=up1 s.whl o w',rL:=mA s.rL ((i:Int),(o:Int),(k:Int)),rcv:=pQ s i k,hG:=s.hG++[x]}:={hi5 with hG:=by simp;omega}
      obtain⟨H6,F6,k1,g6,mv6⟩:=aP2 h5.node (m:=m-1) U x (by show s.hG.length<_;omega) hi6
      have h6:=h5.tN g6 mv6;have hb6:=TickS.b15 mv6 hb5 hb4.2;have l14:=h5.node.ld 14 (pt y.hb) rfl;refine⟨H6,aK [],aV (aQ rfl) hm0 ?_,rfl,hb6.1,F6,by rw[hr,List.append_nil];exact h6,hb6.2⟩
      rw[O8];rcases hfree with⟨hi0,hH5⟩|⟨hpos,u,r1⟩
      · have c2:decide ((0:Int)<(i:Int))=false:=by rw[decide_eq_false_iff_not];omega
        rw[hH5] at l14 l4 k1;simp only[gsR,l13,a1,a3,m1,a4,vJ,l13',Cn,w1,nC,c1,l15,p1,kP,zP,hst,<-hH4,c2,c3,l14,l4,k1]
      · have c2:decide ((0:Int)<(i:Int))=true:=by rw[decide_eq_true_eq];omega
        obtain⟨bi,oi,bj,oj,j1,j2,j3,j4⟩:=ifree hpos;simp only[gsR,l13,a1,a3,m1,a4,vJ,l13',Cn,w1,nC,c1,l15,p1,kP,zP,hst,<-hH4,c2,l13'',j1,j2,j3,j4,r1,c3,l14,l4,k1]
    · rw[if_neg ho0] at hr
      have c3:((o:Int)==0)=false:=by rw[beq_eq_false_iff_ne];omega
      obtain⟨H6,r6,p6⟩:=aM9 (m:=m-1) U (h5.node.Cj U ho hkl) (h5.node.Hm U o k)
      have hi6:NInv c (t+1) {s with whl:=up1 s.whl o w',rL:=mA s.rL ((i:Int),(o:Int),(k:Int)),rcv:=pQ s i k,snd:=up2 s.snd o k (s.snd o k).j6.2}:={hi5 with snd:=zH hi5.snd (hn.inv.snd o k).aNA};obtain⟨g6,mv6⟩:=h5.node.aCg U ho hkl p6 hi6
      have h6:=h5.tN g6 mv6;have q6:=(TickS.b15 mv6 q5 qF4).1;have hb6:=TickS.b15 mv6 hb5 hb4.2;obtain⟨n0,n1,n3⟩:ld1 (.Q H3.length 0) H6=some (.I x.src,H6)/\ld1 (.Q H3.length 1) H6=some (.I x.dst,H6)/\ld1 (.Q H3.length 3) H6=some (.int .u32 x.body,H6):=⟨bA q6 rfl,bA q6 rfl,bA q6 rfl⟩;obtain⟨H7,s7,h7,hk7⟩:=Qy h6 (m:=m-1) U ho (aP9 s o k x U hpk0.body) hl
      have hb7:=hk7 mb _ _ _ hb6.1 aC hmv
      obtain⟨bi',oi',i1,i2⟩:=h5.node.w7 ho;obtain⟨_,_,i3,_⟩:=i2 _ (.inl h5.node);obtain⟨rfl,rfl⟩:bi'=b/\oi'=oo:=by
        have:=i1.symm.trans a1;simpa using this
      obtain⟨bj',oj',i4,_,i5,_⟩:=h5.node.Cf U ho hkl
      have l13c:=h5.node.ld 13 (eP y c) rfl;have ek:IntKind.u8.wrap (k:Int)=(k:Int):=by rw[Az];omega
      have eq:IntKind.u16.wrap ((s.snd o k).j6.1:Int)=(((s.snd o k).j6.1%65536:Nat):Int):=Bx _;have ebl:=aP8 s o k x hpk0.body.1 U
      have r6:lvl prog pkN (m-1) (.func 135) [pt (y.sb o k)] H5=some (.tuple #[.int .u64 (s.snd o k).j6.1,.bool (decide ((s.snd o k).l≠(s.snd o k).s))],H6):=r6;refine⟨H7,aK [],aV (aQ rfl) hm0 ?_,rfl,hb7,F3,by rw[hr];exact h7,hb6.2⟩
      rw[O8];rcases hfree with⟨hi0,hH5⟩|⟨hpos,u,r1⟩
      · have c2:decide ((0:Int)<(i:Int))=false:=by rw[decide_eq_false_iff_not];omega
        rw[hH5] at l13c i3 i5 r6;simp only[gsR,Nat.add_zero,l13,a1,a3,m1,a4,vJ,l13',Cn,w1,nC,c1,l15,p1,kP,zP,hst,<-hH4,c2,c3,l13c,i1,i3,i4,i5,r6,dJ _ _ iU u8U,dJ _ _ oV kL,ek,eq,n0,n1,n3,Az,ebl,s7]
      · have c2:decide ((0:Int)<(i:Int))=true:=by rw[decide_eq_true_eq];omega
        obtain⟨bi,oi,bj,oj,j1,j2,j3,j4⟩:=ifree hpos;simp only[gsR,Nat.add_zero,l13,a1,a3,m1,a4,vJ,l13',Cn,w1,nC,c1,l15,p1,kP,zP,hst,<-hH4,c2,l13'',j1,j2,j3,j4,r1,c3,l13c,i1,i3,i4,i5,r6,dJ _ _ iU u8U,dJ _ _ oV kL,ek,eq,n0,n1,n3,Az,ebl,s7]
end
def exF (s:NS)(c:Cfg)(i k:Nat):eN:=[pT c i ⟨3,k,(s.snd i k).s%65536,0,0,0⟩,pT c i ⟨2,k,(s.rcv i k).dE c.room%65536,0,0,0⟩]
def qV (s:NS)(c:Cfg)(i k:Nat):eN:=(List.range k).flatMap (exF s c i)
def exP (s:NS)(c:Cfg)(i:Nat):eN:=if i=0 then [] else qV s c i c.lanes
def nZ (s:NS)(c:Cfg)(i:Nat):eN:=(List.range i).flatMap (exP s c)
theorem aCF (s:NS)(c:Cfg)(i k:Nat):qV s c i (k+1)=qV s c i k++exF s c i k:=by
 unfold qV;rw[aTv,List.flatMap_append];simp
theorem Q1 (s:NS)(c:Cfg)(i:Nat):nZ s c (i+1)=nZ s c i++exP s c i:=by
 unfold nZ;rw[aTv,List.flatMap_append];simp
theorem Q0 (s:NS)(c:Cfg)(i:Nat): ∀k,(qV s c i k).length=2*k
 |0=>rfl
 |k+1=>by
  rw[aCF,aS8,Q0 s c i k];simp[exF];omega
theorem aCG (s:NS)(c:Cfg)(h3:c.lanes<=3): ∀i,(nZ s c i).length<=6*i
 |0=>by simp[nZ]
 |i+1=>by
  rw[Q1,aS8];have:=aCG s c h3 i;have:(exP s c i).length<=6:=by
   unfold exP;split
   ·simp
   ·rw[Q0]
    omega
  omega
theorem aQd (s:NS)(c:Cfg):j7 c s=nZ s c c.aJ:=by
 unfold j7 nZ Cfg.aJ;rw[List.range_succ_eq_map,List.flatMap_cons,List.flatMap_map];have:exP s c 0=[]:=rfl;rw[this,List.nil_append];rfl
section
variable {H0 Hs H : aG} {Fs F : Part → Nat → Prop} {y : Lay} {p : PlanD} {ev wv nv : Value} {c : Cfg} {t : Nat} {s : NS} {m : Nat} {vb cb : Nat} {outs : eN}
theorem aQc (k q:Nat):bld prog 157 [(0,.int .u8 3),(1,.int .u8 k),(2,.int .u16 q)]=some (frV ⟨3,k,q,0,0,0⟩):=rfl
theorem aQb (k q:Nat):bld prog 157 [(0,.int .u8 2),(1,.int .u8 k),(2,.int .u16 q)]=some (frV ⟨2,k,q,0,0,0⟩):=rfl
theorem aCH (a k q:Nat)(ha:a<256)(hk:k<256):(⟨a,k,q%65536,0,0,0⟩:Frm).ok:=⟨ha,hk,Nat.mod_lt _ aC,by show 0<256;decide,by show 0<256;decide,by show 0<4294967296;decide⟩
theorem aQe {i:Nat}(h1:1<=i)(hi:i<c.aJ)(h3:c.lanes<=3)(ht:t<100000000)(hol:outs.length<900)(hm:220<m){K:Ex->K (Value×aG)}{Q:aG->Value->Prop}
  (hK: ∀H',TickS H0 Hs H' Fs F y p ev wv nv c t s vb cb (outs++qV s c i c.lanes)-> ∀(x4 dR gN gX:Value),∃H2 r,Ge (lvl prog pkN m) (aL m) K (qU vb cb) x4 (eP y c) (.I c.aJ) (.I (i:Nat)) dR gN gX H'=some (r,H2)/\Q H2 r):
  ∀(q k l:Nat)(H:aG),c.lanes-k=q->k<=c.lanes->q<l->TickS H0 Hs H Fs F y p ev wv nv c t s vb cb (outs++qV s c i k)-> ∃H2 r,aL l (aO prog (lvl prog pkN m) (aL m) Pb) (Pd (lvl prog pkN m) (aL m) K) (aF 1 (some (qU vb cb)::aF 2 (some (.I (i:Nat))::aF 6 (some (eP y c)::some (.I c.aJ)::some (.I (i:Nat))::aF 5 (some (j9 y c i)::some (.I c.lanes)::some (.I (k:Nat))::aF 26 []))))) H=some (r,H2)/\Q H2 r:=by
 intro q;induction q with
 |zero=>
  intro k l H hq hk hl h;intros;obtain⟨l,rfl⟩: ∃l',l=l'+1:=⟨l-1,by omega⟩
  have hke:k=c.lanes:=U
  subst hke;have c1:decide ((c.lanes:Int)<(c.lanes:Int))=false:=by simp
  rw[aL,O9];simp only[gsR,c1];rw[aAD];exact hK H h ..
 |succ q ih=>
  intro k l H hq hk hl h;intros;obtain⟨l,rfl⟩: ∃l',l=l'+1:=⟨l-1,by omega⟩
  have hkl:k<c.lanes:=U
  have c1:decide ((k:Int)<(c.lanes:Int))=true:=by rw[decide_eq_true_eq];omega
  have hil:=Q0 s c i k;obtain⟨b,o,a1,a2,_,_⟩:=h.node.Cf h1 hi hkl;have a2:ldN 2 (.Q b o) H=some (.agg #[pt (y.sb i k),pt (y.rb i k)],H):=a2;obtain⟨H1,hH1⟩:=aD (H++[dQ (pt (y.sb i k)) (pt (y.rb i k))]);have x1:Ext H H1:=by rw[hH1];exact Fr.app _ _ _
  have g1:=h.ext x1;have st:=Qv H (pt (y.sb i k)) (pt (y.rb i k)) rfl;rw[<-hH1] at st;have b1:H1[H.length]? =some (dQ (pt (y.sb i k)) (pt (y.rb i k))):=by rw[hH1];exact cD _ _
  have l0:=(vH b1).2.1;have s1:=Po (m:=m) U (g1.node.Cj h1 hi hkl)
  have ek:IntKind.u8.wrap (k:Int)=(k:Int):=by rw[Az];omega
  have e1:IntKind.u16.wrap ((s.snd i k).s:Int)=(((s.snd i k).s%65536:Nat):Int):=Bx _;obtain⟨H2,r1,g2,k2⟩:=Qy g1 (m:=m) U hi (aCH 3 k (s.snd i k).s aC U) (by rw[aS8];omega)
  have hvb:H.length≠vb:=λhh=>by
   obtain⟨v,us,r,_⟩:=h.rows;have:=b9 r;omega
  have b2:H2[H.length]? =some (dQ (pt (y.sb i k)) (pt (y.rb i k))):=k2 _ _ _ _ b1 aC hvb
  have l1:=(vH b2).2.2;have s2:=aAV (m:=m) U (g2.node.Cg h1 hi hkl) (g2.node.Ci U i k)
  have e2:IntKind.u16.wrap (((s.rcv i k).dE c.room:Nat):Int)=(((s.rcv i k).dE c.room%65536:Nat):Int):=Bx _;obtain⟨H3,r2,g3,_⟩:=Qy g2 (m:=m) U hi (aCH 2 k ((s.rcv i k).dE c.room) aC U) (by simp only[aS8,aTi,List.length_nil];omega)
  have e9:=mB k U
  have hto:gJ c i=c.by'.getD (i-1) 0:=by unfold gJ;rw[if_neg U]
  have hnext:outs++qV s c i k++[(gJ c i,k9 ⟨3,k,(s.snd i k).s%65536,0,0,0⟩)]++[(gJ c i,k9 ⟨2,k,(s.rcv i k).dE c.room%65536,0,0,0⟩)]=outs++qV s c i (k+1):=by
   rw[aCF,hto];simp[exF,pT]
  rw[hnext] at g3;rw[aL,O9];simp only[gsR,c1,a1,a2,Cm,st,dJ _ _ iU u8U,ek,l0,s1,dJ _ _ oV kL,e1,aQc,r1,l1,s2,e2,aQb,r2,aT,e9];exact ih (k+1) l H3 U U U g3 ..
theorem aQg (h3:c.lanes<=3)(h6:c.aJ<=6)(ht:t<100000000)(hol:outs.length<800)(hm:300<m):
  ∀(q i l:Nat)(H:aG),c.aJ-i=q->i<=c.aJ->q<l->TickS H0 Hs H Fs F y p ev wv nv c t s vb cb (outs++nZ s c i)-> ∀(x4 dR gN gX:Value),
  ∃H2 r,aL l (aO prog (lvl prog pkN m) (aL m) Pa) (Pc (lvl prog pkN m) (aL m)) (aF 1 (some (qU vb cb)::aF 2 (x4::aF 6 (some (eP y c)::some (.I c.aJ)::some (.I (i:Nat))::aF 5 (dR::gN::gX::aF 26 []))))) H=some (r,H2)/\(r=aK []/\TickS H0 Hs H2 Fs F y p ev wv nv c t s vb cb (outs++j7 c s)):=by
 intro q;induction q with
 |zero=>
  intro i l H hq hi hl h;intros;obtain⟨l,rfl⟩: ∃l',l=l'+1:=⟨l-1,by omega⟩
  have hie:i=c.aJ:=U
  subst hie;have c1:decide ((c.aJ:Int)<(c.aJ:Int))=false:=by simp
  rw[aL,aAC];simp only[gsR,c1];rw[aMJ];rw[aQd]
  exact⟨_,_,rfl,rfl,h⟩
 |succ q ih=>
  intro i l H hq hi hl h;intros;obtain⟨l,rfl⟩: ∃l',l=l'+1:=⟨l-1,by omega⟩
  have hil:i<c.aJ:=U
  have c1:decide ((i:Int)<(c.aJ:Int))=true:=by rw[decide_eq_true_eq];omega
  have hul:=aCG s c h3 i;obtain⟨b,o,a1,a2⟩:=h.node.w7 hil;obtain⟨a3,_,_,_⟩:=a2 _ (.inl h.node);obtain⟨H1,hH1⟩:=aD (H++[lC y c i]);have x1:Ext H H1:=by rw[hH1];exact Fr.app _ _ _
  have g1:=h.ext x1;have hlv:cA [j9 y c i]=true:=by unfold j9;split<;>rfl
  have st:stN 3 (.pointer (some ⟨H.length,0,none⟩)) (.agg ⟨dK y c i⟩) (H++[Blk.cells [Value.int .i64 0,.slice none 0 0,.pointer none] 145 .fix])=some (undef,H1):=by
   rw[sD (n:=3) (vs:=dK y c i) (cD H _) aC rfl rfl (aS1 3) (by unfold dK j9;split<;>rfl),gQ,hH1]
   rfl
  have b1:H1[H.length]? =some (lC y c i):=by rw[hH1];exact cD _ _
  have l1:ld1 (.Q H.length 1) H1=some (j9 y c i,H1):=bA b1 rfl;have e9:=mB i U
  rw[aL,aAC];by_cases hi0:i=0
  ·have e1:cY (j9 y c i)=some (.I 0):=by unfold j9;rw[if_pos hi0];rfl
   simp only[gsR,c1,a1,a3,st,l1,e1];have hx:outs++nZ s c (i+1)=outs++nZ s c i:=by rw[Q1];unfold exP;rw[if_pos hi0,List.append_nil]
   obtain⟨m',hm'⟩: ∃m',m=m'+1:=⟨m-1,by omega⟩
   have c2:decide ((0:Int)<0)=false:=rfl;rw[show aL m=aL (m'+1) by rw[hm'],aL,<-hm',O9]
   simp only[gsR,c2];rw[aAD];unfold Ge;simp only[gsR,aT,e9];exact ih (i+1) l H1 U U U (by rw[hx];exact g1) ..
  ·have e1:cY (j9 y c i)=some (.I c.lanes):=by unfold j9;rw[if_neg hi0];rfl
   simp only[gsR,c1,a1,a3,st,l1,e1];refine aQe (outs:=outs++nZ s c i) U hil h3 ht (by rw[aS8];omega) U ?_ c.lanes 0 m H1 U U U (by unfold qV;simpa using g1) ..
   intro H' h';intros;unfold Ge;simp only[gsR,aT,e9];have hx:outs++nZ s c (i+1)=outs++nZ s c i++qV s c i c.lanes:=by rw[Q1];unfold exP;rw[if_neg hi0,aS3]
   exact ih (i+1) l H' U U U (by rw[hx];exact h') ..
theorem aQf (h:TickS H0 Hs H Fs F y p ev wv nv c t s vb cb outs)(ht:t<100000000)(hol:outs.length<800)(hm:400<m):
  ∃H2,lvl prog pkN m (.func 95) [pt y.nb,qU vb cb] H=some (aK [],H2)/\TickS H0 Hs H2 Fs F y p ev wv nv c t s vb cb (outs++j7 c s):=by
 have h6:c.aJ<=6:=by have:=h.node.ok.by';unfold Cfg.aJ;omega
 have main: ∃H2 r,lvl prog pkN m (.func 95) [pt y.nb,qU vb cb] H=some (r,H2)/\(r=aK []/\TickS H0 Hs H2 Fs F y p ev wv nv c t s vb cb (outs++j7 c s)):=by
  refine dP (aQ rfl) U ?_
  rw[aMK];have l13:=h.node.ld 13 (eP y c) rfl;have e1:cY (eP y c)=some (.I c.aJ):=rfl;simp only[gsR,l13,e1];exact aQg h.node.ok.lanes.2 h6 ht hol U c.aJ 0 (m-1) H U U U (by unfold nZ;simpa using h) ..
 obtain⟨H2,r,g1,rfl,g2⟩:=main
 exact⟨H2,g1,g2⟩
end
theorem aCI (c:Cfg)(m:List Int): ∀(l1 l2:List Nat)(s:NS×eN),lZ c m (l1++l2) s=lZ c m l2 (lZ c m l1 s)
 |[],_,_=>rfl
 |i::l1,l2,s=>by rw[List.cons_append,lZ,lZ,aCI c m l1 l2]
def eD (c:Cfg)(m:List Int)(s:NS)(i:Nat):NS×eN:=lZ c m (List.range i) (s,[])
theorem Q4 (c:Cfg)(m:List Int)(s:NS)(i:Nat):eD c m s (i+1)=if 0<=m.getD i 0 then((iL c (eD c m s i).1 i (m.getD i 0).toNat).1,(eD c m s i).2++(iL c (eD c m s i).1 i (m.getD i 0).toNat).2) else eD c m s i:=by
 unfold eD;rw[aTv,aCI];rfl
theorem aQl (c:Cfg)(s:NS)(i o:Nat):(iL c s i o).2.length<=1:=by
 unfold iL;split
 ·simp
 ·simp only
  split<;>simp
theorem aQm (c:Cfg)(s:NS)(i o:Nat):(iL c s i o).1.ticks=s.ticks:=by
 unfold iL;split
 ·rfl
 ·simp only
  split<;>rfl
theorem Q3 (c:Cfg)(m:List Int)(s:NS): ∀i,(eD c m s i).2.length<=i
 |0=>by simp[eD,lZ]
 |i+1=>by
  have:=Q3 c m s i;have:=aQl c (eD c m s i).1 i (m.getD i 0).toNat;rw[Q4];split
  ·simp only[aS8]
   omega
  ·omega
theorem Q5 (c:Cfg)(m:List Int)(s:NS): ∀i,(eD c m s i).1.ticks=s.ticks
 |0=>rfl
 |i+1=>by
  rw[Q4];split
  ·simp only
   rw[aQm,Q5 c m s i]
  ·exact Q5 c m s i
theorem aQj (c:Cfg)(s:NS)(k:Nat):(gS c s k).ticks=s.ticks:=by
 unfold gS;split
 ·rfl
 ·split<;>rfl
theorem aQk (c:Cfg)(s:NS):(eX c s).ticks=s.ticks:=by
 unfold eX;have: ∀(l:List Nat)(s:NS),(l.foldl (gS c) s).ticks=s.ticks:=by
  intro l;induction l with
  |nil=>intro s;rfl
  |cons k l ih=>intro s;rw[List.foldl_cons,ih,aQj]
 exact this _ _
theorem aQi (i:Nat)(hi:i<1000000000):IntKind.i64.wrap ((i:Int)+1)=((i+1:Nat):Int):=by rw[bJ U U];omega
section
variable {H0 Hs H : aG} {Fs F : Part → Nat → Prop} {y : Lay} {p : PlanD} {ev wv nv : Value} {c : Cfg} {t : Nat} {s : NS} {m : Nat} {vb cb : Nat} {outs : eN}
def Q2 (H0 Hs:aG)(Fs:Part->Nat->Prop)(y:Lay)(p:PlanD)(ev wv nv:Value)(c:Cfg)(t:Nat)(s':NS)(vb cb:Nat)(outs:eN)(H':aG)(v:Value):Prop:=
 ∃F' us,TickS H0 Hs H' Fs F' y p ev wv nv c t s' vb cb outs/\OutR H' (λb=>Hs.length<=b/\ ¬Un F' b) v us outs
theorem NodeAt.aQh (h:NodeAt H0 H F y p ev wv nv c t s)(hi:NInv c t {s with ticks:=s.ticks+1}):
  NodeAt H0 (H.set y.nb (vG p.bag ev wv nv y c (s.ticks+1))) F y p ev wv nv c t {s with ticks:=s.ticks+1}/\Mv (Un F) (Un F) H (H.set y.nb (vG p.bag ev wv nv y c (s.ticks+1))):=by
 have hB:=h.sep.see .node rfl xG;refine h.Ce .node (l:=jE p.bag ev wv nv y c s.ticks) (l':=jE p.bag ev wv nv y c (s.ticks+1)) rfl xG ?_ ?_ ?_ hi rfl ?_
 ·intro q hq
  simp only[jE,aTf,aTz] at hq;rcases hq with rfl|rfl|⟨j,hj,rfl⟩
  ·exact⟨_,aS5 ..,rfl⟩
  ·exact⟨_,aTd _ (aS5 ..),rfl⟩
  ·exact⟨(y.lb (j+1),mD y c (j+1)),by simp only[jE,aTf,aTz];exact .inr (.inr ⟨j,hj,rfl⟩),rfl⟩
 ·exact⟨by simp,λb hb hn=>aSX λhh=>hn ⟨_,aS5 ..,hh⟩⟩
 ·intro q hq
  have hnb:=h.nbB;simp only[jE,aTf,aTz] at hq;rcases hq with rfl|rfl|⟨j,hj,rfl⟩
  ·exact dN hnb
  ·have h2:H[y.pb]? =some (xH y c):=hB (y.pb,xH y c) (by simp[jE])
   simp only;rw[aSX (λhh=> ?_),h2]
   rw[<-hh,hnb] at h2;injection h2 with h2;injection h2 with _ h2 _
   revert h2
   decide
  ·have h2:H[y.lb (j+1)]? =some (mD y c (j+1)):=hB (y.lb (j+1),mD y c (j+1)) (by simp only[jE,aTf,aTz];exact .inr (.inr ⟨j,hj,rfl⟩))
   simp only;rw[aSX (λhh=> ?_),h2]
   rw[<-hh,hnb] at h2;injection h2 with h2;injection h2 with _ h2 _
   revert h2
   decide
 ·intro j hj
  cases j with
  |node=>exact absurd rfl hj
  |_=>rfl
theorem aQn (h:TickS H0 Hs H Fs F y p ev wv nv c t s vb cb outs)(ht:t<10000000)(hol:outs.length<700)(hm:500<m)(htk:s.ticks+1<=t+1):
  ∀(x2 gX gL sR:Value),∃H2 r,Gc (lvl prog pkN m) (aL m) (pt cb) x2 (pt vb) (qU vb cb) gX gL sR H=some (r,H2)/\
   Q2 H0 Hs Fs y p ev wv nv c (t+1) {s with ticks:=s.ticks+1} vb cb (if(s.ticks+1)%c.every=0 then outs++j7 c s else outs) H2 r:=by
 intros;have lc:ld1 (pt cb) H=some (pt y.nb,H):=bA h.cell rfl;have l16:=h.node.ld 16 (.I s.ticks) rfl;have e1:=aQi s.ticks U
 have hi:NInv c (t+1) {s with ticks:=s.ticks+1}:={h.node.inv.pU (Nat.le_succ t) with ticks:=htk};have hn:NodeAt H0 H F y p ev wv nv c (t+1) s:={h.node with inv:=h.node.inv.pU (Nat.le_succ t)};obtain⟨H1,hH1⟩:=aD (H.set y.nb (vG p.bag ev wv nv y c (s.ticks+1)));have st:stN 1 (.Q y.nb 16) (.I ((s.ticks+1:Nat):Int)) H=some (undef,H1):=by rw[hH1];exact iD h.node.nbB aC (by simp[Qs])
 obtain⟨g1,mv1⟩:=hn.aQh hi;rw[<-hH1] at g1 mv1;have h1:=h.tN g1 mv1;have lc1:ld1 (pt cb) H1=some (pt y.nb,H1):=bA h1.cell rfl;have l16':=h1.node.ld 16 (.I (s.ticks+1:Nat)) rfl;have l7:=h1.node.ld 7 (.I c.every) rfl;have hev:=h.node.ok.every;have r1:bin prog .rem 3 (.I ((s.ticks+1:Nat):Int)) (.I c.every)=some (.I (((s.ticks+1)%c.every:Nat):Int)):=wK (s.ticks+1) c.every _ rfl U
 unfold Gc;by_cases hz:(s.ticks+1)%c.every=0
 ·have c1:((((s.ticks+1)%c.every:Nat):Int)==0)=true:=by rw[hz];rfl
  obtain⟨H2,x1,h2⟩:=aQf h1 (m:=m) U U U
  obtain⟨v,us,r,hr⟩:=h2.rows;have lv:ld1 (pt vb) H2=some (v,H2):=bA r rfl;simp only[gsR,lc,l16,aT,e1,st,lc1,l16',l7,r1,c1,x1,lv];refine⟨_,_,rfl,F,us,?_,?_⟩
  ·rw[if_pos hz]
   exact h2
  ·rw[if_pos hz]
   exact hr
 ·have c1:((((s.ticks+1)%c.every:Nat):Int)==0)=false:=by rw[beq_eq_false_iff_ne];omega
  obtain⟨v,us,r,hr⟩:=h1.rows;have lv:ld1 (pt vb) H1=some (v,H1):=bA r rfl;simp only[gsR,lc,l16,aT,e1,st,lc1,l16',l7,r1,c1,lv];refine⟨_,_,rfl,F,us,?_,?_⟩
  ·rw[if_neg hz]
   exact h1
  ·rw[if_neg hz]
   exact hr
theorem aQo {mt:List Int}{mb:Nat}{Q:aG->Value->Prop}(hml:mt.length=c.aJ)(hmr: ∀z∈mt,z= -1∨0<=z/\z<(c.aJ:Int))(ht:t<9000000)(h6:c.aJ<=6)(hmv:mb≠vb)(hm:500<m)
  (hK: ∀(H':aG)(F':Part->Nat->Prop),TickS H0 Hs H' Fs F' y p ev wv nv c (t+c.aJ) (eD c mt s c.aJ).1 vb cb (eD c mt s c.aJ).2-> ∀(x2 gX gL sR:Value),∃H2 r,Gc (lvl prog pkN m) (aL m) (pt cb) x2 (pt vb) (qU vb cb) gX gL sR H'=some (r,H2)/\Q H2 r):
  ∀(q i l:Nat)(H:aG)(F:Part->Nat->Prop),c.aJ-i=q->i<=c.aJ->q<l->TickS H0 Hs H Fs F y p ev wv nv c (t+i) (eD c mt s i).1 vb cb (eD c mt s i).2->H[mb]? =some (dF mt [])-> ¬Un F mb-> ∀(x2:Value),
  ∃H2 r,aL l (aO prog (lvl prog pkN m) (aL m) Oa) (Of (lvl prog pkN m) (aL m)) (aF 1 (some (pt cb)::x2::some (pt vb)::some (qU vb cb)::aF 16 (some (cN mb c.aJ)::some (.I c.aJ)::some (.I (i:Nat))::aF 34 []))) H=some (r,H2)/\Q H2 r:=by
 intro q;induction q with
 |zero=>
  intro i l H F hq hi hl h hmb hmF;intros;obtain⟨l,rfl⟩: ∃l',l=l'+1:=⟨l-1,by omega⟩
  have hie:i=c.aJ:=U
  subst hie;have c1:decide ((c.aJ:Int)<(c.aJ:Int))=false:=by simp
  rw[aL,aAt];simp only[gsR,c1];rw[aMj];exact hK H F h ..
 |succ q ih=>
  intro i l H F hq hi hl h hmb hmF;intros;obtain⟨l,rfl⟩: ∃l',l=l'+1:=⟨l-1,by omega⟩
  have hil:i<c.aJ:=U
  have c1:decide ((i:Int)<(c.aJ:Int))=true:=by rw[decide_eq_true_eq];omega
  obtain⟨a1,a2⟩:=zM (c:=c.aJ) hmb hml hil;have a1:cQ 1 (cN mb c.aJ) (.I (i:Int))=some (.Q mb i):=a1;have lc:ld1 (pt cb) H=some (pt y.nb,H):=bA h.cell rfl;have e9:=mB i U
  have hup:=Q4 c mt s i;have hul:=Q3 c mt s i;have hz:mt.getD i 0= -1∨0<=mt.getD i 0/\mt.getD i 0<(c.aJ:Int):=by
   rw[aS0,aSY U,aTp]
   exact hmr _ (List.getElem_mem _)
  rw[aL,aAt];by_cases hneg:0<=mt.getD i 0
  ·obtain⟨o,ho⟩: ∃o:Nat,mt.getD i 0=o:=⟨(mt.getD i 0).toNat,by omega⟩
   have c2:decide ((0:Int)<=(o:Int))=true:=by rw[decide_eq_true_eq];omega
   rw[if_pos hneg,ho,aTo] at hup;rw[ho] at a2 hz;obtain⟨H1,v,g1,rfl,g2,F1,g3,g4⟩:=aQa h (m:=m) (i:=i) (o:=o) U U hil U U hmb hmF hmv
   simp only[gsR,c1,a1,a2,c2,lc,g1,aT,e9];refine ih (i+1) l H1 F1 U U U ?_ g2 g4 ..
   rw[hup];exact g3
  ·have c2:decide ((0:Int)<=mt.getD i 0)=false:=aTH hneg
   rw[if_neg hneg] at hup;simp only[gsR,c1,a1,a2,c2,aT,e9];refine ih (i+1) l H F U U U ?_ hmb hmF ..
   rw[hup];exact {h with node:={h.node with inv:=h.node.inv.pU U}}
end
section
variable {H0 Hs H : aG} {Fs F : Part → Nat → Prop} {y : Lay} {p : PlanD} {ev wv nv : Value} {c : Cfg} {t : Nat} {s : NS} {m : Nat}
theorem NodeAt.aQp {H':aG}{g' a':List Nat}(h:NodeAt H0 H F y p ev wv nv c t s)(hg:g'.length=s.g.length)(hf:Fr (λb=>b=y.ga∨b=y.aa) H H')(hB:Blks (fB y.ab y.ga y.aa g' a') H')(hi:NInv c t {s with g:=g',a:=a'}):
  NodeAt H0 H' F y p ev wv nv c t {s with g:=g',a:=a'}/\Mv (Un F) (Un F) H H':=by
 refine h.Ce .arb (l:=fB y.ab y.ga y.aa s.g s.a) (l':=fB y.ab y.ga y.aa g' a') rfl aCi ?_ ?_ hB hi rfl ?_
 ·intro q hq
  simp only[fB,aTf,aTm,or_false] at hq;rcases hq with rfl|rfl|rfl
  ·exact⟨_,aS5 ..,rfl⟩
  ·exact⟨_,aTd _ (aS5 ..),rfl⟩
  ·exact⟨_,aTd _ (aTd _ (aS5 ..)),rfl⟩
 ·refine hf.Av λb hb=> ?_
  rcases hb with rfl|rfl
  ·exact⟨_,aTd _ (aS5 ..),rfl⟩
  ·exact⟨_,aTd _ (aTd _ (aS5 ..)),rfl⟩
 ·intro j hj
  cases j with
  |arb=>exact absurd rfl hj
  |_=>rfl
theorem aQq (h:NodeAt H0 H F y p ev wv nv c t s)(ht:t<8000000)(hm:600<m):
  ∃H' F' v us,lvl prog pkN m (.func 51) [pt y.nb] H=some (v,H')/\NodeAt H0 H' F' y p ev wv nv c (t+7) (fI c s).1/\Mv (Un F) (Un F') H H'/\OutR H' (λb=>H.length<=b/\ ¬Un F' b) v us (fI c s).2:=by
 have h6:c.aJ<=6:=by have:=h.ok.by';unfold Cfg.aJ;omega
 have hp1:1<=c.aJ:=by unfold Cfg.aJ;omega
 obtain⟨H1,hH1⟩:=aD (H++[pnB y.nb]);obtain⟨H2,hH2⟩:=aD (H1++[vK (.slice none 0 0)]);have e1:H++[Blk.cells (Value.cells (pt y.nb)).toList 72 .fix]=H1:=by rw[hH1];rfl
 have e2:H1++[Blk.cells [Value.slice none 0 0] 102 .fix]=H2:=by rw[hH2];rfl
 have x1:Ext H H1:=by rw[hH1];exact Fr.app _ _ _
 have x2:Ext H1 H2:=by rw[hH2];exact Fr.app _ _ _
 have h1l:H1.length=H.length+1:=by rw[hH1];simp
 have bc:H2[H.length]? =some (pnB y.nb):=by
  have:H1[H.length]? =some (pnB y.nb):=by rw[hH1];exact cD _ _
  rw[x2.2 _ (b9 this) id,this]
 have bv:H2[H1.length]? =some (vK (.N)):=by rw[hH2];exact cD _ _
 have hnew: ∀b,H.length<=b-> ¬Un F b:=λb hb hu=>by have:=h.sep.nU b hu;omega
 have g2:=(h.fW x1).fW x2;have T2:TickS H0 H H2 F F y p ev wv nv c t s H1.length H.length []:=
  ⟨g2,Mv.nS (x1.tr x2) _,h.ext.1,bc,hnew _ (aS1 _),hnew _ U,by omega,.N,[],bv,⟨Rw.fE,λb ⟨_,_,_,hh⟩=>(by cases hh),rfl,λi u o hu _=>(by cases hu)⟩⟩
 have lc2:ld1 (pt H.length) H2=some (pt y.nb,H2):=bA T2.cell rfl;obtain⟨H3,F3,f1,f2,f3⟩:=aPR g2 (m:=m-1) U
 have T3:=T2.tN f2 f3;obtain⟨s1,hs1⟩:=aD (eX c s);rw[<-hs1] at T3;have lc3:ld1 (pt H.length) H3=some (pt y.nb,H3):=bA T3.cell rfl;have n0:=T3.node.ld 0 (pt y.ab) rfl;obtain⟨H4,k1,k2,x4⟩:=aPM T3.node (m:=m-1) U U
 have T4:=T3.ext x4;have lc4:ld1 (pt H.length) H4=some (pt y.nb,H4):=bA T4.cell rfl;have n0':=T4.node.ld 0 (pt y.ab) rfl;have n6:=T4.node.ld 6 (.I c.rounds) rfl;have n6':=T3.node.ld 6 (.I c.rounds) rfl;have hI:=T4.node.inv;have hr:=T4.node.ok.rounds;obtain⟨H5,mb,r1,r2,r3,r4,r5⟩:=aPc (m:=m-1) (H:=H4) (ab:=y.ab) (ga:=y.ga) (aa:=y.aa) (g:=s1.g) (a:=s1.a) (n:=c.aJ) (rows:=gW c s1 c.aJ 0) (qb:=H3.length) (rounds:=c.rounds)
  (T4.node.sep.see .arb rfl aCi) h.lay.ga hI.gl hI.al hI.g hI.a hp1 U k2 (tL _ _ _ _) (aPJ U) hr.1 U U
 rw[aPK] at r2 r5;obtain⟨mt,hmt⟩:=aD (jV (gF c s1) c.aJ c.rounds s1.g s1.a);rw[<-hmt] at r2 r5;have hM:MatI c.aJ mt:=by rw[hmt];exact MatI.aBb U hI.gl hI.al hI.g hI.a
 have hi5:NInv c t {s1 with g:=mt.g,a:=mt.a}:={hI with gl:=hM.gl,al:=hM.al,g:=hM.g,a:=hM.a};obtain⟨g5,mv5⟩:=T4.node.aQp (hM.gl.trans hI.gl.symm) r4 r5 hi5;have T5:=T4.tN g5 mv5;obtain⟨s2,hs2⟩: ∃s2:NS,s2={s1 with g:=mt.g,a:=mt.a}:=⟨_,rfl⟩;rw[<-hs2] at T5;have hmbF: ¬Un F3 mb:=λhu=>by have:=T4.node.sep.nU mb hu;omega
 have hmbv:mb≠H1.length:=λhh=>by
  obtain⟨v,us,r,_⟩:=T4.rows;have:=b9 r;omega
 have e5:cY (cN mb c.aJ)=some (.I c.aJ):=rfl;have hut:=Q5 c mt.m s2 c.aJ;have hst:s2.ticks=s.ticks:=by rw[hs2];show s1.ticks=_;rw[hs1,aQk]
 have hres:fI c s=({(eD c mt.m s2 c.aJ).1 with ticks:=(eD c mt.m s2 c.aJ).1.ticks+1},if((eD c mt.m s2 c.aJ).1.ticks+1)%c.every=0 then(eD c mt.m s2 c.aJ).2++j7 c (eD c mt.m s2 c.aJ).1 else(eD c mt.m s2 c.aJ).2):=by
  rw[hut,hst];unfold fI eD;simp only;rw[hs2,hmt,hs1]
 have main: ∃H' v,lvl prog pkN m (.func 51) [pt y.nb] H=some (v,H')/\
   Q2 H0 H F y p ev wv nv c (t+c.aJ+1) {(eD c mt.m s2 c.aJ).1 with ticks:=(eD c mt.m s2 c.aJ).1.ticks+1} H1.length H.length (if((eD c mt.m s2 c.aJ).1.ticks+1)%c.every=0 then(eD c mt.m s2 c.aJ).2++j7 c (eD c mt.m s2 c.aJ).1 else(eD c mt.m s2 c.aJ).2) H' v:=by
  refine dP (aQ rfl) U ?_
  rw[aMk];have e4:(Value.func (.func _) #[] #[pt H1.length,pt H.length])=qU H1.length H.length:=rfl;simp only[gsR,e1,e2,lc2,f1,lc3,n0,k1,n0',vJ,lc4,n6,n6',Cd,r1,e5];have T5':TickS H0 H H5 F F3 y p ev wv nv c (t+0) (eD c mt.m s2 0).1 H1.length H.length (eD c mt.m s2 0).2:=T5;refine aQo (Q:=λH' v=>Q2 H0 H F y p ev wv nv c (t+c.aJ+1) {(eD c mt.m s2 c.aJ).1 with ticks:=(eD c mt.m s2 c.aJ).1.ticks+1} H1.length H.length (if((eD c mt.m s2 c.aJ).1.ticks+1)%c.every=0 then(eD c mt.m s2 c.aJ).2++j7 c (eD c mt.m s2 c.aJ).1 else(eD c mt.m s2 c.aJ).2) H' v)
   hM.ml hM.m U h6 hmbv U ?_ c.aJ 0 (m-1) H5 F3 U U U T5' r2 hmbF ..
  intro H' F' h';intros;have hul:=Q3 c mt.m s2 c.aJ;refine aQn h' U U U ?_ ..
  rw[hut,hst];have:=h.inv.ticks;omega
 obtain⟨H',v,q1,F',us,q2,q3⟩:=main;rw[hres];refine⟨H',F',v,us,q1,{q2.node with inv:=q2.node.inv.pU U},q2.mv,q3⟩
end
theorem aCJ: ∀zs:List Int,(zs.map inC).flatten=zs.map λz:Int=>Value.I z
 |[]=>rfl
 |z::zs=>by
  rw[aTr,aTw,aCJ zs];rfl
theorem aCK {H:aG}{u:Value}{zs:List Int}(h:Iw H u zs)(hne:zs≠[]): ∃b cap rest,u=fV b zs.length cap/\H[b]? =some (dF zs rest):=by
 obtain⟨_,⟨rfl,h0⟩|⟨c,cap,rest,rfl,h1,h2,h3⟩⟩:=h
 ·exact absurd (aTe.mp h0) hne
 ·refine⟨c,cap,rest,rfl,?_⟩
  rw[h3,aCJ];rfl
section
variable {H : aG} {m : Nat}
theorem aCL {v:Value}{ws:List Int}(hw:Is H v ws)(hok:wOk ws=true)(hm:ws.length+100<m)(hm2:m<=72057594037927936):
  ∃H' wh ww wl wc lc wr lr,lvl prog pkN m (.func 82) [v] H=some (pt wh,H')/\Ext H H'/\Blks (iP wh ww wl wc lc wr lr ws ⟨ws,0⟩) H'/\ww≠wl/\H.length<=wh/\H.length<=ww/\H.length<=wl:=by
 have hlen:=hw.fR;have hcf:lvl prog pkN (m-1) (.func 117) [v,.func (.func 116) #[] #[]] H=some (.bool (ws.any pO),H):=by
  have:=Yf (H:=H) (m:=m-1) (v:=v) (fv:= .func (.func 116) #[] #[]) (n:=ws.length) (λi=>(ws[i]?.map pO).getD false) hlen U U (λi hi=>by
   have hx:ws[i]? =some ws[i]:=aSY hi;obtain⟨b,o,g1,g2,g3⟩:=hw.dS eM hx .i64;have l1:=(g3 H rfl).2.1 0 _ rfl;refine⟨_,_,g1,l1,?_⟩;have:=Yj (m:=m-1-1-1) U ws[i] H
   rw[hx];exact this)
  rw[this,Bc ws pO _ λi x h=>by rw[h];rfl]
 unfold wOk at hok;simp only[Bool.not_eq_true',Bool.or_eq_false_iff,decide_eq_false_iff_not] at hok;obtain⟨c1,c2,c3⟩:=hok;have e1:((ws.length:Int)==0)=false:=by simpa using c1
 rw[c3] at hcf;have hne:ws≠[]:=λh=>c1 (by rw[h];rfl)
 obtain⟨H1,u1,g1,g2,g3,g4⟩:=E3 (m:=m-1) hw hne U U
 obtain⟨H2,u2,q1,q2,q3,q4⟩:=E3 (m:=m-1) (hw.ext g2) hne U U
 obtain⟨ww,wc,wr,rfl,b1⟩:=aCK g3 hne;obtain⟨wl,lc,lr,rfl,b2⟩:=aCK q3 hne;have n1:=g4 ww ⟨_,_,_,rfl⟩;have n2:=q4 wl ⟨_,_,_,rfl⟩;have hb:bld prog 197 [(0,fV ww ws.length wc),(1,fV wl ws.length lc)]=some (.agg #[fV ww ws.length wc,fV wl ws.length lc,.int .i64 0]):=rfl;have e6:H2++[Blk.cells (Value.cells (.agg #[fV ww ws.length wc,fV wl ws.length lc,.int .i64 0])).toList 197 .fix]=H2++[pX ww wl wc lc ws.length 0]:=rfl;have x3:Ext H2 (H2++[pX ww wl wc lc ws.length 0]):=Fr.app _ _ _;have l1:=b9 b1;have l2:=g2.1;have l3:=q2.1;refine⟨H2++[pX ww wl wc lc ws.length 0],H2.length,ww,wl,wc,lc,wr,lr,aV (aQ rfl) U ?_,(g2.tr q2).tr x3,λq hq=> ?_,by omega,by omega,n1,by omega⟩
 ·rw[Bb]
  simp only[gsR,hlen,e1,c2,decide_false,hcf,g1,q1,hb,e6]
 ·simp only[iP,aTf,aTm,or_false] at hq
  rcases hq with rfl|rfl|rfl
  ·exact cD _ _
  ·simp only
   rw[x3.2 _ U id,q2.2 _ l1 id,b1]
  ·simp only
   rw[x3.2 _ (b9 b2) id,b2]
end
theorem aCN (y:Lay)(c:Cfg)(i:Nat):cA (dK y c i)=true:=by unfold dK j9;split<;>rfl
theorem aQr (y:Lay)(i k:Nat):cA (jD y i k)=true:=rfl
def DnB (c:Cfg)(n x i k:Nat):Prop:=(1<=i/\i<n/\k<c.lanes)∨(i=n/\k<x)
def jH (y:Lay)(c:Cfg)(n nw cs cr:Nat):Part->aG->Prop
 | .host=>λD=>HostAt D y.hb [] [] c.lanes c.queue
 | .whl i=>Blks (if i<nw then iP (y.wh i) (y.ww i) (y.wl i) (y.wc i) (y.lc i) (y.wr i) (y.lr i) c.weights ⟨c.weights,0⟩ else [])
 | .snd i k=>Blks (if DnB c n cs i k then [(y.sb i k,iM ⟨c.start,c.start+c.room⟩)] else [])
 | .rcv i k=>Blks (if DnB c n cr i k then [(y.rb i k,eO ⟨c.start,0⟩ c.room)] else [])
 |_=>Blks []
def pY (bag:Int)(ev wv nv:Value)(y:Lay)(c:Cfg)(pv:Value):Blk:=
 .cells [.pointer none,.I c.nodes,ev,.I c.lanes,.I c.room,.I c.queue,.I c.rounds,.I c.every,.I bag,wv,.int .u16 c.start,nv,.I c.me,pv,pt y.hb,.pointer none,.I 0] 120 .fix
structure BN (Hs H:aG)(F:Part->Nat->Prop)(bag:Int)(ev wv nv:Value)(y:Lay)(c:Cfg)(n nw cs cr:Nat)(pv:Value):Prop where
 ext:Ext Hs H
 sep:Sep (jH y c n nw cs cr) F H
 new: ∀b,Un F b->Hs.length<=b
 nb:H[y.nb]? =some (pY bag ev wv nv y c pv)
 nbF: ¬Un F y.nb
 nb0:Hs.length<=y.nb
 ports:Rw (dK y c) 145 3 H pv (List.range n)
 pvF: ∀b,aS pv b->Hs.length<=b/\ ¬Un F b
 lanes: ∀i,1<=i->i<n->H[y.lb i]? =some (mD y c i)/\Hs.length<=y.lb i/\ ¬Un F (y.lb i)/\c.lanes<=y.lcap i
 lne: ∀i j,1<=i->i<n->1<=j->j<n->y.lb i=y.lb j->i=j
 ww: ∀i,i<nw->y.ww i≠y.wl i
theorem Co (y:Lay)(c:Cfg)(n nw cs cr:Nat)(i:Part):DX (jH y c n nw cs cr i):=by
 cases i with
 |host=>exact λD D' h he=>h.ext he
 |_=>exact Blks.dx _
theorem sK {F:Part->Nat->Prop}{i:Part}{G:Nat->Prop}{b:Nat}(h:Un (updI F i G) b):Un F b∨G b:=by
 obtain⟨j,hj⟩:=h;by_cases hji:j=i
 ·rw[hji,eV] at hj
  exact .inr hj
 ·rw[cL _ _ hji] at hj
  exact .inl ⟨j,hj⟩
section
variable {Hs H : aG} {F : Part → Nat → Prop} {bag : Int} {ev wv nv : Value} {y : Lay} {c : Cfg} {n nw cs cr : Nat} {pv : Value}
theorem BN.aCM {H':aG}(h:BN Hs H F bag ev wv nv y c n nw cs cr pv)(he:Ext H H'):BN Hs H' F bag ev wv nv y c n nw cs cr pv:=by
 refine {h with ext:=h.ext.tr he,sep:=h.sep.ext (Co _ _ _ _ _ _) he,nb:=by rw[he.2 _ (b9 h.nb) id,h.nb],ports:=h.ports.cZ λb hb=>he.2 b (h.ports.dZ hb) id,lanes:=λi h1 h2=> ?_}
 obtain⟨q1,q2⟩:=h.lanes i h1 h2
 exact⟨by rw[he.2 _ (b9 q1) id,q1],q2⟩
theorem BN.Q7 {H':aG}{y':Lay}{nw' cs' cr':Nat}(h:BN Hs H F bag ev wv nv y c n nw cs cr pv)(i:Part){l:List (Nat×Blk)}(hB:Blks l H')(he:Ext H H')(hn: ∀q∈l,H.length<=q.1)(hi: ∀b,¬F i b)
  (hcon: ∀j D,updI (jH y c n nw cs cr) i (Blks l) j D->jH y' c n nw' cs' cr' j D)(e1:y'.nb=y.nb)(e2:y'.hb=y.hb)(e3: ∀i,i<n->dK y' c i=dK y c i)(e4:y'.lb=y.lb)(e5:y'.lcap=y.lcap)(e6: ∀i,1<=i->i<n->mD y' c i=mD y c i)(e7: ∀i,i<nw'->y'.ww i≠y'.wl i):
  BN Hs H' (updI F i (InB l)) bag ev wv nv y' c n nw' cs' cr' pv:=by
 have hlt: ∀b,InB l b->b<H'.length:=λb hb=>by
  obtain⟨q,hq,rfl⟩:=hb;exact b9 (hB q hq)
 have hge: ∀b,InB l b->H.length<=b:=λb hb=>by
  obtain⟨q,hq,rfl⟩:=hb;exact hn q hq
 have hhas:Has (Blks l) (InB l) H':=Has.Gy hB (λq hq=>⟨q,hq,rfl⟩) hlt
 have hs:=h.sep.Gz i (Co _ _ _ _ _ _) hi hhas he hge;have hun: ∀b,b<H.length-> ¬Un F b-> ¬Un (updI F i (InB l)) b:=λb hb hF hu=>(sK hu).elim hF λhg=>by have:=hge b hg;omega
 refine⟨h.ext.tr he,hs.wE hcon,λb hb=> ?_,?_,?_,by rw[e1];exact h.nb0,?_,λb hb=>⟨(h.pvF b hb).1,hun b (h.ports.dZ hb) (h.pvF b hb).2⟩,λj h1 h2=> ?_,λi j=>by rw[e4];exact h.lne i j,e7⟩
 ·rcases sK hb with hb|hb
  ·exact h.new b hb
  ·exact aTc h.ext.1 (hge b hb)
 ·rw[e1,he.2 _ (b9 h.nb) id,h.nb]
  unfold pY;rw[e2]
 ·rw[e1]
  exact hun _ (b9 h.nb) h.nbF
 ·have hk:=h.ports.cZ (H':=H') λb hb=>he.2 b (h.ports.dZ hb) id
  have em:(List.range n).map (dK y' c)=(List.range n).map (dK y c):=List.map_congr_left λi hi=>e3 i (aTA.mp hi)
  unfold Rw at hk⊢;rw[em];exact hk
 ·obtain⟨q1,q2,q3,q4⟩:=h.lanes j h1 h2
  rw[e4,e5,e6 j h1 h2]
  exact⟨by rw[he.2 _ (b9 q1) id,q1],q2,hun _ (b9 q1) q3,q4⟩
theorem lS {α:Type}(f:Nat->α)(i:Nat)(x:α):up1 f i x i=x:=if_pos rfl
theorem lD {α:Type}(f:Nat->α){i j:Nat}(x:α)(h:j≠i):up1 f i x j=f j:=if_neg h
theorem Hr {α:Type}(f:Nat->Nat->α)(i k:Nat)(x:α):up2 f i k x i k=x:=if_pos ⟨rfl,rfl⟩
theorem zR {α:Type}(f:Nat->Nat->α){i k j l:Nat}(x:α)(h: ¬(j=i/\l=k)):up2 f i k x j l=f j l:=if_neg h
theorem BN.whl {H':aG}(h:BN Hs H F bag ev wv nv y c n n 0 0 pv)(hF: ∀i,n<=i-> ∀b,¬F (.whl i) b){wh ww wl wc lc:Nat}{wr lr:List Value}(hB:Blks (iP wh ww wl wc lc wr lr c.weights ⟨c.weights,0⟩) H')(he:Ext H H')(hne:ww≠wl)(h1:H.length<=wh)(h2:H.length<=ww)(h3:H.length<=wl):
  BN Hs H' (updI F (.whl n) (InB (iP wh ww wl wc lc wr lr c.weights ⟨c.weights,0⟩))) bag ev wv nv {y with wh:=up1 y.wh n wh,ww:=up1 y.ww n ww,wl:=up1 y.wl n wl,wc:=up1 y.wc n wc,lc:=up1 y.lc n lc,wr:=up1 y.wr n wr,lr:=up1 y.lr n lr} c n (n+1) 0 0 pv:=by
 refine h.Q7 (.whl n) hB he (λq hq=> ?_) (hF n (aS1 _)) (λj D hD=> ?_) rfl rfl (λi hi=> ?_) rfl rfl (λ_ _ _=>rfl) λi hi=> ?_
 ·simp only[iP,aTf,aTm,or_false] at hq
  rcases hq with rfl|rfl|rfl
  ·exact h1
  ·exact h2
  ·exact h3
 ·cases j with
  |whl i=>
   by_cases hi:i=n
   ·subst hi
    rw[eV] at hD;simp only[jH];rw[if_pos (Nat.lt_succ_self _),lS,lS,lS,lS,lS,lS,lS];exact hD
   ·rw[cL _ _ (λhh=>hi (by injection hh))] at hD
    simp only[jH] at hD⊢;rw[lD _ _ hi,lD _ _ hi,lD _ _ hi,lD _ _ hi,lD _ _ hi,lD _ _ hi,lD _ _ hi];by_cases hin:i<n
    ·rw[if_pos hin] at hD
     rw[if_pos U]
     exact hD
    ·rw[if_neg hin] at hD
     rw[if_neg U]
     exact hD
  |_=>
   rw[cL _ _ (λhh=>by cases hh)] at hD
   exact hD
 ·unfold dK j9
  simp only;rw[lD _ _ U]
 ·simp only
  by_cases hin:i=n
  ·subst hin
   rw[lS,lS];exact hne
  ·rw[lD _ _ hin,lD _ _ hin]
   exact h.ww i U
theorem BN.snd {k b:Nat}(h:BN Hs H F bag ev wv nv y c n (n+1) k k pv)(hF: ∀b,¬F (.snd n k) b)(hb:b=H.length):
  BN Hs (H++[iM ⟨c.start,c.start+c.room⟩]) (updI F (.snd n k) (InB [(b,iM ⟨c.start,c.start+c.room⟩)])) bag ev wv nv {y with sb:=up2 y.sb n k b} c n (n+1) (k+1) k pv:=by
 subst hb;refine h.Q7 (.snd n k) (λq hq=> ?_) (Fr.app _ _ _) (λq hq=> ?_) hF (λj D hD=> ?_) rfl rfl (λi hi=>rfl) rfl rfl (λi h1 h2=> ?_) h.ww
 ·simp only[aTf,aTm,or_false] at hq
  subst hq;exact cD _ _
 ·simp only[aTf,aTm,or_false] at hq
  subst hq;exact aS1 _
 ·cases j with
  |snd i k'=>
   by_cases hi:i=n/\k'=k
   ·obtain⟨rfl,rfl⟩:=hi
    rw[eV] at hD;simp only[jH];rw[if_pos (.inr ⟨rfl,Nat.lt_succ_self _⟩),Hr];exact hD
   ·rw[cL _ _ (λhh=>hi (by injection hh with h1 h2;exact⟨h1,h2⟩))] at hD
    simp only[jH] at hD⊢;rw[zR _ _ hi];by_cases hd:DnB c n k i k'
    ·rw[if_pos hd] at hD
     rw[if_pos (by unfold DnB at hd ⊢; omega)]
     exact hD
    ·rw[if_neg hd] at hD
     rw[if_neg (by unfold DnB at hd ⊢; omega)]
     exact hD
  |_=>
   rw[cL _ _ (λhh=>by cases hh)] at hD
   exact hD
 ·have: ∀k',jD {y with sb:=up2 y.sb n k H.length} i k'=jD y i k':=λk'=>by
   unfold jD;simp only;rw[zR _ _ U]
  unfold mD;rw[List.map_congr_left λk' _=>this k']
theorem BN.rcv {k b:Nat}(h:BN Hs H F bag ev wv nv y c n (n+1) (k+1) k pv)(hF: ∀b,¬F (.rcv n k) b)(hb:b=H.length):
  BN Hs (H++[eO ⟨c.start,0⟩ c.room]) (updI F (.rcv n k) (InB [(b,eO ⟨c.start,0⟩ c.room)])) bag ev wv nv {y with rb:=up2 y.rb n k b} c n (n+1) (k+1) (k+1) pv:=by
 subst hb;refine h.Q7 (.rcv n k) (λq hq=> ?_) (Fr.app _ _ _) (λq hq=> ?_) hF (λj D hD=> ?_) rfl rfl (λi hi=>rfl) rfl rfl (λi h1 h2=> ?_) h.ww
 ·simp only[aTf,aTm,or_false] at hq
  subst hq;exact cD _ _
 ·simp only[aTf,aTm,or_false] at hq
  subst hq;exact aS1 _
 ·cases j with
  |rcv i k'=>
   by_cases hi:i=n/\k'=k
   ·obtain⟨rfl,rfl⟩:=hi
    rw[eV] at hD;simp only[jH];rw[if_pos (.inr ⟨rfl,Nat.lt_succ_self _⟩),Hr];exact hD
   ·rw[cL _ _ (λhh=>hi (by injection hh with h1 h2;exact⟨h1,h2⟩))] at hD
    simp only[jH] at hD⊢;rw[zR _ _ hi];by_cases hd:DnB c n k i k'
    ·rw[if_pos hd] at hD
     rw[if_pos (by unfold DnB at hd ⊢; omega)]
     exact hD
    ·rw[if_neg hd] at hD
     rw[if_neg (by unfold DnB at hd ⊢; omega)]
     exact hD
  |_=>
   rw[cL _ _ (λhh=>by cases hh)] at hD
   exact hD
 ·have: ∀k',jD {y with rb:=up2 y.rb n k H.length} i k'=jD y i k':=λk'=>by
   unfold jD;simp only;rw[zR _ _ U]
  unfold mD;rw[List.map_congr_left λk' _=>this k']
theorem BN.Q6 {H':aG}{N:Nat->Prop}{pv':Value}{n':Nat}(h:BN Hs H F bag ev wv nv y c n nw cs cr pv)(hf:Fr N H H')(hN: ∀b,N b-> ¬Un F b/\Hs.length<=b):
  Ext Hs H'/\Sep (jH y c n nw cs cr) F H':=by
 have hm:Mv N N H H':=⟨hf.1,λ_ h=> .inl h,λb hb hn=>hf.2 b hb hn⟩
 refine⟨⟨aTc h.ext.1 hf.1,λa ha _=> ?_⟩,h.sep.wF (Co _ _ _ _ _ _) hm λa ha hh=>(hN a hh).1 ha⟩
 rw[hf.2 a (aTb ha h.ext.1) (λhh=>by have:=(hN a hh).2;omega),h.ext.2 a ha id]
end
theorem aCO {α:Type}(f:α->Bool): ∀l:List α,l.length=(l.filter f).length+(l.filter λx=> !f x).length
 |[]=>rfl
 |x::l=>by
  have:=aCO f l;rw[List.filter_cons,List.filter_cons];cases f x
  ·simp
   omega
  ·simp
   omega
theorem aQs {p:PlanD}{me:Nat}(h:eC p=true)(hm:(me:Int)<p.nodes)(hs:0<=p.start/\p.start<65536):(cP p me).ok/\p.nodes=((cP p me).nodes:Int)/\p.lanes=((cP p me).lanes:Int)/\p.room=((cP p me).room:Int)/\p.queue=((cP p me).queue:Int)/\p.rounds=((cP p me).rounds:Int)/\p.every=((cP p me).every:Int)/\p.start=((cP p me).start:Int)/\
  (∀i,i<(bes p.edges me).length->(bes p.edges me)[i]? =some (((cP p me).by'.getD i 0:Nat):Int))/\wOk p.weights=true:=by
 obtain⟨n,hok⟩:=qN h;have h':=h;unfold eC oP wJ uR wi at h;simp only[aS4,decide_eq_true_eq,Bool.not_eq_true'] at h;obtain⟨⟨⟨a1,a2⟩,⟨b1,b2⟩,⟨c1,c2⟩,⟨d1,d2⟩,⟨e1,e2⟩,⟨f1,f2⟩,g1,g2⟩,⟨h3,h4⟩,hwl,hwo,h5,h6⟩:=h;have hw:=hwo;unfold wOk at hwo;simp only[Bool.not_eq_true',Bool.or_eq_false_iff,decide_eq_false_iff_not] at hwo;obtain⟨w1,w2,w3⟩:=hwo;rw[List.any_eq_false] at w3;have hmem: ∀w∈bes p.edges me,0<=w/\w<(n:Int)/\w≠me:=λw hw=>by
  rw[Ma] at hw;obtain⟨q1,q2⟩:=hw;rcases q2 with q2|q2
  ·have:=hok.ve.ok _ q2
   unfold okE at this;simp only at this;omega
  ·have:=hok.ve.ok _ q2
   unfold okE at this;simp only at this;omega
 have hn:=hok.hn;have hpw:=Be p.edges me;have hlen:(bes p.edges me).length<=5:=by
  have k1:=E7 ((bes p.edges me).filter λw=>decide (w<me)) 0 ((me:Int)-1) (hpw.sublist List.filter_sublist) (λx hx=>by
   obtain⟨y1,y2⟩:=List.mem_filter.mp hx;have:=hmem x y1;rw[decide_eq_true_eq] at y2;omega) U
  have k2:=E7 ((bes p.edges me).filter λw=> !decide (w<me)) ((me:Int)+1) ((n:Int)-1) (hpw.sublist List.filter_sublist) (λx hx=>by
   obtain⟨y1,y2⟩:=List.mem_filter.mp hx;have:=hmem x y1;simp only[Bool.not_eq_true',decide_eq_false_iff_not] at y2;omega) U
  have k3:=aCO (λw=>decide (w<(me:Int))) (bes p.edges me)
  have:=hok.h6;omega
 have hget: ∀i,i<(bes p.edges me).length->(bes p.edges me)[i]? =some (((cP p me).by'.getD i 0:Nat):Int):=λi hi=>by
  have hx:=hmem _ (List.getElem_mem hi);show _=some (((((bes p.edges me).map Int.toNat).getD i 0:Nat)):Int)
  rw[aS0,aS9,aSY hi,Option.map_some,aTp,Int.toNat_of_nonneg hx.1]
 have hbl:(cP p me).by'.length=(bes p.edges me).length:=by show((bes p.edges me).map Int.toNat).length=_;simp
 refine⟨⟨?_,?_,?_,?_,?_,?_,?_,?_,?_,?_,?_,?_,?_,?_⟩,?_,?_,?_,?_,?_,?_,?_,hget,hw⟩
 ·show 2<=p.nodes.toNat/\p.nodes.toNat<=6
  omega
 ·show 1<=p.lanes.toNat/\p.lanes.toNat<=3
  omega
 ·show 1<=p.room.toNat/\p.room.toNat<=8
  omega
 ·show 1<=p.queue.toNat/\p.queue.toNat<=8
  omega
 ·show 1<=p.rounds.toNat/\p.rounds.toNat<=4
  omega
 ·show 1<=p.every.toNat/\p.every.toNat<=8
  omega
 ·show p.weights.length=p.lanes.toNat
  omega
 ·intro x hx
  have:=w3 x hx;unfold pO at this;simp only[Bool.or_eq_true,decide_eq_true_eq,not_or] at this;omega
 ·show p.start.toNat<65536
  omega
 ·show me<p.nodes.toNat
  omega
 ·rw[hbl]
  exact hlen
 ·intro w hw
  obtain⟨z,hz,rfl⟩:=aTz.mp hw;have:=hmem z hz;show z.toNat<p.nodes.toNat/\z.toNat≠me
  omega
 ·show((bes p.edges me).map Int.toNat).Nodup
  unfold List.Nodup;rw[List.pairwise_map];refine List.Pairwise.imp_of_mem (λ{a b} ha hb hab=> ?_) hpw
  have h1:=hmem a ha;have h2:=hmem b hb;omega
 ·intro d hd
  show(if d=me then 0 else _)<(cP p me).by'.length+1
  split
  ·omega
  ·split
   ·rename_i j hj
    have:=(List.findIdx?_eq_some_iff_getElem.mp hj).1;show j+1<((bes p.edges me).map Int.toNat).length+1
    omega
   ·omega
 ·show p.nodes=(p.nodes.toNat:Int)
  omega
 ·show p.lanes=(p.lanes.toNat:Int)
  omega
 ·show p.room=(p.room.toNat:Int)
  omega
 ·show p.queue=(p.queue.toNat:Int)
  omega
 ·show p.rounds=(p.rounds.toNat:Int)
  omega
 ·show p.every=(p.every.toNat:Int)
  omega
 ·show p.start=(p.start.toNat:Int)
  omega
def pZ (c:Cfg)(n nw cs cr:Nat):Part->Prop
 | .host=>True
 | .whl i=>i<nw
 | .snd i k=>DnB c n cs i k
 | .rcv i k=>DnB c n cr i k
 |_=>False
def FE (F:Part->Nat->Prop)(c:Cfg)(n nw cs cr:Nat):Prop:= ∀j,¬pZ c n nw cs cr j-> ∀b,¬F j b
theorem FE.Ht {F:Part->Nat->Prop}{c:Cfg}{n nw cs cr n' nw' cs' cr':Nat}{i:Part}{G:Nat->Prop}(h:FE F c n nw cs cr)(hi:pZ c n' nw' cs' cr' i)(hm: ∀j,pZ c n nw cs cr j->pZ c n' nw' cs' cr' j):FE (updI F i G) c n' nw' cs' cr':=λj hj b hb=>by
 by_cases hji:j=i
 ·exact hj (by rw[hji];exact hi)
 ·rw[cL _ _ hji] at hb
  exact h j (λhd=>hj (hm j hd)) b hb
def Krow (H H':aG):Prop:= ∀(b:Nat)(cs:List Value),H[b]? =some (.cells cs 3 .row)->H'[b]? =some (.cells cs 3 .row)
theorem Krow.ext {H0 H H':aG}(h:Krow H0 H)(he:Ext H H'):Krow H0 H':=λb cs hb=>by
 have:=h b cs hb;rw[he.2 _ (b9 this) id,this]
theorem Krow.iw {H H':aG}{v:Value}{zs:List Int}(h:Krow H H')(hv:Iw H v zs):Iw H' v zs:=hv.cZ λb hb=>by
 obtain⟨cs,hc⟩:=hv.blk hb;rw[hc,h b cs hc]
section
variable {Hs H : aG} {F : Part → Nat → Prop} {bag : Int} {ev wv nv : Value} {y : Lay} {c : Cfg} {n nw cs cr : Nat} {pv : Value} {m : Nat}
theorem BN.aQt {H':aG}{N:Nat->Prop}(h:BN Hs H F bag ev wv nv y c n nw cs cr pv)(hf:Fr N H H')(hN: ∀b,N b->b<H.length-> ¬Un F b/\Hs.length<=b/\b≠y.nb/\ ¬aS pv b/\ ∀i,1<=i->i<n->b≠y.lb i):BN Hs H' F bag ev wv nv y c n nw cs cr pv:=by
 have hf':Fr (λb=>N b/\b<H.length) H H':=⟨hf.1,λb hb hn=>hf.2 b hb λhh=>hn ⟨hh,hb⟩⟩
 obtain⟨x1,x2⟩:=h.Q6 (pv':=pv) (n':=n) hf' λb hb=>⟨(hN b hb.1 hb.2).1,(hN b hb.1 hb.2).2.1⟩
 have hnb:=b9 h.nb;refine {h with ext:=x1,sep:=x2,nb:= ?_,ports:=h.ports.cZ λb hb=>hf.2 b (h.ports.dZ hb) λhh=>(hN b hh (h.ports.dZ hb)).2.2.2.1 hb,lanes:=λi h1 h2=> ?_}
 ·rw[hf.2 _ hnb (λhh=>(hN _ hh hnb).2.2.1 rfl),h.nb]
 ·obtain⟨q1,q2⟩:=h.lanes i h1 h2
  have hl:=b9 q1
  exact⟨by rw[hf.2 _ hl (λhh=>(hN _ hh hl).2.2.2.2 i h1 h2 rfl),q1],q2⟩
structure XN (Hs H:aG)(F:Part->Nat->Prop)(y:Lay)(n k xb:Nat)(w:Nat)(lv:Value):Prop where
 blk:H[xb]? =some (.cells [.I w,lv,pt (y.wh n)] 145 .fix)
 xF: ¬Un F xb
 x0:Hs.length<=xb
 rows:Rw (jD y n) 149 2 H lv (List.range k)
 lvF: ∀b,aS lv b->Hs.length<=b/\ ¬Un F b/\ ∀i,1<=i->i<n->b≠y.lb i
theorem aQu {b:Nat}{a1 a2:Nat}(H:aG):bld prog 149 [(0,pt a1),(1,pt a2)]=some (.agg #[pt a1,pt a2])/\bV 149 2 1 [.pointer none,.pointer none] [(0,.agg #[pt a1,pt a2])] H=some (.slice (some ⟨H.length,0,none⟩) 1 1,H++[.cells [pt a1,pt a2] 149 .row]):=⟨rfl,rfl⟩
theorem aQv {p:PlanD}{pl i w xb len:Nat}{bv:Value}(hok:c.ok)(hpl:Hs[pl]? =some (plB p ev wv nv))(h1:1<=n)(e3:p.room=(c.room:Int))(e9:p.start=(c.start:Int))(hm:50<m){nb:Nat}{Hb:aG}{K:Ex->K (Value×aG)}{Q:aG->Value->Prop}
    (hK: ∀H' F' y' lv,y'.nb=nb->BN Hs H' F' bag ev wv nv y' c n (n+1) c.lanes c.lanes pv->FE F' c n (n+1) c.lanes c.lanes->XN Hs H' F' y' n c.lanes xb w lv->Krow Hb H'-> ∀(x4 qB zY:Value),∃H2 r,N7 (lvl prog pkN m) (aL m) K (pt pl) x4 (pt nb) (pt xb) bv (.I len) (.I (i:Nat)) qB zY H'=some (r,H2)/\Q H2 r):
    ∀(q k l:Nat)(H:aG)(F:Part->Nat->Prop)(y:Lay)(lv:Value),c.lanes-k=q->k<=c.lanes->q<l->y.nb=nb->BN Hs H F bag ev wv nv y c n (n+1) k k pv->FE F c n (n+1) k k->XN Hs H F y n k xb w lv->Krow Hb H-> ∀(x4:Value),
    ∃H2 r,aL l (aO prog (lvl prog pkN m) (aL m) N5) (N9 (lvl prog pkN m) (aL m) K) (aF 2 (some (pt pl)::aF 1 (x4::some (pt nb)::aF 2 (some (pt xb)::aF 38 (bv::some (.I len)::some (.I (i:Nat))::aF 9 (some (.I c.lanes)::some (.I (k:Nat))::aF 63 [])))))) H=some (r,H2)/\Q H2 r:=by
  intro q;induction q with
  |zero=>
    intro k l H F y lv hq hk hl hnb h hfe hx hkr;intros;obtain⟨l,rfl⟩: ∃l',l=l'+1:=⟨l-1,by omega⟩
    have hke:k=c.lanes:=U
    subst hke;have c1:decide ((c.lanes:Int)<(c.lanes:Int))=false:=by simp
    rw[aL,aAr];simp only[gsR,c1];rw[aMg];exact hK H F y lv hnb h hfe hx hkr ..
  |succ q ih=>
    intro k l H F y lv hq hk hl hnb h hfe hx hkr;intros;obtain⟨l,rfl⟩: ∃l',l=l'+1:=⟨l-1,by omega⟩
    have h3:=hok.lanes.2;have hst:=hok.start;have hrm:=hok.room;have hkl:k<c.lanes:=U
    have c1:decide ((k:Int)<(c.lanes:Int))=true:=by rw[decide_eq_true_eq];omega
    have hpH: ∀G:aG,Ext Hs G->G[pl]? =some (plB p ev wv nv):=λG hG=>by rw[hG.2 _ (b9 hpl) id,hpl]
    -- the ends
    obtain⟨H1,hH1⟩:=aD (H++[iM ⟨c.start,c.start+c.room⟩]);obtain⟨H2,hH2⟩:=aD (H1++[eO ⟨c.start,0⟩ c.room]);have x1:Ext H H1:=by rw[hH1];exact Fr.app _ _ _
    have x2:Ext H1 H2:=by rw[hH2];exact Fr.app _ _ _
    have h1l:H1.length=H.length+1:=by rw[hH1];simp
    have h2l:H2.length=H.length+2:=by rw[hH2];simp;omega
    have g1:=h.snd (hfe (.snd n k) (by unfold pZ DnB;omega)) (b:=H.length) rfl
    rw[<-hH1] at g1;have fe1:FE _ c n (n+1) (k+1) k:=hfe.Ht (i:= .snd n k) (G:=InB [(H.length,iM ⟨c.start,c.start+c.room⟩)]) (n':=n) (nw':=n+1) (cs':=k+1) (cr':=k) (show DnB c n (k+1) n k from .inr ⟨rfl,by omega⟩) (λj hj=>by
      cases j<;>simp only[pZ] at hj⊢ <;>(try exact hj)<;>(unfold DnB at hj ⊢; omega))
    have g2:=g1.rcv (fe1 (.rcv n k) (by unfold pZ DnB;omega)) (b:=H1.length) rfl
    rw[<-hH2] at g2;have fe2:FE _ c n (n+1) (k+1) (k+1):=fe1.Ht (i:= .rcv n k) (G:=InB [(H1.length,eO ⟨c.start,0⟩ c.room)]) (n':=n) (nw':=n+1) (cs':=k+1) (cr':=k+1) (show DnB c n (k+1) n k from .inr ⟨rfl,by omega⟩) (λj hj=>by
      cases j<;>simp only[pZ] at hj⊢ <;>(try exact hj)<;>(unfold DnB at hj ⊢; omega))
    obtain⟨F2,hF2⟩:=aD (updI (updI F (.snd n k) (InB [(H.length,iM ⟨c.start,c.start+c.room⟩)])) (.rcv n k) (InB [(H1.length,eO ⟨c.start,0⟩ c.room)]));obtain⟨y2,hy2⟩: ∃y2:Lay,y2={y with sb:=up2 y.sb n k H.length,rb:=up2 y.rb n k H1.length}:=⟨_,rfl⟩;rw[<-hF2] at g2 fe2;have g2:BN Hs H2 F2 bag ev wv nv y2 c n (n+1) (k+1) (k+1) pv:=by rw[hy2];exact g2
    have hun2: ∀b,b<H.length-> ¬Un F b-> ¬Un F2 b:=λb hb hF hu=>by
      rw[hF2] at hu;rcases sK hu with hu|⟨q,hq,rfl⟩
      · rcases sK hu with hu|⟨q,hq,rfl⟩
        · exact hF hu
        · simp only[aTf,aTm,or_false] at hq
          subst hq;simp at hb
      · simp only[aTf,aTm,or_false] at hq
        subst hq;simp only at hb;omega
    -- the row of one
    obtain⟨eb,es⟩:=aQu (b:=0) (a1:=H.length) (a2:=H1.length) H2;have hl2:jD y2 n k=[pt H.length,pt H1.length]:=by
      rw[hy2];unfold jD;simp only;rw[Hr,Hr]
    have hrow:Rw (jD y2 n) 149 2 H2 lv (List.range k):=by
      have hk0:=hx.rows.cZ (H':=H2) λb hb=>(x1.tr x2).2 b (hx.rows.dZ hb) id
      have em:(List.range k).map (jD y2 n)=(List.range k).map (jD y n):=List.map_congr_left λj hj=>by
        have hj:=aTA.mp hj;rw[hy2];unfold jD;simp only;rw[zR _ _ U,zR _ _ U]
      unfold Rw at hk0⊢;rw[em];exact hk0
    have hw1:Rr (jD y2 n) 149 (H2++[.cells [pt H.length,pt H1.length] 149 .row]) (.slice (some ⟨H2.length,0,none⟩) 1 1) [k]:=by
      have:=wB (el:=jD y2 n) (e:=149) k H2;rw[hl2] at this;exact this
    obtain⟨H3,hH3⟩:=aD (H2++[Blk.cells [pt H.length,pt H1.length] 149 .row]);have h3l:H3.length=H2.length+1:=by rw[hH3];simp
    obtain⟨lv',H4,k1,k2,k3,k4,k5⟩:=(hrow.uM [Blk.cells [pt H.length,pt H1.length] 149 .row]).wC (aCk y2 n) (aQr y2 n) aC (by':=16) hw1.rs (eJ (n:=1000) aC (by simp;omega))
    rw[<-hH3] at k1 k3 k4 k5 es;rw[<-aTv] at k2
    -- stored
    have hxl:=b9 hx.blk;have hlvx: ¬aS lv xb:=λhh=>by
      obtain⟨cs',hc'⟩:=hx.rows.blk hh;rw[hx.blk] at hc';injection hc' with hc';injection hc' with _ _ h3;cases h3
    have bx2:H2[xb]? =some (.cells [.I w,lv,pt (y.wh n)] 145 .fix):=by rw[(x1.tr x2).2 _ hxl id,hx.blk]
    have bx1:H1[xb]? =some (.cells [.I w,lv,pt (y.wh n)] 145 .fix):=by rw[x1.2 _ hxl id,hx.blk]
    have bx4:H4[xb]? =some (.cells [.I w,lv,pt (y.wh n)] 145 .fix):=by rw[k4 xb U hlvx,hH3,aSZ U,bx2]
    have sh:=zQ k2;obtain⟨H5,hH5⟩:=aD (H4.set xb (.cells [.I w,lv',pt (y.wh n)] 145 .fix));have st:stN 1 (.Q xb 1) lv' H4=some (undef,H5):=by rw[hH5];exact nA bx4 aC (by simp) sh.1 sh.2
    have hfr:Fr (λb=>b=xb∨aS lv b) H2 H5:=⟨by rw[hH5];simp;omega,λb hb hn=>by
      rw[hH5,aSX (λhh=>hn (.inl hh.symm)),k4 b U (λhh=>hn (.inr hh)),hH3,aSZ hb]⟩
    have hnbx:xb≠y.nb:=λhh=>by
      have:=h.nb;rw[<-hh,hx.blk] at this;injection this with this;injection this with _ h2 _
      revert h2
      decide
    have hpvx: ¬aS pv xb:=λhh=>by
      obtain⟨cs',hc'⟩:=h.ports.blk hh;rw[hx.blk] at hc';injection hc' with hc';injection hc' with _ _ h3;cases h3
    have hlbx: ∀i,1<=i->i<n->xb≠y.lb i:=λi a b hh=>by
      have:=(h.lanes i a b).1;rw[<-hh,hx.blk] at this;injection this with this;injection this with _ _ h3;cases h3
    have g5:BN Hs H5 F2 bag ev wv nv y2 c n (n+1) (k+1) (k+1) pv:=by
      refine g2.aQt hfr λb hb hbl=> ?_
      have e1:y2.nb=y.nb:=by rw[hy2]
      have e2:y2.lb=y.lb:=by rw[hy2]
      rw[e1,e2];rcases hb with rfl|hb
      · exact⟨hun2 _ hxl hx.xF,hx.x0,hnbx,hpvx,hlbx⟩
      · obtain⟨q1,q2,q3⟩:=hx.lvF b hb
        have hbH:=hx.rows.dZ hb;refine⟨hun2 _ hbH q2,q1,λhh=> ?_,λhh=> ?_,q3⟩
        · obtain⟨cs',hc'⟩:=hx.rows.blk hb
          rw[hh,h.nb] at hc';injection hc' with hc';injection hc' with _ _ h3;cases h3
        · obtain⟨cs',hc'⟩:=hx.rows.blk hb
          obtain⟨cs2,hc2⟩:=h.ports.blk hh;rw[hc'] at hc2;injection hc2 with hc2;injection hc2 with _ h2 _
          revert h2
          decide
    have hwh:y2.wh=y.wh:=by rw[hy2]
    have hlv'x: ¬aS lv' xb:=λhh=>by
      rcases k5 xb hh with hh|hh
      · exact hlvx hh
      · omega
    have hx5:XN Hs H5 F2 y2 n (k+1) xb w lv':=by
      refine⟨by rw[hwh,hH5];exact dN bx4,hun2 _ hxl hx.xF,hx.x0,k2.cZ λb hb=>by rw[hH5];exact aSX λhh=>hlv'x (by rw[hh];exact hb),λb hb=> ?_⟩
      have e2:y2.lb=y.lb:=by rw[hy2]
      rw[e2];have hsl:=h.ext.1;rcases k5 b hb with hb|hb
      · obtain⟨q1,q2,q3⟩:=hx.lvF b hb
        exact⟨q1,hun2 _ (hx.rows.dZ hb) q2,q3⟩
      · refine⟨by omega,λhu=>by have:=g2.sep.nU b hu;omega,λi a b' hh=> ?_⟩
        have:=b9 (h.lanes i a b').1;omega
    -- the walk
    have hp0:=hpH H h.ext;have hp1:=hpH H1 (h.ext.tr x1);have l9:ld1 (.Q pl 9) H=some (.int .u16 c.start,H):=by rw[cO hp0 9 (.int .u16 p.start) rfl,e9]
    have l3:ld1 (.Q pl 3) H=some (.I c.room,H):=by rw[cO hp0 3 (.I p.room) rfl,e3]
    have l9':ld1 (.Q pl 9) H1=some (.int .u16 c.start,H1):=by rw[cO hp1 9 (.int .u16 p.start) rfl,e9]
    have l3':ld1 (.Q pl 3) H1=some (.I c.room,H1):=by rw[cO hp1 3 (.I p.room) rfl,e3]
    have ecs:IntKind.u64.wrap (c.start:Int)=(c.start:Int):=zC _ U
    have s1:=aM8 (H:=H) (m:=m) U c.start c.room hst hrm
    have s2:=aM5 (H:=H1) (m:=m) U c.start c.room hst hrm
    rw[<-hH1] at s1;rw[<-hH2] at s2;have lx:ld1 (.pointer (some ⟨xb,1,none⟩)) H=some (lv,H):=bA hx.blk rfl;have lx1:ld1 (.pointer (some ⟨xb,1,none⟩)) H1=some (lv,H1):=bA bx1 rfl;have lx2:ld1 (.pointer (some ⟨xb,1,none⟩)) H2=some (lv,H2):=bA bx2 rfl;have lvc:=λG=>aCE hx.rows G
    have ek:=mB k U
    rw[aL,aAr];simp only[gsR,c1,lx,l9,l3,dJ _ _ kL oV,ecs,s1,lx1,lvc,l9',Cd,l3',s2,lx2,eb,es,k1,st,aT,ek];refine ih (k+1) l H5 F2 y2 lv' U U U (by rw[hy2];exact hnb) g5 fe2 hx5 (λb cs hb=> ?_) ..
    have hb2:=(hkr.ext (x1.tr x2)) b cs hb;rw[hfr.2 b (b9 hb2) (λhh=> ?_),hb2]
    rcases hh with rfl|hh
    · rw[bx2] at hb2
      injection hb2 with hb2;injection hb2 with _ _ h3;cases h3
    · obtain⟨cs',hc'⟩:=hrow.blk hh
      rw[hb2] at hc';injection hc' with hc';injection hc' with _ h2 _
      revert h2
      decide
end
theorem Sep.aQx {ι:Type}{A:ι->aG->Prop}{F:ι->Nat->Prop}{H:aG}(h:Sep A F H)(i:ι)(hi: ∀b,¬F i b){B:aG->Prop}{G:Nat->Prop}(hB:Has B G H)(hd: ∀b,G b-> ¬Un F b):Sep (updI A i B) (updI F i G) H:=by
 refine⟨λj=> ?_,λj k b hj hk=> ?_⟩
 ·by_cases hji:j=i
  ·rw[hji,eV,eV]
   exact hB
  ·rw[cL _ _ hji,cL _ _ hji]
   exact h.own j
 ·by_cases hji:j=i
  ·by_cases hki:k=i
   ·rw[hji,hki]
   ·rw[hji,eV] at hj
    rw[cL _ _ hki] at hk;exact absurd ⟨k,hk⟩ (hd b hj)
  ·rw[cL _ _ hji] at hj
   by_cases hki:k=i
   ·rw[hki,eV] at hk
    exact absurd ⟨j,hj⟩ (hd b hk)
   ·rw[cL _ _ hki] at hk
    exact h.sep j k b hj hk
section
variable {Hs H : aG} {F : Part → Nat → Prop} {bag : Int} {ev wv nv : Value} {y : Lay} {c : Cfg} {n nw cs cr : Nat} {pv : Value} {m : Nat}
theorem Cp (hn:1<=n)(i k:Nat):DnB c n c.lanes i k↔DnB c (n+1) 0 i k:=by
 unfold DnB
 constructor<;>intro h<;>omega
theorem BN.aQw {w xb:Nat}{lv:Value}(h:BN Hs H F bag ev wv nv y c n (n+1) c.lanes c.lanes pv)(hfe:FE F c n (n+1) c.lanes c.lanes)(hx:XN Hs H F y n c.lanes xb w lv)(hn:1<=n)(hn6:n<=6)(hl:1<=c.lanes)(hw:w=gJ c n):
  ∃y' pv' H3 H4 H',y'.nb=y.nb/\bV 145 3 1 [.I 0,.N,.pointer none] [(0,.agg #[.I w,lv,pt (y.wh n)])] H=some (.slice (some ⟨H.length,0,none⟩) 1 1,H3)/\Go.Abs.app 145 3 40 pv (.slice (some ⟨H.length,0,none⟩) 1 1) H3=some (pv',H4)/\
   stN 1 (.Q y.nb 13) pv' H4=some (undef,H')/\BN Hs H' F bag ev wv nv y' c (n+1) (n+1) 0 0 pv'/\FE F c (n+1) (n+1) 0 0/\Krow H H':=by
 obtain⟨b,cap,rest,hlv,hcap,hlb⟩: ∃b cap rest,lv= .slice (some ⟨b,0,none⟩) c.lanes cap/\c.lanes<=cap/\H[b]? =some (.cells (((List.range c.lanes).map (jD y n)).flatten++rest) 149 .row):=by
  obtain⟨_,⟨_,h0⟩|⟨c',cap,rest,h1,h2,_,h3⟩⟩:=hx.rows
  ·rw[aTq] at h0
   omega
  ·rw[aTq] at h1 h2
   exact⟨c',cap,rest,h1,h2,h3⟩
 obtain⟨y',hy'⟩: ∃y':Lay,y'={y with lb:=up1 y.lb n b,lcap:=up1 y.lcap n cap,lrest:=up1 y.lrest n rest}:=⟨_,rfl⟩;have hbF:=hx.lvF b (by rw[hlv];exact⟨_,_,_,rfl⟩)
 have hpo: ∀i,i<n->dK y' c i=dK y c i:=λi hi=>by
  rw[hy'];unfold dK j9;simp only;rw[lD _ _ U,lD _ _ U]
 have hpn:dK y' c n=[.I w,lv,pt (y.wh n)]:=by
  rw[hy',hw,hlv];unfold dK j9;simp only;rw[if_neg U,lS,lS]
 have hrw:Rw (dK y' c) 145 3 H pv (List.range n):=by
  have:=h.ports;unfold Rw at this⊢;rw[List.map_congr_left λi hi=>hpo i (aTA.mp hi)]
  exact this
 have eb:bV 145 3 1 [.I 0,.N,.pointer none] [(0,.agg #[.I w,lv,pt (y.wh n)])] H=some (.slice (some ⟨H.length,0,none⟩) 1 1,H++[.cells [.I w,lv,pt (y.wh n)] 145 .row]):=by
  rw[hlv];rfl
 have hw1:Rr (dK y' c) 145 (H++[.cells [.I w,lv,pt (y.wh n)] 145 .row]) (.slice (some ⟨H.length,0,none⟩) 1 1) [n]:=by
  have:=wB (el:=dK y' c) (e:=145) n H;rw[hpn] at this;exact this
 obtain⟨pv',H4,k1,k2,k3,k4,k5⟩:=(hrw.uM [Blk.cells [.int .i64 w,lv,pt (y.wh n)] 145 .row]).wC (Ck y' c) (aCN y' c) aC (by':=40) hw1.rs (eJ (n:=1000) aC (by simp;omega))
 rw[<-aTv] at k2;have hlen:(H++[Blk.cells [.int .i64 w,lv,pt (y.wh n)] 145 .row]).length=H.length+1:=by simp
 rw[hlen] at k3 k4 k5;have hnl:=b9 h.nb;have hnpv: ¬aS pv y.nb:=λhh=>by
  obtain⟨cs',hc'⟩:=h.ports.blk hh;rw[h.nb] at hc';injection hc' with hc';injection hc' with _ _ h3;cases h3
 have bn4:H4[y.nb]? =some (pY bag ev wv nv y c pv):=by rw[k4 _ U hnpv,aSZ hnl,h.nb]
 have sh:=zQ k2;have st:stN 1 (.Q y.nb 13) pv' H4=some (undef,H4.set y.nb (pY bag ev wv nv y c pv')):=nA bn4 aC (by simp) sh.1 sh.2
 have hfr:Fr (λb=>b=y.nb∨aS pv b) H (H4.set y.nb (pY bag ev wv nv y c pv')):=⟨by simp;omega,λb hb hn=>by
  rw[aSX (λhh=>hn (.inl hh.symm)),k4 b U (λhh=>hn (.inr hh)),aSZ hb]⟩
 have hNF: ∀b,(b=y.nb∨aS pv b)-> ¬Un F b/\Hs.length<=b:=λb hb=>by
  rcases hb with rfl|hb
  ·exact⟨h.nbF,h.nb0⟩
  ·exact⟨(h.pvF b hb).2,(h.pvF b hb).1⟩
 obtain⟨x1,x2⟩:=h.Q6 (pv':=pv) (n':=n) hfr hNF;have hlkeep: ∀(a:Nat)(cs':List Value),H[a]? =some (.cells cs' 149 .row)->(H4.set y.nb (pY bag ev wv nv y c pv'))[a]? =some (.cells cs' 149 .row):=λa cs' ha=>by
  rw[hfr.2 a (b9 ha) (λhh=> ?_),ha]
  rcases hh with rfl|hh
  ·rw[h.nb] at ha
   injection ha with ha;injection ha with _ _ h3;cases h3
  ·obtain⟨cs2,hc2⟩:=h.ports.blk hh
   rw[ha] at hc2;injection hc2 with hc2;injection hc2 with _ h2 _
   revert h2
   decide
 have hpvn: ¬aS pv' y.nb:=λhh=>by
  rcases k5 _ hh with hh|hh
  ·exact hnpv hh
  ·omega
 have hsl:=h.ext.1;refine⟨y',pv',_,H4,_,by rw[hy'],eb,k1,st,?_,λj hj=>hfe j λhd=>hj ?_,λb cs hb=> ?_⟩
 ·refine⟨x1,x2.wE λj D hD=> ?_,h.new,?_,by rw[hy'];exact h.nbF,by rw[hy'];exact h.nb0,k2.cZ λb hb=>aSX λhh=>hpvn (by rw[hh];exact hb),λb hb=> ?_,λi h1 h2=> ?_,λi j a1 a2 a3 a4 he=> ?_,by rw[hy'];exact h.ww⟩
  ·rw[hy']
   cases j with
   |snd i k=>
    simp only[jH] at hD⊢;by_cases hd:DnB c n c.lanes i k
    ·rw[if_pos hd] at hD
     rw[if_pos ((Cp hn i k).mp hd)];exact hD
    ·rw[if_neg hd] at hD
     rw[if_neg (λhh=>hd ((Cp hn i k).mpr hh))]
     exact hD
   |rcv i k=>
    simp only[jH] at hD⊢;by_cases hd:DnB c n c.lanes i k
    ·rw[if_pos hd] at hD
     rw[if_pos ((Cp hn i k).mp hd)];exact hD
    ·rw[if_neg hd] at hD
     rw[if_neg (λhh=>hd ((Cp hn i k).mpr hh))]
     exact hD
   |_=>exact hD
  ·rw[hy']
   exact dN bn4
  ·rcases k5 b hb with hb|hb
   ·exact h.pvF b hb
   ·exact⟨by omega,λhu=>by have:=h.sep.nU b hu;omega⟩
  ·by_cases hin:i=n
   ·subst hin
    have e1:y'.lb i=b:=by rw[hy'];exact lS _ _ _
    have e2:y'.lcap i=cap:=by rw[hy'];exact lS _ _ _
    have e3:mD y' c i= .cells (((List.range c.lanes).map (jD y i)).flatten++rest) 149 .row:=by
     rw[hy'];unfold mD;simp only;rw[lS];rfl
    rw[e1,e2,e3]
    exact⟨hlkeep _ _ hlb,hbF.1,hbF.2.1,hcap⟩
   ·obtain⟨q1,q2,q3,q4⟩:=h.lanes i h1 U
    have e1:y'.lb i=y.lb i:=by rw[hy'];exact lD _ _ hin
    have e2:y'.lcap i=y.lcap i:=by rw[hy'];exact lD _ _ hin
    have e3:mD y' c i=mD y c i:=by
     rw[hy'];unfold mD;simp only;rw[lD _ _ hin];rfl
    rw[e1,e2,e3]
    exact⟨hlkeep _ _ q1,q2,q3,q4⟩
  ·have e1: ∀i,y'.lb i=up1 y.lb n b i:=λi=>by rw[hy']
   rw[e1,e1] at he;by_cases hi:i=n
   ·by_cases hj:j=n
    ·rw[hi,hj]
    ·rw[hi,lS,lD _ _ hj] at he
     exact absurd he (hbF.2.2 j a3 U)
   ·by_cases hj:j=n
    ·rw[hj,lS,lD _ _ hi] at he
     exact absurd he.symm (hbF.2.2 i a1 U)
    ·rw[lD _ _ hi,lD _ _ hj] at he
     exact h.lne i j a1 U a3 U he
 ·cases j<;>simp only[pZ] at hd⊢ <;>(try exact hd)<;>exact(Cp hn _ _).mp hd
 ·rw[hfr.2 b (b9 hb) (λhh=> ?_),hb]
  rcases hh with rfl|hh
  ·rw[h.nb] at hb
   injection hb with hb;injection hb with _ _ h3;cases h3
  ·obtain⟨cs2,hc2⟩:=h.ports.blk hh
   rw[hb] at hc2;injection hc2 with hc2;injection hc2 with _ h2 _
   revert h2
   decide
end
end Go.Proofs.YtciiopkbmjppfaaGreatDoor
