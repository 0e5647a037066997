/-
  PARTS OF THIS CLAIM'S PROOF, laid together by a program of mine.
-/
import Derived.Test.YtkeilicinggjmaaGreatDoorAbsM7
set_option linter.unusedVariables false
set_option linter.unusedSimpArgs false
set_option linter.unusedSectionVars false
set_option maxRecDepth 100000
namespace Go.Proofs.YtkeilicinggjmaaGreatDoor
open Go.Proofs.Tryz
open Go.Abs Go.Abs.M
open Classical
section
variable {H0 H H' H1 G : aF} {O : FP → Nat → Prop} {a : FL} {F : Nat → Part → Nat → Prop} {p : PlanD} {ev wv nv : Value} {t m : Nat} {s : FS}
def RowAt (G:aF)(b:Nat)(e:TypeId):Prop:= ∃cs,G[b]? =some (.cells cs e .row)/\0<cs.length
theorem aRO {b:Nat}{e:TypeId}(h:RowAt G b e)(z:Int): ∃G',stN 1 (.Q b 0) (.I z) G=some (undef,G')/\G'.length=G.length/\(∀c,c≠b->G'[c]? =G[c]?)/\ ∀c e',RowAt G c e'->RowAt G' c e':=by
 obtain⟨cs,h1,h2⟩:=h;have hk: ∀c,c≠b->(G.set b (.cells (cs.set 0 (.I z)) e .row))[c]? =G[c]? :=λc hc=>aRV λhh=>hc hh.symm
 refine⟨_,lN h1 aC h2,List.length_set,hk,λc e' hc=> ?_⟩
 by_cases hcb:c=b
 ·subst hcb
  obtain⟨ds,d1,d2⟩:=hc;rw[h1] at d1;cases d1
  exact⟨_,fW h1,by rw[List.length_set];exact h2⟩
 ·obtain⟨ds,d1,d2⟩:=hc
  exact⟨ds,by rw[hk c hcb,d1],d2⟩
theorem J4 {α:Type}{el:α->List Value}{e:TypeId}{sz:Nat}{v:Value}{xs:List α}(h:Rw el e sz H v xs)(h0:0<xs.length)(hs:0<sz): ∃b,cJ v b/\RowAt H b e/\aT sz v (.I 0)=some (.Q b 0):=by
 obtain⟨h1,⟨rfl,h2⟩|⟨c,cap,rest,rfl,h2,h3,h4⟩⟩:=h
 ·omega
 ·refine⟨c,⟨_,_,_,rfl⟩,⟨_,h4,?_⟩,?_⟩
  ·rw[aR6,h1]
   have:=Nat.mul_le_mul h0 hs;omega
  ·rw[pQ _ _ _ _ _ _ _ U U]
   simp
theorem aRM (x:Ed):bin prog .eql 34 (edV x) (edV x)=some (.bool true):=by
 have k:tN prog 34=some [true,true]:=by kernel_rfl
 obtain⟨a1,a2⟩:=x;simp[bin,edV,eE,nL,k,eqT,edC]
structure Own3 (H0 Hs H:aF)(O:FP->Nat->Prop)(a:FL)(F:Nat->Part->Nat->Prop)(p:PlanD)(ev wv nv:Value)(t:Nat)(s:FS)(xb b1 b2 b3 b4:Nat)(e1 w1 n1:Value):Prop where
 fab:fE H0 H O a F p ev wv nv t s
 ext:Ext Hs H
 h0s:H0.length<=Hs.length
 un: ∀i b,O i b->b<Hs.length
 pl:H[xb]? =some (plB p e1 w1 n1)
 r1:RowAt H b1 3
 r2:RowAt H b2 3
 r3:RowAt H b3 34
 r4:RowAt H b4 67
theorem Own3.st {Hs:aF}{xb b1 b2 b3 b4:Nat}{e1 w1 n1:Value}(h:Own3 H0 Hs H O a F p ev wv nv t s xb b1 b2 b3 b4 e1 w1 n1){b:Nat}{e:TypeId}(hb:RowAt H b e)(hbs:Hs.length<=b): ∃G,stN 1 (.Q b 0) (.I 77) H=some (undef,G)/\Own3 H0 Hs G O a F p ev wv nv t s xb b1 b2 b3 b4 e1 w1 n1:=by
 obtain⟨G,g1,g2,g3,g4⟩:=aRO hb 77;have hx: ∀K:aF,Ext K H->K.length<=b->Ext K G:=λK hK hl=>⟨by rw[g2];exact hK.1,λc hc _=>by rw[g3 c U,hK.2 c hc id]⟩
 refine⟨G,g1,h.fab.Tr U (λi c hc=>g3 c λhh=>by have:=h.un i c hc;omega) (hx H0 h.fab.own.ext (aSa h.h0s hbs)),hx Hs h.ext hbs,h.h0s,h.un,?_,g4 _ _ h.r1,g4 _ _ h.r2,g4 _ _ h.r3,g4 _ _ h.r4⟩
 rw[g3 xb λhh=> ?_,h.pl]
 obtain⟨cs,hc,_⟩:=hb;rw[<-hh,h.pl] at hc;cases hc
theorem aRN {cv:Value}{c:List Nat}(hc:Us H cv c)(hu8: ∀x∈c,x<256)(hl:c.length<=72057594037927936)(room more start:Nat)(h2:room<256)(h3:more<256)(h4:start<65536):
    ∃H',lvl prog cN 18014398509481984 (.func 6) [cv,.int .u8 room,.int .u8 more,.int .u16 start] H=some (.bool true,H')/\True:=by
  obtain⟨H1,ev,wv,nv,g1,x1,hp⟩:=Jp hc hu8 hl room more start h2 h3 h4 (m:=18014398509481984-1) U U
  have hok:=Jq c room more start;have hst0:(rO c room more start).start=start:=rfl;have hed:1<=(rO c room more start).edges.length:=by
    show 1<=(xN (ofT c)).length
    unfold xN;rw[aR8,aSo]
    exact(Sx c).2
  obtain⟨q,hq⟩:=aD (rO c room more start);rw[<-hq] at g1 hp hok hst0 hed;have cp:=Dd hp H1;obtain⟨H2,hH2⟩:=aD (H1++[plB q ev wv nv]);rw[<-hH2] at cp;have x2:Ext H1 H2:=by rw[hH2];exact Fr.app _ _ _
  have b2:H2[H1.length]? =some (plB q ev wv nv):=by rw[hH2];exact fA _ _
  have l2:=lC b2;obtain⟨H3,u,g3,H0,O,a,F,e',w',n',rfl,xb,k3,_⟩:=J3 (hp.ext x2) hok (by rw[hst0];omega) (m:=18014398509481984-1) U U
  obtain⟨N,hN,hNe⟩:=k3.vN;have hn:=hN.hn;have hN2:=hN.h2;have hN6:=hN.h6;have hck:=k3.ok;have hlan:1<=q.lanes/\q.lanes<=3/\(q.weights.length:Int)=q.lanes:=by
    unfold gY rZ wi at hck;simp only[aR2,decide_eq_true_eq] at hck;omega
  have E0:ext 0 (.tuple #[pt a.fb,.int .u16 0])=some (pt a.fb):=rfl;have E1:ext 1 (.tuple #[pt a.fb,.int .u16 0])=some (.int .u16 0):=rfl;have z0:((0:Int)!=0)=false:=rfl;have n2:=λa=>(sH 60 a (by kernel_rfl)).1
  obtain⟨H4,g4,x4⟩:=T6 (H:=H3) (18014398509481984-1) U U
  have k4:=k3.nB x4
  -- what is told
  obtain⟨H5,e1,w1,n1,g5,c5⟩:=T1 k4 (m:=18014398509481984-1) U
  have cp5:=Dd c5.pv H5;obtain⟨H6,hH6⟩:=aD (H5++[plB q e1 w1 n1]);rw[<-hH6] at cp5;have x6:Ext H5 H6:=by rw[hH6];exact Fr.app _ _ _
  have b6:H6[H5.length]? =some (plB q e1 w1 n1):=by rw[hH6];exact fA _ _
  have k6:=(k4.nB c5.ext).nB x6;obtain⟨hv,H7,g7,x7,hw7,nw7⟩:=Tv k6 (m:=18014398509481984-1) U
  have k7:=k6.nB x7;have b7:=eS b6 x7;have cZ:=x6.tr x7;have p1: ∀{G:aF},Ext H0 G->G[H1.length]? =some (plB q ev wv nv):=λhG=>eS (eS b2 xb) hG
  have b7p:=p1 k7.own.ext;have hH2:(dM q).length=2*q.edges.length:=by
    rw[(xK hN).2,Nv hN.ve hN6];exact Nz _ hN.ve.ok
  -- their lengths
  obtain⟨us,r1,r2,r3,r4⟩:=c5.n;have hnl:=hN.nl;have hx0:q.next[0]? =some (q.next[0]' U):=aRW _
  have hu0:us[0]? =some (us[0]' U):=aRW _
  obtain⟨i0,hi0⟩:=aD (us[0]' U)
  obtain⟨xs0,hxs0⟩:=aD (q.next[0]' U)
  rw[<-hi0] at hu0;rw[<-hxs0] at hx0;have hxl:xs0.length=N:=hN.rl xs0 (aR4 hx0);obtain⟨w0,nw0⟩:=r4 0 i0 xs0 hu0 hx0;have r17:=qS r1 cZ;have w07:=qS w0 cZ;have lenN:=r17.rs.gW;rw[r3,hnl] at lenN;have len0:=w07.rs.gW;rw[hxl] at len0;have lenW:=c5.w.1.rs.gW;have lenE:=c5.e.1.rs.gW;have lenH:=hw7.rs.gW;rw[hH2] at lenH;have lenEp:=hp.e.gW;obtain⟨bo,oo,i1,_,i3⟩:=r17.rs.fS Bd hu0 .i64;have i4:=(i3 H7 rfl).2.1 0 _ rfl;rw[Nat.add_zero] at i4;simp only[show((0:Nat):Int)=0 from rfl] at i1
  have zN:((N:Int)!=q.nodes)=false:=by rw[hn];simp
  have zL:((q.weights.length:Int)!=q.lanes)=false:=by rw[hlan.2.2];simp
  have zE:((q.edges.length:Int)!=(q.edges.length:Int))=false:=by simp
  have hE15:=hN.e15;have m2:IntKind.i64.wrap (2*(q.edges.length:Int))=((2*q.edges.length:Nat):Int):=by rw[dL U U];omega
  have zH:(((2*q.edges.length:Nat):Int)!=((2*q.edges.length:Nat):Int))=false:=by simp
  have l10:=eC b7 10 n1 rfl;have l8:=eC b7 8 w1 rfl;have l1:=eC b7 1 e1 rfl;have q0:=eC b7p 0 (.I q.nodes) rfl;have q2:=eC b7p 2 (.I q.lanes) rfl;have q1:=eC b7p 1 ev rfl
  -- it is changed
  obtain⟨c1,d1,s1,a1⟩:=J4 w07 U aC
  obtain⟨c2,d2,s2,a2⟩:=J4 (qS c5.w.1 cZ) U aC
  obtain⟨c3,d3,s3,a3⟩:=J4 (qS c5.e.1 cZ) U aC
  obtain⟨c4,d4,s4,a4⟩:=J4 hw7 U aC
  have t1:=nw0 _ d1;have t2:=c5.w.2 _ d2;have t3:=c5.e.2 _ d3;have t4:=nw7 _ d4;have hx46:=(c5.ext.tr x6).1;have O7:Own3 H0 H4 H7 O a F q e' w' n' 0 (FS.vL (eJ q)) H5.length c1 c2 c3 c4 e1 w1 n1:=⟨k7,c5.ext.tr cZ,k4.own.ext.1,k4.own.lt,b7,s1,s2,s3,s4⟩;obtain⟨H8,st8,O8⟩:=O7.st O7.r1 t1;have l8':=eC O8.pl 8 w1 rfl;obtain⟨H9,st9,O9⟩:=O8.st O8.r2 t2;have l9':=eC O9.pl 1 e1 rfl;obtain⟨HA,stA,OA⟩:=O9.st O9.r3 t3;obtain⟨HB,stB,OB⟩:=OA.st OA.r4 U
  -- and told again
  obtain⟨HC,e2,w2,n2',gC,cC⟩:=T1 OB.fab (m:=18014398509481984-1) U
  have cpC:=Dd cC.pv HC;obtain⟨HD,hHD⟩:=aD (HC++[plB q e2 w2 n2']);rw[<-hHD] at cpC;have xD:Ext HC HD:=by rw[hHD];exact Fr.app _ _ _
  have bD:HD[HC.length]? =some (plB q e2 w2 n2'):=by rw[hHD];exact fA _ _
  have kD:=(OB.fab.nB cC.ext).nB xD;have bDp:=p1 kD.own.ext;have x1D:Ext H1 HD:=x2.tr (xb.tr kD.own.ext);have m10:=eC bD 10 n2' rfl;have m8:=eC bD 8 w2 rfl;have m1:=eC bD 1 e2 rfl;have o10:=eC bDp 10 nv rfl;have o8:=eC bDp 8 wv rfl;have o1:=eC bDp 1 ev rfl;have ppD:=hp.ext x1D;have pcD:=cC.pv.ext xD
  -- rows
  have row: ∀{e w n:Value},PV HD q e w n-> ∃b o u b' o',aT 1 n (.int .i64 0)=some (.pointer (some ⟨b,o,none⟩))/\ld1 (.pointer (some ⟨b,o,none⟩)) HD=some (u,HD)/\aT 1 u (.int .i64 0)=some (.pointer (some ⟨b',o',none⟩))/\ld1 (.pointer (some ⟨b',o',none⟩)) HD=some (.int .i64 (xs0[0]' U),HD):=λhpv=>by
    obtain⟨vs,v1,v2,v3⟩:=hpv.n;have hv0:vs[0]? =some (vs[0]' U):=aRW _
    have hIs:=v3 0 _ xs0 hv0 hx0;obtain⟨b,o,j1,_,j3⟩:=v1.fS Yq hv0 .i64;have j4:=(j3 HD rfl).2.1 0 _ rfl;have hz:xs0[0]? =some (xs0[0]' U):=aRW _
    obtain⟨b',o',k1,_,k3⟩:=hIs.fS gV hz .i64;have k4:=(k3 HD rfl).2.1 0 _ rfl;rw[Nat.add_zero] at j4 k4
    exact⟨b,o,_,b',o',j1,j4,k1,k4⟩
  obtain⟨y1,y2,y3,y4,y5,y6,y7,y8,y9⟩:=row pcD;obtain⟨v1,v2,v3,v4,v5,v6,v7,v8,v9⟩:=row ppD
  -- weights
  have hw0:q.weights[0]? =some (q.weights[0]' U):=aRW _
  obtain⟨ba,oa,wa,_,wc⟩:=pcD.w.fS gV hw0 .i64;have wd:=(wc HD rfl).2.1 0 _ rfl;obtain⟨ba',oa',wa',_,wc'⟩:=ppD.w.fS gV hw0 .i64;have wd':=(wc' HD rfl).2.1 0 _ rfl;rw[Nat.add_zero] at wd wd'
  -- edges
  have he0:q.edges[0]? =some (q.edges[0]' U):=aRW _
  obtain⟨bb,ob,ea,_,ec⟩:=pcD.e.fS o7 he0 .i64;have ed:ldN 2 (.Q bb ob) HD=some (edV (q.edges[0]' U),HD):=(ec HD rfl).1
  obtain⟨bb',ob',ea',_,ec'⟩:=ppD.e.fS o7 he0 .i64;have ed':ldN 2 (.Q bb' ob') HD=some (edV (q.edges[0]' U),HD):=(ec' HD rfl).1
  -- hops
  obtain⟨hv2,HE,gE,xE,hwE,_⟩:=Tv kD (m:=18014398509481984-1) U
  have hh0:(dM q)[0]? =some ((dM q)[0]' U):=aRW _
  obtain⟨fv,fw,hfe,hf1,hf2⟩:=Ty hck hh0;rw[hfe] at hh0;obtain⟨bh,oh,ha,_,hc'⟩:=hwE.rs.fS o7 hh0 .i64;have hd:=(hc' HE rfl).2.1 0 _ rfl;rw[Nat.add_zero] at hd;simp only[show((0:Nat):Int)=0 from rfl] at wa wa' ea ea' ha
  have zz1:((xs0[0]' U)==(xs0[0]' U))=true:=by simp
  have zz2:((q.weights[0]' U)==(q.weights[0]' U))=true:=by simp
  have zf:((fv:Int)!=77)=true:=by rw[bne_iff_ne];omega
  refine nQ (cH rfl) U ⟨HE,?_,trivial⟩
  rw[aQt];simp -implicitDefEqProofs only[gsR,g1,Bf,cp,l2,g3,E0,E1,z0,n2,g4,g5,cp5,g7,l10,lenN,q0,zN,i1,i4,len0,l8,lenW,q2,zL,l1,lenE,q1,lenEp,zE,lenH,Fo,m2,zH,a1,st8,l8',a2,st9,l9',a3,Nat.add_zero,stA,a4,stB,gC,cpC,m10,y6,y7,y8,y9,o10,v6,v7,v8,v9,zz1,m8,wa,wd,o8,wa',wd',zz2,m1,ea,ed,o1,ea',ed',aRM,gE,ha,hd,zf]
end
end Go.Proofs.YtkeilicinggjmaaGreatDoor
