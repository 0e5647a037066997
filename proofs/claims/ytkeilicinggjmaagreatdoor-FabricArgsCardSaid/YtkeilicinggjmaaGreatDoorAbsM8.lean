/-
  PARTS OF THIS CLAIM'S PROOF, laid together by a program of mine.
-/
import Derived.Test.YtkeilicinggjmaaGreatDoorAbsM7
set_option linter.unusedVariables false
set_option linter.unusedSimpArgs false
set_option linter.unusedSectionVars false
set_option maxRecDepth 100000
namespace Go.Proofs.YtkeilicinggjmaaGreatDoor
open Go.Proofs.Tryz
open Go.Abs Go.Abs.M
open Classical
section
variable {H0 H H' H1 : aF} {O : FP → Nat → Prop} {a : FL} {F : Nat → Part → Nat → Prop} {p : PlanD} {ev wv nv : Value} {t m : Nat} {s : FS}
theorem FabG.aRv (h:fE H0 H O a F p ev wv nv t s){b0:Nat}(hb:b0<H0.length)(x:Blk)(hp:PV (H0.set b0 x) p ev wv nv):fE (H0.set b0 x) (H.set b0 x) O a F p ev wv nv t s:=by
 have hk: ∀i b,O i b->(H.set b0 x)[b]? =H[b]? :=λi b ho=>aRV λhh=>by have:=h.own.old i b ho;omega
 have hl:(H.set b0 x).length=H.length:=List.length_set;have hl0:(H0.set b0 x).length=H0.length:=List.length_set;have hx:Ext (H0.set b0 x) (H.set b0 x):=⟨by rw[hl,hl0];exact h.own.ext.1,λb hb' _=>by
  rw[hl0] at hb';by_cases hbb:b0=b
  ·subst hbb
   rw[aR0 hb,aR0 (aR9 hb h.own.ext.1)]
  ·rw[aRV hbb,aRV hbb,h.own.ext.2 b hb' id]⟩
 refine⟨h.ok,hp,⟨h.own.dis,λi b ho=>by rw[hl];exact h.own.lt i b ho,λi b ho=>by rw[hl0];exact h.own.old i b ho,hx⟩,h.cst.Jz (λb ho=>⟨hk _ b ho,ho⟩) (λb ho=>⟨hk _ b ho,ho⟩),λv hv=> ?_,h.nodeO,λk hk'=>(h.link k hk').Ae (λb ho=>hk _ b ho) U⟩
 have hn:=h.node v hv;exact {hn with ext:=hx,plan:=hp,old:=λb ho=>by rw[hl0];exact hn.old b ho,sep:=⟨λi=>(hn.sep.own i).Cv (vJ _ _ _ _ _ _ _ i) U λb ho=>hk _ b (h.nodeO v hv b ⟨i,ho⟩),hn.sep.sep⟩}
theorem aRy (x:Pkt)(s:FS)(h:p.nodes<=x.src):(qC p x s).1=1:=by
 unfold qC;rw[if_neg U]
theorem aRx (x:Pkt)(s:FS)(hn:0<p.nodes)(h0:x.src=0)(h:p.nodes<=x.dst):(qC p x s).1=1:=by
 unfold qC;rw[h0,if_pos U]
 simp only;unfold tX;rw[if_pos (.inr (.inr (.inl (by show((p.nodes.toNat:Nat):Int)<=x.dst;omega))))]
theorem aRz (x:Pkt)(s:FS)(hn:0<p.nodes)(hl:0<=p.lanes)(h0:x.src=0)(h:p.lanes<=x.lane):(qC p x s).1=1:=by
 unfold qC;rw[h0,if_pos U]
 simp only;unfold tX s9;split
 ·rfl
 ·rw[if_pos (by show¬(0<=x.lane/\x.lane<((p.lanes.toNat:Nat):Int));omega)]
theorem El (x:Pkt)(y:Pkt){G:aF}{b j:Nat}(hb:G[b]? =some (dK x))(z:Int)(hj:j<3)(hy:x.oD.set j (.I z)=y.oD):stN 1 (.Q b j) (.I z) G=some (undef,G.set b (dK y)):=by
 rw[lN hb aC (by show j<4;omega),hy]
 rfl
theorem aDD (x:Pkt)(G:aF):stN 4 (.pointer (some ⟨G.length,0,none⟩)) x.dN (G++[Blk.cells [Value.int .i64 0,.int .i64 0,.int .i64 0,.int .u32 0] 54 .fix])=some (undef,G++[dK x]):=by
 rw[wD (n:=4) (vs:=x.oD) (eD G _) aC rfl rfl (aRZ 4) rfl,mW]
 rfl
theorem aRw {cv:Value}{c:List Nat}(hc:Us H cv c)(hu8: ∀x∈c,x<256)(hl:c.length<=72057594037927936)(room more far:Nat)(h2:room<256)(h3:more<256)(h4:far<256)(x:Pkt)(hb:0<=x.body/\x.body<4294967296):
    ∃H',lvl prog cN 18014398509481984 (.func 9) [cv,.int .u8 room,.int .u8 more,.int .u8 far,x.dN] H=some (.bool true,H')/\True:=by
  obtain⟨H1,hH1⟩:=aD (H++[dK x]);have x1:Ext H H1:=by rw[hH1];exact Fr.app _ _ _
  have b1:H1[H.length]? =some (dK x):=by rw[hH1];exact fA _ _
  have e1:H++[Blk.cells (Value.cells x.dN).toList 54 .fix]=H1:=by rw[hH1];rfl
  obtain⟨H2,ev,wv,nv,g2,x2,hp⟩:=Jp (hc.ext x1) hu8 hl room more 0 h2 h3 U (m:=18014398509481984-1) U U
  simp only[show((0:Nat):Int)=0 from rfl] at g2
  have hok:=Jq c room more 0;have hst0:(rO c room more 0).start=0:=rfl;obtain⟨q,hq⟩:=aD (rO c room more 0);rw[<-hq] at g2 hp hok hst0;have cp:=Dd hp H2;obtain⟨H3,hH3⟩:=aD (H2++[plB q ev wv nv]);rw[<-hH3] at cp;have x3:Ext H2 H3:=by rw[hH3];exact Fr.app _ _ _
  have b3:H3[H2.length]? =some (plB q ev wv nv):=by rw[hH3];exact fA _ _
  have l3:=lC b3;obtain⟨H4,u,g4,H0,O,a,F,e',w',n',rfl,xb,d4,hpg⟩:=J3 (hp.ext x3) hok (by rw[hst0];omega) (m:=18014398509481984-1) U U
  obtain⟨N,hN,hNe⟩:=d4.vN;have hn:=hN.hn;have hN2:=hN.h2;have hN6:=hN.h6;have hck:=d4.ok;have hlan:1<=q.lanes/\q.lanes<=3:=by
    unfold gY rZ wi at hck;simp only[aR2,decide_eq_true_eq] at hck;omega
  have E0:ext 0 (.tuple #[pt a.fb,.int .u16 0])=some (pt a.fb):=rfl;have E1:ext 1 (.tuple #[pt a.fb,.int .u16 0])=some (.int .u16 0):=rfl;have z0:((0:Int)!=0)=false:=rfl;have z1:((1:Int)==1)=true:=rfl;have z2:((0:Int)==0)=true:=rfl;have n2:=λa=>(sH 60 a (by kernel_rfl)).1
  have n1:=(sH 30 ⟨0,0,none⟩ (by kernel_rfl)).2
  have n3:=(sH 76 ⟨0,0,none⟩ (by kernel_rfl)).2
  obtain⟨H5,g5,x5⟩:=T6 (H:=H4) (18014398509481984-1) U U
  have d5:=d4.nB x5;have hb1:=dO b1;have hb2:=x2.1;have hb3:=x3.1;have hb0:H.length<H3.length:=U
  have b5:H5[H2.length]? =some (plB q ev wv nv):=eS (eS b3 xb) d5.own.ext;have l5:=eC b5 0 (.I q.nodes) rfl;have cf:=λG=>cvU G far h4
  have ha:IntKind.i64.wrap (q.nodes+(far:Int))=q.nodes+far:=dL U U
  -- the first packet
  obtain⟨xa,hxa⟩: ∃xa:Pkt,xa={x with src:=q.nodes+far}:=⟨_,rfl⟩;have p5:H5[H.length]? =some (dK x):=eS (eS (eS (eS b1 x2) x3) xb) d5.own.ext;have s5:=El x xa (j:=0) p5 (q.nodes+far) U (by rw[hxa];rfl)
  have d6:=d5.aRv (b0:=H.length) (aR9 hb0 xb.1) (dK xa) (hpg _ λb hbb=>aRV U)
  obtain⟨H6,hH6⟩:=aD (H5.set H.length (dK xa));obtain⟨HB,hHB⟩:=aD (H0.set H.length (dK xa));rw[<-hH6,<-hHB] at d6;rw[<-hH6] at s5;have bB:HB[H2.length]? =some (plB q ev wv nv):=by
    rw[hHB,aRV U]
    exact eS b3 xb
  have p6:H6[H.length]? =some (dK xa):=by rw[hH6];exact fW p5
  have l6:ldN 4 (.Q H.length 0) H6=some (xa.dN,H6):=rG p6 (aRZ 4)
  -- the second
  obtain⟨xy,hxy⟩: ∃xy:Pkt,xy={xa with src:=0}:=⟨_,rfl⟩;obtain⟨y,hy⟩: ∃y:Pkt,y={xy with dst:=q.nodes+far}:=⟨_,rfl⟩;have c7:=aDD xa H6;have s7:stN 1 (.Q H6.length 0) (.I 0) (H6++[dK xa])=some (undef,H6++[dK xy]):=by rw[El xa xy (eD H6 _) 0 U (by rw[hxy];rfl),mW]
  have s7':stN 1 (.Q H6.length 1) (.I (q.nodes+far)) (H6++[dK xy])=some (undef,H6++[dK y]):=by rw[El xy y (eD H6 _) (q.nodes+far) U (by rw[hy];rfl),mW]
  obtain⟨H7,hH7⟩:=aD (H6++[dK y]);rw[<-hH7] at s7';have x7:Ext H6 H7:=by rw[hH7];exact Fr.app _ _ _
  have p7:H7[H6.length]? =some (dK y):=by rw[hH7];exact fA _ _
  have l7:ldN 4 (.Q H6.length 0) H7=some (y.dN,H7):=rG p7 (aRZ 4);have d7:=d6.nB x7
  -- the third
  obtain⟨z,hz⟩: ∃z:Pkt,z={y with dst:=1}:=⟨_,rfl⟩;obtain⟨zl,hzl⟩: ∃zl:Pkt,zl={z with lane:=q.lanes+far}:=⟨_,rfl⟩;have c8:=aDD y H7;have s8:stN 1 (.Q H7.length 1) (.I 1) (H7++[dK y])=some (undef,H7++[dK z]):=by rw[El y z (eD H7 _) 1 U (by rw[hz];rfl),mW]
  have al:IntKind.i64.wrap (q.lanes+(far:Int))=q.lanes+far:=dL U U
  have s8':stN 1 (.Q H7.length 2) (.I (q.lanes+far)) (H7++[dK z])=some (undef,H7++[dK zl]):=by rw[El z zl (eD H7 _) (q.lanes+far) U (by rw[hzl];rfl),mW]
  have d8z:=d7.nB (Fr.app (λ_=>False) H7 [dK z])
  have l8:=eC (eS bB d8z.own.ext) 2 (.I q.lanes) rfl;obtain⟨H8,hH8⟩:=aD (H7++[dK zl]);rw[<-hH8] at s8';have x8:Ext H7 H8:=by rw[hH8];exact Fr.app _ _ _
  have p8:H8[H7.length]? =some (dK zl):=by rw[hH8];exact fA _ _
  have d8:=d7.nB x8;have l8x:ldN 4 (.pointer (some ⟨H.length,0,none⟩)) H8=some (xa.dN,H8):=rG (eS (eS p6 x7) x8) (aRZ 4);have un8: ∀b,H6.length<=b-> ∀i,¬O i b:=λb hb i ho=>by have:=d6.own.lt i b ho;omega
  have lt8:H7.length<H8.length:=by rw[hH8];simp
  have lt7:H6.length<H7.length:=by rw[hH7];simp
  -- they are refused
  obtain⟨H9,O9,F9,g9,d9,r9⟩:=J0 d8 (m:=18014398509481984-1) U xa (by rw[hxa];exact hb)
  rw[aRy xa _ (by rw[hxa];show q.nodes<=q.nodes+far;omega)] at g9
  obtain⟨k1,k2⟩:=r9 H6.length U (un8 _ (aRZ _))
  obtain⟨k3,k4⟩:=r9 H7.length lt8 (un8 _ U)
  have p9:H9[H6.length]? =some (dK y):=by rw[k1,eS p7 x8]
  have l9:ldN 4 (.Q H6.length 0) H9=some (y.dN,H9):=rG p9 (aRZ 4);have p9z:H9[H7.length]? =some (dK zl):=by rw[k3,p8]
  have lt9:=dO p9z;obtain⟨HA,OA,FA,gA,dA,rA⟩:=J0 d9 (m:=18014398509481984-1) U y (by rw[hy,hxy,hxa];exact hb)
  rw[aRx y _ U (by rw[hy,hxy]) (by rw[hy];show q.nodes<=q.nodes+far;omega)] at gA
  have pAz:HA[H7.length]? =some (dK zl):=by rw[(rA H7.length lt9 k4).1,p9z]
  have lA:ldN 4 (.Q H7.length 0) HA=some (zl.dN,HA):=rG pAz (aRZ 4);obtain⟨HC,OC,FC,gC,dC,_⟩:=J0 dA (m:=18014398509481984-1) U zl (by rw[hzl,hz,hy,hxy,hxa];exact hb)
  rw[aRz zl _ U U (by rw[hzl,hz,hy,hxy]) (by rw[hzl];show q.lanes<=q.lanes+far;omega)] at gC
  simp only[show((1:Nat):Int)=1 from rfl] at g9 gA gC
  -- nothing is there
  obtain⟨sC,hsC⟩:=aD ((qC q zl (qC q y (qC q xa (FS.vL (eJ q))).2).2).2);rw[<-hsC] at dC;have hlk: ∀(x:Pkt)(s:FS),(qC q x s).2.l=s.l:=λx s=>by unfold qC;split<;>rfl
  have hsl:sC.l 0=[]:=by rw[hsC,hlk,hlk,hlk];rfl
  obtain⟨HD,OD,FD,sD,gD,dD⟩: ∃HD OD FD sD,lvl prog pkN (18014398509481984-1) (.func 29) [pt a.fb,.I 0,.I 0] HC=some (.int .u16 1,HD)/\fE HB HD OD a FD q e' w' n' (0+1) sD:=by
    by_cases h0:0<(dM q).length
    · obtain⟨HD,OD,FD,gD,dD⟩:=aDB dC U (m:=18014398509481984-1) U 0 0 h0
      have:(yB (eJ q) 0 0 sC).1=1:=by
        unfold yB;rw[hsl];rfl
      rw[this] at gD
      exact⟨HD,OD,FD,_,gD,dD⟩
    · exact⟨HC,OC,FC,sC,Tw dC (m:=18014398509481984-1) U 0 0 (.inr U),dC.Ek U⟩
  have gE:=Tw dD (m:=18014398509481984-1) U (-1) 0 (.inl U)
  have gF:=Af dD (m:=18014398509481984-1) U (q.nodes+far)
  have vF:qV q a (q.nodes+far)= .pointer none:=if_neg U
  rw[vF] at gF;have gG:=Af dD (m:=18014398509481984-1) U (-1)
  have vG:qV q a (-1)= .pointer none:=if_neg U
  rw[vG] at gG;have lE:=eC (eS bB dD.own.ext) 1 ev rfl;have hE15:=hN.e15;have lenE:=hp.e.gW;have hH2:(dM q).length=2*q.edges.length:=by
    rw[(xK hN).2,Nv hN.ve hN6];exact Nz _ hN.ve.ok
  have m2:IntKind.i64.wrap (2*(q.edges.length:Int))=2*q.edges.length:=dL U U
  have aE:IntKind.i64.wrap (2*(q.edges.length:Int)+far)=2*q.edges.length+far:=dL U U
  have gH:=B6 dD (m:=18014398509481984-1) U (2*q.edges.length+far)
  have vH:tJ q a (2*q.edges.length+far)= .pointer none:=if_neg U
  rw[vH] at gH;obtain⟨HK,gv,gI,xI,qI,_⟩:=Tu dD U (m:=18014398509481984-1) U (q.nodes+far)
  have vI:Ag q (q.nodes+far) sD=[]:=if_neg U
  rw[vI] at qI;have lenI:aZ gv=some (.I 0):=qI.rs.gW;refine nQ (cH rfl) U ⟨HK,?_,trivial⟩
  rw[aQy];simp -implicitDefEqProofs only[gsR,e1,g2,Bf,cp,l3,g4,E0,E1,z0,n2,g5,l5,cf,cR,ha,s5,l6,c7,s7,s7',l7,c8,s8,l8,al,s8',l8x,g9,z1,l9,gA,lA,gC,gD,gE,gF,n1,gG,lE,lenE,Fo,m2,aE,gH,n3,gI,lenI,z2]
end
end Go.Proofs.YtkeilicinggjmaaGreatDoor
