/-
  PARTS OF THIS CLAIM'S PROOF, laid together by a program of mine.
-/
import Derived.Test.YtmimdleeihjdoaaGreatDoorAbsM6
import Derived.Test.YtmimdleeihjdoaaGreatDoorAbsM5
import Derived.Test.YtmimdleeihjdoaaGreatDoorAbsM4
import Derived.Test.YtmimdleeihjdoaaGreatDoorAbsM3
import Derived.Test.YtmimdleeihjdoaaGreatDoorAbsM2
import Derived.Test.YtmimdleeihjdoaaGreatDoorAbsM1
import Derived.Calls
import Derived.LoopN
import Derived.Orders
import Derived.Laws.Sem
import Derived.Laws.Tables
import Derived.Laws.Cells
import Derived.Laws.StructEq
import Derived.Laws.Append
import Derived.Laws.MakeOwn
import Derived.Laws.Slices
import Derived.Lib.UnsafeStr
import Derived.Laws.BytesString
import Derived.Laws.BytesArg
import Derived.Laws.Pointers
import Derived.Lib.SliceRun
import Derived.Laws.Cover3
import Derived.MapKept
import Derived.WideKeyRuns
import Derived.Scope
import Derived.Test.YtmimdleeihjdoaaGreatDoorProg
import Derived.KernelRfl
import Derived.ProofKit
import Derived.RowKit
import Derived.RowKit3
import Derived.ChangeSame
import Derived.Sort.Grow
import Derived.Ground.NamesProg
import Derived.Shelf.Sort.Plain
import Derived.Shelf.Slices.In.SortNone
import Derived.OpenShut
import Derived.Deep.Slices
import Derived.SizedLaws
set_option linter.unusedVariables false
set_option linter.unusedSimpArgs false
set_option linter.unusedSectionVars false
set_option maxRecDepth 100000
namespace Go.Proofs.YtmimdleeihjdoaaGreatDoor
open Go.Proofs.Tryz
open Go.Abs
open Classical
theorem zI (H:aC):H++[Blk.cells [Value.int .i64 0,.int .i64 0,.int .i64 0,.int .u32 0] 31 .fix]=H++[dS pk0]:=rfl
theorem O8 (H:aC)(x:Pkt):stN 4 (.pointer (some ⟨H.length,0,none⟩)) x.dG (H++[dS pk0])=some (undef,H++[dS x]):=by rw[Fy x (dK _ _),nL]
theorem aMy {c:Cfg}{t:Nat}{s:NS}(h:NInv c t s)(k:Int):NInv c t {s with hL:=q8 s.hL k}:=by
 refine {h with hL:=λx hx=>h.hL x (Yl hx),hQ:=λj=> ?_}
 have e:=Fm s.hL k j
 show(fP (q8 s.hL k) j).length<=c.queue
 rw[e];by_cases hj:j=k
 ·rw[if_pos hj,List.length_tail]
  have:=h.hQ k;omega
 ·rw[if_neg hj]
  exact h.hQ j
section
variable {H0 H : aC} {F : Part → Nat → Prop} {y : Lay} {p : PlanD} {ev wv nv : Value} {c : Cfg} {t : Nat} {s : NS} {m : Nat}
theorem aMw {K:Ex->K (Value×aC)}{Q:aC->Value->Prop}{k:Nat}(hk:k<c.lanes)(hm:200<m)(h:NodeAt H0 H F y p ev wv nv c t s)
  (hK: ∀H' F',NodeAt H0 H' F' y p ev wv nv c t (oI c s k)->Mv (Un F) (Un F') H H'-> ∀(x1 x2 x3 x4 x5 x6 x7 x8 x9 bK aN aM aP aZ bG aQ bC bJ bL bI bE aS aT aU aV aW aX aY bA bB bN bO bP bQ bR bS bT bU bV bY cE cG cH cL cQ cU cV cM cN cO cR cY cW cX cZ dD dH dE dI:Value),∃H2 r,K .normal [(pt y.nb),x1,x2,x3,x4,x5,x6,x7,x8,x9,bK,(.int .i64 c.lanes),(.int .i64 (k+1:Nat)),aN,aM,aP,aZ,bG,aQ,bC,bJ,bL,bI,bE,aS,aT,aU,aV,aW,aX,aY,bA,bB,bN,bO,bP,bQ,bR,bS,bT,bU,bV,bY,cE,cG,cH,cL,cQ,cU,cV,cM,cN,cO,cR,cY,cW,cX,cZ,dD,dH,dE,dI] H'=some (r,H2)/\Q H2 r):
  ∀(x1 x4 x5 x6 x7 x8 x9 bK aN aM aP aZ bG aQ bC bJ bL bI bE aS aT aU aV aW aX aY bA bB bN bO bP bQ bR bS bT bU bV bY cE cG cH cL cQ cU cV cM cN cO cR cY cW cX cZ dD dH dE dI:Value),∃H2 r,Ff (lvl prog pkN m) (aI m) K (pt y.nb) x1 (.int .i64 (k:Nat)) (.int .i64 (yV c s.rL k:Nat)) x4 x5 x6 x7 x8 x9 bK (.int .i64 c.lanes) (.int .i64 (k:Nat)) aN aM aP aZ bG aQ bC bJ bL bI bE aS aT aU aV aW aX aY bA bB bN bO bP bQ bR bS bT bU bV bY cE cG cH cL cQ cU cV cM cN cO cR cY cW cX cZ dD dH dE dI H=some (r,H2)/\Q H2 r:=by
 intros;have h3:=h.ok.lanes.2;have e9:=oK k (by omega)
 have l4:=h.ld 4 (.int .i64 c.room) rfl;unfold Ff;by_cases c1:c.room<=yV c s.rL k
 ·have c1':decide ((c.room:Int)<=(yV c s.rL k:Nat))=true:=by rw[decide_eq_true_eq];omega
  have hr:oI c s k=s:=by unfold oI;rw[if_pos c1]
  rw[hr] at hK;simp -implicitDefEqProofs only[gsR,l4,c1',cI,e9];exact hK H F h (Mv.Tl _ _) ..
 ·have c1':decide ((c.room:Int)<=(yV c s.rL k:Nat))=false:=by rw[decide_eq_false_iff_not];omega
  have l14:=h.ld 14 (pt y.hb) rfl;obtain⟨r,H1,F1,n1,n2,n3⟩:=(h.sep.own .host).yI rR (n:=m) (λD hD=>aMt (m:=m) (by omega) hk hD)
  obtain⟨hrv,_⟩:=n2.at_;rw[hrv] at n1;cases hw:fP s.hL k with
  |nil=>
   have hr:oI c s k=s:=by unfold oI;rw[if_neg c1,hw]
   rw[hr] at hK;have hnl:xG s.hL k=s.hL:=by unfold xG;rw[if_pos hw]
   obtain⟨g1,mv1⟩:=h.Gj (L:=s.hL) (G:=s.hG) (Has.vL n2 λD hD=>by rw[<-hnl];exact hD.2) n3 h.inv
   rw[hw] at n1;have n1:lvl prog pkN m (.func 176) [pt y.hb,.int .i64 k] H=some (.tuple #[pk0.dG,.bool false],H1):=n1;have x2:Ext H1 (H1++[dS pk0]):=Fr.app _ _ _;simp -implicitDefEqProofs only[gsR,l4,c1',l14,n1,pE,zI,O8,cI,e9];exact hK (H1++[dS pk0]) _ (g1.fR x2) (mv1.pL (Mv.pK x2 _)) ..
  |cons x xs=>
   have hr:oI c s k={s with hL:=q8 s.hL k,rL:=s9 c s.rL (0,(c.port x.dst.toNat:Int),k) x}:=by unfold oI;rw[if_neg c1,hw]
   have hinv:=h.inv.aJ5 h.ok k;rw[hr] at hK hinv;have hnl:xG s.hL k=q8 s.hL k:=by unfold xG;rw[if_neg (by rw[hw];simp)]
   obtain⟨g1,mv1⟩:=h.Gj (L:=q8 s.hL k) (G:=s.hG) (Has.vL n2 λD hD=>by rw[<-hnl];exact hD.2) n3 (aMy h.inv k)
   rw[hw] at n1;have n1:lvl prog pkN m (.func 176) [pt y.hb,.int .i64 k] H=some (.tuple #[x.dG,.bool true],H1):=n1;obtain⟨H2,hH2⟩: ∃H2,H2=H1++[dS x]:=⟨_,rfl⟩;have x2:Ext H1 H2:=by rw[hH2];exact Fr.app _ _ _
   have g2:=g1.fR x2;have b2:H2[H1.length]? =some (dS x):=by rw[hH2];exact dK _ _
   have hxm:x∈s.hL:=by
    have:x∈fP s.hL k:=by rw[hw];exact aOf ..
    exact(List.mem_filter.mp this).1
   have hxd:=(h.inv.hL x hxm).dst;obtain⟨d,hd⟩: ∃d:Nat,x.dst=d:=⟨x.dst.toNat,by omega⟩
   have hdt:x.dst.toNat=d:=by omega
   rw[hdt] at hK hinv;have q1:ld1 (.pointer (some ⟨H1.length,1,none⟩)) H2=some (.int .i64 d,H2):=cT b2 (by rw[<-hd];rfl)
   have l15:=g2.ld 15 (pt y.rg) rfl;obtain⟨H3,t1,x3⟩:=aAf g2 (m:=m) (by omega) d (by omega)
   have g3:=g2.fR x3;have l15':=g3.ld 15 (pt y.rg) rfl;have b3:H3[H1.length]? =some (dS x):=by rw[x3.2 _ (dC b2) id,b2]
   have q3:=(pR b3).2;have q3':=(pR b2).2;obtain⟨r',H4,F4,p1,p2,p3⟩:=(g3.sep.own .rings).yI rR (n:=m) (λD hD=>Zh (m:=m) hD (by omega) (0,(c.port d:Int),(k:Int)) x)
   obtain⟨g4,mv4⟩:=g3.O6 (L:=s9 c s.rL (0,(c.port d:Int),k) x) p2 p3 hinv;have p1:lvl prog pkN m (.func 177) [pt y.rg,.int .i64 0,.int .i64 (c.port d:Nat),.int .i64 k,x.dG] H3=some (r',H4):=p1;simp -implicitDefEqProofs only[gsR,l4,c1',l14,n1,pE,zI,O8,<-hH2,l15,q1,t1,l15',vM,q3,q3',aAi,p1,cI,e9];exact hK H4 _ g4 ((mv1.pL (Mv.pK (x2.tr x3) _)).pL mv4) ..
theorem aMx {Hs:aC}{Fs:Part->Nat->Prop}{s0:NS}(h3:c.lanes<=3)(hm:300<m)(h6:c.aH<=6):
  ∀(q k l:Nat)(H:aC)(F:Part->Nat->Prop),c.lanes-k=q->k<=c.lanes->q<l->NodeAt H0 H F y p ev wv nv c t ((List.range k).foldl (oI c) s0)->Mv (Un Fs) (Un F) Hs H-> ∀(x1 x2 x3 x4 x5 x6 x7 x8 x9 bK aN aM aP aZ bG aQ bC bJ bL bI bE aS aT aU aV aW aX aY bA bB bN bO bP bQ bR bS bT bU bV bY cE cG cH cL cQ cU cV cM cN cO cR cY cW cX cZ dD dH dE dI:Value),
  ∃H2 r,aI l (aK prog (lvl prog pkN m) (aI m) Na) (Nc (lvl prog pkN m) (aI m)) [(pt y.nb),x1,x2,x3,x4,x5,x6,x7,x8,x9,bK,(.int .i64 c.lanes),(.int .i64 (k:Nat)),aN,aM,aP,aZ,bG,aQ,bC,bJ,bL,bI,bE,aS,aT,aU,aV,aW,aX,aY,bA,bB,bN,bO,bP,bQ,bR,bS,bT,bU,bV,bY,cE,cG,cH,cL,cQ,cU,cV,cM,cN,cO,cR,cY,cW,cX,cZ,dD,dH,dE,dI] H=some (r,H2)/\(r=aJ []/\ ∃F2,NodeAt H0 H2 F2 y p ev wv nv c t (wT c s0)/\Mv (Un Fs) (Un F2) Hs H2):=by
 intro q;induction q with
 |zero=>
  intro k l H F hq hk hl h hmv;intros;obtain⟨l,rfl⟩: ∃l',l=l'+1:=⟨l-1,by omega⟩
  have hke:k=c.lanes:=by omega
  have c1:decide ((k:Int)<(c.lanes:Int))=false:=by rw[decide_eq_false_iff_not];omega
  rw[aI,Xo];simp -implicitDefEqProofs only[gsR,c1];rw[aJh];rw[hke] at h
  exact⟨_,_,rfl,rfl,F,h,hmv⟩
 |succ q ih=>
  intro k l H F hq hk hl h hmv;intros;obtain⟨l,rfl⟩: ∃l',l=l'+1:=⟨l-1,by omega⟩
  have hkl:k<c.lanes:=by omega
  have c1:decide ((k:Int)<(c.lanes:Int))=true:=by rw[decide_eq_true_eq];omega
  have l13:=h.ld 13 (iJ y c) rfl;have e1:bX (iJ y c)=some (.int .i64 c.aH):=rfl;rw[aI,Xo];simp -implicitDefEqProofs only[gsR,c1,l13,e1];refine aMs (kk:=k) (by omega) h ?_ c.aH 0 m (by omega) (by omega) (by omega) ..
  refine aMw hkl (by omega) h ?_
  intro H' F' h' hmv';intros;have hn:(List.range (k+1)).foldl (oI c) s0=oI c ((List.range k).foldl (oI c) s0) k:=by rw[aOG,List.foldl_append];rfl
  rw[<-hn] at h';exact ih (k+1) l H' F' (by omega) (by omega) (by omega) h' (hmv.pL hmv') ..
theorem aMv (h:NodeAt H0 H F y p ev wv nv c t s)(hm:400<m): ∃H2 F2,lvl prog pkN m (.func 98) [pt y.nb] H=some (aJ [],H2)/\NodeAt H0 H2 F2 y p ev wv nv c t (wT c s)/\Mv (Un F) (Un F2) H H2:=by
 have h6:c.aH<=6:=by have:=h.ok.by';unfold Cfg.aH;omega
 have main: ∃H2 r,lvl prog pkN m (.func 98) [pt y.nb] H=some (r,H2)/\(r=aJ []/\ ∃F2,NodeAt H0 H2 F2 y p ev wv nv c t (wT c s)/\Mv (Un F) (Un F2) H H2):=by
  refine iP (cJ rfl) (by omega) ?_
  rw[aJj];have l3:=h.ld 3 (.int .i64 c.lanes) rfl;simp -implicitDefEqProofs only[gsR,l3];exact aMx h.ok.lanes.2 (by omega) h6 c.lanes 0 (m-1) H F (by omega) (by omega) (by have:=h.ok.lanes;omega) h (Mv.Tl _ _) ..
 obtain⟨H2,r,g1,rfl,F2,g2,g3⟩:=main
 exact⟨H2,F2,g1,g2,g3⟩
end
def slV (v:Value):Value:=if dR [v]=true then v else .slice none 0 0
theorem aMH (v:Value):dR [slV v]=true:=by
 unfold slV;split
 ·assumption
 ·rfl
def tA (u:Nat×Value):List Value:=[.int .i64 u.1,slV u.2]
theorem aAr (u:Nat×Value):(tA u).length=2:=rfl
theorem aME (u:Nat×Value):dR (tA u)=true:=by
 have:=aMH u.2;unfold dR tA at*;simp only[List.all_cons,List.all_nil,Bool.and_true] at*;rw[this];rfl
theorem aMD {H:aC}{v:Value}{bs:List UInt8}(h:By H v bs):slV v=v/\dJ 75 2 1 [.int .i64 0,.slice none 0 0] [(0,.agg #[.int .i64 0,v])] []=some (.slice (some ⟨0,0,none⟩) 1 1,[Blk.cells [.int .i64 0,v] 75 .row]):=by
 obtain⟨_,⟨rfl,_⟩|⟨c,cap,rest,rfl,_⟩⟩:=h<;>exact⟨rfl,rfl⟩
theorem aMB {H:aC}{v:Value}{bs:List UInt8}(h:By H v bs)(to:Nat)(G:aC):dJ 75 2 1 [.int .i64 0,.slice none 0 0] [(0,.agg #[.int .i64 to,v])] G=some (.slice (some ⟨G.length,0,none⟩) 1 1,G++[.cells (tA (to,v)) 75 .row]):=by
 obtain⟨_,⟨rfl,_⟩|⟨c,cap,rest,rfl,_⟩⟩:=h<;>rfl
theorem aMC {H:aC}{v:Value}{bs:List UInt8}(h:By H v bs)(to:Nat):bld prog 75 [(0,.int .i64 to),(1,v)]=some (.agg #[.int .i64 to,v]):=by
 obtain⟨_,⟨rfl,_⟩|⟨c,cap,rest,rfl,_⟩⟩:=h<;>rfl
theorem Gk {α:Type}{el:α->List Value}{e:TypeId}{sz:Nat}{H:aC}{v:Value}{xs:List α}(h:Rw el e sz H v xs):v.cells.toList=[v]/\dR [v]=true:=by
 obtain⟨_,⟨rfl,_⟩|⟨c,cap,rest,rfl,_⟩⟩:=h<;>exact⟨rfl,rfl⟩
theorem aMG {α:Type}{el:α->List Value}{e:TypeId}{sz:Nat}{H:aC}{v:Value}{xs:List α}(h:Rw el e sz H v xs)(H':aC):chk (some (v,H')) v=true:=by
 obtain⟨_,⟨rfl,_⟩|⟨c,cap,rest,rfl,_⟩⟩:=h<;>simp[chk,veq]
def vN (v:Value):Blk:= .cells [v] 68 .fix
def pnB (nb:Nat):Blk:= .cells [pt nb] 58 .fix
def rW (vb cb:Nat):Value:= .func (.func 96) #[] #[pt vb,pt cb]
structure OutR (H:aC)(A:Nat->Prop)(v:Value)(us:List (Nat×Value))(outs:lI):Prop where
 rw_:Rw tA 75 2 H v us
 home: ∀b,cK v b->A b
 len:us.length=outs.length
 at_: ∀(i:Nat)(u:Nat×Value)(o:Nat×List UInt8),us[i]? =some u->outs[i]? =some o->u.1=o.1/\By H u.2 o.2/\ ∀b,Go.Abs.cK u.2 b->A b
structure TickS (H0 Hs H:aC)(Fs F:Part->Nat->Prop)(y:Lay)(p:PlanD)(ev wv nv:Value)(c:Cfg)(t:Nat)(s:NS)(vb cb:Nat)(outs:lI):Prop where
 node:NodeAt H0 H F y p ev wv nv c t s
 mv:Mv (Un Fs) (Un F) Hs H
 h0:H0.length<=Hs.length
 cell:H[cb]? =some (pnB y.nb)
 cbF: ¬Un F cb
 vbF: ¬Un F vb
 vb0:Hs.length<=vb
 rows: ∃v us,H[vb]? =some (vN v)/\OutR H (λb=>Hs.length<=b/\ ¬Un F b) v us outs
theorem OutR.aMA {H H':aC}{A A':Nat->Prop}{v:Value}{us:List (Nat×Value)}{outs:lI}(h:OutR H A v us outs)(hk: ∀b,b<H.length->A b->H'[b]? =H[b]? /\A' b):OutR H' A' v us outs where
 rw_:=h.rw_.gF λb hb=>(hk b (h.rw_.iO hb) (h.home b hb)).1
 home:=λb hb=>(hk b (h.rw_.iO hb) (h.home b hb)).2
 len:=h.len
 at_:=λi u o hu ho=>by
  obtain⟨g1,g2,g3⟩:=h.at_ i u o hu ho
  exact⟨g1,g2.gF λb hb=>(hk b (g2.iO hb) (g3 b hb)).1,λb hb=>(hk b (g2.iO hb) (g3 b hb)).2⟩
section
variable {H0 Hs H : aC} {Fs F : Part → Nat → Prop} {y : Lay} {p : PlanD} {ev wv nv : Value} {c : Cfg} {t : Nat} {s : NS} {m : Nat} {vb cb : Nat} {outs : lI}
theorem TickS.uB {H':aC}{F':Part->Nat->Prop}{t':Nat}{s':NS}(h:TickS H0 Hs H Fs F y p ev wv nv c t s vb cb outs)(hn:NodeAt H0 H' F' y p ev wv nv c t' s')(hm:Mv (Un F) (Un F') H H'):TickS H0 Hs H' Fs F' y p ev wv nv c t' s' vb cb outs:=by
 have key: ∀b,b<H.length-> ¬Un F b->H'[b]? =H[b]? /\ ¬Un F' b:=λb hb hF=>⟨hm.keep b hb hF,λhF'=>(hm.own b hF').elim hF λhl=>by omega⟩
 obtain⟨v,us,r1,r2⟩:=h.rows
 exact⟨hn,h.mv.pL hm,h.h0,by rw[(key cb (dC h.cell) h.cbF).1,h.cell],(key cb (dC h.cell) h.cbF).2,(key vb (dC r1) h.vbF).2,h.vb0,v,us,by rw[(key vb (dC r1) h.vbF).1,r1],
  r2.aMA λb hb hA=>⟨(key b hb hA.2).1,hA.1,(key b hb hA.2).2⟩⟩
theorem TickS.ext {H':aC}(h:TickS H0 Hs H Fs F y p ev wv nv c t s vb cb outs)(he:Ext H H'):TickS H0 Hs H' Fs F y p ev wv nv c t s vb cb outs:=h.uB (h.node.fR he) (Mv.pK he _)
theorem NodeAt.aMz {H':aC}{N:Nat->Prop}(h:NodeAt H0 H F y p ev wv nv c t s)(hf:Fr N H H')(hN: ∀b,N b-> ¬Un F b/\H0.length<=b):NodeAt H0 H' F y p ev wv nv c t s:=by
 have hm:Mv N N H H':=⟨hf.1,λ_ h=> .inl h,λb hb hn=>hf.2 b hb hn⟩
 refine {h with ext:=⟨aOm h.ext.1 hf.1,λa ha _=> ?_⟩,sep:=h.sep.wJ (zF _ _ _ _ _ _ _) hm λa ha hh=>(hN a hh).1 ha}
 rw[hf.2 a (aOl ha h.ext.1) (λhh=>by have:=(hN a hh).2;omega),h.ext.2 a ha id]
theorem aMF {n:Nat}(h:n<3000):jQ n 32=true:=kH (n:=3000) (by decide) (by omega)
theorem O9 (h:TickS H0 Hs H Fs F y p ev wv nv c t s vb cb outs)(hm:200<m){o:Nat}(ho:o<c.aH){f:Frm}(hf:f.ok)(hl:outs.length<1000):
  ∃H',n9 (lvl prog pkN m) (rW vb cb) [.int .i64 o,frV f] H=some (aJ [],H')/\TickS H0 Hs H' Fs F y p ev wv nv c t s vb cb (outs++[(kM c o,oH f)])/\
   ∀(b:Nat)(cs:List Value)(e:TypeId)(k:Kind),H[b]? =some (.cells cs e k)->e≠75->b≠vb->H'[b]? =some (.cells cs e k):=by
 show∃H',lvl prog pkN m (.func 96) [.int .i64 o,frV f,pt vb,pt cb] H=_/\_
 obtain⟨H1,hH1⟩: ∃H1,H1=H++[frB f]:=⟨_,rfl⟩;have x1:Ext H H1:=by rw[hH1];exact Fr.app _ _ _
 have e0:H++[Blk.cells (Value.cells (frV f)).toList 71 .fix]=H1:=by rw[hH1];rfl
 have b1:H1[H.length]? =some (frB f):=by rw[hH1];exact dK _ _
 have l6:=(mR b1).2.2.2.2.2.2;obtain⟨H2,w,n1,x2,n2,n3⟩:=aJK (H:=H1) (m:=m-1) (by omega) f hf
 have h2:=(h.ext x1).ext x2;obtain⟨v,us,r1,r2⟩:=h2.rows;have lv:ld1 (pt vb) H2=some (v,H2):=cT r1 rfl;have lc:ld1 (pt cb) H2=some (pt y.nb,H2):=cT h2.cell rfl;have l13:=h2.node.ld 13 (iJ y c) rfl;obtain⟨b,oo,a1,a2⟩:=h2.node.xA ho;obtain⟨_,a3,_,_⟩:=a2 _ (.inl h2.node);have eb:=aMC n2 (kM c o);have es:=aMB n2 (kM c o) H2;have hw:Rr tA 75 (H2++[.cells (tA (kM c o,w)) 75 .row]) (.slice (some ⟨H2.length,0,none⟩) 1 1) [(kM c o,w)]:=wG (el:=tA) _ H2;obtain⟨H3,hH3⟩: ∃H3,H3=H2++[Blk.cells (tA (kM c o,w)) 75 .row]:=⟨_,rfl⟩;have hul:us.length<1000:=by have:=r2.len;omega
 obtain⟨v',H4,k1,k2,k3,k4,k5⟩:=(r2.rw_.sP [Blk.cells (tA (kM c o,w)) 75 .row]).wH aAr aME (by decide) (by':=32) hw.rs (aMF (by show us.length+1<3000;omega))
 rw[<-hH3] at k1 k3 k4 k5 es;have h3l:H3.length=H2.length+1:=by rw[hH3];simp
 have hvb:vb<H2.length:=dC r1;have hvh: ¬cK v vb:=λhh=>by
  obtain⟨cs,hc⟩:=r2.rw_.blk hh;rw[r1] at hc;injection hc with hc;injection hc with _ h2 _
  revert h2
  decide
 have r4:H4[vb]? =some (vN v):=by
  rw[k4 vb (by omega) hvh,hH3,aN9 hvb,r1]
 have sh:=Gk k2;have st:stN 1 (pt vb) v' H4=some (undef,H4.set vb (vN v')):=sY r4 (by decide) (by simp) sh.1 sh.2
 refine k8 (cJ rfl) (by omega) ⟨H4.set vb (vN v'),?_,?_,?_⟩
 ·rw[aJf]
  simp -implicitDefEqProofs only[gsR,Nat.add_zero,e0,l6,n1,pE,lv,lc,l13,a1,a3,eb,es,k1,st]
 ·have hfr:Fr (λb=>b=vb∨cK v b) H2 (H4.set vb (vN v')):=⟨by simp;omega,λb hb hn=>by
   rw[aN7 (λhh=>hn (.inl hh.symm)),k4 b (by omega) (λhh=>hn (.inr hh)),hH3,aN9 hb]⟩
  have hN: ∀b,(b=vb∨cK v b)-> ¬Un F b/\Hs.length<=b:=λb hb=>by
   rcases hb with rfl|hb
   ·exact⟨h2.vbF,h2.vb0⟩
   ·exact⟨(r2.home b hb).2,(r2.home b hb).1⟩
  have hnF: ∀b,H2.length<=b-> ¬Un F b:=λb hb hu=>by have:=h2.node.sep.pM b hu;omega
  have hs2:=h2.mv.le;refine⟨h2.node.aMz hfr λb hb=>⟨(hN b hb).1,aOm h2.h0 (hN b hb).2⟩,⟨aOm hs2 hfr.1,h2.mv.own,λb hb hF=> ?_⟩,h2.h0,?_,h2.cbF,h2.vbF,h2.vb0,v',us++[(kM c o,w)],iT r4,?_⟩
  ·rw[hfr.2 b (aOl hb hs2) (λhh=>by have:=(hN b hh).2;omega),h2.mv.keep b hb hF]
  ·rw[hfr.2 cb (dC h2.cell) (λhh=> ?_),h2.cell]
   rcases hh with hh|hh
   ·have:=h2.cell
    rw[hh,r1] at this;injection this with this;injection this with _ h2 _
    revert h2
    decide
   ·obtain⟨cs,hc⟩:=r2.rw_.blk hh
    rw[h2.cell] at hc;injection hc with hc;injection hc with _ h2 _
    revert h2
    decide
  ·have hv'vb: ¬cK v' vb:=λhh=>by
    rcases k5 vb hh with hh|hh
    ·exact hvh hh
    ·omega
   have keepB: ∀(bv:Value)(bs:List UInt8),By H2 bv bs->By (H4.set vb (vN v')) bv bs:=λbv bs hb=>hb.gF λb hhb=>hfr.2 b (hb.iO hhb) λhh=>by
    obtain⟨cs,hc⟩:=hb.blk hhb;rcases hh with rfl|hh
    ·rw[r1] at hc
     injection hc with hc;injection hc with _ h2 _
     revert h2
     decide
    ·obtain⟨cs',hc'⟩:=r2.rw_.blk hh
     rw[hc] at hc';injection hc' with hc';injection hc' with _ h2 _
     revert h2
     decide
   refine⟨k2.gF λb hb=>aN7 λhh=>hv'vb (by rw[hh];exact hb),λb hb=> ?_,by simp[r2.len],λi u oo hu hoo=> ?_⟩
   ·rcases k5 b hb with hh|hh
    ·exact r2.home b hh
    ·exact⟨by omega,hnF b (by omega)⟩
   ·by_cases hi:i<us.length
    ·rw[aN9 hi] at hu
     rw[aN9 (by rw[<-r2.len];exact hi)] at hoo
     obtain⟨g1,g2,g3⟩:=r2.at_ i u oo hu hoo
     exact⟨g1,keepB _ _ g2,g3⟩
    ·have hi2:i=us.length:=by
      have:=(aN6.mp hu).1;simp at this;omega
     subst hi2;rw[aOr (aOb _),Nat.sub_self] at hu;rw[aOr (by rw[r2.len];exact aOb _),r2.len,Nat.sub_self] at hoo
     simp only[List.getElem?_cons_zero,aOy] at hu hoo;subst hu hoo;refine⟨rfl,keepB _ _ n2,λb hb=> ?_⟩
     have hbn:=n3 b hb;have hsb:Hs.length<=b:=by
      have:=h.mv.le;have:=x1.1;omega
     refine⟨hsb,λhu=> ?_⟩
     have:=h.node.sep.pM b hu;have:=x1.1;omega
 ·intro b cs e k hb hne hbv
  have hb2:H2[b]? =some (.cells cs e k):=by rw[(x1.tr x2).2 _ (dC hb) id,hb]
  rw[aN7 (λhh=>hbv hh.symm),k4 b (by rw[h3l];have:=dC hb2;omega) (λhh=> ?_),hH3,aN9 (dC hb2),hb2]
  obtain⟨cs',hc'⟩:=r2.rw_.blk hh;rw[hb2] at hc';injection hc' with hc';injection hc' with _ h2 _;exact hne h2
end
theorem aMM {W:List Int}{x w:Whl}{may:Nat->Bool}(h:k9 W x may=(none,w)):w=x:=by
 unfold k9 at h
 split at h
 ·split at h
  ·cases h
  ·cases h;rfl
 ·cases h;rfl
theorem aML {α:Type}(f:Nat->α)(i:Nat):up1 f i (f i)=f:=by
 funext j
 unfold up1;split
 ·rename_i h
  rw[h]
 ·rfl
theorem Cf (y:Lay)(c:Cfg)(H':aC):chk (some (iJ y c,H')) (iJ y c)=true:=by simp[chk,veq,iJ]
section
variable {H0 Hs H : aC} {Fs F : Part → Nat → Prop} {y : Lay} {p : PlanD} {ev wv nv : Value} {c : Cfg} {t : Nat} {s : NS} {m : Nat} {vb cb : Nat} {outs : lI}
theorem NodeAt.aMI {H':aC}{t' o:Nat}{x':Whl}(h:NodeAt H0 H F y p ev wv nv c t s)(ho:o<c.aH)(hf:Fr (λb=>b=y.wh o∨b=y.wl o) H H')(hB:Blks (lK (y.wh o) (y.ww o) (y.wl o) (y.wc o) (y.lc o) (y.wr o) (y.lr o) c.weights x') H')(hi:NInv c t' {s with whl:=up1 s.whl o x'}):
  NodeAt H0 H' F y p ev wv nv c t' {s with whl:=up1 s.whl o x'}/\Mv (Un F) (Un F) H H':=by
 refine h.B7 (.whl o) (l:=lK (y.wh o) (y.ww o) (y.wl o) (y.wc o) (y.lc o) (y.wr o) (y.lr o) c.weights (s.whl o)) (l':=lK (y.wh o) (y.ww o) (y.wl o) (y.wc o) (y.lc o) (y.wr o) (y.lr o) c.weights x') (by simp only[lM];rw[if_pos ho]) Z9 ?_ ?_ hB hi ?_ ?_
 ·intro q hq
  simp only[lK,aOq,aOx,or_false] at hq;rcases hq with rfl|rfl|rfl
  ·exact⟨_,aOf ..,rfl⟩
  ·exact⟨_,aOn _ (aOf ..),rfl⟩
  ·exact⟨_,aOn _ (aOn _ (aOf ..)),rfl⟩
 ·refine hf.Ay λb hb=> ?_
  rcases hb with rfl|rfl
  ·exact⟨_,aOf ..,rfl⟩
  ·exact⟨_,aOn _ (aOn _ (aOf ..)),rfl⟩
 ·have e:up1 s.whl o x' o=x':=if_pos rfl
  simp only[lM];rw[if_pos ho,e]
 ·intro j hj
  cases j with
  |whl i'=>
   have e:up1 s.whl o x' i'=s.whl i':=if_neg λhh=>hj (by rw[hh])
   simp only[lM];rw[e]
  |_=>rfl
theorem aMN (h:NodeAt H0 H F y p ev wv nv c t s)(hm:30<m){i o:Nat}(ho:o<c.aH)(hi:NInv c (t+1) {s with whl:=up1 s.whl o (k9 c.weights (s.whl o) (iX c s i o)).2}):
  ∃H',lvl prog pkN m (.func 184) [pt (y.wh o),.int .u16 (dB (iX c s i o) c.lanes:Nat)] H=some (pD (k9 c.weights (s.whl o) (iX c s i o)).1,H')/\NodeAt H0 H' F y p ev wv nv c (t+1) {s with whl:=up1 s.whl o (k9 c.weights (s.whl o) (iX c s i o)).2}/\Mv (Un F) (Un F) H H':=by
 have hw:=h.ok.wlen;have hl:=h.ok.lanes;have hx:=h.inv.whl o;rw[<-hw] at hx;obtain⟨H',g1,g2,g3⟩:=aLH (m:=m) (by omega) (h.aLT ho) (h.lay.ww o ho) hx (λy hy=>by have:=h.ok.wts y hy;omega) (by omega) (by omega) (dB (iX c s i o) c.lanes) (rB _ (by omega))
 have hc:k9 c.weights (s.whl o) (λj=>(dB (iX c s i o) c.lanes).testBit j)=k9 c.weights (s.whl o) (iX c s i o):=aLD λj hj=>by
  rw[lA,aOQ (by omega),aOu]
 rw[hc] at g1 g3;obtain⟨k1,k2⟩:=h.aMI ho g2 g3 hi
 exact⟨H',g1,k1,k2⟩
theorem aMK (h:NodeAt H0 H F y p ev wv nv c t s)(hm:100<m)(i o k:Nat)(hi:NInv c t {s with rL:=oY s.rL ((i:Int),(o:Int),(k:Int))}):
  ∃H' F',lvl prog pkN m (.func 185) [pt y.rg,.int .i64 i,.int .i64 o,.int .i64 k] H=some (Rg.tV (pC s.rL ((i:Int),(o:Int),(k:Int))),H')/\NodeAt H0 H' F' y p ev wv nv c t {s with rL:=oY s.rL ((i:Int),(o:Int),(k:Int))}/\Mv (Un F) (Un F') H H':=by
 obtain⟨r,H',F',p1,p2,p3⟩:=(h.sep.own .rings).yI rR (n:=m) (B:=λr D'=>r=Rg.tV (pC s.rL ((i:Int),(o:Int),(k:Int)))/\RingsN D' y.rg (oY s.rL ((i:Int),(o:Int),(k:Int))) (c.aH*c.lanes*c.room) c.aH c.lanes) (λD hD=>by
  obtain⟨D',g1,g2⟩:=aK6 (m:=m) hD (by omega) i o k
  exact⟨_,D',g1,rfl,g2⟩)
 obtain⟨hr,_⟩:=p2.at_;rw[hr] at p1;obtain⟨g4,mv4⟩:=h.O6 (Has.vL p2 λD hD=>hD.2) p3 hi
 exact⟨H',_,p1,g4,mv4⟩
theorem aMJ (h:NodeAt H0 H F y p ev wv nv c t s)(hm:10<m)(x:Pkt)(hl:s.hG.length<1000000000)(hi:NInv c t {s with hG:=s.hG++[x]}):
  ∃H' F',lvl prog pkN m (.func 187) [pt y.hb,x.dG] H=some (aJ [],H')/\NodeAt H0 H' F' y p ev wv nv c t {s with hG:=s.hG++[x]}/\Mv (Un F) (Un F') H H':=by
 obtain⟨r,H',F',p1,p2,p3⟩:=(h.sep.own .host).yI rR (n:=m) (B:=λr D'=>r=aJ []/\HostAt D' y.hb s.hL (s.hG++[x]) c.lanes c.queue) (λD hD=>by
  obtain⟨w0,w1,w2,cv,hI⟩:=hD;obtain⟨D',g1,g2⟩:=aJ2 hI (m:=m) (by omega) x (kH (n:=1000000001) (by decide) (by omega))
  exact⟨_,D',g1,rfl,g2⟩)
 obtain⟨hr,_⟩:=p2.at_;rw[hr] at p1;obtain⟨g4,mv4⟩:=h.Gj (L:=s.hL) (Has.vL p2 λD hD=>hD.2) p3 hi
 exact⟨H',_,p1,g4,mv4⟩
end
section
variable {H0 Hs H : aC} {Fs F : Part → Nat → Prop} {y : Lay} {p : PlanD} {ev wv nv : Value} {c : Cfg} {t : Nat} {s : NS} {m : Nat} {vb cb : Nat} {outs : lI}
def Pa (s:NS)(o k:Nat)(x:Pkt):Frm:=⟨1,k,(s.snd o k).oF.1%65536,(x.src%256).toNat,(x.dst%256).toNat,x.body.toNat⟩
theorem aMQ (s:NS)(o k:Nat)(x:Pkt)(hk:k<3)(hb:0<=x.body/\x.body<4294967296):(Pa s o k x).ok where
 kind:=by show 1<256;decide
 lane:=by show k<256;omega
 seq:=Nat.mod_lt _ (by decide)
 src:=by show(x.src%256).toNat<256;omega
 dst:=by show(x.dst%256).toNat<256;omega
 body:=by show x.body.toNat<4294967296;omega
theorem aMP (s:NS)(o k:Nat)(x:Pkt)(hb:0<=x.body)(hk:k<3):
  bld prog 71 [(0,.int .u8 1),(1,.int .u8 k),(2,.int .u16 ((s.snd o k).oF.1%65536:Nat)),(3,.int .u8 (x.src%256)),(4,.int .u8 (x.dst%256)),(5,.int .u32 x.body)]=some (frV (Pa s o k x)):=by
 have e1:(((x.src%256).toNat:Nat):Int)=x.src%256:=Int.toNat_of_nonneg (Int.emod_nonneg _ (by decide))
 have e2:(((x.dst%256).toNat:Nat):Int)=x.dst%256:=Int.toNat_of_nonneg (Int.emod_nonneg _ (by decide))
 have e3:((x.body.toNat:Nat):Int)=x.body:=Int.toNat_of_nonneg hb;rw[<-e1,<-e2,<-e3];rfl
theorem TickS.b15 {H':aC}{F':Part->Nat->Prop}{b:Nat}{x:Blk}(hm:Mv (Un F) (Un F') H H')(hb:H[b]? =some x)(hF: ¬Un F b):H'[b]? =some x/\ ¬Un F' b:=
 ⟨by rw[hm.keep b (dC hb) hF,hb],λhF'=>(hm.own b hF').elim hF λhl=>by have:=dC hb;omega⟩
def aMO (H0 Hs:aC)(Fs:Part->Nat->Prop)(y:Lay)(p:PlanD)(ev wv nv:Value)(c:Cfg)(t:Nat)(vb cb:Nat)(outs:lI)(r:NS×lI)(mb:Nat)(X:Blk)(H':aC)(v:Value):Prop:=
 v=aJ []/\H'[mb]? =some X/\ ∃F',TickS H0 Hs H' Fs F' y p ev wv nv c (t+1) r.1 vb cb (outs++r.2)/\ ¬Un F' mb
theorem aMR (h:TickS H0 Hs H Fs F y p ev wv nv c t s vb cb outs)(ht:t<100000000)(hm:300<m){i o:Nat}(hi:i<c.aH)(ho:o<c.aH)(hl:outs.length<1000){mb:Nat}{zs:List Int}(hmb:H[mb]? =some (fB zs []))(hmF: ¬Un F mb)(hmv:mb≠vb):
    ∃H' v,lvl prog pkN m (.func 101) [pt y.nb,.int .i64 i,.int .i64 o,rW vb cb] H=some (v,H')/\aMO H0 Hs Fs y p ev wv nv c t vb cb outs (qE c s i o) mb (fB zs []) H' v:=by
  have hm0:0<m:=by omega
  have hn:=h.node;have hlanes:=hn.ok.lanes;have hmono:=hn.inv.rT (Nat.le_succ t);have l13:=hn.ld 13 (iJ y c) rfl;obtain⟨b,oo,a1,a2⟩:=hn.xA ho;obtain⟨_,_,_,a3⟩:=a2 _ (.inl hn);obtain⟨H1,m1,x1⟩:=aAl hn (by omega) (m:=m-1) (by omega) hi ho
  have h1:=h.ext x1;obtain⟨_,_,_,a4⟩:=a2 _ (.inl h1.node);have l13':=h1.node.ld 13 (iJ y c) rfl;have hwi:NInv c (t+1) {s with whl:=up1 s.whl o (k9 c.weights (s.whl o) (iX c s i o)).2}:={hmono with whl:=aKj hmono.whl (aKl hn.ok (hmono.whl o) _)};obtain⟨H2,w1,g2,mv2⟩:=aMN h1.node (m:=m-1) (by omega) ho hwi
  have h2:=h1.uB g2 mv2;have hb2:=TickS.b15 ((Mv.pK x1 (Un F)).pL mv2) hmb hmF;cases hpk:(k9 c.weights (s.whl o) (iX c s i o)).1 with
  |none=>
    obtain⟨w',hw'⟩: ∃w',k9 c.weights (s.whl o) (iX c s i o)=(none,w'):=⟨_,Prod.ext hpk rfl⟩;have hr:qE c s i o=(s,[]):=by unfold qE;rw[hw']
    have hww:=aMM hw';rw[hw'] at h2 w1;simp only at h2 w1;rw[hww,aML] at h2;have c1:decide ((-1:Int)<0)=true:=rfl;refine⟨H2,_,dA (cJ rfl) hm0 ?_,rfl,hb2.1,F,?_,hb2.2⟩
    · rw[Me]
      simp -implicitDefEqProofs only[gsR,l13,a1,a3,m1,a4,vM,l13',Cf,w1,pD,c1]
    · rw[hr]
      rw[List.append_nil];exact h2
  |some k=>
    obtain⟨w',hw'⟩: ∃w',k9 c.weights (s.whl o) (iX c s i o)=(some k,w'):=⟨_,Prod.ext hpk rfl⟩;rw[hw'] at h2 w1 hwi;simp only at h2 w1 hwi;obtain⟨hkl,hmk⟩:=aKk hw';rw[hn.ok.wlen] at hkl;have c1:decide ((k:Int)<0)=false:=by rw[decide_eq_false_iff_not];omega
    -- the queue has one
    have hq0:0<pP s.rL i o k:=by
      unfold iX at hmk;rw[aOe,aOe,decide_eq_true_eq,decide_eq_true_eq] at hmk;exact hmk.1.2
    obtain⟨x,xs,hq⟩: ∃x xs,pC s.rL ((i:Int),(o:Int),(k:Int))=x::xs:=by
      unfold pP at hq0;cases hh:pC s.rL ((i:Int),(o:Int),(k:Int)) with
      |nil=>rw[hh] at hq0;simp at hq0
      |cons x xs=>exact⟨x,xs,rfl⟩
    have hxm:x∈pC s.rL ((i:Int),(o:Int),(k:Int)):=by rw[hq];exact aOf ..
    obtain⟨e,he1,he2,_⟩:=aKi hxm;have hpk0:=hn.inv.rL e he1;rw[he2] at hpk0;have hr:qE c s i o=if o=0 then({s with whl:=up1 s.whl o w',rL:=oY s.rL ((i:Int),(o:Int),(k:Int)),rcv:=s6 s i k,hG:=s.hG++[x]},[])
        else({s with whl:=up1 s.whl o w',rL:=oY s.rL ((i:Int),(o:Int),(k:Int)),rcv:=s6 s i k,snd:=up2 s.snd o k (s.snd o k).oF.2},[(kM c o,oH (Pa s o k x))]):=by
      unfold qE;rw[hw'];simp only;rw[hq];by_cases h0:o=0
      · rw[if_pos h0,if_pos h0]
        rfl
      · rw[if_neg h0,if_neg h0]
        unfold wU kM;rw[if_neg h0];rfl
    have hi3:NInv c (t+1) {s with whl:=up1 s.whl o w',rL:=oY s.rL ((i:Int),(o:Int),(k:Int))}:={hwi with rL:=λe he=>hwi.rL e (aKh he),rN:=aOm (aKg _ _) hwi.rN}
    obtain⟨H3,F3,p1,g3,mv3⟩:=aMK h2.node (m:=m-1) (by omega) i o k hi3
    have h3:=h2.uB g3 mv3;have hb3:=TickS.b15 mv3 hb2.1 hb2.2;have p1:lvl prog pkN (m-1) (.func 185) [pt y.rg,.int .i64 i,.int .i64 o,.int .i64 k] H2=some (.tuple #[x.dG,.bool true],H3):=by
      rw[p1];show some (Rg.tV (pC s.rL ((i:Int),(o:Int),(k:Int))),H3)=_
      rw[hq];rfl
    obtain⟨H4,hH4⟩: ∃H4,H4=H3++[dS x]:=⟨_,rfl⟩;have x4:Ext H3 H4:=by rw[hH4];exact Fr.app _ _ _
    have h4:=h3.ext x4;have q4:H4[H3.length]? =some (dS x):=by rw[hH4];exact dK _ _
    have qF4: ¬Un F3 H3.length:=λhu=>by have:=h3.node.sep.pM _ hu;omega
    have hb4:=TickS.b15 (Mv.pK x4 (Un F3)) hb3.1 hb3.2;have l15:=h2.node.ld 15 (pt y.rg) rfl
    -- behind the pop: the lane of the input is free
    have free: ∃H5,TickS H0 Hs H5 Fs F3 y p ev wv nv c (t+1) {s with whl:=up1 s.whl o w',rL:=oY s.rL ((i:Int),(o:Int),(k:Int)),rcv:=s6 s i k} vb cb outs/\H5[H3.length]? =some (dS x)/\H5[mb]? =some (fB zs [])/\
        ((i=0/\H5=H4)∨(0<i/\ ∃u,lvl prog pkN (m-1) (.func 186) [pt (y.rb i k)] H4=some (u,H5))):=by
      by_cases hi0:i=0
      · refine⟨H4,?_,q4,hb4.1,.inl ⟨hi0,rfl⟩⟩
        have:s6 s i k=s.rcv:=by unfold s6;rw[if_pos hi0]
        rw[this];exact h4
      · obtain⟨H5,u,r1,r2⟩:=aJB (m:=m-1) (by omega) (h4.node.Gc (by omega) hi hkl) (h4.node.Gd (by omega) i k)
        have hfr:s6 s i k=up2 s.rcv i k (s.rcv i k).tT:=by unfold s6;rw[if_neg hi0]
        have hi5:NInv c (t+1) {s with whl:=up1 s.whl o w',rL:=oY s.rL ((i:Int),(o:Int),(k:Int)),rcv:=up2 s.rcv i k (s.rcv i k).tT}:={hi3 with rcv:=y9 hi3.rcv (hi3.rcv i k).aJ9};obtain⟨g5,mv5⟩:=h4.node.O3 (by omega) hi hkl r2 hi5
        refine⟨H5,?_,(TickS.b15 mv5 q4 qF4).1,(TickS.b15 mv5 hb4.1 hb4.2).1,.inr ⟨by omega,u,r1⟩⟩
        rw[hfr];exact h4.uB g5 mv5
    obtain⟨H5,h5,q5,hb5,hfree⟩:=free
    -- behind that: it is at the host, or on its way
    have hi5:=h5.node.inv;obtain⟨l0,l1,l2,l3,l4⟩:ld1 (.pointer (some ⟨H3.length,0,none⟩)) H5=some (.int .i64 x.src,H5)/\ld1 (.pointer (some ⟨H3.length,1,none⟩)) H5=some (.int .i64 x.dst,H5)/\ld1 (.pointer (some ⟨H3.length,2,none⟩)) H5=some (.int .i64 x.lane,H5)/\ld1 (.pointer (some ⟨H3.length,3,none⟩)) H5=some (.int .u32 x.body,H5)/\ldN 4 (.pointer (some ⟨H3.length,0,none⟩)) H5=some (x.dG,H5):=⟨cT q5 rfl,cT q5 rfl,cT q5 rfl,cT q5 rfl,(pR q5).2⟩;have hst:=O8 H3 x;rw[<-hH4] at hst;have ifree:0<i-> ∃bi oi bj oj,bH 3 (iJ y c) (.int .i64 (i:Int))=some (.pointer (some ⟨bi,oi,none⟩))/\ld1 (.pointer (some ⟨bi,oi+1,none⟩)) H4=some (mT y c i,H4)/\bH 2 (mT y c i) (.int .i64 (k:Int))=some (.pointer (some ⟨bj,oj,none⟩))/\ld1 (.pointer (some ⟨bj,oj+1,none⟩)) H4=some (pt (y.rb i k),H4):=λhpos=>by
      obtain⟨bi,oi,j1,j2⟩:=h4.node.xA hi;obtain⟨_,_,j3,_⟩:=j2 _ (.inl h4.node);obtain⟨bj,oj,j4,_,_,j5⟩:=h4.node.B8 (by omega) hi hkl
      exact⟨bi,oi,bj,oj,j1,j3,j4,j5⟩
    have l13'':=h4.node.ld 13 (iJ y c) rfl;by_cases ho0:o=0
    · rw[if_pos ho0] at hr
      have c3:((o:Int)==0)=true:=by rw[ho0];rfl
      have hgl:s.hG.length<=t:=hn.inv.hG;have hi6:NInv c (t+1) {s with whl:=up1 s.whl o w',rL:=oY s.rL ((i:Int),(o:Int),(k:Int)),rcv:=s6 s i k,hG:=s.hG++[x]}:={hi5 with hG:=by simp;omega}
      obtain⟨H6,F6,k1,g6,mv6⟩:=aMJ h5.node (m:=m-1) (by omega) x (by show s.hG.length<_;omega) hi6
      have h6:=h5.uB g6 mv6;have hb6:=TickS.b15 mv6 hb5 hb4.2;have l14:=h5.node.ld 14 (pt y.hb) rfl;refine⟨H6,aJ [],dA (cJ rfl) hm0 ?_,rfl,hb6.1,F6,by rw[hr,List.append_nil];exact h6,hb6.2⟩
      rw[Me];rcases hfree with⟨hi0,hH5⟩|⟨hpos,u,r1⟩
      · have c2:decide ((0:Int)<(i:Int))=false:=by rw[decide_eq_false_iff_not];omega
        rw[hH5] at l14 l4 k1;simp -implicitDefEqProofs only[gsR,l13,a1,a3,m1,a4,vM,l13',Cf,w1,pD,c1,l15,p1,pE,zI,hst,<-hH4,c2,c3,l14,l4,k1]
      · have c2:decide ((0:Int)<(i:Int))=true:=by rw[decide_eq_true_eq];omega
        obtain⟨bi,oi,bj,oj,j1,j2,j3,j4⟩:=ifree hpos;simp -implicitDefEqProofs only[gsR,l13,a1,a3,m1,a4,vM,l13',Cf,w1,pD,c1,l15,p1,pE,zI,hst,<-hH4,c2,l13'',j1,j2,j3,j4,r1,c3,l14,l4,k1]
    · rw[if_neg ho0] at hr
      have c3:((o:Int)==0)=false:=by rw[beq_eq_false_iff_ne];omega
      obtain⟨H6,r6,p6⟩:=aJH (m:=m-1) (by omega) (h5.node.B9 (by omega) ho hkl) (h5.node.Ge (by omega) o k)
      have hi6:NInv c (t+1) {s with whl:=up1 s.whl o w',rL:=oY s.rL ((i:Int),(o:Int),(k:Int)),rcv:=s6 s i k,snd:=up2 s.snd o k (s.snd o k).oF.2}:={hi5 with snd:=y9 hi5.snd (hn.inv.snd o k).aKc};obtain⟨g6,mv6⟩:=h5.node.Z6 (by omega) ho hkl p6 hi6
      have h6:=h5.uB g6 mv6;have q6:=(TickS.b15 mv6 q5 qF4).1;have hb6:=TickS.b15 mv6 hb5 hb4.2;obtain⟨n0,n1,n3⟩:ld1 (.pointer (some ⟨H3.length,0,none⟩)) H6=some (.int .i64 x.src,H6)/\ld1 (.pointer (some ⟨H3.length,1,none⟩)) H6=some (.int .i64 x.dst,H6)/\ld1 (.pointer (some ⟨H3.length,3,none⟩)) H6=some (.int .u32 x.body,H6):=⟨cT q6 rfl,cT q6 rfl,cT q6 rfl⟩;obtain⟨H7,s7,h7,hk7⟩:=O9 h6 (m:=m-1) (by omega) ho (aMQ s o k x (by omega) hpk0.body) hl
      have hb7:=hk7 mb _ _ _ hb6.1 (by decide) hmv
      obtain⟨bi',oi',i1,i2⟩:=h5.node.xA ho;obtain⟨_,_,i3,_⟩:=i2 _ (.inl h5.node);obtain⟨rfl,rfl⟩:bi'=b/\oi'=oo:=by
        have:=i1.symm.trans a1;simpa using this
      obtain⟨bj',oj',i4,_,i5,_⟩:=h5.node.B8 (by omega) ho hkl
      have l13c:=h5.node.ld 13 (iJ y c) rfl;have ek:IntKind.u8.wrap (k:Int)=(k:Int):=by rw[A5];omega
      have eq:IntKind.u16.wrap ((s.snd o k).oF.1:Int)=(((s.snd o k).oF.1%65536:Nat):Int):=Bq _;have ebl:=aMP s o k x hpk0.body.1 (by omega)
      have r6:lvl prog pkN (m-1) (.func 188) [pt (y.sb o k)] H5=some (.tuple #[.int .u64 (s.snd o k).oF.1,.bool (decide ((s.snd o k).l≠(s.snd o k).s))],H6):=r6;refine⟨H7,aJ [],dA (cJ rfl) hm0 ?_,rfl,hb7,F3,by rw[hr];exact h7,hb6.2⟩
      rw[Me];rcases hfree with⟨hi0,hH5⟩|⟨hpos,u,r1⟩
      · have c2:decide ((0:Int)<(i:Int))=false:=by rw[decide_eq_false_iff_not];omega
        rw[hH5] at l13c i3 i5 r6;simp -implicitDefEqProofs only[gsR,Nat.add_zero,l13,a1,a3,m1,a4,vM,l13',Cf,w1,pD,c1,l15,p1,pE,zI,hst,<-hH4,c2,c3,l13c,i1,i3,i4,i5,r6,eZ _ _ iU u8U,eZ _ _ qG lS,ek,eq,n0,n1,n3,A5,ebl,s7]
      · have c2:decide ((0:Int)<(i:Int))=true:=by rw[decide_eq_true_eq];omega
        obtain⟨bi,oi,bj,oj,j1,j2,j3,j4⟩:=ifree hpos;simp -implicitDefEqProofs only[gsR,Nat.add_zero,l13,a1,a3,m1,a4,vM,l13',Cf,w1,pD,c1,l15,p1,pE,zI,hst,<-hH4,c2,l13'',j1,j2,j3,j4,r1,c3,l13c,i1,i3,i4,i5,r6,eZ _ _ iU u8U,eZ _ _ qG lS,ek,eq,n0,n1,n3,A5,ebl,s7]
end
def exF (s:NS)(c:Cfg)(i k:Nat):lI:=[wU c i ⟨3,k,(s.snd i k).s%65536,0,0,0⟩,wU c i ⟨2,k,(s.rcv i k).lY c.room%65536,0,0,0⟩]
def rX (s:NS)(c:Cfg)(i k:Nat):lI:=(List.range k).flatMap (exF s c i)
def exP (s:NS)(c:Cfg)(i:Nat):lI:=if i=0 then [] else rX s c i c.lanes
def pS (s:NS)(c:Cfg)(i:Nat):lI:=(List.range i).flatMap (exP s c)
theorem aAs (s:NS)(c:Cfg)(i k:Nat):rX s c i (k+1)=rX s c i k++exF s c i k:=by
 unfold rX;rw[aOG,List.flatMap_append];simp
theorem Pc (s:NS)(c:Cfg)(i:Nat):pS s c (i+1)=pS s c i++exP s c i:=by
 unfold pS;rw[aOG,List.flatMap_append];simp
theorem Pb (s:NS)(c:Cfg)(i:Nat): ∀k,(rX s c i k).length=2*k
 |0=>rfl
 |k+1=>by
  rw[aAs,aOi,Pb s c i k];simp[exF];omega
theorem aAt (s:NS)(c:Cfg)(h3:c.lanes<=3): ∀i,(pS s c i).length<=6*i
 |0=>by simp[pS]
 |i+1=>by
  rw[Pc,aOi];have:=aAt s c h3 i;have:(exP s c i).length<=6:=by
   unfold exP;split
   ·simp
   ·rw[Pb]
    omega
  omega
theorem aMU (s:NS)(c:Cfg):s5 c s=pS s c c.aH:=by
 unfold s5 pS Cfg.aH;rw[List.range_succ_eq_map,List.flatMap_cons,List.flatMap_map];have:exP s c 0=[]:=rfl;rw[this,List.nil_append];rfl
section
variable {H0 Hs H : aC} {Fs F : Part → Nat → Prop} {y : Lay} {p : PlanD} {ev wv nv : Value} {c : Cfg} {t : Nat} {s : NS} {m : Nat} {vb cb : Nat} {outs : lI}
theorem aMT (k q:Nat):bld prog 71 [(0,.int .u8 3),(1,.int .u8 k),(2,.int .u16 q)]=some (frV ⟨3,k,q,0,0,0⟩):=rfl
theorem aMS (k q:Nat):bld prog 71 [(0,.int .u8 2),(1,.int .u8 k),(2,.int .u16 q)]=some (frV ⟨2,k,q,0,0,0⟩):=rfl
theorem aAu (a k q:Nat)(ha:a<256)(hk:k<256):(⟨a,k,q%65536,0,0,0⟩:Frm).ok:=⟨ha,hk,Nat.mod_lt _ (by decide),by show 0<256;decide,by show 0<256;decide,by show 0<4294967296;decide⟩
theorem aMV {i:Nat}(h1:1<=i)(hi:i<c.aH)(h3:c.lanes<=3)(ht:t<100000000)(hol:outs.length<900)(hm:220<m){K:Ex->K (Value×aC)}{Q:aC->Value->Prop}
  (hK: ∀H',TickS H0 Hs H' Fs F y p ev wv nv c t s vb cb (outs++rX s c i c.lanes)-> ∀(x2 x3 x4 x5 x6 x7 x8 x9 bK aM aP aZ bG aQ bC bJ bL bI bE aS aT aU aV aW aX aY bA bB bN bO bP bQ bR bS bT bU bV bY cE cG cH cL cQ:Value),∃H2 r,E9 (lvl prog pkN m) (aI m) K (pt y.nb) (rW vb cb) x2 x3 x4 x5 x6 x7 x8 x9 bK (iJ y c) (.int .i64 c.aH) (.int .i64 (i:Nat)) aM aP aZ bG aQ bC bJ bL bI bE aS aT aU aV aW aX aY bA bB bN bO bP bQ bR bS bT bU bV bY cE cG cH cL cQ H'=some (r,H2)/\Q H2 r):
  ∀(q k l:Nat)(H:aC),c.lanes-k=q->k<=c.lanes->q<l->TickS H0 Hs H Fs F y p ev wv nv c t s vb cb (outs++rX s c i k)-> ∀(x2 x3 x5 x6 x7 x8 x9 bK aM aP aZ bG aQ bI bE aS aT aU aV aW aX aY bA bB bN bO bP bQ bR bS bT bU bV bY cE cG cH cL cQ:Value),
  ∃H2 r,aI l (aK prog (lvl prog pkN m) (aI m) Mh) (Mj (lvl prog pkN m) (aI m) K) [(pt y.nb),(rW vb cb),x2,x3,(.int .i64 (i:Nat)),x5,x6,x7,x8,x9,bK,(iJ y c),(.int .i64 c.aH),(.int .i64 (i:Nat)),aM,aP,aZ,bG,aQ,(mT y c i),(.int .i64 c.lanes),(.int .i64 (k:Nat)),bI,bE,aS,aT,aU,aV,aW,aX,aY,bA,bB,bN,bO,bP,bQ,bR,bS,bT,bU,bV,bY,cE,cG,cH,cL,cQ] H=some (r,H2)/\Q H2 r:=by
 intro q;induction q with
 |zero=>
  intro k l H hq hk hl h;intros;obtain⟨l,rfl⟩: ∃l',l=l'+1:=⟨l-1,by omega⟩
  have hke:k=c.lanes:=by omega
  subst hke;have c1:decide ((c.lanes:Int)<(c.lanes:Int))=false:=by simp
  rw[aI,Mf];simp -implicitDefEqProofs only[gsR,c1];rw[W6];exact hK H h ..
 |succ q ih=>
  intro k l H hq hk hl h;intros;obtain⟨l,rfl⟩: ∃l',l=l'+1:=⟨l-1,by omega⟩
  have hkl:k<c.lanes:=by omega
  have c1:decide ((k:Int)<(c.lanes:Int))=true:=by rw[decide_eq_true_eq];omega
  have hil:=Pb s c i k;obtain⟨b,o,a1,a2,_,_⟩:=h.node.B8 h1 hi hkl;have a2:ldN 2 (.pointer (some ⟨b,o,none⟩)) H=some (.agg #[pt (y.sb i k),pt (y.rb i k)],H):=a2;obtain⟨H1,hH1⟩: ∃H1,H1=H++[fO (pt (y.sb i k)) (pt (y.rb i k))]:=⟨_,rfl⟩;have x1:Ext H H1:=by rw[hH1];exact Fr.app _ _ _
  have g1:=h.ext x1;have st:=O7 H (pt (y.sb i k)) (pt (y.rb i k)) rfl;rw[<-hH1] at st;have b1:H1[H.length]? =some (fO (pt (y.sb i k)) (pt (y.rb i k))):=by rw[hH1];exact dK _ _
  have l0:=(tY b1).2.1;have s1:=aJI (m:=m) (by omega) (g1.node.B9 h1 hi hkl)
  have ek:IntKind.u8.wrap (k:Int)=(k:Int):=by rw[A5];omega
  have e1:IntKind.u16.wrap ((s.snd i k).s:Int)=(((s.snd i k).s%65536:Nat):Int):=Bq _;obtain⟨H2,r1,g2,k2⟩:=O9 g1 (m:=m) (by omega) hi (aAu 3 k (s.snd i k).s (by decide) (by omega)) (by rw[aOi];omega)
  have hvb:H.length≠vb:=λhh=>by
   obtain⟨v,us,r,_⟩:=h.rows;have:=dC r;omega
  have b2:H2[H.length]? =some (fO (pt (y.sb i k)) (pt (y.rb i k))):=k2 _ _ _ _ b1 (by decide) hvb
  have l1:=(tY b2).2.2;have s2:=aJD (m:=m) (by omega) (g2.node.Gc h1 hi hkl) (g2.node.Gd (by omega) i k)
  have e2:IntKind.u16.wrap (((s.rcv i k).lY c.room:Nat):Int)=(((s.rcv i k).lY c.room%65536:Nat):Int):=Bq _;obtain⟨H3,r2,g3,_⟩:=O9 g2 (m:=m) (by omega) hi (aAu 2 k ((s.rcv i k).lY c.room) (by decide) (by omega)) (by simp only[aOi,aOt,List.length_nil];omega)
  have e9:=oK k (by omega)
  have hto:kM c i=c.by'.getD (i-1) 0:=by unfold kM;rw[if_neg (by omega)]
  have hnext:outs++rX s c i k++[(kM c i,oH ⟨3,k,(s.snd i k).s%65536,0,0,0⟩)]++[(kM c i,oH ⟨2,k,(s.rcv i k).lY c.room%65536,0,0,0⟩)]=outs++rX s c i (k+1):=by
   rw[aAs,hto];simp[exF,wU]
  rw[hnext] at g3;rw[aI,Mf];simp -implicitDefEqProofs only[gsR,c1,a1,a2,Cd,st,eZ _ _ iU u8U,ek,l0,s1,eZ _ _ qG lS,e1,aMT,r1,l1,s2,e2,aMS,r2,cI,e9];exact ih (k+1) l H3 (by omega) (by omega) (by omega) g3 ..
theorem aMX (h3:c.lanes<=3)(h6:c.aH<=6)(ht:t<100000000)(hol:outs.length<800)(hm:300<m):
  ∀(q i l:Nat)(H:aC),c.aH-i=q->i<=c.aH->q<l->TickS H0 Hs H Fs F y p ev wv nv c t s vb cb (outs++pS s c i)-> ∀(x2 x3 x4 x5 x6 x7 x8 x9 bK aM aP aZ bG aQ bC bJ bL bI bE aS aT aU aV aW aX aY bA bB bN bO bP bQ bR bS bT bU bV bY cE cG cH cL cQ:Value),
  ∃H2 r,aI l (aK prog (lvl prog pkN m) (aI m) Mg) (Mi (lvl prog pkN m) (aI m)) [(pt y.nb),(rW vb cb),x2,x3,x4,x5,x6,x7,x8,x9,bK,(iJ y c),(.int .i64 c.aH),(.int .i64 (i:Nat)),aM,aP,aZ,bG,aQ,bC,bJ,bL,bI,bE,aS,aT,aU,aV,aW,aX,aY,bA,bB,bN,bO,bP,bQ,bR,bS,bT,bU,bV,bY,cE,cG,cH,cL,cQ] H=some (r,H2)/\(r=aJ []/\TickS H0 Hs H2 Fs F y p ev wv nv c t s vb cb (outs++s5 c s)):=by
 intro q;induction q with
 |zero=>
  intro i l H hq hi hl h;intros;obtain⟨l,rfl⟩: ∃l',l=l'+1:=⟨l-1,by omega⟩
  have hie:i=c.aH:=by omega
  subst hie;have c1:decide ((c.aH:Int)<(c.aH:Int))=false:=by simp
  rw[aI,W5];simp -implicitDefEqProofs only[gsR,c1];rw[aId];rw[aMU]
  exact⟨_,_,rfl,rfl,h⟩
 |succ q ih=>
  intro i l H hq hi hl h;intros;obtain⟨l,rfl⟩: ∃l',l=l'+1:=⟨l-1,by omega⟩
  have hil:i<c.aH:=by omega
  have c1:decide ((i:Int)<(c.aH:Int))=true:=by rw[decide_eq_true_eq];omega
  have hul:=aAt s c h3 i;obtain⟨b,o,a1,a2⟩:=h.node.xA hil;obtain⟨a3,_,_,_⟩:=a2 _ (.inl h.node);obtain⟨H1,hH1⟩: ∃H1,H1=H++[nP y c i]:=⟨_,rfl⟩;have x1:Ext H H1:=by rw[hH1];exact Fr.app _ _ _
  have g1:=h.ext x1;have hlv:dR [mT y c i]=true:=by unfold mT;split<;>rfl
  have st:stN 3 (.pointer (some ⟨H.length,0,none⟩)) (.agg ⟨fQ y c i⟩) (H++[Blk.cells [Value.int .i64 0,.slice none 0 0,.pointer none] 167 .fix])=some (undef,H1):=by
   rw[yU (n:=3) (vs:=fQ y c i) (dK H _) (by decide) rfl rfl (aOb 3) (by unfold fQ mT;split<;>rfl),nL,hH1]
   rfl
  have b1:H1[H.length]? =some (nP y c i):=by rw[hH1];exact dK _ _
  have l1:ld1 (.pointer (some ⟨H.length,1,none⟩)) H1=some (mT y c i,H1):=cT b1 rfl;have e9:=oK i (by omega)
  rw[aI,W5];by_cases hi0:i=0
  ·have e1:bX (mT y c i)=some (.int .i64 0):=by unfold mT;rw[if_pos hi0];rfl
   simp -implicitDefEqProofs only[gsR,c1,a1,a3,st,l1,e1];have hx:outs++pS s c (i+1)=outs++pS s c i:=by rw[Pc];unfold exP;rw[if_pos hi0,List.append_nil]
   obtain⟨m',hm'⟩: ∃m',m=m'+1:=⟨m-1,by omega⟩
   have c2:decide ((0:Int)<0)=false:=rfl;rw[show aI m=aI (m'+1) by rw[hm'],aI,<-hm',Mf]
   simp -implicitDefEqProofs only[gsR,c2];rw[W6];unfold E9;simp -implicitDefEqProofs only[gsR,cI,e9];exact ih (i+1) l H1 (by omega) (by omega) (by omega) (by rw[hx];exact g1) ..
  ·have e1:bX (mT y c i)=some (.int .i64 c.lanes):=by unfold mT;rw[if_neg hi0];rfl
   simp -implicitDefEqProofs only[gsR,c1,a1,a3,st,l1,e1];refine aMV (outs:=outs++pS s c i) (by omega) hil h3 ht (by rw[aOi];omega) (by omega) ?_ c.lanes 0 m H1 (by omega) (by omega) (by omega) (by unfold rX;simpa using g1) ..
   intro H' h';intros;unfold E9;simp -implicitDefEqProofs only[gsR,cI,e9];have hx:outs++pS s c (i+1)=outs++pS s c i++rX s c i c.lanes:=by rw[Pc];unfold exP;rw[if_neg hi0,aOd]
   exact ih (i+1) l H' (by omega) (by omega) (by omega) (by rw[hx];exact h') ..
theorem aMW (h:TickS H0 Hs H Fs F y p ev wv nv c t s vb cb outs)(ht:t<100000000)(hol:outs.length<800)(hm:400<m):
  ∃H2,lvl prog pkN m (.func 102) [pt y.nb,rW vb cb] H=some (aJ [],H2)/\TickS H0 Hs H2 Fs F y p ev wv nv c t s vb cb (outs++s5 c s):=by
 have h6:c.aH<=6:=by have:=h.node.ok.by';unfold Cfg.aH;omega
 have main: ∃H2 r,lvl prog pkN m (.func 102) [pt y.nb,rW vb cb] H=some (r,H2)/\(r=aJ []/\TickS H0 Hs H2 Fs F y p ev wv nv c t s vb cb (outs++s5 c s)):=by
  refine iP (cJ rfl) (by omega) ?_
  rw[aIe];have l13:=h.node.ld 13 (iJ y c) rfl;have e1:bX (iJ y c)=some (.int .i64 c.aH):=rfl;simp -implicitDefEqProofs only[gsR,l13,e1];exact aMX h.node.ok.lanes.2 h6 ht hol (by omega) c.aH 0 (m-1) H (by omega) (by omega) (by omega) (by unfold pS;simpa using h) ..
 obtain⟨H2,r,g1,rfl,g2⟩:=main
 exact⟨H2,g1,g2⟩
end
theorem aAv (c:Cfg)(m:List Int): ∀(l1 l2:List Nat)(s:NS×lI),tU c m (l1++l2) s=tU c m l2 (tU c m l1 s)
 |[],_,_=>rfl
 |i::l1,l2,s=>by rw[List.cons_append,tU,tU,aAv c m l1 l2]
def iD (c:Cfg)(m:List Int)(s:NS)(i:Nat):NS×lI:=tU c m (List.range i) (s,[])
theorem Pf (c:Cfg)(m:List Int)(s:NS)(i:Nat):iD c m s (i+1)=if 0<=m.getD i 0 then((qE c (iD c m s i).1 i (m.getD i 0).toNat).1,(iD c m s i).2++(qE c (iD c m s i).1 i (m.getD i 0).toNat).2) else iD c m s i:=by
 unfold iD;rw[aOG,aAv];rfl
theorem aM2 (c:Cfg)(s:NS)(i o:Nat):(qE c s i o).2.length<=1:=by
 unfold qE;split
 ·simp
 ·simp only
  split<;>simp
theorem aM3 (c:Cfg)(s:NS)(i o:Nat):(qE c s i o).1.ticks=s.ticks:=by
 unfold qE;split
 ·rfl
 ·simp only
  split<;>rfl
theorem Pe (c:Cfg)(m:List Int)(s:NS): ∀i,(iD c m s i).2.length<=i
 |0=>by simp[iD,tU]
 |i+1=>by
  have:=Pe c m s i;have:=aM2 c (iD c m s i).1 i (m.getD i 0).toNat;rw[Pf];split
  ·simp only[aOi]
   omega
  ·omega
theorem Pg (c:Cfg)(m:List Int)(s:NS): ∀i,(iD c m s i).1.ticks=s.ticks
 |0=>rfl
 |i+1=>by
  rw[Pf];split
  ·simp only
   rw[aM3,Pg c m s i]
  ·exact Pg c m s i
theorem aM0 (c:Cfg)(s:NS)(k:Nat):(oI c s k).ticks=s.ticks:=by
 unfold oI;split
 ·rfl
 ·split<;>rfl
theorem aM1 (c:Cfg)(s:NS):(wT c s).ticks=s.ticks:=by
 unfold wT;have: ∀(l:List Nat)(s:NS),(l.foldl (oI c) s).ticks=s.ticks:=by
  intro l;induction l with
  |nil=>intro s;rfl
  |cons k l ih=>intro s;rw[List.foldl_cons,ih,aM0]
 exact this _ _
theorem aMZ (i:Nat)(hi:i<1000000000):IntKind.i64.wrap ((i:Int)+1)=((i+1:Nat):Int):=by rw[dM (by omega) (by omega)];omega
section
variable {H0 Hs H : aC} {Fs F : Part → Nat → Prop} {y : Lay} {p : PlanD} {ev wv nv : Value} {c : Cfg} {t : Nat} {s : NS} {m : Nat} {vb cb : Nat} {outs : lI}
def Pd (H0 Hs:aC)(Fs:Part->Nat->Prop)(y:Lay)(p:PlanD)(ev wv nv:Value)(c:Cfg)(t:Nat)(s':NS)(vb cb:Nat)(outs:lI)(H':aC)(v:Value):Prop:=
 ∃F' us,TickS H0 Hs H' Fs F' y p ev wv nv c t s' vb cb outs/\OutR H' (λb=>Hs.length<=b/\ ¬Un F' b) v us outs
theorem NodeAt.aMY (h:NodeAt H0 H F y p ev wv nv c t s)(hi:NInv c t {s with ticks:=s.ticks+1}):
  NodeAt H0 (H.set y.nb (vJ p.bag ev wv nv y c (s.ticks+1))) F y p ev wv nv c t {s with ticks:=s.ticks+1}/\Mv (Un F) (Un F) H (H.set y.nb (vJ p.bag ev wv nv y c (s.ticks+1))):=by
 have hB:=h.sep.see .node rfl xB;refine h.B7 .node (l:=mC p.bag ev wv nv y c s.ticks) (l':=mC p.bag ev wv nv y c (s.ticks+1)) rfl xB ?_ ?_ ?_ hi rfl ?_
 ·intro q hq
  simp only[mC,aOq,aOK] at hq;rcases hq with rfl|rfl|⟨j,hj,rfl⟩
  ·exact⟨_,aOf ..,rfl⟩
  ·exact⟨_,aOn _ (aOf ..),rfl⟩
  ·exact⟨(y.lb (j+1),oM y c (j+1)),by simp only[mC,aOq,aOK];exact .inr (.inr ⟨j,hj,rfl⟩),rfl⟩
 ·exact⟨by simp,λb hb hn=>aN7 λhh=>hn ⟨_,aOf ..,hh⟩⟩
 ·intro q hq
  have hnb:=h.nbB;simp only[mC,aOq,aOK] at hq;rcases hq with rfl|rfl|⟨j,hj,rfl⟩
  ·exact iT hnb
  ·have h2:H[y.pb]? =some (xC y c):=hB (y.pb,xC y c) (by simp[mC])
   simp only;rw[aN7 (λhh=> ?_),h2]
   rw[<-hh,hnb] at h2;injection h2 with h2;injection h2 with _ h2 _
   revert h2
   decide
  ·have h2:H[y.lb (j+1)]? =some (oM y c (j+1)):=hB (y.lb (j+1),oM y c (j+1)) (by simp only[mC,aOq,aOK];exact .inr (.inr ⟨j,hj,rfl⟩))
   simp only;rw[aN7 (λhh=> ?_),h2]
   rw[<-hh,hnb] at h2;injection h2 with h2;injection h2 with _ h2 _
   revert h2
   decide
 ·intro j hj
  cases j with
  |node=>exact absurd rfl hj
  |_=>rfl
theorem aM4 (h:TickS H0 Hs H Fs F y p ev wv nv c t s vb cb outs)(ht:t<10000000)(hol:outs.length<700)(hm:500<m)(htk:s.ticks+1<=t+1):
  ∀(x0 x2 x5 x6 x7 x8 x9 bK bM aR aN aM aP aZ bG aQ bC bJ bL bI bE aS aT aU aV aW aX aY bA bB bN bO bP bQ bR bS bT bU bV bY cE cG cH cL cQ cU cV cM cN cO cR cY cW cX cZ:Value),∃H2 r,Fe (lvl prog pkN m) (aI m) x0 (pt cb) x2 (pt vb) (rW vb cb) x5 x6 x7 x8 x9 bK bM aR aN aM aP aZ bG aQ bC bJ bL bI bE aS aT aU aV aW aX aY bA bB bN bO bP bQ bR bS bT bU bV bY cE cG cH cL cQ cU cV cM cN cO cR cY cW cX cZ H=some (r,H2)/\
   Pd H0 Hs Fs y p ev wv nv c (t+1) {s with ticks:=s.ticks+1} vb cb (if(s.ticks+1)%c.every=0 then outs++s5 c s else outs) H2 r:=by
 intros;have lc:ld1 (pt cb) H=some (pt y.nb,H):=cT h.cell rfl;have l16:=h.node.ld 16 (.int .i64 s.ticks) rfl;have e1:=aMZ s.ticks (by omega)
 have hi:NInv c (t+1) {s with ticks:=s.ticks+1}:={h.node.inv.rT (Nat.le_succ t) with ticks:=htk};have hn:NodeAt H0 H F y p ev wv nv c (t+1) s:={h.node with inv:=h.node.inv.rT (Nat.le_succ t)};obtain⟨H1,hH1⟩: ∃H1,H1=H.set y.nb (vJ p.bag ev wv nv y c (s.ticks+1)):=⟨_,rfl⟩;have st:stN 1 (.pointer (some ⟨y.nb,16,none⟩)) (.int .i64 ((s.ticks+1:Nat):Int)) H=some (undef,H1):=by rw[hH1];exact lQ h.node.nbB (by decide) (by simp[O4])
 obtain⟨g1,mv1⟩:=hn.aMY hi;rw[<-hH1] at g1 mv1;have h1:=h.uB g1 mv1;have lc1:ld1 (pt cb) H1=some (pt y.nb,H1):=cT h1.cell rfl;have l16':=h1.node.ld 16 (.int .i64 (s.ticks+1:Nat)) rfl;have l7:=h1.node.ld 7 (.int .i64 c.every) rfl;have hev:=h.node.ok.every;have r1:bin prog .rem 3 (.int .i64 ((s.ticks+1:Nat):Int)) (.int .i64 c.every)=some (.int .i64 (((s.ticks+1)%c.every:Nat):Int)):=rS (s.ticks+1) c.every _ rfl (by omega)
 unfold Fe;by_cases hz:(s.ticks+1)%c.every=0
 ·have c1:((((s.ticks+1)%c.every:Nat):Int)==0)=true:=by rw[hz];rfl
  obtain⟨H2,x1,h2⟩:=aMW h1 (m:=m) (by omega) (by omega) (by omega)
  obtain⟨v,us,r,hr⟩:=h2.rows;have lv:ld1 (pt vb) H2=some (v,H2):=cT r rfl;simp -implicitDefEqProofs only[gsR,lc,l16,cI,e1,st,lc1,l16',l7,r1,c1,x1,lv];refine⟨_,_,rfl,F,us,?_,?_⟩
  ·rw[if_pos hz]
   exact h2
  ·rw[if_pos hz]
   exact hr
 ·have c1:((((s.ticks+1)%c.every:Nat):Int)==0)=false:=by rw[beq_eq_false_iff_ne];omega
  obtain⟨v,us,r,hr⟩:=h1.rows;have lv:ld1 (pt vb) H1=some (v,H1):=cT r rfl;simp -implicitDefEqProofs only[gsR,lc,l16,cI,e1,st,lc1,l16',l7,r1,c1,lv];refine⟨_,_,rfl,F,us,?_,?_⟩
  ·rw[if_neg hz]
   exact h1
  ·rw[if_neg hz]
   exact hr
theorem aM5 {mt:List Int}{mb:Nat}{Q:aC->Value->Prop}(hml:mt.length=c.aH)(hmr: ∀z∈mt,z= -1∨0<=z/\z<(c.aH:Int))(ht:t<9000000)(h6:c.aH<=6)(hmv:mb≠vb)(hm:500<m)
  (hK: ∀(H':aC)(F':Part->Nat->Prop),TickS H0 Hs H' Fs F' y p ev wv nv c (t+c.aH) (iD c mt s c.aH).1 vb cb (iD c mt s c.aH).2-> ∀(x0 x2 x5 x6 x7 x8 x9 bK bM aR aN aM aP aZ bG aQ bC bJ bL bI bE aS aT aU aV aW aX aY bA bB bN bO bP bQ bR bS bT bU bV bY cE cG cH cL cQ cU cV cM cN cO cR cY cW cX cZ:Value),∃H2 r,Fe (lvl prog pkN m) (aI m) x0 (pt cb) x2 (pt vb) (rW vb cb) x5 x6 x7 x8 x9 bK bM aR aN aM aP aZ bG aQ bC bJ bL bI bE aS aT aU aV aW aX aY bA bB bN bO bP bQ bR bS bT bU bV bY cE cG cH cL cQ cU cV cM cN cO cR cY cW cX cZ H'=some (r,H2)/\Q H2 r):
  ∀(q i l:Nat)(H:aC)(F:Part->Nat->Prop),c.aH-i=q->i<=c.aH->q<l->TickS H0 Hs H Fs F y p ev wv nv c (t+i) (iD c mt s i).1 vb cb (iD c mt s i).2->H[mb]? =some (fB mt [])-> ¬Un F mb-> ∀(x0 x2 x5 x6 x7 x8 x9 bK bM aR aN aM aP aZ bG aQ bC bJ aS aT aU aV aW aX aY bA bB bN bO bP bQ bR bS bT bU bV bY cE cG cH cL cQ cU cV cM cN cO cR cY cW cX cZ:Value),
  ∃H2 r,aI l (aK prog (lvl prog pkN m) (aI m) M7) (M8 (lvl prog pkN m) (aI m)) [x0,(pt cb),x2,(pt vb),(rW vb cb),x5,x6,x7,x8,x9,bK,bM,aR,aN,aM,aP,aZ,bG,aQ,bC,bJ,(eE mb c.aH),(.int .i64 c.aH),(.int .i64 (i:Nat)),aS,aT,aU,aV,aW,aX,aY,bA,bB,bN,bO,bP,bQ,bR,bS,bT,bU,bV,bY,cE,cG,cH,cL,cQ,cU,cV,cM,cN,cO,cR,cY,cW,cX,cZ] H=some (r,H2)/\Q H2 r:=by
 intro q;induction q with
 |zero=>
  intro i l H F hq hi hl h hmb hmF;intros;obtain⟨l,rfl⟩: ∃l',l=l'+1:=⟨l-1,by omega⟩
  have hie:i=c.aH:=by omega
  subst hie;have c1:decide ((c.aH:Int)<(c.aH:Int))=false:=by simp
  rw[aI,Xm];simp -implicitDefEqProofs only[gsR,c1];rw[aI3];exact hK H F h ..
 |succ q ih=>
  intro i l H F hq hi hl h hmb hmF;intros;obtain⟨l,rfl⟩: ∃l',l=l'+1:=⟨l-1,by omega⟩
  have hil:i<c.aH:=by omega
  have c1:decide ((i:Int)<(c.aH:Int))=true:=by rw[decide_eq_true_eq];omega
  obtain⟨a1,a2⟩:=zD (c:=c.aH) hmb hml hil;have a1:bH 1 (eE mb c.aH) (.int .i64 (i:Int))=some (.pointer (some ⟨mb,i,none⟩)):=a1;have lc:ld1 (pt cb) H=some (pt y.nb,H):=cT h.cell rfl;have e9:=oK i (by omega)
  have hup:=Pf c mt s i;have hul:=Pe c mt s i;have hz:mt.getD i 0= -1∨0<=mt.getD i 0/\mt.getD i 0<(c.aH:Int):=by
   rw[aOa,aN8 (by omega),aOA]
   exact hmr _ (List.getElem_mem _)
  rw[aI,Xm];by_cases hneg:0<=mt.getD i 0
  ·obtain⟨o,ho⟩: ∃o:Nat,mt.getD i 0=o:=⟨(mt.getD i 0).toNat,by omega⟩
   have c2:decide ((0:Int)<=(o:Int))=true:=by rw[decide_eq_true_eq];omega
   rw[if_pos hneg,ho,aOz] at hup;rw[ho] at a2 hz;obtain⟨H1,v,g1,rfl,g2,F1,g3,g4⟩:=aMR h (m:=m) (i:=i) (o:=o) (by omega) (by omega) hil (by omega) (by omega) hmb hmF hmv
   simp -implicitDefEqProofs only[gsR,c1,a1,a2,c2,lc,g1,cI,e9];refine ih (i+1) l H1 F1 (by omega) (by omega) (by omega) ?_ g2 g4 ..
   rw[hup];exact g3
  ·have c2:decide ((0:Int)<=mt.getD i 0)=false:=aOR hneg
   rw[if_neg hneg] at hup;simp -implicitDefEqProofs only[gsR,c1,a1,a2,c2,cI,e9];refine ih (i+1) l H F (by omega) (by omega) (by omega) ?_ hmb hmF ..
   rw[hup];exact {h with node:={h.node with inv:=h.node.inv.rT (by omega)}}
end
section
variable {H0 Hs H : aC} {Fs F : Part → Nat → Prop} {y : Lay} {p : PlanD} {ev wv nv : Value} {c : Cfg} {t : Nat} {s : NS} {m : Nat}
theorem NodeAt.aM6 {H':aC}{g' a':List Nat}(h:NodeAt H0 H F y p ev wv nv c t s)(hg:g'.length=s.g.length)(hf:Fr (λb=>b=y.ga∨b=y.aa) H H')(hB:Blks (iY y.ab y.ga y.aa g' a') H')(hi:NInv c t {s with g:=g',a:=a'}):
  NodeAt H0 H' F y p ev wv nv c t {s with g:=g',a:=a'}/\Mv (Un F) (Un F) H H':=by
 refine h.B7 .arb (l:=iY y.ab y.ga y.aa s.g s.a) (l':=iY y.ab y.ga y.aa g' a') rfl Z8 ?_ ?_ hB hi rfl ?_
 ·intro q hq
  simp only[iY,aOq,aOx,or_false] at hq;rcases hq with rfl|rfl|rfl
  ·exact⟨_,aOf ..,rfl⟩
  ·exact⟨_,aOn _ (aOf ..),rfl⟩
  ·exact⟨_,aOn _ (aOn _ (aOf ..)),rfl⟩
 ·refine hf.Ay λb hb=> ?_
  rcases hb with rfl|rfl
  ·exact⟨_,aOn _ (aOf ..),rfl⟩
  ·exact⟨_,aOn _ (aOn _ (aOf ..)),rfl⟩
 ·intro j hj
  cases j with
  |arb=>exact absurd rfl hj
  |_=>rfl
theorem aAw (h:NodeAt H0 H F y p ev wv nv c t s)(ht:t<8000000)(hm:600<m):
  ∃H' F' v us,lvl prog pkN m (.func 41) [pt y.nb] H=some (v,H')/\NodeAt H0 H' F' y p ev wv nv c (t+7) (vA c s).1/\Mv (Un F) (Un F') H H'/\OutR H' (λb=>H.length<=b/\ ¬Un F' b) v us (vA c s).2:=by
 have h6:c.aH<=6:=by have:=h.ok.by';unfold Cfg.aH;omega
 have hp1:1<=c.aH:=by unfold Cfg.aH;omega
 obtain⟨H1,hH1⟩: ∃H1,H1=H++[pnB y.nb]:=⟨_,rfl⟩;obtain⟨H2,hH2⟩: ∃H2,H2=H1++[vN (.slice none 0 0)]:=⟨_,rfl⟩;have e1:H++[Blk.cells (Value.cells (pt y.nb)).toList 58 .fix]=H1:=by rw[hH1];rfl
 have e2:H1++[Blk.cells [Value.slice none 0 0] 68 .fix]=H2:=by rw[hH2];rfl
 have x1:Ext H H1:=by rw[hH1];exact Fr.app _ _ _
 have x2:Ext H1 H2:=by rw[hH2];exact Fr.app _ _ _
 have h1l:H1.length=H.length+1:=by rw[hH1];simp
 have bc:H2[H.length]? =some (pnB y.nb):=by
  have:H1[H.length]? =some (pnB y.nb):=by rw[hH1];exact dK _ _
  rw[x2.2 _ (dC this) id,this]
 have bv:H2[H1.length]? =some (vN (.slice none 0 0)):=by rw[hH2];exact dK _ _
 have hnew: ∀b,H.length<=b-> ¬Un F b:=λb hb hu=>by have:=h.sep.pM b hu;omega
 have g2:=(h.fR x1).fR x2;have T2:TickS H0 H H2 F F y p ev wv nv c t s H1.length H.length []:=
  ⟨g2,Mv.pK (x1.tr x2) _,h.ext.1,bc,hnew _ (aOb _),hnew _ (by omega),by omega,.slice none 0 0,[],bv,⟨Rw.lE,λb ⟨_,_,_,hh⟩=>(by cases hh),rfl,λi u o hu _=>(by cases hu)⟩⟩
 have lc2:ld1 (pt H.length) H2=some (pt y.nb,H2):=cT T2.cell rfl;obtain⟨H3,F3,f1,f2,f3⟩:=aMv g2 (m:=m-1) (by omega)
 have T3:=T2.uB f2 f3;obtain⟨s1,hs1⟩: ∃s1,s1=wT c s:=⟨_,rfl⟩;rw[<-hs1] at T3;have lc3:ld1 (pt H.length) H3=some (pt y.nb,H3):=cT T3.cell rfl;have n0:=T3.node.ld 0 (pt y.ab) rfl;obtain⟨H4,k1,k2,x4⟩:=aMq T3.node (m:=m-1) (by omega) (by omega)
 have T4:=T3.ext x4;have lc4:ld1 (pt H.length) H4=some (pt y.nb,H4):=cT T4.cell rfl;have n0':=T4.node.ld 0 (pt y.ab) rfl;have n6:=T4.node.ld 6 (.int .i64 c.rounds) rfl;have n6':=T3.node.ld 6 (.int .i64 c.rounds) rfl;have hI:=T4.node.inv;have hr:=T4.node.ok.rounds;obtain⟨H5,mb,r1,r2,r3,r4,r5⟩:=aLQ (m:=m-1) (H:=H4) (ab:=y.ab) (ga:=y.ga) (aa:=y.aa) (g:=s1.g) (a:=s1.a) (n:=c.aH) (rows:=kV c s1 c.aH 0) (qb:=H3.length) (rounds:=c.rounds)
  (T4.node.sep.see .arb rfl Z8) h.lay.ga hI.gl hI.al hI.g hI.a hp1 (by omega) k2 (tZ _ _ _ _) (aMn (by omega)) hr.1 (by omega) (by omega)
 rw[aMo] at r2 r5;obtain⟨mt,hmt⟩: ∃mt,mt=rQ (oG c s1) c.aH c.rounds s1.g s1.a:=⟨_,rfl⟩;rw[<-hmt] at r2 r5;have hM:MatI c.aH mt:=by rw[hmt];exact MatI.aJ3 (by omega) hI.gl hI.al hI.g hI.a
 have hi5:NInv c t {s1 with g:=mt.g,a:=mt.a}:={hI with gl:=hM.gl,al:=hM.al,g:=hM.g,a:=hM.a};obtain⟨g5,mv5⟩:=T4.node.aM6 (hM.gl.trans hI.gl.symm) r4 r5 hi5;have T5:=T4.uB g5 mv5;obtain⟨s2,hs2⟩: ∃s2:NS,s2={s1 with g:=mt.g,a:=mt.a}:=⟨_,rfl⟩;rw[<-hs2] at T5;have hmbF: ¬Un F3 mb:=λhu=>by have:=T4.node.sep.pM mb hu;omega
 have hmbv:mb≠H1.length:=λhh=>by
  obtain⟨v,us,r,_⟩:=T4.rows;have:=dC r;omega
 have e5:bX (eE mb c.aH)=some (.int .i64 c.aH):=rfl;have hut:=Pg c mt.m s2 c.aH;have hst:s2.ticks=s.ticks:=by rw[hs2];show s1.ticks=_;rw[hs1,aM1]
 have hres:vA c s=({(iD c mt.m s2 c.aH).1 with ticks:=(iD c mt.m s2 c.aH).1.ticks+1},if((iD c mt.m s2 c.aH).1.ticks+1)%c.every=0 then(iD c mt.m s2 c.aH).2++s5 c (iD c mt.m s2 c.aH).1 else(iD c mt.m s2 c.aH).2):=by
  rw[hut,hst];unfold vA iD;simp only;rw[hs2,hmt,hs1]
 have main: ∃H' v,lvl prog pkN m (.func 41) [pt y.nb] H=some (v,H')/\
   Pd H0 H F y p ev wv nv c (t+c.aH+1) {(iD c mt.m s2 c.aH).1 with ticks:=(iD c mt.m s2 c.aH).1.ticks+1} H1.length H.length (if((iD c mt.m s2 c.aH).1.ticks+1)%c.every=0 then(iD c mt.m s2 c.aH).2++s5 c (iD c mt.m s2 c.aH).1 else(iD c mt.m s2 c.aH).2) H' v:=by
  refine iP (cJ rfl) (by omega) ?_
  rw[aI4];have e4:(Value.func (.func _) #[] #[pt H1.length,pt H.length])=rW H1.length H.length:=rfl;simp -implicitDefEqProofs only[gsR,e1,e2,lc2,f1,lc3,n0,k1,n0',vM,lc4,n6,n6',B6,r1,e5];have T5':TickS H0 H H5 F F3 y p ev wv nv c (t+0) (iD c mt.m s2 0).1 H1.length H.length (iD c mt.m s2 0).2:=T5;refine aM5 (Q:=λH' v=>Pd H0 H F y p ev wv nv c (t+c.aH+1) {(iD c mt.m s2 c.aH).1 with ticks:=(iD c mt.m s2 c.aH).1.ticks+1} H1.length H.length (if((iD c mt.m s2 c.aH).1.ticks+1)%c.every=0 then(iD c mt.m s2 c.aH).2++s5 c (iD c mt.m s2 c.aH).1 else(iD c mt.m s2 c.aH).2) H' v)
   hM.ml hM.m (by omega) h6 hmbv (by omega) ?_ c.aH 0 (m-1) H5 F3 (by omega) (by omega) (by omega) T5' r2 hmbF ..
  intro H' F' h';intros;have hul:=Pe c mt.m s2 c.aH;refine aM4 h' (by omega) (by omega) (by omega) ?_ ..
  rw[hut,hst];have:=h.inv.ticks;omega
 obtain⟨H',v,q1,F',us,q2,q3⟩:=main;rw[hres];refine⟨H',F',v,us,q1,{q2.node with inv:=q2.node.inv.rT (by omega)},q2.mv,q3⟩
end
theorem aAx: ∀zs:List Int,(zs.map inC).flatten=zs.map λz:Int=>Value.int .i64 z
 |[]=>rfl
 |z::zs=>by
  rw[aOC,aOH,aAx zs];rfl
theorem aAy {H:aC}{u:Value}{zs:List Int}(h:Iw H u zs)(hne:zs≠[]): ∃b cap rest,u=kF b zs.length cap/\H[b]? =some (fB zs rest):=by
 obtain⟨_,⟨rfl,h0⟩|⟨c,cap,rest,rfl,h1,h2,h3⟩⟩:=h
 ·exact absurd (aOo.mp h0) hne
 ·refine⟨c,cap,rest,rfl,?_⟩
  rw[h3,aAx];rfl
section
variable {H : aC} {m : Nat}
theorem aAz {v:Value}{ws:List Int}(hw:Is H v ws)(hok:wOk ws=true)(hm:ws.length+100<m)(hm2:m<=72057594037927936):
  ∃H' wh ww wl wc lc wr lr,lvl prog pkN m (.func 87) [v] H=some (pt wh,H')/\Ext H H'/\Blks (lK wh ww wl wc lc wr lr ws ⟨ws,0⟩) H'/\ww≠wl/\H.length<=wh/\H.length<=ww/\H.length<=wl:=by
 have hlen:=hw.kC;have hcf:lvl prog pkN (m-1) (.func 167) [v,.func (.func 166) #[] #[]] H=some (.bool (ws.any qV),H):=by
  have:=Uy (H:=H) (m:=m-1) (v:=v) (fv:= .func (.func 166) #[] #[]) (n:=ws.length) (λi=>(ws[i]?.map qV).getD false) hlen (by omega) (by omega) (λi hi=>by
   have hx:ws[i]? =some ws[i]:=aN8 hi;obtain⟨b,o,g1,g2,g3⟩:=hw.iS iQ hx .i64;have l1:=(g3 H rfl).2.1 0 _ rfl;refine⟨_,_,g1,l1,?_⟩;have:=U2 (m:=m-1-1-1) (by omega) ws[i] H
   rw[hx];exact this)
  rw[this,Bc ws qV _ λi x h=>by rw[h];rfl]
 unfold wOk at hok;simp only[Bool.not_eq_true',Bool.or_eq_false_iff,decide_eq_false_iff_not] at hok;obtain⟨c1,c2,c3⟩:=hok;have e1:((ws.length:Int)==0)=false:=by simpa using c1
 rw[c3] at hcf;have hne:ws≠[]:=λh=>c1 (by rw[h];rfl)
 obtain⟨H1,u1,g1,g2,g3,g4⟩:=D8 (m:=m-1) hw hne (by omega) (by omega)
 obtain⟨H2,u2,q1,q2,q3,q4⟩:=D8 (m:=m-1) (hw.ext g2) hne (by omega) (by omega)
 obtain⟨ww,wc,wr,rfl,b1⟩:=aAy g3 hne;obtain⟨wl,lc,lr,rfl,b2⟩:=aAy q3 hne;have n1:=g4 ww ⟨_,_,_,rfl⟩;have n2:=q4 wl ⟨_,_,_,rfl⟩;have hb:bld prog 266 [(0,kF ww ws.length wc),(1,kF wl ws.length lc)]=some (.agg #[kF ww ws.length wc,kF wl ws.length lc,.int .i64 0]):=rfl;have e6:H2++[Blk.cells (Value.cells (.agg #[kF ww ws.length wc,kF wl ws.length lc,.int .i64 0])).toList 266 .fix]=H2++[rC ww wl wc lc ws.length 0]:=rfl;have x3:Ext H2 (H2++[rC ww wl wc lc ws.length 0]):=Fr.app _ _ _;have l1:=dC b1;have l2:=g2.1;have l3:=q2.1;refine⟨H2++[rC ww wl wc lc ws.length 0],H2.length,ww,wl,wc,lc,wr,lr,dA (cJ rfl) (by omega) ?_,(g2.tr q2).tr x3,λq hq=> ?_,by omega,by omega,n1,by omega⟩
 ·rw[Bb]
  simp -implicitDefEqProofs only[gsR,hlen,e1,c2,decide_false,hcf,g1,q1,hb,e6]
 ·simp only[lK,aOq,aOx,or_false] at hq
  rcases hq with rfl|rfl|rfl
  ·exact dK _ _
  ·simp only
   rw[x3.2 _ (by omega) id,q2.2 _ l1 id,b1]
  ·simp only
   rw[x3.2 _ (dC b2) id,b2]
end
theorem aAB (y:Lay)(c:Cfg)(i:Nat):dR (fQ y c i)=true:=by unfold fQ mT;split<;>rfl
theorem aM7 (y:Lay)(i k:Nat):dR (mB y i k)=true:=rfl
def DnB (c:Cfg)(n x i k:Nat):Prop:=(1<=i/\i<n/\k<c.lanes)∨(i=n/\k<x)
def mD (y:Lay)(c:Cfg)(n nw cs cr:Nat):Part->aC->Prop
 | .host=>λD=>HostAt D y.hb [] [] c.lanes c.queue
 | .whl i=>Blks (if i<nw then lK (y.wh i) (y.ww i) (y.wl i) (y.wc i) (y.lc i) (y.wr i) (y.lr i) c.weights ⟨c.weights,0⟩ else [])
 | .snd i k=>Blks (if DnB c n cs i k then [(y.sb i k,mA ⟨c.start,c.start+c.room⟩)] else [])
 | .rcv i k=>Blks (if DnB c n cr i k then [(y.rb i k,jA ⟨c.start,0⟩ c.room)] else [])
 |_=>Blks []
def rD (bag:Int)(ev wv nv:Value)(y:Lay)(c:Cfg)(pv:Value):Blk:=
 .cells [.pointer none,.int .i64 c.nodes,ev,.int .i64 c.lanes,.int .i64 c.room,.int .i64 c.queue,.int .i64 c.rounds,.int .i64 c.every,.int .i64 bag,wv,.int .u16 c.start,nv,.int .i64 c.me,pv,pt y.hb,.pointer none,.int .i64 0] 162 .fix
structure BN (Hs H:aC)(F:Part->Nat->Prop)(bag:Int)(ev wv nv:Value)(y:Lay)(c:Cfg)(n nw cs cr:Nat)(pv:Value):Prop where
 ext:Ext Hs H
 sep:Sep (mD y c n nw cs cr) F H
 new: ∀b,Un F b->Hs.length<=b
 nb:H[y.nb]? =some (rD bag ev wv nv y c pv)
 nbF: ¬Un F y.nb
 nb0:Hs.length<=y.nb
 ports:Rw (fQ y c) 167 3 H pv (List.range n)
 pvF: ∀b,cK pv b->Hs.length<=b/\ ¬Un F b
 lanes: ∀i,1<=i->i<n->H[y.lb i]? =some (oM y c i)/\Hs.length<=y.lb i/\ ¬Un F (y.lb i)/\c.lanes<=y.lcap i
 lne: ∀i j,1<=i->i<n->1<=j->j<n->y.lb i=y.lb j->i=j
 ww: ∀i,i<nw->y.ww i≠y.wl i
theorem Cg (y:Lay)(c:Cfg)(n nw cs cr:Nat)(i:Part):DX (mD y c n nw cs cr i):=by
 cases i with
 |host=>exact λD D' h he=>h.ext he
 |_=>exact Blks.dx _
theorem tB {F:Part->Nat->Prop}{i:Part}{G:Nat->Prop}{b:Nat}(h:Un (updI F i G) b):Un F b∨G b:=by
 obtain⟨j,hj⟩:=h;by_cases hji:j=i
 ·rw[hji,nH] at hj
  exact .inr hj
 ·rw[fM _ _ hji] at hj
  exact .inl ⟨j,hj⟩
section
variable {Hs H : aC} {F : Part → Nat → Prop} {bag : Int} {ev wv nv : Value} {y : Lay} {c : Cfg} {n nw cs cr : Nat} {pv : Value}
theorem BN.aAA {H':aC}(h:BN Hs H F bag ev wv nv y c n nw cs cr pv)(he:Ext H H'):BN Hs H' F bag ev wv nv y c n nw cs cr pv:=by
 refine {h with ext:=h.ext.tr he,sep:=h.sep.ext (Cg _ _ _ _ _ _) he,nb:=by rw[he.2 _ (dC h.nb) id,h.nb],ports:=h.ports.gF λb hb=>he.2 b (h.ports.iO hb) id,lanes:=λi h1 h2=> ?_}
 obtain⟨q1,q2⟩:=h.lanes i h1 h2
 exact⟨by rw[he.2 _ (dC q1) id,q1],q2⟩
theorem BN.Pi {H':aC}{y':Lay}{nw' cs' cr':Nat}(h:BN Hs H F bag ev wv nv y c n nw cs cr pv)(i:Part){l:List (Nat×Blk)}(hB:Blks l H')(he:Ext H H')(hn: ∀q∈l,H.length<=q.1)(hi: ∀b,¬F i b)
  (hcon: ∀j D,updI (mD y c n nw cs cr) i (Blks l) j D->mD y' c n nw' cs' cr' j D)(e1:y'.nb=y.nb)(e2:y'.hb=y.hb)(e3: ∀i,i<n->fQ y' c i=fQ y c i)(e4:y'.lb=y.lb)(e5:y'.lcap=y.lcap)(e6: ∀i,1<=i->i<n->oM y' c i=oM y c i)(e7: ∀i,i<nw'->y'.ww i≠y'.wl i):
  BN Hs H' (updI F i (InB l)) bag ev wv nv y' c n nw' cs' cr' pv:=by
 have hlt: ∀b,InB l b->b<H'.length:=λb hb=>by
  obtain⟨q,hq,rfl⟩:=hb;exact dC (hB q hq)
 have hge: ∀b,InB l b->H.length<=b:=λb hb=>by
  obtain⟨q,hq,rfl⟩:=hb;exact hn q hq
 have hhas:Has (Blks l) (InB l) H':=Has.Fz hB (λq hq=>⟨q,hq,rfl⟩) hlt
 have hs:=h.sep.F5 i (Cg _ _ _ _ _ _) hi hhas he hge;have hun: ∀b,b<H.length-> ¬Un F b-> ¬Un (updI F i (InB l)) b:=λb hb hF hu=>(tB hu).elim hF λhg=>by have:=hge b hg;omega
 refine⟨h.ext.tr he,hs.wI hcon,λb hb=> ?_,?_,?_,by rw[e1];exact h.nb0,?_,λb hb=>⟨(h.pvF b hb).1,hun b (h.ports.iO hb) (h.pvF b hb).2⟩,λj h1 h2=> ?_,λi j=>by rw[e4];exact h.lne i j,e7⟩
 ·rcases tB hb with hb|hb
  ·exact h.new b hb
  ·exact aOm h.ext.1 (hge b hb)
 ·rw[e1,he.2 _ (dC h.nb) id,h.nb]
  unfold rD;rw[e2]
 ·rw[e1]
  exact hun _ (dC h.nb) h.nbF
 ·have hk:=h.ports.gF (H':=H') λb hb=>he.2 b (h.ports.iO hb) id
  have em:(List.range n).map (fQ y' c)=(List.range n).map (fQ y c):=List.map_congr_left λi hi=>e3 i (aOL.mp hi)
  unfold Rw at hk⊢;rw[em];exact hk
 ·obtain⟨q1,q2,q3,q4⟩:=h.lanes j h1 h2
  rw[e4,e5,e6 j h1 h2]
  exact⟨by rw[he.2 _ (dC q1) id,q1],q2,hun _ (dC q1) q3,q4⟩
theorem nZ {α:Type}(f:Nat->α)(i:Nat)(x:α):up1 f i x i=x:=if_pos rfl
theorem nQ {α:Type}(f:Nat->α){i j:Nat}(x:α)(h:j≠i):up1 f i x j=f j:=if_neg h
theorem Gl {α:Type}(f:Nat->Nat->α)(i k:Nat)(x:α):up2 f i k x i k=x:=if_pos ⟨rfl,rfl⟩
theorem zJ {α:Type}(f:Nat->Nat->α){i k j l:Nat}(x:α)(h: ¬(j=i/\l=k)):up2 f i k x j l=f j l:=if_neg h
theorem BN.whl {H':aC}(h:BN Hs H F bag ev wv nv y c n n 0 0 pv)(hF: ∀i,n<=i-> ∀b,¬F (.whl i) b){wh ww wl wc lc:Nat}{wr lr:List Value}(hB:Blks (lK wh ww wl wc lc wr lr c.weights ⟨c.weights,0⟩) H')(he:Ext H H')(hne:ww≠wl)(h1:H.length<=wh)(h2:H.length<=ww)(h3:H.length<=wl):
  BN Hs H' (updI F (.whl n) (InB (lK wh ww wl wc lc wr lr c.weights ⟨c.weights,0⟩))) bag ev wv nv {y with wh:=up1 y.wh n wh,ww:=up1 y.ww n ww,wl:=up1 y.wl n wl,wc:=up1 y.wc n wc,lc:=up1 y.lc n lc,wr:=up1 y.wr n wr,lr:=up1 y.lr n lr} c n (n+1) 0 0 pv:=by
 refine h.Pi (.whl n) hB he (λq hq=> ?_) (hF n (aOb _)) (λj D hD=> ?_) rfl rfl (λi hi=> ?_) rfl rfl (λ_ _ _=>rfl) λi hi=> ?_
 ·simp only[lK,aOq,aOx,or_false] at hq
  rcases hq with rfl|rfl|rfl
  ·exact h1
  ·exact h2
  ·exact h3
 ·cases j with
  |whl i=>
   by_cases hi:i=n
   ·subst hi
    rw[nH] at hD;simp only[mD];rw[if_pos (Nat.lt_succ_self _),nZ,nZ,nZ,nZ,nZ,nZ,nZ];exact hD
   ·rw[fM _ _ (λhh=>hi (by injection hh))] at hD
    simp only[mD] at hD⊢;rw[nQ _ _ hi,nQ _ _ hi,nQ _ _ hi,nQ _ _ hi,nQ _ _ hi,nQ _ _ hi,nQ _ _ hi];by_cases hin:i<n
    ·rw[if_pos hin] at hD
     rw[if_pos (by omega)]
     exact hD
    ·rw[if_neg hin] at hD
     rw[if_neg (by omega)]
     exact hD
  |_=>
   rw[fM _ _ (λhh=>by cases hh)] at hD
   exact hD
 ·unfold fQ mT
  simp only;rw[nQ _ _ (by omega)]
 ·simp only
  by_cases hin:i=n
  ·subst hin
   rw[nZ,nZ];exact hne
  ·rw[nQ _ _ hin,nQ _ _ hin]
   exact h.ww i (by omega)
theorem BN.snd {k b:Nat}(h:BN Hs H F bag ev wv nv y c n (n+1) k k pv)(hF: ∀b,¬F (.snd n k) b)(hb:b=H.length):
  BN Hs (H++[mA ⟨c.start,c.start+c.room⟩]) (updI F (.snd n k) (InB [(b,mA ⟨c.start,c.start+c.room⟩)])) bag ev wv nv {y with sb:=up2 y.sb n k b} c n (n+1) (k+1) k pv:=by
 subst hb;refine h.Pi (.snd n k) (λq hq=> ?_) (Fr.app _ _ _) (λq hq=> ?_) hF (λj D hD=> ?_) rfl rfl (λi hi=>rfl) rfl rfl (λi h1 h2=> ?_) h.ww
 ·simp only[aOq,aOx,or_false] at hq
  subst hq;exact dK _ _
 ·simp only[aOq,aOx,or_false] at hq
  subst hq;exact aOb _
 ·cases j with
  |snd i k'=>
   by_cases hi:i=n/\k'=k
   ·obtain⟨rfl,rfl⟩:=hi
    rw[nH] at hD;simp only[mD];rw[if_pos (.inr ⟨rfl,Nat.lt_succ_self _⟩),Gl];exact hD
   ·rw[fM _ _ (λhh=>hi (by injection hh with h1 h2;exact⟨h1,h2⟩))] at hD
    simp only[mD] at hD⊢;rw[zJ _ _ hi];by_cases hd:DnB c n k i k'
    ·rw[if_pos hd] at hD
     rw[if_pos (by unfold DnB at hd ⊢; omega)]
     exact hD
    ·rw[if_neg hd] at hD
     rw[if_neg (by unfold DnB at hd ⊢; omega)]
     exact hD
  |_=>
   rw[fM _ _ (λhh=>by cases hh)] at hD
   exact hD
 ·have: ∀k',mB {y with sb:=up2 y.sb n k H.length} i k'=mB y i k':=λk'=>by
   unfold mB;simp only;rw[zJ _ _ (by omega)]
  unfold oM;rw[List.map_congr_left λk' _=>this k']
theorem BN.rcv {k b:Nat}(h:BN Hs H F bag ev wv nv y c n (n+1) (k+1) k pv)(hF: ∀b,¬F (.rcv n k) b)(hb:b=H.length):
  BN Hs (H++[jA ⟨c.start,0⟩ c.room]) (updI F (.rcv n k) (InB [(b,jA ⟨c.start,0⟩ c.room)])) bag ev wv nv {y with rb:=up2 y.rb n k b} c n (n+1) (k+1) (k+1) pv:=by
 subst hb;refine h.Pi (.rcv n k) (λq hq=> ?_) (Fr.app _ _ _) (λq hq=> ?_) hF (λj D hD=> ?_) rfl rfl (λi hi=>rfl) rfl rfl (λi h1 h2=> ?_) h.ww
 ·simp only[aOq,aOx,or_false] at hq
  subst hq;exact dK _ _
 ·simp only[aOq,aOx,or_false] at hq
  subst hq;exact aOb _
 ·cases j with
  |rcv i k'=>
   by_cases hi:i=n/\k'=k
   ·obtain⟨rfl,rfl⟩:=hi
    rw[nH] at hD;simp only[mD];rw[if_pos (.inr ⟨rfl,Nat.lt_succ_self _⟩),Gl];exact hD
   ·rw[fM _ _ (λhh=>hi (by injection hh with h1 h2;exact⟨h1,h2⟩))] at hD
    simp only[mD] at hD⊢;rw[zJ _ _ hi];by_cases hd:DnB c n k i k'
    ·rw[if_pos hd] at hD
     rw[if_pos (by unfold DnB at hd ⊢; omega)]
     exact hD
    ·rw[if_neg hd] at hD
     rw[if_neg (by unfold DnB at hd ⊢; omega)]
     exact hD
  |_=>
   rw[fM _ _ (λhh=>by cases hh)] at hD
   exact hD
 ·have: ∀k',mB {y with rb:=up2 y.rb n k H.length} i k'=mB y i k':=λk'=>by
   unfold mB;simp only;rw[zJ _ _ (by omega)]
  unfold oM;rw[List.map_congr_left λk' _=>this k']
theorem BN.Ph {H':aC}{N:Nat->Prop}{pv':Value}{n':Nat}(h:BN Hs H F bag ev wv nv y c n nw cs cr pv)(hf:Fr N H H')(hN: ∀b,N b-> ¬Un F b/\Hs.length<=b):
  Ext Hs H'/\Sep (mD y c n nw cs cr) F H':=by
 have hm:Mv N N H H':=⟨hf.1,λ_ h=> .inl h,λb hb hn=>hf.2 b hb hn⟩
 refine⟨⟨aOm h.ext.1 hf.1,λa ha _=> ?_⟩,h.sep.wJ (Cg _ _ _ _ _ _) hm λa ha hh=>(hN a hh).1 ha⟩
 rw[hf.2 a (aOl ha h.ext.1) (λhh=>by have:=(hN a hh).2;omega),h.ext.2 a ha id]
end
theorem aAC {α:Type}(f:α->Bool): ∀l:List α,l.length=(l.filter f).length+(l.filter λx=> !f x).length
 |[]=>rfl
 |x::l=>by
  have:=aAC f l;rw[List.filter_cons,List.filter_cons];cases f x
  ·simp
   omega
  ·simp
   omega
theorem aM8 {p:PlanD}{me:Nat}(h:lP p=true)(hm:(me:Int)<p.nodes)(hs:0<=p.start/\p.start<65536):(iI p me).ok/\p.nodes=((iI p me).nodes:Int)/\p.lanes=((iI p me).lanes:Int)/\p.room=((iI p me).room:Int)/\p.queue=((iI p me).queue:Int)/\p.rounds=((iI p me).rounds:Int)/\p.every=((iI p me).every:Int)/\p.start=((iI p me).start:Int)/\
  (∀i,i<(bes p.edges me).length->(bes p.edges me)[i]? =some (((iI p me).by'.getD i 0:Nat):Int))/\wOk p.weights=true:=by
 obtain⟨n,hok⟩:=Ez h;have h':=h;unfold lP uU wN uW wi at h;simp only[aOe,decide_eq_true_eq,Bool.not_eq_true'] at h;obtain⟨⟨⟨a1,a2⟩,⟨b1,b2⟩,⟨c1,c2⟩,⟨d1,d2⟩,⟨e1,e2⟩,⟨f1,f2⟩,g1,g2⟩,⟨h3,h4⟩,hwl,hwo,h5,h6⟩:=h;have hw:=hwo;unfold wOk at hwo;simp only[Bool.not_eq_true',Bool.or_eq_false_iff,decide_eq_false_iff_not] at hwo;obtain⟨w1,w2,w3⟩:=hwo;rw[List.any_eq_false] at w3;have hmem: ∀w∈bes p.edges me,0<=w/\w<(n:Int)/\w≠me:=λw hw=>by
  rw[Kz] at hw;obtain⟨q1,q2⟩:=hw;rcases q2 with q2|q2
  ·have:=hok.ve.ok _ q2
   unfold okE at this;simp only at this;omega
  ·have:=hok.ve.ok _ q2
   unfold okE at this;simp only at this;omega
 have hn:=hok.hn;have hpw:=Ea p.edges me;have hlen:(bes p.edges me).length<=5:=by
  have k1:=Ec ((bes p.edges me).filter λw=>decide (w<me)) 0 ((me:Int)-1) (hpw.sublist List.filter_sublist) (λx hx=>by
   obtain⟨y1,y2⟩:=List.mem_filter.mp hx;have:=hmem x y1;rw[decide_eq_true_eq] at y2;omega) (by omega)
  have k2:=Ec ((bes p.edges me).filter λw=> !decide (w<me)) ((me:Int)+1) ((n:Int)-1) (hpw.sublist List.filter_sublist) (λx hx=>by
   obtain⟨y1,y2⟩:=List.mem_filter.mp hx;have:=hmem x y1;simp only[Bool.not_eq_true',decide_eq_false_iff_not] at y2;omega) (by omega)
  have k3:=aAC (λw=>decide (w<(me:Int))) (bes p.edges me)
  have:=hok.h6;omega
 have hget: ∀i,i<(bes p.edges me).length->(bes p.edges me)[i]? =some (((iI p me).by'.getD i 0:Nat):Int):=λi hi=>by
  have hx:=hmem _ (List.getElem_mem hi);show _=some (((((bes p.edges me).map Int.toNat).getD i 0:Nat)):Int)
  rw[aOa,aOj,aN8 hi,Option.map_some,aOA,Int.toNat_of_nonneg hx.1]
 have hbl:(iI p me).by'.length=(bes p.edges me).length:=by show((bes p.edges me).map Int.toNat).length=_;simp
 refine⟨⟨?_,?_,?_,?_,?_,?_,?_,?_,?_,?_,?_,?_,?_,?_⟩,?_,?_,?_,?_,?_,?_,?_,hget,hw⟩
 ·show 2<=p.nodes.toNat/\p.nodes.toNat<=6
  omega
 ·show 1<=p.lanes.toNat/\p.lanes.toNat<=3
  omega
 ·show 1<=p.room.toNat/\p.room.toNat<=8
  omega
 ·show 1<=p.queue.toNat/\p.queue.toNat<=8
  omega
 ·show 1<=p.rounds.toNat/\p.rounds.toNat<=4
  omega
 ·show 1<=p.every.toNat/\p.every.toNat<=8
  omega
 ·show p.weights.length=p.lanes.toNat
  omega
 ·intro x hx
  have:=w3 x hx;unfold qV at this;simp only[Bool.or_eq_true,decide_eq_true_eq,not_or] at this;omega
 ·show p.start.toNat<65536
  omega
 ·show me<p.nodes.toNat
  omega
 ·rw[hbl]
  exact hlen
 ·intro w hw
  obtain⟨z,hz,rfl⟩:=aOK.mp hw;have:=hmem z hz;show z.toNat<p.nodes.toNat/\z.toNat≠me
  omega
 ·show((bes p.edges me).map Int.toNat).Nodup
  unfold List.Nodup;rw[List.pairwise_map];refine List.Pairwise.imp_of_mem (λ{a b} ha hb hab=> ?_) hpw
  have h1:=hmem a ha;have h2:=hmem b hb;omega
 ·intro d hd
  show(if d=me then 0 else _)<(iI p me).by'.length+1
  split
  ·omega
  ·split
   ·rename_i j hj
    have:=(List.findIdx?_eq_some_iff_getElem.mp hj).1;show j+1<((bes p.edges me).map Int.toNat).length+1
    omega
   ·omega
 ·show p.nodes=(p.nodes.toNat:Int)
  omega
 ·show p.lanes=(p.lanes.toNat:Int)
  omega
 ·show p.room=(p.room.toNat:Int)
  omega
 ·show p.queue=(p.queue.toNat:Int)
  omega
 ·show p.rounds=(p.rounds.toNat:Int)
  omega
 ·show p.every=(p.every.toNat:Int)
  omega
 ·show p.start=(p.start.toNat:Int)
  omega
def rE (c:Cfg)(n nw cs cr:Nat):Part->Prop
 | .host=>True
 | .whl i=>i<nw
 | .snd i k=>DnB c n cs i k
 | .rcv i k=>DnB c n cr i k
 |_=>False
def FE (F:Part->Nat->Prop)(c:Cfg)(n nw cs cr:Nat):Prop:= ∀j,¬rE c n nw cs cr j-> ∀b,¬F j b
theorem FE.Gm {F:Part->Nat->Prop}{c:Cfg}{n nw cs cr n' nw' cs' cr':Nat}{i:Part}{G:Nat->Prop}(h:FE F c n nw cs cr)(hi:rE c n' nw' cs' cr' i)(hm: ∀j,rE c n nw cs cr j->rE c n' nw' cs' cr' j):FE (updI F i G) c n' nw' cs' cr':=λj hj b hb=>by
 by_cases hji:j=i
 ·exact hj (by rw[hji];exact hi)
 ·rw[fM _ _ hji] at hb
  exact h j (λhd=>hj (hm j hd)) b hb
def Krow (H H':aC):Prop:= ∀(b:Nat)(cs:List Value),H[b]? =some (.cells cs 3 .row)->H'[b]? =some (.cells cs 3 .row)
theorem Krow.ext {H0 H H':aC}(h:Krow H0 H)(he:Ext H H'):Krow H0 H':=λb cs hb=>by
 have:=h b cs hb;rw[he.2 _ (dC this) id,this]
theorem Krow.iw {H H':aC}{v:Value}{zs:List Int}(h:Krow H H')(hv:Iw H v zs):Iw H' v zs:=hv.gF λb hb=>by
 obtain⟨cs,hc⟩:=hv.blk hb;rw[hc,h b cs hc]
section
variable {Hs H : aC} {F : Part → Nat → Prop} {bag : Int} {ev wv nv : Value} {y : Lay} {c : Cfg} {n nw cs cr : Nat} {pv : Value} {m : Nat}
theorem BN.aM9 {H':aC}{N:Nat->Prop}(h:BN Hs H F bag ev wv nv y c n nw cs cr pv)(hf:Fr N H H')(hN: ∀b,N b->b<H.length-> ¬Un F b/\Hs.length<=b/\b≠y.nb/\ ¬cK pv b/\ ∀i,1<=i->i<n->b≠y.lb i):BN Hs H' F bag ev wv nv y c n nw cs cr pv:=by
 have hf':Fr (λb=>N b/\b<H.length) H H':=⟨hf.1,λb hb hn=>hf.2 b hb λhh=>hn ⟨hh,hb⟩⟩
 obtain⟨x1,x2⟩:=h.Ph (pv':=pv) (n':=n) hf' λb hb=>⟨(hN b hb.1 hb.2).1,(hN b hb.1 hb.2).2.1⟩
 have hnb:=dC h.nb;refine {h with ext:=x1,sep:=x2,nb:= ?_,ports:=h.ports.gF λb hb=>hf.2 b (h.ports.iO hb) λhh=>(hN b hh (h.ports.iO hb)).2.2.2.1 hb,lanes:=λi h1 h2=> ?_}
 ·rw[hf.2 _ hnb (λhh=>(hN _ hh hnb).2.2.1 rfl),h.nb]
 ·obtain⟨q1,q2⟩:=h.lanes i h1 h2
  have hl:=dC q1
  exact⟨by rw[hf.2 _ hl (λhh=>(hN _ hh hl).2.2.2.2 i h1 h2 rfl),q1],q2⟩
structure XN (Hs H:aC)(F:Part->Nat->Prop)(y:Lay)(n k xb:Nat)(w:Nat)(lv:Value):Prop where
 blk:H[xb]? =some (.cells [.int .i64 w,lv,pt (y.wh n)] 167 .fix)
 xF: ¬Un F xb
 x0:Hs.length<=xb
 rows:Rw (mB y n) 172 2 H lv (List.range k)
 lvF: ∀b,cK lv b->Hs.length<=b/\ ¬Un F b/\ ∀i,1<=i->i<n->b≠y.lb i
theorem aNa {b:Nat}{a1 a2:Nat}(H:aC):bld prog 172 [(0,pt a1),(1,pt a2)]=some (.agg #[pt a1,pt a2])/\dJ 172 2 1 [.pointer none,.pointer none] [(0,.agg #[pt a1,pt a2])] H=some (.slice (some ⟨H.length,0,none⟩) 1 1,H++[.cells [pt a1,pt a2] 172 .row]):=⟨rfl,rfl⟩
theorem aNb {p:PlanD}{pl i w xb len:Nat}{bv:Value}(hok:c.ok)(hpl:Hs[pl]? =some (plB p ev wv nv))(h1:1<=n)(e3:p.room=(c.room:Int))(e9:p.start=(c.start:Int))(hm:50<m){nb:Nat}{Hb:aC}{K:Ex->K (Value×aC)}{Q:aC->Value->Prop}
    (hK: ∀H' F' y' lv,y'.nb=nb->BN Hs H' F' bag ev wv nv y' c n (n+1) c.lanes c.lanes pv->FE F' c n (n+1) c.lanes c.lanes->XN Hs H' F' y' n c.lanes xb w lv->Krow Hb H'-> ∀(x0 x1 x3 x4 x6 x7 x9 bK bM aR aN aM aP aZ bG aQ bC bJ bL bI bE aS aT aU aV aW aX aY bA bB bN bO bP bQ bR bS bT bU bV bY cE cG cH cL cM cN cO cR cY cW cX cZ dD dH dE dI dP dQ dV dW dX dY dZ eA eC eJ eK eM eN eO eP eQ eS eT eU eV eW fC fD fE fF fG fH fI fJ fS fT fU fV fW fX fY fZ gA gB gC gD gE gG gH gI gJ gK gL gM gN gO gP gQ gR gS gT gU gV gW gX gY gZ:Value),∃H2 r,M4 (lvl prog pkN m) (aI m) K x0 x1 (pt pl) x3 x4 (pt nb) x6 x7 (pt xb) x9 bK bM aR aN aM aP aZ bG aQ bC bJ bL bI bE aS aT aU aV aW aX aY bA bB bN bO bP bQ bR bS bT bU bV bY cE cG cH cL bv (.int .i64 len) (.int .i64 (i:Nat)) cM cN cO cR cY cW cX cZ dD dH dE dI dP dQ dV dW dX dY dZ eA eC eJ eK eM eN eO eP eQ eS eT eU eV eW fC fD fE fF fG fH fI fJ fS fT fU fV fW fX fY fZ gA gB gC gD gE gG gH gI gJ gK gL gM gN gO gP gQ gR gS gT gU gV gW gX gY gZ H'=some (r,H2)/\Q H2 r):
    ∀(q k l:Nat)(H:aC)(F:Part->Nat->Prop)(y:Lay)(lv:Value),c.lanes-k=q->k<=c.lanes->q<l->y.nb=nb->BN Hs H F bag ev wv nv y c n (n+1) k k pv->FE F c n (n+1) k k->XN Hs H F y n k xb w lv->Krow Hb H-> ∀(x0 x1 x3 x4 x6 x7 x9 bK bM aR aN aM aP aZ bG aQ bC bJ bL bI bE aS aT aU aV aW aX aY bA bB bN bO bP bQ bR bS bT bU bV bY cE cG cH cL cM cN cO cR cY cW cX cZ dD dI dP dQ dV dW dX dY dZ eA eC eJ eK eM eN eO eP eQ eS eT eU eV eW fC fD fE fF fG fH fI fJ fS fT fU fV fW fX fY fZ gA gB gC gD gE gG gH gI gJ gK gL gM gN gO gP gQ gR gS gT gU gV gW gX gY gZ:Value),
    ∃H2 r,aI l (aK prog (lvl prog pkN m) (aI m) M2) (M6 (lvl prog pkN m) (aI m) K) [x0,x1,(pt pl),x3,x4,(pt nb),x6,x7,(pt xb),x9,bK,bM,aR,aN,aM,aP,aZ,bG,aQ,bC,bJ,bL,bI,bE,aS,aT,aU,aV,aW,aX,aY,bA,bB,bN,bO,bP,bQ,bR,bS,bT,bU,bV,bY,cE,cG,cH,cL,bv,(.int .i64 len),(.int .i64 (i:Nat)),cM,cN,cO,cR,cY,cW,cX,cZ,dD,(.int .i64 c.lanes),(.int .i64 (k:Nat)),dI,dP,dQ,dV,dW,dX,dY,dZ,eA,eC,eJ,eK,eM,eN,eO,eP,eQ,eS,eT,eU,eV,eW,fC,fD,fE,fF,fG,fH,fI,fJ,fS,fT,fU,fV,fW,fX,fY,fZ,gA,gB,gC,gD,gE,gG,gH,gI,gJ,gK,gL,gM,gN,gO,gP,gQ,gR,gS,gT,gU,gV,gW,gX,gY,gZ] H=some (r,H2)/\Q H2 r:=by
  intro q;induction q with
  |zero=>
    intro k l H F y lv hq hk hl hnb h hfe hx hkr;intros;obtain⟨l,rfl⟩: ∃l',l=l'+1:=⟨l-1,by omega⟩
    have hke:k=c.lanes:=by omega
    subst hke;have c1:decide ((c.lanes:Int)<(c.lanes:Int))=false:=by simp
    rw[aI,Xj];simp -implicitDefEqProofs only[gsR,c1];rw[aI0];exact hK H F y lv hnb h hfe hx hkr ..
  |succ q ih=>
    intro k l H F y lv hq hk hl hnb h hfe hx hkr;intros;obtain⟨l,rfl⟩: ∃l',l=l'+1:=⟨l-1,by omega⟩
    have h3:=hok.lanes.2;have hst:=hok.start;have hrm:=hok.room;have hkl:k<c.lanes:=by omega
    have c1:decide ((k:Int)<(c.lanes:Int))=true:=by rw[decide_eq_true_eq];omega
    have hpH: ∀G:aC,Ext Hs G->G[pl]? =some (plB p ev wv nv):=λG hG=>by rw[hG.2 _ (dC hpl) id,hpl]
    -- the ends
    obtain⟨H1,hH1⟩: ∃H1,H1=H++[mA ⟨c.start,c.start+c.room⟩]:=⟨_,rfl⟩;obtain⟨H2,hH2⟩: ∃H2,H2=H1++[jA ⟨c.start,0⟩ c.room]:=⟨_,rfl⟩;have x1:Ext H H1:=by rw[hH1];exact Fr.app _ _ _
    have x2:Ext H1 H2:=by rw[hH2];exact Fr.app _ _ _
    have h1l:H1.length=H.length+1:=by rw[hH1];simp
    have h2l:H2.length=H.length+2:=by rw[hH2];simp;omega
    have g1:=h.snd (hfe (.snd n k) (by unfold rE DnB;omega)) (b:=H.length) rfl
    rw[<-hH1] at g1;have fe1:FE _ c n (n+1) (k+1) k:=hfe.Gm (i:= .snd n k) (G:=InB [(H.length,mA ⟨c.start,c.start+c.room⟩)]) (n':=n) (nw':=n+1) (cs':=k+1) (cr':=k) (show DnB c n (k+1) n k from .inr ⟨rfl,by omega⟩) (λj hj=>by
      cases j<;>simp only[rE] at hj⊢ <;>(try exact hj)<;>(unfold DnB at hj ⊢; omega))
    have g2:=g1.rcv (fe1 (.rcv n k) (by unfold rE DnB;omega)) (b:=H1.length) rfl
    rw[<-hH2] at g2;have fe2:FE _ c n (n+1) (k+1) (k+1):=fe1.Gm (i:= .rcv n k) (G:=InB [(H1.length,jA ⟨c.start,0⟩ c.room)]) (n':=n) (nw':=n+1) (cs':=k+1) (cr':=k+1) (show DnB c n (k+1) n k from .inr ⟨rfl,by omega⟩) (λj hj=>by
      cases j<;>simp only[rE] at hj⊢ <;>(try exact hj)<;>(unfold DnB at hj ⊢; omega))
    obtain⟨F2,hF2⟩: ∃F2,F2=updI (updI F (.snd n k) (InB [(H.length,mA ⟨c.start,c.start+c.room⟩)])) (.rcv n k) (InB [(H1.length,jA ⟨c.start,0⟩ c.room)]):=⟨_,rfl⟩;obtain⟨y2,hy2⟩: ∃y2:Lay,y2={y with sb:=up2 y.sb n k H.length,rb:=up2 y.rb n k H1.length}:=⟨_,rfl⟩;rw[<-hF2] at g2 fe2;have g2:BN Hs H2 F2 bag ev wv nv y2 c n (n+1) (k+1) (k+1) pv:=by rw[hy2];exact g2
    have hun2: ∀b,b<H.length-> ¬Un F b-> ¬Un F2 b:=λb hb hF hu=>by
      rw[hF2] at hu;rcases tB hu with hu|⟨q,hq,rfl⟩
      · rcases tB hu with hu|⟨q,hq,rfl⟩
        · exact hF hu
        · simp only[aOq,aOx,or_false] at hq
          subst hq;simp at hb
      · simp only[aOq,aOx,or_false] at hq
        subst hq;simp only at hb;omega
    -- the row of one
    obtain⟨eb,es⟩:=aNa (b:=0) (a1:=H.length) (a2:=H1.length) H2;have hl2:mB y2 n k=[pt H.length,pt H1.length]:=by
      rw[hy2];unfold mB;simp only;rw[Gl,Gl]
    have hrow:Rw (mB y2 n) 172 2 H2 lv (List.range k):=by
      have hk0:=hx.rows.gF (H':=H2) λb hb=>(x1.tr x2).2 b (hx.rows.iO hb) id
      have em:(List.range k).map (mB y2 n)=(List.range k).map (mB y n):=List.map_congr_left λj hj=>by
        have hj:=aOL.mp hj;rw[hy2];unfold mB;simp only;rw[zJ _ _ (by omega),zJ _ _ (by omega)]
      unfold Rw at hk0⊢;rw[em];exact hk0
    have hw1:Rr (mB y2 n) 172 (H2++[.cells [pt H.length,pt H1.length] 172 .row]) (.slice (some ⟨H2.length,0,none⟩) 1 1) [k]:=by
      have:=wG (el:=mB y2 n) (e:=172) k H2;rw[hl2] at this;exact this
    obtain⟨H3,hH3⟩: ∃H3,H3=H2++[Blk.cells [pt H.length,pt H1.length] 172 .row]:=⟨_,rfl⟩;have h3l:H3.length=H2.length+1:=by rw[hH3];simp
    obtain⟨lv',H4,k1,k2,k3,k4,k5⟩:=(hrow.sP [Blk.cells [pt H.length,pt H1.length] 172 .row]).wH (aAa y2 n) (aM7 y2 n) (by decide) (by':=16) hw1.rs (kH (n:=1000) (by decide) (by simp;omega))
    rw[<-hH3] at k1 k3 k4 k5 es;rw[<-aOG] at k2
    -- stored
    have hxl:=dC hx.blk;have hlvx: ¬cK lv xb:=λhh=>by
      obtain⟨cs',hc'⟩:=hx.rows.blk hh;rw[hx.blk] at hc';injection hc' with hc';injection hc' with _ _ h3;cases h3
    have bx2:H2[xb]? =some (.cells [.int .i64 w,lv,pt (y.wh n)] 167 .fix):=by rw[(x1.tr x2).2 _ hxl id,hx.blk]
    have bx1:H1[xb]? =some (.cells [.int .i64 w,lv,pt (y.wh n)] 167 .fix):=by rw[x1.2 _ hxl id,hx.blk]
    have bx4:H4[xb]? =some (.cells [.int .i64 w,lv,pt (y.wh n)] 167 .fix):=by rw[k4 xb (by omega) hlvx,hH3,aN9 (by omega),bx2]
    have sh:=Gk k2;obtain⟨H5,hH5⟩: ∃H5,H5=H4.set xb (.cells [.int .i64 w,lv',pt (y.wh n)] 167 .fix):=⟨_,rfl⟩;have st:stN 1 (.pointer (some ⟨xb,1,none⟩)) lv' H4=some (undef,H5):=by rw[hH5];exact sY bx4 (by decide) (by simp) sh.1 sh.2
    have hfr:Fr (λb=>b=xb∨cK lv b) H2 H5:=⟨by rw[hH5];simp;omega,λb hb hn=>by
      rw[hH5,aN7 (λhh=>hn (.inl hh.symm)),k4 b (by omega) (λhh=>hn (.inr hh)),hH3,aN9 hb]⟩
    have hnbx:xb≠y.nb:=λhh=>by
      have:=h.nb;rw[<-hh,hx.blk] at this;injection this with this;injection this with _ h2 _
      revert h2
      decide
    have hpvx: ¬cK pv xb:=λhh=>by
      obtain⟨cs',hc'⟩:=h.ports.blk hh;rw[hx.blk] at hc';injection hc' with hc';injection hc' with _ _ h3;cases h3
    have hlbx: ∀i,1<=i->i<n->xb≠y.lb i:=λi a b hh=>by
      have:=(h.lanes i a b).1;rw[<-hh,hx.blk] at this;injection this with this;injection this with _ _ h3;cases h3
    have g5:BN Hs H5 F2 bag ev wv nv y2 c n (n+1) (k+1) (k+1) pv:=by
      refine g2.aM9 hfr λb hb hbl=> ?_
      have e1:y2.nb=y.nb:=by rw[hy2]
      have e2:y2.lb=y.lb:=by rw[hy2]
      rw[e1,e2];rcases hb with rfl|hb
      · exact⟨hun2 _ hxl hx.xF,hx.x0,hnbx,hpvx,hlbx⟩
      · obtain⟨q1,q2,q3⟩:=hx.lvF b hb
        have hbH:=hx.rows.iO hb;refine⟨hun2 _ hbH q2,q1,λhh=> ?_,λhh=> ?_,q3⟩
        · obtain⟨cs',hc'⟩:=hx.rows.blk hb
          rw[hh,h.nb] at hc';injection hc' with hc';injection hc' with _ _ h3;cases h3
        · obtain⟨cs',hc'⟩:=hx.rows.blk hb
          obtain⟨cs2,hc2⟩:=h.ports.blk hh;rw[hc'] at hc2;injection hc2 with hc2;injection hc2 with _ h2 _
          revert h2
          decide
    have hwh:y2.wh=y.wh:=by rw[hy2]
    have hlv'x: ¬cK lv' xb:=λhh=>by
      rcases k5 xb hh with hh|hh
      · exact hlvx hh
      · omega
    have hx5:XN Hs H5 F2 y2 n (k+1) xb w lv':=by
      refine⟨by rw[hwh,hH5];exact iT bx4,hun2 _ hxl hx.xF,hx.x0,k2.gF λb hb=>by rw[hH5];exact aN7 λhh=>hlv'x (by rw[hh];exact hb),λb hb=> ?_⟩
      have e2:y2.lb=y.lb:=by rw[hy2]
      rw[e2];have hsl:=h.ext.1;rcases k5 b hb with hb|hb
      · obtain⟨q1,q2,q3⟩:=hx.lvF b hb
        exact⟨q1,hun2 _ (hx.rows.iO hb) q2,q3⟩
      · refine⟨by omega,λhu=>by have:=g2.sep.pM b hu;omega,λi a b' hh=> ?_⟩
        have:=dC (h.lanes i a b').1;omega
    -- the walk
    have hp0:=hpH H h.ext;have hp1:=hpH H1 (h.ext.tr x1);have l9:ld1 (.pointer (some ⟨pl,9,none⟩)) H=some (.int .u16 c.start,H):=by rw[eG hp0 9 (.int .u16 p.start) rfl,e9]
    have l3:ld1 (.pointer (some ⟨pl,3,none⟩)) H=some (.int .i64 c.room,H):=by rw[eG hp0 3 (.int .i64 p.room) rfl,e3]
    have l9':ld1 (.pointer (some ⟨pl,9,none⟩)) H1=some (.int .u16 c.start,H1):=by rw[eG hp1 9 (.int .u16 p.start) rfl,e9]
    have l3':ld1 (.pointer (some ⟨pl,3,none⟩)) H1=some (.int .i64 c.room,H1):=by rw[eG hp1 3 (.int .i64 p.room) rfl,e3]
    have ecs:IntKind.u64.wrap (c.start:Int)=(c.start:Int):=yR _ (by omega)
    have s1:=aJG (H:=H) (m:=m) (by omega) c.start c.room hst hrm
    have s2:=aJE (H:=H1) (m:=m) (by omega) c.start c.room hst hrm
    rw[<-hH1] at s1;rw[<-hH2] at s2;have lx:ld1 (.pointer (some ⟨xb,1,none⟩)) H=some (lv,H):=cT hx.blk rfl;have lx1:ld1 (.pointer (some ⟨xb,1,none⟩)) H1=some (lv,H1):=cT bx1 rfl;have lx2:ld1 (.pointer (some ⟨xb,1,none⟩)) H2=some (lv,H2):=cT bx2 rfl;have lvc:=λG=>aMG hx.rows G
    have ek:=oK k (by omega)
    rw[aI,Xj];simp -implicitDefEqProofs only[gsR,c1,lx,l9,l3,eZ _ _ lS qG,ecs,s1,lx1,lvc,l9',B6,l3',s2,lx2,eb,es,k1,st,cI,ek];refine ih (k+1) l H5 F2 y2 lv' (by omega) (by omega) (by omega) (by rw[hy2];exact hnb) g5 fe2 hx5 (λb cs hb=> ?_) ..
    have hb2:=(hkr.ext (x1.tr x2)) b cs hb;rw[hfr.2 b (dC hb2) (λhh=> ?_),hb2]
    rcases hh with rfl|hh
    · rw[bx2] at hb2
      injection hb2 with hb2;injection hb2 with _ _ h3;cases h3
    · obtain⟨cs',hc'⟩:=hrow.blk hh
      rw[hb2] at hc';injection hc' with hc';injection hc' with _ h2 _
      revert h2
      decide
end
theorem Sep.aNd {ι:Type}{A:ι->aC->Prop}{F:ι->Nat->Prop}{H:aC}(h:Sep A F H)(i:ι)(hi: ∀b,¬F i b){B:aC->Prop}{G:Nat->Prop}(hB:Has B G H)(hd: ∀b,G b-> ¬Un F b):Sep (updI A i B) (updI F i G) H:=by
 refine⟨λj=> ?_,λj k b hj hk=> ?_⟩
 ·by_cases hji:j=i
  ·rw[hji,nH,nH]
   exact hB
  ·rw[fM _ _ hji,fM _ _ hji]
   exact h.own j
 ·by_cases hji:j=i
  ·by_cases hki:k=i
   ·rw[hji,hki]
   ·rw[hji,nH] at hj
    rw[fM _ _ hki] at hk;exact absurd ⟨k,hk⟩ (hd b hj)
  ·rw[fM _ _ hji] at hj
   by_cases hki:k=i
   ·rw[hki,nH] at hk
    exact absurd ⟨j,hj⟩ (hd b hk)
   ·rw[fM _ _ hki] at hk
    exact h.sep j k b hj hk
section
variable {Hs H : aC} {F : Part → Nat → Prop} {bag : Int} {ev wv nv : Value} {y : Lay} {c : Cfg} {n nw cs cr : Nat} {pv : Value} {m : Nat}
theorem Ci (hn:1<=n)(i k:Nat):DnB c n c.lanes i k↔DnB c (n+1) 0 i k:=by
 unfold DnB
 constructor<;>intro h<;>omega
theorem BN.aNc {w xb:Nat}{lv:Value}(h:BN Hs H F bag ev wv nv y c n (n+1) c.lanes c.lanes pv)(hfe:FE F c n (n+1) c.lanes c.lanes)(hx:XN Hs H F y n c.lanes xb w lv)(hn:1<=n)(hn6:n<=6)(hl:1<=c.lanes)(hw:w=kM c n):
  ∃y' pv' H3 H4 H',y'.nb=y.nb/\dJ 167 3 1 [.int .i64 0,.slice none 0 0,.pointer none] [(0,.agg #[.int .i64 w,lv,pt (y.wh n)])] H=some (.slice (some ⟨H.length,0,none⟩) 1 1,H3)/\Go.Abs.app 167 3 40 pv (.slice (some ⟨H.length,0,none⟩) 1 1) H3=some (pv',H4)/\
   stN 1 (.pointer (some ⟨y.nb,13,none⟩)) pv' H4=some (undef,H')/\BN Hs H' F bag ev wv nv y' c (n+1) (n+1) 0 0 pv'/\FE F c (n+1) (n+1) 0 0/\Krow H H':=by
 obtain⟨b,cap,rest,hlv,hcap,hlb⟩: ∃b cap rest,lv= .slice (some ⟨b,0,none⟩) c.lanes cap/\c.lanes<=cap/\H[b]? =some (.cells (((List.range c.lanes).map (mB y n)).flatten++rest) 172 .row):=by
  obtain⟨_,⟨_,h0⟩|⟨c',cap,rest,h1,h2,_,h3⟩⟩:=hx.rows
  ·rw[aOB] at h0
   omega
  ·rw[aOB] at h1 h2
   exact⟨c',cap,rest,h1,h2,h3⟩
 obtain⟨y',hy'⟩: ∃y':Lay,y'={y with lb:=up1 y.lb n b,lcap:=up1 y.lcap n cap,lrest:=up1 y.lrest n rest}:=⟨_,rfl⟩;have hbF:=hx.lvF b (by rw[hlv];exact⟨_,_,_,rfl⟩)
 have hpo: ∀i,i<n->fQ y' c i=fQ y c i:=λi hi=>by
  rw[hy'];unfold fQ mT;simp only;rw[nQ _ _ (by omega),nQ _ _ (by omega)]
 have hpn:fQ y' c n=[.int .i64 w,lv,pt (y.wh n)]:=by
  rw[hy',hw,hlv];unfold fQ mT;simp only;rw[if_neg (by omega),nZ,nZ]
 have hrw:Rw (fQ y' c) 167 3 H pv (List.range n):=by
  have:=h.ports;unfold Rw at this⊢;rw[List.map_congr_left λi hi=>hpo i (aOL.mp hi)]
  exact this
 have eb:dJ 167 3 1 [.int .i64 0,.slice none 0 0,.pointer none] [(0,.agg #[.int .i64 w,lv,pt (y.wh n)])] H=some (.slice (some ⟨H.length,0,none⟩) 1 1,H++[.cells [.int .i64 w,lv,pt (y.wh n)] 167 .row]):=by
  rw[hlv];rfl
 have hw1:Rr (fQ y' c) 167 (H++[.cells [.int .i64 w,lv,pt (y.wh n)] 167 .row]) (.slice (some ⟨H.length,0,none⟩) 1 1) [n]:=by
  have:=wG (el:=fQ y' c) (e:=167) n H;rw[hpn] at this;exact this
 obtain⟨pv',H4,k1,k2,k3,k4,k5⟩:=(hrw.sP [Blk.cells [.int .i64 w,lv,pt (y.wh n)] 167 .row]).wH (Ca y' c) (aAB y' c) (by decide) (by':=40) hw1.rs (kH (n:=1000) (by decide) (by simp;omega))
 rw[<-aOG] at k2;have hlen:(H++[Blk.cells [.int .i64 w,lv,pt (y.wh n)] 167 .row]).length=H.length+1:=by simp
 rw[hlen] at k3 k4 k5;have hnl:=dC h.nb;have hnpv: ¬cK pv y.nb:=λhh=>by
  obtain⟨cs',hc'⟩:=h.ports.blk hh;rw[h.nb] at hc';injection hc' with hc';injection hc' with _ _ h3;cases h3
 have bn4:H4[y.nb]? =some (rD bag ev wv nv y c pv):=by rw[k4 _ (by omega) hnpv,aN9 hnl,h.nb]
 have sh:=Gk k2;have st:stN 1 (.pointer (some ⟨y.nb,13,none⟩)) pv' H4=some (undef,H4.set y.nb (rD bag ev wv nv y c pv')):=sY bn4 (by decide) (by simp) sh.1 sh.2
 have hfr:Fr (λb=>b=y.nb∨cK pv b) H (H4.set y.nb (rD bag ev wv nv y c pv')):=⟨by simp;omega,λb hb hn=>by
  rw[aN7 (λhh=>hn (.inl hh.symm)),k4 b (by omega) (λhh=>hn (.inr hh)),aN9 hb]⟩
 have hNF: ∀b,(b=y.nb∨cK pv b)-> ¬Un F b/\Hs.length<=b:=λb hb=>by
  rcases hb with rfl|hb
  ·exact⟨h.nbF,h.nb0⟩
  ·exact⟨(h.pvF b hb).2,(h.pvF b hb).1⟩
 obtain⟨x1,x2⟩:=h.Ph (pv':=pv) (n':=n) hfr hNF;have hlkeep: ∀(a:Nat)(cs':List Value),H[a]? =some (.cells cs' 172 .row)->(H4.set y.nb (rD bag ev wv nv y c pv'))[a]? =some (.cells cs' 172 .row):=λa cs' ha=>by
  rw[hfr.2 a (dC ha) (λhh=> ?_),ha]
  rcases hh with rfl|hh
  ·rw[h.nb] at ha
   injection ha with ha;injection ha with _ _ h3;cases h3
  ·obtain⟨cs2,hc2⟩:=h.ports.blk hh
   rw[ha] at hc2;injection hc2 with hc2;injection hc2 with _ h2 _
   revert h2
   decide
 have hpvn: ¬cK pv' y.nb:=λhh=>by
  rcases k5 _ hh with hh|hh
  ·exact hnpv hh
  ·omega
 have hsl:=h.ext.1;refine⟨y',pv',_,H4,_,by rw[hy'],eb,k1,st,?_,λj hj=>hfe j λhd=>hj ?_,λb cs hb=> ?_⟩
 ·refine⟨x1,x2.wI λj D hD=> ?_,h.new,?_,by rw[hy'];exact h.nbF,by rw[hy'];exact h.nb0,k2.gF λb hb=>aN7 λhh=>hpvn (by rw[hh];exact hb),λb hb=> ?_,λi h1 h2=> ?_,λi j a1 a2 a3 a4 he=> ?_,by rw[hy'];exact h.ww⟩
  ·rw[hy']
   cases j with
   |snd i k=>
    simp only[mD] at hD⊢;by_cases hd:DnB c n c.lanes i k
    ·rw[if_pos hd] at hD
     rw[if_pos ((Ci hn i k).mp hd)];exact hD
    ·rw[if_neg hd] at hD
     rw[if_neg (λhh=>hd ((Ci hn i k).mpr hh))]
     exact hD
   |rcv i k=>
    simp only[mD] at hD⊢;by_cases hd:DnB c n c.lanes i k
    ·rw[if_pos hd] at hD
     rw[if_pos ((Ci hn i k).mp hd)];exact hD
    ·rw[if_neg hd] at hD
     rw[if_neg (λhh=>hd ((Ci hn i k).mpr hh))]
     exact hD
   |_=>exact hD
  ·rw[hy']
   exact iT bn4
  ·rcases k5 b hb with hb|hb
   ·exact h.pvF b hb
   ·exact⟨by omega,λhu=>by have:=h.sep.pM b hu;omega⟩
  ·by_cases hin:i=n
   ·subst hin
    have e1:y'.lb i=b:=by rw[hy'];exact nZ _ _ _
    have e2:y'.lcap i=cap:=by rw[hy'];exact nZ _ _ _
    have e3:oM y' c i= .cells (((List.range c.lanes).map (mB y i)).flatten++rest) 172 .row:=by
     rw[hy'];unfold oM;simp only;rw[nZ];rfl
    rw[e1,e2,e3]
    exact⟨hlkeep _ _ hlb,hbF.1,hbF.2.1,hcap⟩
   ·obtain⟨q1,q2,q3,q4⟩:=h.lanes i h1 (by omega)
    have e1:y'.lb i=y.lb i:=by rw[hy'];exact nQ _ _ hin
    have e2:y'.lcap i=y.lcap i:=by rw[hy'];exact nQ _ _ hin
    have e3:oM y' c i=oM y c i:=by
     rw[hy'];unfold oM;simp only;rw[nQ _ _ hin];rfl
    rw[e1,e2,e3]
    exact⟨hlkeep _ _ q1,q2,q3,q4⟩
  ·have e1: ∀i,y'.lb i=up1 y.lb n b i:=λi=>by rw[hy']
   rw[e1,e1] at he;by_cases hi:i=n
   ·by_cases hj:j=n
    ·rw[hi,hj]
    ·rw[hi,nZ,nQ _ _ hj] at he
     exact absurd he (hbF.2.2 j a3 (by omega))
   ·by_cases hj:j=n
    ·rw[hj,nZ,nQ _ _ hi] at he
     exact absurd he.symm (hbF.2.2 i a1 (by omega))
    ·rw[nQ _ _ hi,nQ _ _ hj] at he
     exact h.lne i j a1 (by omega) a3 (by omega) he
 ·cases j<;>simp only[rE] at hd⊢ <;>(try exact hd)<;>exact(Ci hn _ _).mp hd
 ·rw[hfr.2 b (dC hb) (λhh=> ?_),hb]
  rcases hh with rfl|hh
  ·rw[h.nb] at hb
   injection hb with hb;injection hb with _ _ h3;cases h3
  ·obtain⟨cs2,hc2⟩:=h.ports.blk hh
   rw[hb] at hc2;injection hc2 with hc2;injection hc2 with _ h2 _
   revert h2
   decide
end
section
variable {Hs H : aC} {F : Part → Nat → Prop} {ev wv nv : Value} {y : Lay} {c : Cfg} {p : PlanD} {m : Nat}
def Pj (Hs:aC)(p:PlanD)(ev wv nv:Value)(c:Cfg)(H':aC)(r:Value):Prop:= ∃F y,r=pt y.nb/\NodeAt Hs H' F y p ev wv nv c 0 (NS.iW c)
theorem aAD (a b:Nat)(h:a*b<100000):IntKind.i64.wrap ((a:Int)*b)=((a*b:Nat):Int):=by
 have e:(a:Int)*b=((a*b:Nat):Int):=by push_cast;rfl
 rw[e];exact dM (by omega) (by omega)
theorem aNe {pl:Nat}{pv:Value}(hok:c.ok)(hc:c=iI p c.me)(hop: ∃n,OkP p n)(hPV:PV Hs p ev wv nv)(hpl:Hs[pl]? =some (plB p ev wv nv))(e2:p.lanes=(c.lanes:Int))(e3:p.room=(c.room:Int))(hm:400<m)
    (h:BN Hs H F p.bag ev wv nv y c c.aH c.aH 0 0 pv)(hfe:FE F c c.aH c.aH 0 0): ∀(x0 x1 x3 x4 x6 x7 x8 x9 bK bM aR aN aM aP aZ bG aQ bC bJ bL bI bE aS aT aU aV aW aX aY bA bB bN bO bP bQ bR bS bT bU bV bY cE cG cH cL cQ cU cV cM cN cO cR cY cW cX cZ dD dH dE dI dP dQ dV dW dX dY dZ eA eC eJ eK eM eN eO eP eQ eS eT eU eV eW fC fD fE fF fG fH fI fJ fS fT fU fV fW fX fY fZ gA gB gC gD gE gG gH gI gJ gK gL gM gN gO gP gQ gR gS gT gU gV gW gX gY gZ:Value),
    ∃H2 r,M3 (lvl prog pkN m) (aI m) x0 x1 (pt pl) x3 x4 (pt y.nb) x6 x7 x8 x9 bK bM aR aN aM aP aZ bG aQ bC bJ bL bI bE aS aT aU aV aW aX aY bA bB bN bO bP bQ bR bS bT bU bV bY cE cG cH cL cQ cU cV cM cN cO cR cY cW cX cZ dD dH dE dI dP dQ dV dW dX dY dZ eA eC eJ eK eM eN eO eP eQ eS eT eU eV eW fC fD fE fF fG fH fI fJ fS fT fU fV fW fX fY fZ gA gB gC gD gE gG gH gI gJ gK gL gM gN gO gP gQ gR gS gT gU gV gW gX gY gZ H=some (r,H2)/\Pj Hs p ev wv nv c H2 r:=by
  intros;have h6:c.aH<=6:=by have:=hok.by';unfold Cfg.aH;omega
  have hp1:1<=c.aH:=by unfold Cfg.aH;omega
  have hlanes:=hok.lanes;have hroom:=hok.room
  -- the ports' slice
  obtain⟨pb,pcap,prest,hpv,hpc,hpb⟩: ∃b cap rest,pv= .slice (some ⟨b,0,none⟩) c.aH cap/\c.aH<=cap/\H[b]? =some (.cells (((List.range c.aH).map (fQ y c)).flatten++rest) 167 .row):=by
    obtain⟨_,⟨_,h0⟩|⟨c',cap,rest,h1,h2,_,h3⟩⟩:=h.ports
    · rw[aOB] at h0
      omega
    · rw[aOB] at h1 h2
      exact⟨c',cap,rest,h1,h2,h3⟩
  have hpbF:=h.pvF pb (by rw[hpv];exact⟨_,_,_,rfl⟩)
  have n13:ld1 (.pointer (some ⟨y.nb,13,none⟩)) H=some (pv,H):=cT h.nb rfl;have lpv:bX pv=some (.int .i64 c.aH):=by rw[hpv];rfl
  -- the arbiter
  obtain⟨ab,ga,aa,H1,a1,a2,a3,x1,a4,a5,a6⟩:=aLP (H:=H) (m:=m) (n:=c.aH) hp1 (by omega) (by omega)
  have hA1:Has (Blks (iY ab ga aa (List.replicate c.aH 0) (List.replicate c.aH 0))) (InB (iY ab ga aa (List.replicate c.aH 0) (List.replicate c.aH 0))) H1:=
    Has.Fz a2 (λq hq=>⟨q,hq,rfl⟩) λb ⟨q,hq,hb⟩=>by rw[<-hb];exact dC (a2 q hq)
  have hge1: ∀b,InB (iY ab ga aa (List.replicate c.aH 0) (List.replicate c.aH 0)) b->H.length<=b:=λb ⟨q,hq,hb⟩=>by
    rw[<-hb];simp only[iY,aOq,aOx,or_false] at hq;rcases hq with rfl|rfl|rfl
    · exact a4
    · exact a5
    · exact a6
  have sep1:=h.sep.F5 .arb (Cg _ _ _ _ _ _) (hfe .arb id) hA1 x1 hge1;obtain⟨F1,hF1⟩: ∃F1,F1=updI F .arb (InB (iY ab ga aa (List.replicate c.aH 0) (List.replicate c.aH 0))):=⟨_,rfl⟩;obtain⟨A1,hA1'⟩: ∃A1,A1=updI (mD y c c.aH c.aH 0 0) .arb (Blks (iY ab ga aa (List.replicate c.aH 0) (List.replicate c.aH 0))):=⟨_,rfl⟩;rw[<-hF1,<-hA1'] at sep1;have dx1: ∀j,DX (A1 j):=λj=>by
    rw[hA1'];unfold updI;split
    · exact Blks.dx _
    · exact Cg _ _ _ _ _ _ j
  have hun1: ∀b,b<H.length-> ¬Un F b-> ¬Un F1 b:=λb hb hF hu=>by
    rw[hF1] at hu
    exact(tB hu).elim hF λhg=>by have:=hge1 b hg;omega
  have bn1:H1[y.nb]? =some (rD p.bag ev wv nv y c pv):=by rw[x1.2 _ (dC h.nb) id,h.nb]
  -- stored
  obtain⟨H2,hH2⟩: ∃H2,H2=H1.set y.nb (.cells [pt ab,.int .i64 c.nodes,ev,.int .i64 c.lanes,.int .i64 c.room,.int .i64 c.queue,.int .i64 c.rounds,.int .i64 c.every,.int .i64 p.bag,wv,.int .u16 c.start,nv,.int .i64 c.me,pv,pt y.hb,.pointer none,.int .i64 0] 162 .fix):=⟨_,rfl⟩;have st1:stN 1 (.pointer (some ⟨y.nb,0,none⟩)) (pt ab) H1=some (undef,H2):=by rw[hH2];exact sY bn1 (by decide) (by simp) rfl rfl
  have bn2:H2[y.nb]? =some (.cells [pt ab,.int .i64 c.nodes,ev,.int .i64 c.lanes,.int .i64 c.room,.int .i64 c.queue,.int .i64 c.rounds,.int .i64 c.every,.int .i64 p.bag,wv,.int .u16 c.start,nv,.int .i64 c.me,pv,pt y.hb,.pointer none,.int .i64 0] 162 .fix):=by rw[hH2];exact iT bn1
  have fr2:Fr (λb=>b=y.nb) H1 H2:=⟨by rw[hH2];simp,λb hb hn=>by rw[hH2,aN7 (λhh=>hn hh.symm)]⟩
  have nbl:=dC h.nb;have nbF1:=hun1 _ nbl h.nbF;have mv2:Mv (λb=>b=y.nb) (λb=>b=y.nb) H1 H2:=⟨fr2.1,λ_ h=> .inl h,λb hb hn=>fr2.2 b hb hn⟩
  have sep2:=sep1.wJ dx1 mv2 λb hb hh=>nbF1 (by rw[<-hh];exact hb)
  -- the rings
  have hroom2:=aAq hok;have hpos:1<=c.aH*c.lanes*c.room:=Nat.mul_pos (Nat.mul_pos (by omega) (by omega)) (by omega)
  obtain⟨r,H3,G3,r1,r2,x3,r3⟩:=Has.Zk (A:=λ_=>True) (H:=H2) rR (n:=m) (B:=λr D'=> ∃a,r=pt a/\RingsN D' a [] (c.aH*c.lanes*c.room) c.aH c.lanes) (λD _ _=>by
    obtain⟨a,D',g1,g2,_,_⟩:=aK5 (D:=D) (m:=m) (by omega) c.aH c.lanes (c.aH*c.lanes*c.room) ⟨hp1,by omega,hlanes.1,hlanes.2,hpos,by omega⟩
    exact⟨_,D',g1,a,rfl,g2⟩)
  obtain⟨rg,hrg,_⟩:=r2.at_;have r2':Has (λD=>RingsN D rg [] (c.aH*c.lanes*c.room) c.aH c.lanes) G3 H3:=Has.vL r2 λD ⟨a,ha,hD⟩=>by
    rw[hrg] at ha;injection ha with ha;injection ha with ha;injection ha with ha;rw[ha];exact hD
  have fr1: ∀b,¬F1 .rings b:=λb hb=>by
    rw[hF1,fM _ _ (λhh=>by cases hh)] at hb
    exact hfe .rings id b hb
  have sep3:=sep2.F5 .rings dx1 fr1 r2' x3 r3;obtain⟨F3,hF3⟩: ∃F3,F3=updI F1 .rings G3:=⟨_,rfl⟩;obtain⟨A3,hA3⟩: ∃A3,A3=updI A1 .rings (λD=>RingsN D rg [] (c.aH*c.lanes*c.room) c.aH c.lanes):=⟨_,rfl⟩
  rw[<-hF3,<-hA3] at sep3;have dx3: ∀j,DX (A3 j):=λj=>by
    rw[hA3];unfold updI;split
    · exact λD D' h he=>h.ext he
    · exact dx1 j
  have hl12:=fr2.1;have hl01:=x1.1;have hun3: ∀b,b<H.length-> ¬Un F b-> ¬Un F3 b:=λb hb hF hu=>by
    rw[hF3] at hu
    exact(tB hu).elim (hun1 b hb hF) λhg=>by have:=r3 b hg;omega
  have bn3:H3[y.nb]? =some (.cells [pt ab,.int .i64 c.nodes,ev,.int .i64 c.lanes,.int .i64 c.room,.int .i64 c.queue,.int .i64 c.rounds,.int .i64 c.every,.int .i64 p.bag,wv,.int .u16 c.start,nv,.int .i64 c.me,pv,pt y.hb,.pointer none,.int .i64 0] 162 .fix):=by rw[x3.2 _ (dC bn2) id,bn2]
  -- stored
  obtain⟨y',hy'⟩: ∃y':Lay,y'={y with pb:=pb,pcap:=pcap,prest:=prest,ab:=ab,ga:=ga,aa:=aa,rg:=rg}:=⟨_,rfl⟩;have hnc:Blk.cells [pt ab,.int .i64 c.nodes,ev,.int .i64 c.lanes,.int .i64 c.room,.int .i64 c.queue,.int .i64 c.rounds,.int .i64 c.every,.int .i64 p.bag,wv,.int .u16 c.start,nv,.int .i64 c.me,pv,pt y.hb,pt rg,.int .i64 0] 162 .fix=vJ p.bag ev wv nv y' c 0:=by
    rw[hy',hpv];rfl
  obtain⟨H4,hH4⟩: ∃H4,H4=H3.set y.nb (vJ p.bag ev wv nv y' c 0):=⟨_,rfl⟩;have st2:stN 1 (.pointer (some ⟨y.nb,15,none⟩)) (pt rg) H3=some (undef,H4):=by rw[hH4,<-hnc];exact sY bn3 (by decide) (by simp) rfl rfl
  have fr4:Fr (λb=>b=y.nb) H3 H4:=⟨by rw[hH4];simp,λb hb hn=>by rw[hH4,aN7 (λhh=>hn hh.symm)]⟩
  have mv4:Mv (λb=>b=y.nb) (λb=>b=y.nb) H3 H4:=⟨fr4.1,λ_ h=> .inl h,λb hb hn=>fr4.2 b hb hn⟩
  have nbF3:=hun3 _ nbl h.nbF;have sep4:=sep3.wJ dx3 mv4 λb hb hh=>nbF3 (by rw[<-hh];exact hb)
  have keep: ∀b,b<H.length->b≠y.nb->H4[b]? =H[b]? :=λb hb hn=>by
    have hl23:=x3.1;rw[fr4.2 b (by omega) hn,x3.2 b (by omega) id,fr2.2 b (by omega) hn,x1.2 b hb id]
  have bn4:H4[y.nb]? =some (vJ p.bag ev wv nv y' c 0):=by rw[hH4];exact iT bn3
  -- the node's own blocks
  have enb:y'.nb=y.nb:=by rw[hy']
  have hpbn:pb≠y.nb:=λhh=>by
    have:=h.nb;rw[<-hh,hpb] at this;injection this with this;injection this with _ _ h3;cases h3
  have hlbn: ∀i,1<=i->i<c.aH->y.lb i≠y.nb:=λi a b hh=>by
    have:=(h.lanes i a b).1;rw[hh,h.nb] at this;injection this with this;injection this with _ _ h3;cases h3
  have hnl:Blks (mC p.bag ev wv nv y' c 0) H4/\ ∀b,InB (mC p.bag ev wv nv y' c 0) b->b<H.length/\ ¬Un F b/\Hs.length<=b:=by
    have q0: ∀q∈mC p.bag ev wv nv y' c 0,H4[q.1]? =some q.2/\q.1<H.length/\ ¬Un F q.1/\Hs.length<=q.1:=λq hq=>by
      simp only[mC,aOq,aOK,aOL] at hq;rcases hq with rfl|rfl|⟨j,hj,rfl⟩
      · simp only
        rw[enb]
        exact⟨bn4,nbl,h.nbF,h.nb0⟩
      · have e:y'.pb=pb:=by rw[hy']
        have e2:xC y' c= .cells (((List.range c.aH).map (fQ y c)).flatten++prest) 167 .row:=by rw[hy'];rfl
        simp only;rw[e,e2]
        exact⟨by rw[keep _ (dC hpb) hpbn,hpb],dC hpb,hpbF.2,hpbF.1⟩
      · have hjp:j+1<c.aH:=by unfold Cfg.aH;omega
        obtain⟨q1,q2,q3,q4⟩:=h.lanes (j+1) (by omega) hjp
        have e:y'.lb (j+1)=y.lb (j+1):=by rw[hy']
        have e2:oM y' c (j+1)=oM y c (j+1):=by rw[hy'];rfl
        simp only;rw[e,e2]
        exact⟨by rw[keep _ (dC q1) (hlbn _ (by omega) hjp),q1],dC q1,q3,q2⟩
    exact⟨λq hq=>(q0 q hq).1,λb ⟨q,hq,hb⟩=>by rw[<-hb];exact(q0 q hq).2⟩
  have hl4:H.length<=H4.length:=by
    have:=x3.1;have:=fr4.1;omega
  have fn3: ∀b,¬F3 .node b:=λb hb=>by
    rw[hF3,fM _ _ (λhh=>by cases hh),hF1,fM _ _ (λhh=>by cases hh)] at hb
    exact hfe .node id b hb
  have sep5:=Sep.aNd sep4 .node fn3 (B:=Blks (mC p.bag ev wv nv y' c 0)) (G:=InB (mC p.bag ev wv nv y' c 0)) (Has.Fz hnl.1 (λq hq=>⟨q,hq,rfl⟩) λb hb=>by have:=(hnl.2 b hb).1;omega) λb hb=>hun3 b (hnl.2 b hb).1 (hnl.2 b hb).2.1
  -- all of it
  have hx4:Ext Hs H4:=by
    have hsl:=h.ext.1;have hnb0:=h.nb0
    exact⟨by omega,λb hb _=>by rw[keep b (by omega) (by omega),h.ext.2 b hb id]⟩
  have hnode:NodeAt Hs H4 (updI F3 .node (InB (mC p.bag ev wv nv y' c 0))) y' p ev wv nv c 0 (NS.iW c):=by
    refine⟨hok,hc,hop,⟨?_,?_,?_,?_⟩,hx4,λb hb=> ?_,hPV,NInv.aJ7 hok,sep5.wI λj D hD=> ?_⟩
    · rw[hy'];exact hpc
    · rw[hy'];exact λi h1 h2=>(h.lanes i h1 h2).2.2.2
    · rw[hy'];exact a3
    · rw[hy'];exact h.ww
    · have hsl:=h.ext.1
      rcases tB hb with hb|hb
      · rw[hF3] at hb
        rcases tB hb with hb|hb
        · rw[hF1] at hb
          rcases tB hb with hb|hb
          · exact h.new b hb
          · have:=hge1 b hb;omega
        · have:=r3 b hb;omega
      · exact(hnl.2 b hb).2.2
    · cases j with
      |node=>
        rw[nH] at hD;exact hD
      |rings=>
        rw[fM _ _ (λhh=>by cases hh),hA3,nH] at hD
        rw[hy'];exact hD
      |arb=>
        rw[fM _ _ (λhh=>by cases hh),hA3,fM _ _ (λhh=>by cases hh),hA1',nH] at hD
        rw[hy'];exact hD
      |host=>
        rw[fM _ _ (λhh=>by cases hh),hA3,fM _ _ (λhh=>by cases hh),hA1',fM _ _ (λhh=>by cases hh)] at hD
        rw[hy'];exact hD
      |whl i=>
        rw[fM _ _ (λhh=>by cases hh),hA3,fM _ _ (λhh=>by cases hh),hA1',fM _ _ (λhh=>by cases hh)] at hD
        rw[hy'];exact hD
      |snd i k=>
        rw[fM _ _ (λhh=>by cases hh),hA3,fM _ _ (λhh=>by cases hh),hA1',fM _ _ (λhh=>by cases hh)] at hD
        rw[hy'];simp only[mD,lM] at hD⊢;by_cases hd:1<=i/\i<c.aH/\k<c.lanes
        · rw[if_pos (.inl hd)] at hD
          rw[if_pos hd];exact hD
        · rw[if_neg (by unfold DnB;omega)] at hD
          rw[if_neg hd];exact hD
      |rcv i k=>
        rw[fM _ _ (λhh=>by cases hh),hA3,fM _ _ (λhh=>by cases hh),hA1',fM _ _ (λhh=>by cases hh)] at hD
        rw[hy'];simp only[mD,lM] at hD⊢;by_cases hd:1<=i/\i<c.aH/\k<c.lanes
        · rw[if_pos (.inl hd)] at hD
          rw[if_pos hd];exact hD
        · rw[if_neg (by unfold DnB;omega)] at hD
          rw[if_neg hd];exact hD
  -- the walk
  have hp: ∀G:aC,Ext Hs G->G[pl]? =some (plB p ev wv nv):=λG hG=>by rw[hG.2 _ (dC hpl) id,hpl]
  have hx2:Ext Hs H2:=by
    have hsl:=h.ext.1;have hnb0:=h.nb0
    exact⟨by omega,λb hb _=>by rw[fr2.2 b (by omega) (by omega),x1.2 b (by omega) id,h.ext.2 b hb id]⟩
  have l2:ld1 (.pointer (some ⟨pl,2,none⟩)) H2=some (.int .i64 c.lanes,H2):=by rw[eG (hp H2 hx2) 2 (.int .i64 p.lanes) rfl,e2]
  have l3:ld1 (.pointer (some ⟨pl,3,none⟩)) H2=some (.int .i64 c.room,H2):=by rw[eG (hp H2 hx2) 3 (.int .i64 p.room) rfl,e3]
  have n13':ld1 (.pointer (some ⟨y.nb,13,none⟩)) H2=some (pv,H2):=cT bn2 rfl;have hpl18:c.aH*c.lanes<=18:=Nat.mul_le_mul h6 hlanes.2;have m1:=aAD c.aH c.lanes (by omega)
  have m2:=aAD (c.aH*c.lanes) c.room (by omega)
  rw[hrg] at r1;refine⟨H4,pt y.nb,?_,updI F3 .node (InB (mC p.bag ev wv nv y' c 0)),y',by rw[enb],hnode⟩
  unfold M3;simp -implicitDefEqProofs only[gsR,n13,lpv,a1,st1,n13',l2,Rl,m1,l3,m2,r1,st2]
end
theorem aNf (a b d e f g h i:Int)(ev wv nv:Value)(me:Int)(q:Nat):bld prog 162 [(1,.agg ⟨[.int .i64 a,ev,.int .i64 b,.int .i64 d,.int .i64 e,.int .i64 f,.int .i64 g,.int .i64 h,wv,.int .u16 i,nv]⟩),(2,.int .i64 me),(4,pt q)]=
  some (.agg ⟨[.pointer none]++[.int .i64 a,ev,.int .i64 b,.int .i64 d,.int .i64 e,.int .i64 f,.int .i64 g,.int .i64 h,wv,.int .u16 i,nv]++[.int .i64 me,.slice none 0 0,pt q,.pointer none,.int .i64 0]⟩):=by kernel_rfl
section
variable {Hs H : aC} {F : Part → Nat → Prop} {ev wv nv : Value} {y : Lay} {c : Cfg} {p : PlanD} {m : Nat}
theorem aNg {pl:Nat}{bv:Value}(hok:c.ok)(hc:c=iI p c.me)(hop: ∃n,OkP p n)(hPV:PV Hs p ev wv nv)(hpl:Hs[pl]? =some (plB p ev wv nv))(e2:p.lanes=(c.lanes:Int))(e3:p.room=(c.room:Int))(e9:p.start=(c.start:Int))(hwo:wOk p.weights=true)
  {Hb:aC}(hbv:Iw Hb bv (bes p.edges c.me))(hbl:(bes p.edges c.me).length=c.by'.length)(hbg: ∀i,i<c.by'.length->(bes p.edges c.me)[i]? =some ((c.by'.getD i 0:Nat):Int))(hm:500<m)(hm2:m<=72057594037927936){nb:Nat}:
  ∀(q i l:Nat)(H:aC)(F:Part->Nat->Prop)(y:Lay)(pv:Value),c.by'.length-i=q->i<=c.by'.length->q<l->y.nb=nb->BN Hs H F p.bag ev wv nv y c (i+1) (i+1) 0 0 pv->FE F c (i+1) (i+1) 0 0->Krow Hb H-> ∀(x0 x1 x3 x4 x6 x7 x8 x9 bK bM aR aN aM aP aZ bG aQ bC bJ bL bI bE aS aT aU aV aW aX aY bA bB bN bO bP bQ bR bS bT bU bV bY cE cG cH cL cM cN cO cR cY cW cX cZ dD dH dE dI dP dQ dV dW dX dY dZ eA eC eJ eK eM eN eO eP eQ eS eT eU eV eW fC fD fE fF fG fH fI fJ fS fT fU fV fW fX fY fZ gA gB gC gD gE gG gH gI gJ gK gL gM gN gO gP gQ gR gS gT gU gV gW gX gY gZ:Value),
  ∃H2 r,aI l (aK prog (lvl prog pkN m) (aI m) M1) (M5 (lvl prog pkN m) (aI m)) [x0,x1,(pt pl),x3,x4,(pt nb),x6,x7,x8,x9,bK,bM,aR,aN,aM,aP,aZ,bG,aQ,bC,bJ,bL,bI,bE,aS,aT,aU,aV,aW,aX,aY,bA,bB,bN,bO,bP,bQ,bR,bS,bT,bU,bV,bY,cE,cG,cH,cL,bv,(.int .i64 c.by'.length),(.int .i64 (i:Nat)),cM,cN,cO,cR,cY,cW,cX,cZ,dD,dH,dE,dI,dP,dQ,dV,dW,dX,dY,dZ,eA,eC,eJ,eK,eM,eN,eO,eP,eQ,eS,eT,eU,eV,eW,fC,fD,fE,fF,fG,fH,fI,fJ,fS,fT,fU,fV,fW,fX,fY,fZ,gA,gB,gC,gD,gE,gG,gH,gI,gJ,gK,gL,gM,gN,gO,gP,gQ,gR,gS,gT,gU,gV,gW,gX,gY,gZ] H=some (r,H2)/\Pj Hs p ev wv nv c H2 r:=by
 intro q;induction q with
 |zero=>
  intro i l H F y pv hq hi hl hnb h hfe hkr;intros;obtain⟨l,rfl⟩: ∃l',l=l'+1:=⟨l-1,by omega⟩
  have hie:i+1=c.aH:=by unfold Cfg.aH;omega
  have c1:decide ((i:Int)<(c.by'.length:Int))=false:=by rw[decide_eq_false_iff_not];omega
  rw[aI,Xi];simp -implicitDefEqProofs only[gsR,c1];rw[aIZ];rw[hie] at h hfe;rw[<-hnb];exact aNe hok hc hop hPV hpl e2 e3 (by omega) h hfe ..
 |succ q ih=>
  intro i l H F y pv hq hi hl hnb h hfe hkr;intros;obtain⟨l,rfl⟩: ∃l',l=l'+1:=⟨l-1,by omega⟩
  have h5:=hok.by';have hil:i<c.by'.length:=by omega
  have c1:decide ((i:Int)<(c.by'.length:Int))=true:=by rw[decide_eq_true_eq];omega
  have hpH: ∀G:aC,Ext Hs G->G[pl]? =some (plB p ev wv nv):=λG hG=>by rw[hG.2 _ (dC hpl) id,hpl]
  obtain⟨b,o,a1,_,a3⟩:=(hkr.iw hbv).rs.iS iQ (hbg i hil) .i64;have a3:ld1 (.pointer (some ⟨b,o,none⟩)) H=some (.int .i64 (c.by'.getD i 0:Nat),H):=(a3 H rfl).2.1 0 _ rfl;have l8:ld1 (.pointer (some ⟨pl,8,none⟩)) H=some (wv,H):=eG (hpH H h.ext) 8 wv rfl;have hcw:c.weights=p.weights:=by have:=congrArg Cfg.weights hc;rw[this];rfl
  have hwl:=hok.wlen;rw[hcw] at hwl;have hlanes:=hok.lanes;obtain⟨H1,wh,ww,wl,wc,lc,wr,lr,w1,x1,w2,w3,w4,w5,w6⟩:=aAz (m:=m) (hPV.w.ext h.ext) hwo (by omega) hm2
  rw[<-hcw] at w2;have g1:=h.whl (λj hj b hb=>hfe (.whl j) (by show¬j<i+1;omega) b hb) w2 x1 w3 w4 w5 w6
  have fe1:=hfe.Gm (i:= .whl (i+1)) (G:=InB (lK wh ww wl wc lc wr lr c.weights ⟨c.weights,0⟩)) (n':=i+1) (nw':=i+1+1) (cs':=0) (cr':=0) (show i+1<i+1+1 by omega) (λj hj=>by
   cases j<;>simp only[rE] at hj⊢ <;>(try exact hj);omega)
  obtain⟨y1,hy1⟩: ∃y1:Lay,y1={y with wh:=up1 y.wh (i+1) wh,ww:=up1 y.ww (i+1) ww,wl:=up1 y.wl (i+1) wl,wc:=up1 y.wc (i+1) wc,lc:=up1 y.lc (i+1) lc,wr:=up1 y.wr (i+1) wr,lr:=up1 y.lr (i+1) lr}:=⟨_,rfl⟩;obtain⟨F1,hF1⟩: ∃F1,F1=updI F (.whl (i+1)) (InB (lK wh ww wl wc lc wr lr c.weights ⟨c.weights,0⟩)):=⟨_,rfl⟩;rw[<-hF1] at g1 fe1;have g1:BN Hs H1 F1 p.bag ev wv nv y1 c (i+1) (i+1+1) 0 0 pv:=by rw[hy1];exact g1
  have hwh:y1.wh (i+1)=wh:=by rw[hy1];exact nZ _ _ _
  have eb:bld prog 167 [(0,.int .i64 (c.by'.getD i 0:Nat)),(2,pt wh)]=some (.agg #[.int .i64 (c.by'.getD i 0:Nat),.slice none 0 0,pt wh]):=rfl;obtain⟨H2,hH2⟩: ∃H2,H2=H1++[Blk.cells [.int .i64 (c.by'.getD i 0:Nat),.slice none 0 0,pt wh] 167 .fix]:=⟨_,rfl⟩;have x2:Ext H1 H2:=by rw[hH2];exact Fr.app _ _ _
  have st:stN 3 (.pointer (some ⟨H1.length,0,none⟩)) (.agg #[.int .i64 (c.by'.getD i 0:Nat),.slice none 0 0,pt wh]) (H1++[Blk.cells [Value.int .i64 0,.slice none 0 0,.pointer none] 167 .fix])=some (undef,H2):=by
   rw[yU (n:=3) (vs:=[.int .i64 (c.by'.getD i 0:Nat),.slice none 0 0,pt wh]) (dK H1 _) (by decide) rfl rfl (aOb 3) rfl,nL,hH2]
   rfl
  have g2:=g1.aAA x2;have hx2:XN Hs H2 F1 y1 (i+1) 0 H1.length (c.by'.getD i 0) (.slice none 0 0):=by
   have hs1:=g1.ext.1;refine⟨by rw[hwh,hH2];exact dK _ _,λhu=>by have:=g1.sep.pM _ hu;omega,hs1,Rw.lE,λb ⟨_,_,_,hh⟩=>(by cases hh)⟩
  have l2:ld1 (.pointer (some ⟨pl,2,none⟩)) H2=some (.int .i64 c.lanes,H2):=by rw[eG (hpH H2 g2.ext) 2 (.int .i64 p.lanes) rfl,e2]
  rw[aI,Xi];simp -implicitDefEqProofs only[gsR,c1,a1,a3,l8,w1,eb,st,l2];refine aNb (nb:=nb) (Hb:=Hb) (p:=p) (pl:=pl) (i:=i) (w:=c.by'.getD i 0) (xb:=H1.length) hok hpl (by omega) e3 e9 (by omega) ?_ c.lanes 0 m H2 F1 y1 (.slice none 0 0) (by omega) (by omega) (by omega) (by rw[hy1];exact hnb) g2 fe1 hx2 (hkr.ext (x1.tr x2)) ..
  intro H3 F3 y3 lv hnb3 g3 fe3 hx3 hkr3;intros;obtain⟨y',pv',H4,H5,H6,q1,q2,q3,q4,q5,q6,q7⟩:=g3.aNc fe3 hx3 (by omega) (by omega) hlanes.1 (by unfold kM;rw[if_neg (by omega)];rfl)
  have n13:ld1 (.pointer (some ⟨nb,13,none⟩)) H3=some (pv,H3):=by rw[<-hnb3];exact cT g3.nb rfl
  have lx:ldN 3 (.pointer (some ⟨H1.length,0,none⟩)) H3=some (.agg #[.int .i64 (c.by'.getD i 0:Nat),lv,pt (y3.wh (i+1))],H3):=yT hx3.blk (aOb 3);have e1:=oK i (by omega)
  rw[hnb3] at q4;unfold M4;simp -implicitDefEqProofs only[gsR,n13,lx,q2,q3,q4,cI,e1];exact ih (i+1) l H6 F3 y' pv' (by omega) (by omega) (by omega) (by rw[q1,hnb3]) q5 q6 (λb cs hb=>q7 b cs (hkr3 b cs hb)) ..
theorem Gn (hp:PV H p ev wv nv)(hck:mP p=0)(hst:0<=p.start/\p.start<65536)(hm:17592186045500<m)(hm2:m<=72057594037927936)(me:Nat)(hme:(me:Int)<p.nodes):
    ∃H' F y,lvl prog pkN m (.func 36) [plV p ev wv nv,.int .i64 me] H=some (pt y.nb,H')/\NodeAt H H' F y p ev wv nv (iI p me) 0 (NS.iW (iI p me)):=by
  have hcheck:lP p=true:=by
    unfold mP at hck
    split at hck
    · assumption
    · omega
  obtain⟨hok,k1,k2,k3,k4,k5,k6,k7,hbg,hwo⟩:=aM8 hcheck hme hst;obtain⟨c,hc⟩: ∃c,c=iI p me:=⟨_,rfl⟩;rw[<-hc] at hok k1 k2 k3 k4 k5 k6 k7 hbg⊢;have hcme:c.me=me:=by rw[hc];rfl
  have hc':c=iI p c.me:=by rw[hcme];exact hc
  have hlanes:=hok.lanes;have hqueue:=hok.queue;have hbl:(bes p.edges me).length=c.by'.length:=by rw[hc];show _=((bes p.edges me).map Int.toNat).length;simp
  have hop:=Ez hcheck;have hel:p.edges.length<=15:=by
    obtain⟨n,hn⟩:=hop;exact hn.e15
  -- the plan in a block
  obtain⟨H1,hH1⟩: ∃H1,H1=H++[plB p ev wv nv]:=⟨_,rfl⟩;have x1:Ext H H1:=by rw[hH1];exact Fr.app _ _ _
  have b1:H1[H.length]? =some (plB p ev wv nv):=by rw[hH1];exact hP _ _
  have p1:=hp.ext x1;have l11:=kP b1;obtain⟨H2,g1,x2⟩:=Wr p1 (m:=m-1) (by omega) (by omega)
  rw[hck] at g1;have aR:=x1.tr x2;have b2:H2[H.length]? =some (plB p ev wv nv):=by rw[x2.2 _ (dC b1) id,b1]
  have l0:ld1 (.pointer (some ⟨H.length,0,none⟩)) H2=some (.int .i64 c.nodes,H2):=by rw[eG b2 0 (.int .i64 p.nodes) rfl,k1]
  have l2:ld1 (.pointer (some ⟨H.length,2,none⟩)) H2=some (.int .i64 c.lanes,H2):=by rw[eG b2 2 (.int .i64 p.lanes) rfl,k2]
  have l4:ld1 (.pointer (some ⟨H.length,4,none⟩)) H2=some (.int .i64 c.queue,H2):=by rw[eG b2 4 (.int .i64 p.queue) rfl,k4]
  have l11':=kP b2;have hmn:=hok.me;rw[hcme] at hmn;have c1:decide ((me:Int)<0)=false:=by rw[decide_eq_false_iff_not];omega
  have c2:decide ((c.nodes:Int)<=(me:Int))=false:=by rw[decide_eq_false_iff_not];omega
  -- the host
  obtain⟨r,H3,G3,r1,r2,x3,r3⟩:=Has.Zk (A:=λ_=>True) (H:=H2) rR (n:=m-1) (B:=λr D'=> ∃a,r=pt a/\HostAt D' a [] [] c.lanes c.queue) (λD _ _=>by
    obtain⟨a,D',q1,q2,_,_⟩:=aJX (D:=D) (m:=m-1) (by omega) c.lanes c.queue hlanes hqueue
    exact⟨_,D',q1,a,rfl,q2⟩)
  obtain⟨hb,hrb,_⟩:=r2.at_;have r2':Has (λD=>HostAt D hb [] [] c.lanes c.queue) G3 H3:=Has.vL r2 λD ⟨a,ha,hD⟩=>by
    rw[hrb] at ha;injection ha with ha;injection ha with ha;injection ha with ha;rw[ha];exact hD
  rw[hrb] at r1;have b3:H3[H.length]? =some (plB p ev wv nv):=by rw[x3.2 _ (dC b2) id,b2]
  have l11c:=kP b3
  -- the node's block
  have eplc:plC p ev wv nv=[.int .i64 c.nodes,ev,.int .i64 c.lanes,.int .i64 c.room,.int .i64 c.queue,.int .i64 c.rounds,.int .i64 c.every,.int .i64 p.bag,wv,.int .u16 c.start,nv]:=by
    unfold plC;rw[k1,k2,k3,k4,k5,k6,k7]
  have ebn:bld prog 162 [(1,plV p ev wv nv),(2,.int .i64 me),(4,pt hb)]=some (.agg ⟨[.pointer none]++plC p ev wv nv++[.int .i64 me,.slice none 0 0,pt hb,.pointer none,.int .i64 0]⟩):=by
    exact aNf ..
  obtain⟨y0,hy0⟩: ∃y0:Lay,y0=⟨H3.length,0,0,[],λ_=>0,λ_=>0,λ_=>[],λ_=>0,λ_=>0,λ_=>0,λ_=>0,λ_=>0,λ_=>[],λ_=>[],λ_ _=>0,λ_ _=>0,0,0,0,hb,0⟩:=⟨_,rfl⟩
  have y0n:y0.nb=H3.length:=by rw[hy0]
  have y0h:y0.hb=hb:=by rw[hy0]
  obtain⟨H4,hH4⟩: ∃H4,H4=H3++[rD p.bag ev wv nv y0 c (.slice none 0 0)]:=⟨_,rfl⟩;have e4:H3++[Blk.cells (Value.cells (.agg ⟨[.pointer none]++plC p ev wv nv++[.int .i64 me,.slice none 0 0,pt hb,.pointer none,.int .i64 0]⟩)).toList 162 .fix]=H4:=by
    rw[hH4,eplc];unfold rD;rw[hcme,y0h];rfl
  have x4:Ext H3 H4:=by rw[hH4];exact Fr.app _ _ _
  have bn4:H4[y0.nb]? =some (rD p.bag ev wv nv y0 c (.slice none 0 0)):=by rw[y0n,hH4];exact dK _ _
  obtain⟨F0,hF0⟩: ∃F0:Part->Nat->Prop,F0=updI (λ_ _=>False) .host G3:=⟨_,rfl⟩
  have sep0:Sep (mD y0 c 0 0 0 0) F0 H4:=by
    have s0:Sep (λ_:Part=>Blks []) (λ_ _=>False) H2:=⟨λi=>⟨λq hq=>(by cases hq),λb hb=>hb.elim⟩,λi j b hb=>hb.elim⟩
    have s1:=s0.F5 .host (λ_=>Blks.dx _) (λb hb=>hb) r2' x3 r3
    rw[<-hF0] at s1;have s2:=s1.ext (λj=>by
      unfold updI;split
      · exact λD D' h he=>h.ext he
      · exact Blks.dx _) x4
    refine s2.wI λj D hD=> ?_
    cases j with
    |host=>
      rw[nH] at hD;show HostAt D y0.hb [] [] c.lanes c.queue
      rw[y0h];exact hD
    |whl i=>
      rw[fM _ _ (λhh=>by cases hh)] at hD
      simp only[mD];rw[if_neg (by omega)]
      exact hD
    |snd i k=>
      rw[fM _ _ (λhh=>by cases hh)] at hD
      simp only[mD];rw[if_neg (by unfold DnB;omega)]
      exact hD
    |rcv i k=>
      rw[fM _ _ (λhh=>by cases hh)] at hD
      simp only[mD];rw[if_neg (by unfold DnB;omega)]
      exact hD
    |_=>
      rw[fM _ _ (λhh=>by cases hh)] at hD
      exact hD
  have unF0: ∀b,Un F0 b->G3 b:=λb hb=>by
    rw[hF0] at hb;rcases tB hb with⟨_,hb⟩|hb
    · exact hb.elim
    · exact hb
  have hg3l: ∀b,G3 b->b<H3.length:=λb hb=>r2'.lt b hb
  have bnN:BN H2 H4 F0 p.bag ev wv nv y0 c 0 0 0 0 (.slice none 0 0):=
    ⟨x3.tr x4,sep0,λb hb=>r3 b (unF0 b hb),bn4,λhu=>by have:=hg3l _ (unF0 _ hu);omega,by rw[y0n];exact x3.1,Rw.lE,λb ⟨_,_,_,hh⟩=>(by cases hh),λi a b=>by omega,λi j a b=>by omega,λi hi=>by omega⟩
  have fe0:FE F0 c 0 0 0 0:=λj hj b hb=>by
    rw[hF0] at hb;cases j with
    |host=>exact hj trivial
    |_=>
      rw[fM _ _ (λhh=>by cases hh)] at hb
      exact hb
  -- the first wheel
  have hpH: ∀G:aC,Ext H2 G->G[H.length]? =some (plB p ev wv nv):=λG hG=>by rw[hG.2 _ (dC b2) id,b2]
  have n13:ld1 (.pointer (some ⟨H3.length,13,none⟩)) H4=some (.slice none 0 0,H4):=by rw[<-y0n];exact cT bn4 rfl
  have l8:ld1 (.pointer (some ⟨H.length,8,none⟩)) H4=some (wv,H4):=eG (hpH H4 bnN.ext) 8 wv rfl;have hcw:c.weights=p.weights:=by rw[hc];rfl
  have hwl:=hok.wlen;rw[hcw] at hwl;obtain⟨H5,wh,ww,wl,wc,lc,wr,lr,w1,x5,w2,w3,w4,w5,w6⟩:=aAz (m:=m-1) (hp.w.ext (aR.tr bnN.ext)) hwo (by omega) (by omega)
  rw[<-hcw] at w2;have g5:=bnN.whl (λj hj b hb=>fe0 (.whl j) (by show¬j<0;omega) b hb) w2 x5 w3 w4 w5 w6
  have fe5:=fe0.Gm (i:= .whl 0) (G:=InB (lK wh ww wl wc lc wr lr c.weights ⟨c.weights,0⟩)) (n':=0) (nw':=1) (cs':=0) (cr':=0) (show 0<1 by omega) (λj hj=>by
    cases j<;>simp only[rE] at hj⊢ <;>(try exact hj);omega)
  obtain⟨y1,hy1⟩: ∃y1:Lay,y1={y0 with wh:=up1 y0.wh 0 wh,ww:=up1 y0.ww 0 ww,wl:=up1 y0.wl 0 wl,wc:=up1 y0.wc 0 wc,lc:=up1 y0.lc 0 lc,wr:=up1 y0.wr 0 wr,lr:=up1 y0.lr 0 lr}:=⟨_,rfl⟩;obtain⟨F1,hF1⟩: ∃F1,F1=updI F0 (.whl 0) (InB (lK wh ww wl wc lc wr lr c.weights ⟨c.weights,0⟩)):=⟨_,rfl⟩;rw[<-hF1] at g5 fe5;have g5:BN H2 H5 F1 p.bag ev wv nv y1 c 0 1 0 0 (.slice none 0 0):=by rw[hy1];exact g5
  have y1n:y1.nb=H3.length:=by rw[hy1];exact y0n
  have n13':ld1 (.pointer (some ⟨H3.length,13,none⟩)) H5=some (.slice none 0 0,H5):=by rw[<-y1n];exact cT g5.nb rfl
  have hpc0:fQ y1 c 0=[.int .i64 me,.slice none 0 0,pt wh]:=by
    unfold fQ kM mT;rw[if_pos rfl,if_pos rfl,hcme,hy1];simp only;rw[nZ]
  have eb:bld prog 167 [(0,.int .i64 me),(2,pt wh)]=some (.agg #[.int .i64 me,.slice none 0 0,pt wh]):=rfl;obtain⟨H6,hH6⟩: ∃H6,H6=H5++[Blk.cells [.int .i64 me,.slice none 0 0,pt wh] 167 .row]:=⟨_,rfl⟩;have es:dJ 167 3 1 [.int .i64 0,.slice none 0 0,.pointer none] [(0,.agg #[.int .i64 me,.slice none 0 0,pt wh])] H5=some (.slice (some ⟨H5.length,0,none⟩) 1 1,H6):=by rw[hH6];rfl
  have hw1:Rr (fQ y1 c) 167 H6 (.slice (some ⟨H5.length,0,none⟩) 1 1) [0]:=by
    have:=wG (el:=fQ y1 c) (e:=167) 0 H5;rw[hpc0] at this;rw[hH6];exact this
  have hrw0:Rw (fQ y1 c) 167 3 H6 (.slice none 0 0) []:=Rw.lE;obtain⟨pv,H7,k1',k2',k3',k4',k5'⟩:=hrw0.wH (Ca y1 c) (aAB y1 c) (by decide) (by':=40) hw1.rs (by decide)
  have hnh: ∀b,¬cK (.slice none 0 0) b:=λb ⟨_,_,_,hh⟩=>by cases hh
  have h6l:H6.length=H5.length+1:=by rw[hH6];simp
  have nbl:=dC g5.nb;have bn7:H7[y1.nb]? =some (rD p.bag ev wv nv y1 c (.slice none 0 0)):=by rw[k4' _ (by omega) (hnh _),hH6,aN9 nbl,g5.nb]
  have sh:=Gk k2';obtain⟨H8,hH8⟩: ∃H8,H8=H7.set y1.nb (rD p.bag ev wv nv y1 c pv):=⟨_,rfl⟩;have st:stN 1 (.pointer (some ⟨H3.length,13,none⟩)) pv H7=some (undef,H8):=by rw[<-y1n,hH8];exact sY bn7 (by decide) (by simp) sh.1 sh.2
  have hfr:Fr (λb=>b=y1.nb) H5 H8:=⟨by rw[hH8];simp;omega,λb hb hn=>by
    rw[hH8,aN7 (λhh=>hn hh.symm),k4' b (by omega) (hnh _),hH6,aN9 hb]⟩
  obtain⟨x8,s8⟩:=g5.Ph (pv':=pv) (n':=0) hfr λb hb=>by rw[hb];exact⟨g5.nbF,g5.nb0⟩
  have hpvn: ¬cK pv y1.nb:=λhh=>by
    rcases k5' _ hh with hh|hh
    · exact hnh _ hh
    · omega
  have hsl:=g5.ext.1;have g8:BN H2 H8 F1 p.bag ev wv nv y1 c 1 1 0 0 pv:=by
    refine⟨x8,s8.wI λj D hD=> ?_,g5.new,by rw[hH8];exact iT bn7,g5.nbF,g5.nb0,?_,λb hb=> ?_,λi a b=>by omega,λi j a b=>by omega,g5.ww⟩
    · cases j with
      |snd i k=>
        simp only[mD] at hD⊢;rw[if_neg (by unfold DnB;omega)] at hD⊢
        exact hD
      |rcv i k=>
        simp only[mD] at hD⊢;rw[if_neg (by unfold DnB;omega)] at hD⊢
        exact hD
      |_=>exact hD
    · refine(show Rw (fQ y1 c) 167 3 H7 pv (List.range 1) from k2').gF λb hb=> ?_
      rw[hH8];exact aN7 λhh=>hpvn (by rw[hh];exact hb)
    · rcases k5' b hb with hb|hb
      · exact absurd hb (hnh b)
      · exact⟨by omega,λhu=>by have:=g5.sep.pM b hu;omega⟩
  have fe8:FE F1 c 1 1 0 0:=λj hj=>fe5 j λhd=>hj (by
    cases j<;>simp only[rE] at hd⊢ <;>(try exact hd)<;>(unfold DnB at hd ⊢; omega))
  -- who is beside
  have b8:=hpH H8 g8.ext;have l11d:=kP b8;obtain⟨H9,bv,q1,x9,q3,q4⟩:=Ko (hp.ext (aR.tr g8.ext)) (m:=m-1) (by omega) (by omega) (me:Int)
  have g9:=g8.aAA x9;have lbv:=q3.yG;rw[hbl] at lbv;have main: ∃H' r,lvl prog pkN m (.func 36) [plV p ev wv nv,.int .i64 me] H=some (r,H')/\Pj H2 p ev wv nv c H' r:=by
    refine iP (cJ rfl) (by omega) ?_
    rw[Xk];have e1:H++[Blk.cells (Value.cells (plV p ev wv nv)).toList 40 .fix]=H1:=by rw[hH1];rfl
    have c3:((0:Int)!=0)=false:=rfl;have pchk:=λG=>(hp.chk G)
    have nchk: ∀G:aC,chk (some (Value.slice none 0 0,G)) (.slice none 0 0)=true:=λ_=>by simp[chk,veq]
    simp -implicitDefEqProofs only[gsR,e1,l11,g1,c3,c1,l0,c2,l11',l2,l4,r1,l11c,pchk,ebn,e4,n13,l8,w1,n13',nchk,eb,es,k1',st,l11d,q1,lbv];have y1n':y1.nb=H3.length:=y1n;exact aNg (pl:=H.length) (Hs:=H2) (Hb:=H9) hok hc' hop (hp.ext aR) b2 k2 k3 k7 hwo (by rw[hcme];exact q3) (by rw[hcme];exact hbl) (λi hi=>by rw[hcme];exact hbg i (by rw[hbl];exact hi)) (by omega) (by omega) c.by'.length 0 (m-1) H9 F1 y1 pv (by omega) (by omega) (by have:=hok.by';omega) y1n' g9 fe8 (λb cs hb=>hb) ..
  obtain⟨H',r,z1,F,y,rfl,z2⟩:=main;refine⟨H',F,y,z1,{z2 with ext:=aR.tr z2.ext,old:=λb hb=>aOm aR.1 (z2.old b hb),plan:=hp}⟩
end
end Go.Proofs.YtmimdleeihjdoaaGreatDoor
namespace Go.Proofs.YtmimdleeihjdoaaGreatDoor
open Go.Proofs.Tryz
open Go.Abs
section
variable {H : aC} {m : Nat}
theorem Gp (c:List Nat):iH (ofT c)=true/\1<=(ofT c).length:=by
 unfold ofT;split
 ·exact⟨by decide+kernel,by simp⟩
 ·rename_i h
  have hl:(ofL c (min c.length 5)).length=min c.length 5:=by simp[ofL]
  refine⟨?_,by rw[hl];omega⟩
  unfold iH;rw[hl,aOe,aOM];refine⟨λi hi=> ?_,aOQ (by omega)⟩
  have hi':=aOL.mp hi;have e:(ofL c (min c.length 5)).getD i 0=((c.getD i 0%(i+1):Nat):Int):=by
   unfold ofL;rw[aOa,aOj,aOO hi'];rfl
  have hm:c.getD i 0%(i+1)<i+1:=Nat.mod_lt _ (by omega)
  rw[e,aOe]
  exact⟨aOQ (by omega),aOQ (by omega)⟩
def rY (c:List Nat)(room more start:Nat):PlanD:=qX (mkP 0 room more start []) (ofT c)
theorem aAE (c:List Nat)(room more start:Nat):mP (rY c room more start)=0:=by
 obtain⟨hr,ht1⟩:=Gp c
 exact(aH4 (Vk 0 room more start []) (Wz hr ht1)).1
theorem aNh (c:List Nat):1<=(ofT c).length/\(ofT c).length<=5:=by
 obtain⟨hr,h1⟩:=Gp c;unfold iH at hr;rw[aOe] at hr;have:=of_decide_eq_true hr.2;omega
theorem Pk {D H D' H':aC}(hs:Sub D H)(hf:Fs D H D' H')(he:Ext D D'):Ext H H':=by
 refine⟨by have:=hf.sub.1;have:=hs.1;have:=he.1;omega,λb hb _=> ?_⟩
 have hbD:b<D.length:=by rw[hs.1];exact hb
 by_cases hd:D[b]? =some .dead
 ·exact hf.keep b hd
 ·have hx:D[b]? =some D[b]:=aN8 hbD
  have hn:D[b]≠ .dead:=λh=>hd (by rw[hx,h])
  rw[hs.2 b _ hx hn,hf.sub.2 b _ ((he.2 b hbD id).trans hx) hn]
theorem Gq {α:Type}{el:α->List Value}{e:TypeId}{D H:aC}{v:Value}{xs:List α}(h:Rs el e D v xs)(hk: ∀(b:Nat)(x:Blk),D[b]? =some x->x≠ .dead->H[b]? =some x):Rs el e H v xs:=by
 rcases h with h|⟨b,o,cap,h1,h2,h3⟩
 ·exact .inl h
 ·refine .inr ⟨b,o,cap,h1,h2,λhne=> ?_⟩
  obtain⟨e',k,pre,post,q1,q2,q3⟩:=h3 hne
  exact⟨e',k,pre,post,q1,q2,hk b _ q3 (λh=>by cases h)⟩
theorem aAF {D H:aC}{p:PlanD}{ev wv nv:Value}(h:PV D p ev wv nv)(hk: ∀(b:Nat)(x:Blk),D[b]? =some x->x≠ .dead->H[b]? =some x):PV H p ev wv nv:=by
 obtain⟨h1,h2,⟨us,h3,h4,h5⟩,h6,h7,h8⟩:=h
 exact⟨Gq h1 hk,Gq h2 hk,⟨us,Gq h3 hk,h4,λi u xs hu hx=>Gq (h5 i u xs hu hx) hk⟩,h6,h7,h8⟩
theorem Pm {cv:Value}{c:List Nat}(hc:Us H cv c)(hu8: ∀x∈c,x<256)(hl:c.length<=72057594037927936)(room more start:Nat)(h2:room<256)(h3:more<256)(h4:start<65536)(hm:700<m)(hm2:m<=72057594037927936):
  ∃H' ev wv nv,lvl prog cD m (.func 35) [cv,.int .u8 room,.int .u8 more,.int .u16 start] H=some (plV (rY c room more start) ev wv nv,H')/\Ext H H'/\PV H' (rY c room more start) ev wv nv:=by
 obtain⟨Ha,hHa⟩: ∃Ha,Ha=H++[plZ]:=⟨_,rfl⟩;obtain⟨Da,hDa⟩: ∃Da,Da=H++[Blk.dead]:=⟨_,rfl⟩;have xa:Ext H Ha:=by rw[hHa];exact Fr.app _ _ _
 have xd:Ext H Da:=by rw[hDa];exact Fr.app _ _ _
 have ba:Ha[H.length]? =some plZ:=by rw[hHa];exact hP _ _
 have bd:Da[H.length]? =some .dead:=by rw[hDa];exact hP _ _
 have sa:Sub Da Ha:=by
  rw[hHa,hDa];refine⟨by simp,λb x hb hx=> ?_⟩
  by_cases hlt:b<H.length
  ·rw[aN9 hlt] at hb⊢
   exact hb
  ·have h9:=dC hb
   simp at h9;have:b=H.length:=by omega
   subst this;rw[hP] at hb;cases hb;exact absurd rfl hx
 obtain⟨D2,u,d2,hmd⟩:=aGm (H:=Da) (m:=m-1) 0 room more start (by omega) h2 h3 h4 (aGA Da) (by simp) (by simp) (by omega)
 obtain⟨H2,g2,f2⟩:=Ax _ rR _ _ _ Da Ha sa _ _ d2;obtain⟨ev,wv,nv,rfl,y2,hp⟩:=hmd.pv;have x2:=Pk sa f2 y2;have hok:=Vk 0 room more start [];have hwl:(mkP 0 room more start []).weights.length<=1000:=by simp[mkP];omega
 obtain⟨p,hpp⟩: ∃p,p=mkP 0 room more start []:=⟨_,rfl⟩;have hq0:rY c room more start=qX p (ofT c):=by rw[hpp];rfl
 rw[hq0];rw[<-hpp] at hp g2 hok hwl;have z0:((0:Nat):Int)=0:=rfl;simp only[z0] at g2;obtain⟨D1,tv,d1,y1,qt,_⟩:=aHO (hc.ext (xd.tr y2)) hu8 hl (m:=m-1) (by omega)
 obtain⟨H1,g1,f1⟩:=Ax _ rR _ _ _ D2 H2 f2.sub _ _ d1;have x1:=Pk f2.sub f1 y1;obtain⟨hr,ht1⟩:=Gp c;obtain⟨D3,_,d3,ev3,wv3,nv3,rfl,y3,hp3⟩:=aH3 (hp.ext y1) hwl qt.rs hr ht1 (m:=m-1) (by omega) (by omega)
 obtain⟨H3,g3,f3⟩:=Ax _ rR _ _ _ D1 H1 f1.sub _ _ d3;have x3:=Pk f1.sub f3 y3;have bD:D3[H.length]? =some .dead:=fN bd ((y2.tr y1).tr y3);obtain⟨q,hq⟩: ∃q,q=qX p (ofT c):=⟨_,rfl⟩;rw[<-hq] at hp3 g3⊢;have hp3H:PV H3 q ev3 wv3 nv3:=aAF hp3 f3.sub.2;have cp:=Ej hp3H H3;obtain⟨H4,hH4⟩: ∃H4,H4=H3++[plB q ev3 wv3 nv3]:=⟨_,rfl⟩;rw[<-hH4] at cp;have x4:Ext H3 H4:=by rw[hH4];exact Fr.app _ _ _
 have b4:H4[H3.length]? =some (plB q ev3 wv3 nv3):=by rw[hH4];exact hP _ _
 have l4:=kP b4;have xx:=((x2.tr x1).tr x3).tr x4;have bz:H4[H.length]? =some plZ:=fN ba xx;have e1:(plV q ev3 wv3 nv3).cells.toList=plC q ev3 wv3 nv3:=rfl;have st:stN 11 (.pointer (some ⟨H.length,0,none⟩)) (plV q ev3 wv3 nv3) H4=some (undef,H4.set H.length (plB q ev3 wv3 nv3)):=by
  rw[mX 11 _ _ _ rfl,bz,e1];unfold plZ;rw[oA _ _ _ _ _ _ (by decide) (by simp[plC]) hp3H.K3]
  simp[eH,plC,plB]
 have hlt:H.length<H4.length:=dC bz;have x5:Ext H (H4.set H.length (plB q ev3 wv3 nv3)):=tP (xa.tr xx) (aOb _);have l5:ldN 11 (.pointer (some ⟨H.length,0,none⟩)) (H4.set H.length (plB q ev3 wv3 nv3))=some (plV q ev3 wv3 nv3,H4.set H.length (plB q ev3 wv3 nv3)):=kP (by rw[aOc (by omega)])
 refine⟨H4.set H.length (plB q ev3 wv3 nv3),ev3,wv3,nv3,dA (cJ rfl) (by omega) ?_,x5,?_⟩
 ·rw[aGU]
  simp -implicitDefEqProofs only[gsR,qW,<-hHa,g2,g1,g3,cp,l4,st,l5]
  done
 ·refine aAF hp3 λb x hb hx=> ?_
  have hne:b≠H.length:=λh=>by rw[h,bD] at hb;cases hb;exact hx rfl
  rw[aN7 (Ne.symm hne),x4.2 b (dC (f3.sub.2 b x hb hx)) id];exact f3.sub.2 b x hb hx
end
end Go.Proofs.YtmimdleeihjdoaaGreatDoor
namespace Go.Proofs.YtmimdleeihjdoaaGreatDoor
open Go.Proofs.Tryz
open Go.Abs
open Classical
theorem uC (t:TypeId)(a:Addr)(h:mJ prog t (.pointer none)=true):bin prog .eql t (.pointer (some a)) (.pointer none)=some (.bool false)/\bin prog .eql t (.pointer none) (.pointer none)=some (.bool true):=by
 have h2:mJ prog t (.pointer (some a))=true:=by
  rw[<-h];unfold mJ;cases prog.underlying t with
  |none=>rfl
  |some d=>cases d<;>rfl
 constructor<;>simp[bin,dU,oN,h,h2,eqV]
section
variable {H00 H0 H H' : aC} {F : Part → Nat → Prop} {y : Lay} {p : PlanD} {ev wv nv : Value} {c : Cfg} {t : Nat} {s : NS} {N N' : Nat → Prop}
theorem NodeAt.aNi (h:NodeAt H0 H F y p ev wv nv c t s)(he:Ext H00 H0)(hp:PV H00 p ev wv nv):NodeAt H00 H F y p ev wv nv c t s:=
 {h with ext:=he.tr h.ext,old:=λb hb=>aOm he.1 (h.old b hb),plan:=hp}
theorem NodeAt.Gr (h:NodeAt H0 H F y p ev wv nv c t s)(he:Ext H0 H')(hm:Mv N N' H H')(hd: ∀b,Un F b-> ¬N b):NodeAt H0 H' F y p ev wv nv c t s/\ ∀b,Un F b-> ¬N' b:=
 ⟨{h with ext:=he,sep:=h.sep.wJ (zF _ _ _ _ _ _ _) hm hd},λb hb hn=>(hm.own b hn).elim (hd b hb) λhl=>by have:=h.sep.pM b hb;omega⟩
end
end Go.Proofs.YtmimdleeihjdoaaGreatDoor
namespace Go.Proofs.YtmimdleeihjdoaaGreatDoor
open Go.Proofs.Tryz
open Go.Abs
def kp:PlanD:={rY [0] 1 0 0 with every:=8}
def kx:Pkt:=⟨0,1,0,7⟩
def kA:NS:=(nW (iI kp 0) kx (NS.iW (iI kp 0))).2
def kT:NS×lI:=vA (iI kp 0) kA
def kB:Nat×NS:=kR (iI kp 1) 0 (kT.2.getD 0 (0,[])).2 (NS.iW (iI kp 1))
def kU:NS×lI:=vA (iI kp 1) kB.2
theorem aAG:mP kp=0:=by decide+kernel
theorem aNj:(nW (iI kp 0) kx (NS.iW (iI kp 0))).1=0/\kT.2.map (·.1)=[1]/\kB.1=0/\kU.1.hG=[kx]/\(nW (iI kp 0) ⟨1,0,0,0⟩ kT.1).1=1:=by decide+kernel
end Go.Proofs.YtmimdleeihjdoaaGreatDoor
noncomputable section
namespace Go.Proofs.YtmimdleeihjdoaaGreatDoor
open Go.Proofs.Tryz
open Go.Abs
variable (O:aE)(L:LV)(k:KV)(N P Q R S T U V W X Y Z a b c d e f g i j l m n o p q r s t u v w x y z A B C D E F G H I J zz zy zx zw zv zu zt zs zr zq zp zo zn zm zl zk zj zi zh zg zf ze zd zc zb za yz yy yx yw yv yu yt ys yr yq yp yo yn ym yl yk yj yi yh yg yf ye yd yc yb ya xz xy xx xw xv xu xt xs xr xq xp xo xn xm xl xk xj xi xh xg xf xe xd xc xb xa wz wy wx ww wv wu wt ws wr wq wp wo wn wm wl wk wj wi wh wg wf we wd wc wb wa vz vy vx vw vv vu vt vs vr vq vp vo vn vm vl vk vj vi vh vg vf:Value)(h:aC)
def Pp:Code:=b9 [1,1,1,1,1,1,1,1,0,1,0,0] (cC prog 6)
def Pr:KV:=(dN 0 (eF prog O L (b9 [1,1,1,1,1,1,1,1,1] (cC prog 6)) (eX prog Tryz.f6)))
theorem aNo:Pr O L (.exit 0) [a,b,c,d,e,f,g,i,j,l,m,n,o,p,q,r,s,t,u,v,w,x,y,z,A,B,C,D,E,F,G,H,I,J,zz,zy,zx,zw,zv,zu,zt,zs,zr,zq,zp,zo,zn,zm,zl,zk,zj,zi,zh,zg,zf,ze,zd,zc,zb,za,yz,yy,yx,yw,yv,yu,yt,ys,yr,yq,yp,yo,yn,ym,yl,yk,yj,yi,yh,yg,yf,ye,yd,yc,yb,ya,xz,xy,xx,xw,xv,xu,xt,xs,xr,xq,xp,xo,xn,xm,xl,xk,xj,xi] h=ob (ldN 4 l h) λaa h57=>ifB (true) (ob (O (.func 38) [p,aa] h57) λab h58=>ifB (true) (ob (M.aD (bin prog .eql 60 ab (.int .u16 150)) h58) λac h59=>ob (gd ac true (M.cB p) h59) λad h60=>ob (gd ac true (O (.func 39) [ad]) h60) λae h61=>ifB (true) (ob (gd ac true (M.aD (aG 2 l)) h61) λaf h62=>ob (gd ac true (ld1 af) h62) λag h63=>ifB (chk ((gd ac true (ld1 af)) h60) ag&&(true)) (ob (gd ac true (O (.func 40) [ae,ag]) h63) λah h64=>ifB (true) (ob (gd ac true (M.aD (aG 4 n)) h64) λai h65=>ob (gd ac true (ld1 ai) h65) λaj h66=>ifB (chk ((gd ac true (ld1 ai)) h63) aj&&(chk ((gd ac true (ld1 ai)) h60) aj&&(true))) (ob (gd ac true (M.aD (bin prog .eql 3 ah aj)) h66) λak h67=>ob (M.aD (cF ac ak (.bool false)) h67) λal h68=>some (aJ [al],h68))))))):=by kernel_rfl
theorem aNn:aK prog O L Pp k [a,b,c,d,e,f,g,i,j,l,m,n,o,p,q,r,s,t,u,v,w,x,y,z,A,B,C,D,E,F,G,H,I,J,zz,zy,zx,zw,zv,zu,zt,zs,zr,zq,zp,zo,zn,zm,zl,zk,zj,zi,zh,zg,zf,ze,zd,zc,zb,za,yz,yy,yx,yw,yv,yu,yt,ys,yr,yq,yp,yo,yn,ym,yl,yk,yj,yi,yh,yg,yf,ye,yd,yc,yb,ya,xz,xy,xx,xw,xv,xu,xt,xs,xr,xq,xp,xo,xn,xm,xl,xk,xj,xi] h=ob (M.aD (aG 4 n) h) λaa h=>ob (ld1 aa h) λab h=>ob (M.aD (bin prog .lss 3 r ab) h) λac h=>aL ac (ob (ldN 4 l h) λad h=>ob (O (.func 38) [p,ad] h) λae h=>ob (M.aD (bin prog .neq 60 ae (.int .u16 0)) h) λaf h=>aL af (k .ret [a,b,c,d,e,f,g,i,j,l,(.bool false),n,o,p,q,r,s,t,u,v,w,x,y,z,A,B,C,D,E,F,G,H,I,J,zz,zy,zx,zw,zv,zu,zt,zs,zr,zq,zp,zo,zn,zm,zl,zk,zj,zi,zh,zg,zf,ze,zd,zc,zb,za,yz,yy,yx,yw,yv,yu,yt,ys,yr,yq,yp,yo,yn,ym,yl,yk,yj,yi,yh,yg,r,aa,ab,ac,yb,ya,p,ad,ae,af,xv,xu,xt,xs,xr,xq,xp,xo,xn,xm,xl,xk,xj,xi] h) (ob (M.aD (bin prog .add 3 r (.int .i64 1)) h) λag h=>k .normal [a,b,c,d,e,f,g,i,j,l,m,n,o,p,q,ag,s,t,u,v,w,x,y,z,A,B,C,D,E,F,G,H,I,J,zz,zy,zx,zw,zv,zu,zt,zs,zr,zq,zp,zo,zn,zm,zl,zk,zj,zi,zh,zg,zf,ze,zd,zc,zb,za,yz,yy,yx,yw,yv,yu,yt,ys,yr,yq,yp,yo,yn,ym,yl,yk,yj,yi,yh,yg,r,aa,ab,ac,r,ag,p,ad,ae,af,xv,xu,xt,xs,xr,xq,xp,xo,xn,xm,xl,xk,xj,xi] h)) (k (.exit 0) [a,b,c,d,e,f,g,i,j,l,m,n,o,p,q,r,s,t,u,v,w,x,y,z,A,B,C,D,E,F,G,H,I,J,zz,zy,zx,zw,zv,zu,zt,zs,zr,zq,zp,zo,zn,zm,zl,zk,zj,zi,zh,zg,zf,ze,zd,zc,zb,za,yz,yy,yx,yw,yv,yu,yt,ys,yr,yq,yp,yo,yn,ym,yl,yk,yj,yi,yh,yg,r,aa,ab,ac,yb,ya,xz,xy,xx,xw,xv,xu,xt,xs,xr,xq,xp,xo,xn,xm,xl,xk,xj,xi] h):=by kernel_rfl
theorem aAI:cA prog O L 6 [N,P,Q,R,S] h=ob (cP 31 (Value.cells S).toList .fix h) λaa h=>ob (O (.func 35) [N,P,Q,(.int .u16 0)] h) λab h=>ob (cP 40 [(.int .i64 0),(.slice none 0 0),(.int .i64 0),(.int .i64 0),(.int .i64 0),(.int .i64 0),(.int .i64 0),(.int .i64 0),(.slice none 0 0),(.int .u16 0),(.slice none 0 0)] .fix h) λac h=>ob (stN 11 ac ab h) λad h=>ob (cS prog 5 3 R h) λae h=>ob (M.aD (aG 0 ac) h) λaf h=>ob (ld1 af h) λag h=>ob (M.aD (bin prog .rem 3 ae ag) h) λah h=>ob (ldN 11 ac h) λai h=>ob (O (.func 36) [ai,ah] h) λaj h=>ob (M.aD (bin prog .eql 58 aj (.pointer none)) h) λak h=>ob (gd ak false (O (.func 37) []) h) λal h=>ob (gd ak false (M.aD (un prog .not al)) h) λam h=>ob (M.aD (cF ak (.bool true) am) h) λan h=>aL an (some (aJ [(.bool false)],h)) (ob (M.aD (aG 0 aa) h) λao h=>ob (ld1 ao h) λap h=>ob (M.aD (bin prog .eql 3 ap ah) h) λaq h=>ob (gd aq true (M.aD (aG 1 aa)) h) λar h=>ob (gd aq true (ld1 ar) h) λau h=>ob (gd aq true (M.cB ah) h) λav h=>ob (gd aq true (M.aD (bin prog .neq 3 au av)) h) λaw h=>ob (M.aD (cF aq aw (.bool false)) h) λax h=>ob (gd ax true (M.aD (aG 1 aa)) h) λay h=>ob (gd ax true (ld1 ay) h) λaz h=>ob (gd ax true (M.aD (bin prog .geq 3 az (.int .i64 0))) h) λba h=>ob (M.aD (cF ax ba (.bool false)) h) λbb h=>ob (gd bb true (M.aD (aG 1 aa)) h) λbc h=>ob (gd bb true (ld1 bc) h) λbd h=>ob (gd bb true (M.aD (aG 0 ac)) h) λbe h=>ob (gd bb true (ld1 be) h) λbf h=>ob (gd bb true (M.aD (bin prog .lss 3 bd bf)) h) λbg h=>ob (M.aD (cF bb bg (.bool false)) h) λbh h=>ob (gd bh true (M.aD (aG 2 aa)) h) λbi h=>ob (gd bh true (ld1 bi) h) λbj h=>ob (gd bh true (M.aD (bin prog .geq 3 bj (.int .i64 0))) h) λbk h=>ob (M.aD (cF bh bk (.bool false)) h) λbl h=>ob (gd bl true (M.aD (aG 2 aa)) h) λbm h=>ob (gd bl true (ld1 bm) h) λbn h=>ob (gd bl true (M.aD (aG 2 ac)) h) λbo h=>ob (gd bl true (ld1 bo) h) λbp h=>ob (gd bl true (M.aD (bin prog .lss 3 bn bp)) h) λbq h=>ob (M.aD (cF bl bq (.bool false)) h) λbr h=>ob (ldN 4 aa h) λbs h=>ob (O (.func 38) [aj,bs] h) λbt h=>ob (M.aD (bin prog .eql 60 bt (.int .u16 0)) h) λbu h=>ob (M.aD (bin prog .neq 4 bu br) h) λbv h=>aL bv (some (aJ [(.bool false)],h)) (ob (M.aD (un prog .not br) h) λbw h=>aL bw (ob (ldN 4 aa h) λbx h=>ob (O (.func 38) [aj,bx] h) λbz h=>ob (M.aD (bin prog .eql 60 bz (.int .u16 1)) h) λca h=>some (aJ [ca],h)) (L (aK prog O L Pp) (Pr O L) [N,P,Q,R,S,undef,undef,undef,undef,aa,(.bool false),ac,ah,aj,br,(.int .i64 1),N,P,Q,ab,R,ae,af,ag,ah,ai,ah,aj,aj,ak,ak,al,am,an,ao,ap,ah,aq,aq,ar,au,av,aw,ax,ax,ay,az,ba,bb,bb,bc,bd,be,bf,bg,bh,bh,bi,bj,bk,bl,bl,bm,bn,bo,bp,bq,br,aj,bs,bt,bu,br,bv,br,bw,undef,undef,undef,undef,undef,undef,undef,undef,undef,undef,undef,undef,undef,undef,undef,undef,undef,undef,undef,undef,undef,undef,undef,undef,undef,undef,undef,undef] h))):=by kernel_rfl
def Pn:Code:=b9 [1,1,1,1,1,0,1,0,0] (cC prog 10)
def Po:KV:=(dN 0 (eF prog O L (b9 [1,1,1,1,1,1] (cC prog 10)) (eX prog Tryz.f10)))
def Gs (O:aE)(L:LV) (a b c d e f g i j l m n o p q r s t u v w x y z A B C D E F G H I J zz zy zx zw zv zu zt zs zr zq zp zo zn zm zl zk zj zi zh zg zf ze zd zc zb za yz yy yx yw yv yu yt ys yr yq yp yo yn ym yl yk yj yi yh yg yf ye yd yc yb ya xz xy xx xw xv xu xt xs xr xq xp xo xn xm xl xk xj xi xh xg xf xe xd xc xb xa wz wy wx ww wv wu wt ws wr wq wp wo wn wm wl wk wj wi wh wg wf we wd wc wb wa vz vy vx vw vv vu vt vs vr vq vp vo vn vm vl vk vj vi vh vg vf:Value) (h:aC):OV:=ob (M.aD (bld prog 71 [(0,(.int .u8 2)),(1,(.int .u8 2)),(2,g)]) h) λaa h73=>ob (O (.func 48) [aa] h73) λab h74=>ob (M.aD (ext 0 ab) h74) λac h75=>ob (M.aD (ext 1 ab) h75) λad h76=>ob (cS prog 5 3 d h76) λae h77=>ob (M.aD (aG 0 r) h77) λaf h78=>ob (ld1 af h78) λag h79=>ob (M.aD (bin prog .rem 3 ae ag) h79) λah h80=>ob (O (.func 49) [s,ah,ac] h80) λai h81=>ob (O (.func 49) [s,(.int .i64 (-1)),ac] h81) λaj h82=>ob (dJ 5 1 1 [(.int .u8 0)] [(0,(.int .u8 9))] h82) λak h83=>ob (app 5 1 1 ak ac h83) λal h84=>ob (O (.func 49) [s,t,al] h84) λam h85=>ob (O (.func 49) [s,t,ac] h85) λan h86=>ob (M.aD (bin prog .eql 60 ai (.int .u16 1)) h86) λao h87=>ob (gd ao true (M.cB aj) h87) λap h88=>ob (gd ao true (M.aD (bin prog .eql 60 ap (.int .u16 1))) h88) λaq h89=>ob (M.aD (cF ao aq (.bool false)) h89) λar h90=>ob (gd ar true (M.cB am) h90) λau h91=>ob (gd ar true (M.aD (bin prog .eql 60 au (.int .u16 30))) h91) λav h92=>ob (M.aD (cF ar av (.bool false)) h92) λaw h93=>ob (gd aw true (M.cB an) h93) λax h94=>ob (gd aw true (M.aD (bin prog .eql 60 ax (.int .u16 30))) h94) λay h95=>ob (gd aw true (M.aD (aG 2 r)) h95) λaz h96=>ob (gd aw true (ld1 az) h96) λba h97=>ifB (true) (ob (gd aw true (M.aD (bin prog .lss 3 ba (.int .i64 3))) h97) λbb h98=>ob (gd aw true (M.aD (bin prog .eql 4 ay bb)) h98) λbc h99=>ob (M.aD (cF aw bc (.bool false)) h99) λbd h100=>ob (gd bd true (M.cB s) h100) λbe h101=>ob (gd bd true (O (.func 46) [be,(.int .i64 1),(.int .i64 0)]) h101) λbf h102=>ifB (true) (ob (gd bd true (O (.func 50) [bf]) h102) λbg h103=>ifB (true) (ob (gd bd true (M.aD (aG 3 r)) h103) λbh h104=>ob (gd bd true (ld1 bh) h104) λbi h105=>ifB (chk ((gd bd true (ld1 bh)) h102) bi&&(chk ((gd bd true (ld1 bh)) h101) bi&&(true))) (ob (gd bd true (M.aD (bin prog .eql 3 bg bi)) h105) λbj h106=>ob (M.aD (cF bd bj (.bool false)) h106) λbk h107=>ob (gd bk true (M.cB e) h107) λbl h108=>ob (gd bk true (M.aD (bin prog .geq 3 bl (.int .i64 0))) h108) λbm h109=>ob (gd bk true (M.cB bm) h109) λbn h110=>ob (gd bn false (M.cB s) h110) λbo h111=>ob (gd bn false (M.cB e) h111) λbp h112=>ob (gd bn false (M.cB f) h112) λbq h113=>ob (gd bn false (O (.func 49) [bo,bp,bq]) h113) λbr h114=>ifB (true) (ob (gd bn false (M.aD (bin prog .eql 60 br (.int .u16 1))) h114) λbs h115=>ob (gd bk true (M.aD (cF bn (.bool true) bs)) h115) λbt h116=>ob (M.aD (cF bk bt (.bool false)) h116) λbu h117=>some (aJ [bu],h117))))))
theorem aNk:Po O L (.exit 0) [a,b,c,d,e,f,g,i,j,l,m,n,o,p,q,r,s,t,u,v,w,x,y,z,A,B,C,D,E,F,G,H,I,J,zz,zy,zx,zw,zv,zu,zt,zs,zr,zq,zp,zo,zn,zm,zl,zk,zj,zi,zh,zg,zf,ze,zd,zc,zb,za,yz,yy,yx,yw,yv,yu,yt,ys,yr,yq,yp,yo,yn,ym,yl,yk,yj,yi,yh,yg,yf,ye,yd,yc,yb,ya,xz,xy,xx,xw,xv,xu,xt,xs,xr,xq,xp,xo,xn,xm,xl,xk,xj,xi,xh,xg,xf,xe,xd,xc,xb,xa,wz,wy,wx,ww,wv,wu,wt,ws,wr,wq,wp,wo,wn,wm,wl,wk,wj,wi,wh,wg,wf,we,wd,wc,wb,wa,vz,vy,vx,vw,vv,vu,vt,vs,vr,vq,vp,vo,vn,vm,vl,vk,vj,vi,vh,vg,vf] h=Gs O L a b c d e f g i j l m n o p q r s t u v w x y z A B C D E F G H I J zz zy zx zw zv zu zt zs zr zq zp zo zn zm zl zk zj zi zh zg zf ze zd zc zb za yz yy yx yw yv yu yt ys yr yq yp yo yn ym yl yk yj yi yh yg yf ye yd yc yb ya xz xy xx xw xv xu xt xs xr xq xp xo xn xm xl xk xj xi xh xg xf xe xd xc xb xa wz wy wx ww wv wu wt ws wr wq wp wo wn wm wl wk wj wi wh wg wf we wd wc wb wa vz vy vx vw vv vu vt vs vr vq vp vo vn vm vl vk vj vi vh vg vf h:=by kernel_rfl
theorem aAH:aK prog O L Pn k [a,b,c,d,e,f,g,i,j,l,m,n,o,p,q,r,s,t,u,v,w,x,y,z,A,B,C,D,E,F,G,H,I,J,zz,zy,zx,zw,zv,zu,zt,zs,zr,zq,zp,zo,zn,zm,zl,zk,zj,zi,zh,zg,zf,ze,zd,zc,zb,za,yz,yy,yx,yw,yv,yu,yt,ys,yr,yq,yp,yo,yn,ym,yl,yk,yj,yi,yh,yg,yf,ye,yd,yc,yb,ya,xz,xy,xx,xw,xv,xu,xt,xs,xr,xq,xp,xo,xn,xm,xl,xk,xj,xi,xh,xg,xf,xe,xd,xc,xb,xa,wz,wy,wx,ww,wv,wu,wt,ws,wr,wq,wp,wo,wn,wm,wl,wk,wj,wi,wh,wg,wf,we,wd,wc,wb,wa,vz,vy,vx,vw,vv,vu,vt,vs,vr,vq,vp,vo,vn,vm,vl,vk,vj,vi,vh,vg,vf] h=ob (M.aD (aG 1 r) h) λaa h=>ob (ld1 aa h) λab h=>ob (M.aD (bX ab) h) λac h=>ob (M.aD (bin prog .lss 3 u ac) h) λad h=>aL ad (ob (M.aD (aG 1 r) h) λae h=>ob (ld1 ae h) λaf h=>ifB (true) (ob (M.aD (bH 2 af u) h) λag h=>ob (M.aD (aG 0 ag) h) λah h=>ob (ld1 ah h) λai h=>ifB (true) (ob (cS prog 5 3 d h) λaj h=>ob (M.aD (aG 0 r) h) λak h=>ob (ld1 ak h) λal h=>ifB (true) (ob (M.aD (bin prog .rem 3 aj al) h) λam h=>ob (M.aD (bin prog .eql 3 ai am) h) λan h=>aL an (ob (M.aD (aG 1 r) h) λao h=>ob (ld1 ao h) λap h=>ob (M.aD (bH 2 ap u) h) λaq h=>ob (M.aD (aG 1 aq) h) λar h=>ob (ld1 ar h) λau h=>ob (M.aD (aG 1 r) h) λav h=>ob (ld1 av h) λaw h=>ifB (true) (ob (M.aD (bH 2 aw u) h) λax h=>ob (M.aD (aG 1 ax) h) λay h=>ob (ld1 ay h) λaz h=>ifB (true) (ob (cS prog 5 3 d h) λba h=>ob (M.aD (aG 0 r) h) λbb h=>ob (ld1 bb h) λbc h=>ifB (true) (ob (M.aD (bin prog .rem 3 ba bc) h) λbd h=>ob (M.aD (bin prog .eql 3 az bd) h) λbe h=>aL be (ob (M.aD (aG 1 r) h) λbf h=>ob (ld1 bf h) λbg h=>ob (M.aD (bH 2 bg u) h) λbh h=>ob (M.aD (aG 0 bh) h) λbi h=>ob (ld1 bi h) λbj h=>ob (M.aD (bin prog .add 3 u (.int .i64 1)) h) λbk h=>k .normal [a,b,c,d,e,f,g,i,j,l,m,n,o,p,q,r,s,bj,bk,v,w,x,y,z,A,B,C,D,E,F,G,H,I,J,zz,zy,zx,zw,zv,zu,zt,zs,zr,zq,zp,zo,zn,zm,zl,zk,zj,zi,u,aa,ab,ac,ad,u,bk,ae,af,u,ag,ah,ai,d,aj,ak,al,am,an,ao,ap,u,aq,ar,au,av,aw,u,ax,ay,az,d,ba,bb,bc,bd,be,bf,bg,u,bh,bi,bj,xq,xp,xo,xn,xm,xl,xk,xj,xi,xh,xg,xf,xe,xd,xc,xb,xa,wz,wy,wx,ww,wv,wu,wt,ws,wr,wq,wp,wo,wn,wm,wl,wk,wj,wi,wh,wg,wf,we,wd,wc,wb,wa,vz,vy,vx,vw,vv,vu,vt,vs,vr,vq,vp,vo,vn,vm,vl,vk,vj,vi,vh,vg,vf] h) (ob (M.aD (bin prog .add 3 u (.int .i64 1)) h) λbl h=>k .normal [a,b,c,d,e,f,g,i,j,l,m,n,o,p,q,r,s,au,bl,v,w,x,y,z,A,B,C,D,E,F,G,H,I,J,zz,zy,zx,zw,zv,zu,zt,zs,zr,zq,zp,zo,zn,zm,zl,zk,zj,zi,u,aa,ab,ac,ad,u,bl,ae,af,u,ag,ah,ai,d,aj,ak,al,am,an,ao,ap,u,aq,ar,au,av,aw,u,ax,ay,az,d,ba,bb,bc,bd,be,xw,xv,xu,xt,xs,xr,xq,xp,xo,xn,xm,xl,xk,xj,xi,xh,xg,xf,xe,xd,xc,xb,xa,wz,wy,wx,ww,wv,wu,wt,ws,wr,wq,wp,wo,wn,wm,wl,wk,wj,wi,wh,wg,wf,we,wd,wc,wb,wa,vz,vy,vx,vw,vv,vu,vt,vs,vr,vq,vp,vo,vn,vm,vl,vk,vj,vi,vh,vg,vf] h))))) (ob (M.aD (aG 1 r) h) λbm h=>ob (ld1 bm h) λbn h=>ifB (true) (ob (M.aD (bH 2 bn u) h) λbo h=>ob (M.aD (aG 1 bo) h) λbp h=>ob (ld1 bp h) λbq h=>ifB (true) (ob (cS prog 5 3 d h) λbr h=>ob (M.aD (aG 0 r) h) λbs h=>ob (ld1 bs h) λbt h=>ifB (true) (ob (M.aD (bin prog .rem 3 br bt) h) λbu h=>ob (M.aD (bin prog .eql 3 bq bu) h) λbv h=>aL bv (ob (M.aD (aG 1 r) h) λbw h=>ob (ld1 bw h) λbx h=>ob (M.aD (bH 2 bx u) h) λbz h=>ob (M.aD (aG 0 bz) h) λca h=>ob (ld1 ca h) λcb h=>ob (M.aD (bin prog .add 3 u (.int .i64 1)) h) λcc h=>k .normal [a,b,c,d,e,f,g,i,j,l,m,n,o,p,q,r,s,cb,cc,v,w,x,y,z,A,B,C,D,E,F,G,H,I,J,zz,zy,zx,zw,zv,zu,zt,zs,zr,zq,zp,zo,zn,zm,zl,zk,zj,zi,u,aa,ab,ac,ad,u,cc,ae,af,u,ag,ah,ai,d,aj,ak,al,am,an,yo,yn,ym,yl,yk,yj,bm,bn,u,bo,bp,bq,d,br,bs,bt,bu,bv,bw,bx,u,bz,ca,cb,xq,xp,xo,xn,xm,xl,xk,xj,xi,xh,xg,xf,xe,xd,xc,xb,xa,wz,wy,wx,ww,wv,wu,wt,ws,wr,wq,wp,wo,wn,wm,wl,wk,wj,wi,wh,wg,wf,we,wd,wc,wb,wa,vz,vy,vx,vw,vv,vu,vt,vs,vr,vq,vp,vo,vn,vm,vl,vk,vj,vi,vh,vg,vf] h) (ob (M.aD (bin prog .add 3 u (.int .i64 1)) h) λcd h=>k .normal [a,b,c,d,e,f,g,i,j,l,m,n,o,p,q,r,s,t,cd,v,w,x,y,z,A,B,C,D,E,F,G,H,I,J,zz,zy,zx,zw,zv,zu,zt,zs,zr,zq,zp,zo,zn,zm,zl,zk,zj,zi,u,aa,ab,ac,ad,u,cd,ae,af,u,ag,ah,ai,d,aj,ak,al,am,an,yo,yn,ym,yl,yk,yj,bm,bn,u,bo,bp,bq,d,br,bs,bt,bu,bv,xw,xv,xu,xt,xs,xr,xq,xp,xo,xn,xm,xl,xk,xj,xi,xh,xg,xf,xe,xd,xc,xb,xa,wz,wy,wx,ww,wv,wu,wt,ws,wr,wq,wp,wo,wn,wm,wl,wk,wj,wi,wh,wg,wf,we,wd,wc,wb,wa,vz,vy,vx,vw,vv,vu,vt,vs,vr,vq,vp,vo,vn,vm,vl,vk,vj,vi,vh,vg,vf] h))))))))) (k (.exit 0) [a,b,c,d,e,f,g,i,j,l,m,n,o,p,q,r,s,t,u,v,w,x,y,z,A,B,C,D,E,F,G,H,I,J,zz,zy,zx,zw,zv,zu,zt,zs,zr,zq,zp,zo,zn,zm,zl,zk,zj,zi,u,aa,ab,ac,ad,zc,zb,za,yz,yy,yx,yw,yv,yu,yt,ys,yr,yq,yp,yo,yn,ym,yl,yk,yj,yi,yh,yg,yf,ye,yd,yc,yb,ya,xz,xy,xx,xw,xv,xu,xt,xs,xr,xq,xp,xo,xn,xm,xl,xk,xj,xi,xh,xg,xf,xe,xd,xc,xb,xa,wz,wy,wx,ww,wv,wu,wt,ws,wr,wq,wp,wo,wn,wm,wl,wk,wj,wi,wh,wg,wf,we,wd,wc,wb,wa,vz,vy,vx,vw,vv,vu,vt,vs,vr,vq,vp,vo,vn,vm,vl,vk,vj,vi,vh,vg,vf] h):=by kernel_rfl
theorem aNl:cA prog O L 10 [N,P,Q,R,S,T,U] h=ob (O (.func 35) [N,P,Q,(.int .u16 0)] h) λaa h=>ob (cP 40 [(.int .i64 0),(.slice none 0 0),(.int .i64 0),(.int .i64 0),(.int .i64 0),(.int .i64 0),(.int .i64 0),(.int .i64 0),(.slice none 0 0),(.int .u16 0),(.slice none 0 0)] .fix h) λab h=>ob (stN 11 ab aa h) λac h=>ob (ldN 11 ab h) λad h=>ifB (true) (ob (cS prog 5 3 R h) λae h=>ob (M.aD (aG 0 ab) h) λaf h=>ob (ld1 af h) λag h=>ifB (true) (ob (M.aD (bin prog .rem 3 ae ag) h) λah h=>ob (O (.func 36) [ad,ah] h) λai h=>ifB (true) (ob (M.aD (bin prog .eql 58 ai (.pointer none)) h) λaj h=>ob (gd aj false (M.cB T) h) λak h=>ob (gd aj false (M.aD (bX ak)) h) λal h=>ob (gd aj false (M.aD (bin prog .gtr 3 al (.int .i64 100))) h) λam h=>ob (M.aD (cF aj (.bool true) am) h) λan h=>ob (gd an false (O (.func 37) []) h) λao h=>ob (gd an false (M.aD (un prog .not ao)) h) λap h=>ob (M.aD (cF an (.bool true) ap) h) λaq h=>aL aq (ob (M.aD (bin prog .neq 58 ai (.pointer none)) h) λar h=>ob (gd ar true (O (.func 37) []) h) λau h=>ob (M.aD (cF ar au (.bool false)) h) λav h=>some (aJ [av],h)) (L (aK prog O L Pn) (Po O L) [N,P,Q,R,S,T,U,undef,undef,undef,undef,undef,undef,undef,(.bool false),ab,ai,(.int .i64 (-1)),(.int .i64 0),undef,undef,undef,undef,undef,undef,N,P,Q,aa,ad,R,ae,af,ag,ah,ai,ai,aj,aj,ak,al,am,an,an,ao,ap,aq,undef,undef,undef,undef,undef,undef,undef,undef,undef,undef,undef,undef,undef,undef,undef,undef,undef,undef,undef,undef,undef,undef,undef,undef,undef,undef,undef,undef,undef,undef,undef,undef,undef,undef,undef,undef,undef,undef,undef,undef,undef,undef,undef,undef,undef,undef,undef,undef,undef,undef,undef,undef,undef,undef,undef,undef,undef,undef,undef,undef,undef,undef,undef,undef,undef,undef,undef,undef,undef,undef,undef,undef,undef,undef,undef,undef,undef,undef,undef,undef,undef,undef,undef,undef,undef,undef,undef,undef,undef,undef,undef,undef,undef,undef,undef,undef,undef,undef,undef,undef,undef,undef,undef,undef,undef,undef,undef,undef,undef,undef,undef,undef] h)))):=by kernel_rfl
theorem aNm:cA prog O L 37 [] h=ob (dJ 5 1 1 [(.int .u8 0)] [(0,(.int .u8 0))] h) λaa h=>ob (O (.func 35) [aa,(.int .u8 1),(.int .u8 0),(.int .u16 0)] h) λab h=>ob (cP 40 [(.int .i64 0),(.slice none 0 0),(.int .i64 0),(.int .i64 0),(.int .i64 0),(.int .i64 0),(.int .i64 0),(.int .i64 0),(.slice none 0 0),(.int .u16 0),(.slice none 0 0)] .fix h) λac h=>ob (stN 11 ac ab h) λad h=>ob (M.aD (aG 6 ac) h) λae h=>ob (stN 1 ae (.int .i64 8) h) λaf h=>ob (ldN 11 ac h) λag h=>ob (O (.func 36) [ag,(.int .i64 0)] h) λah h=>ob (ldN 11 ac h) λai h=>ob (O (.func 36) [ai,(.int .i64 1)] h) λaj h=>ob (M.aD (bin prog .eql 58 ah (.pointer none)) h) λak h=>ob (gd ak false (M.cB aj) h) λal h=>ob (gd ak false (M.aD (bin prog .eql 58 al (.pointer none))) h) λam h=>ob (M.aD (cF ak (.bool true) am) h) λan h=>ob (gd an false (M.cB ah) h) λao h=>ob (gd an false (O (.func 39) [ao]) h) λap h=>ob (gd an false (M.aD (bin prog .eql 62 ap (.pointer none))) h) λaq h=>ob (M.aD (cF an (.bool true) aq) h) λar h=>ob (gd ar false (M.cB aj) h) λau h=>ob (gd ar false (O (.func 39) [au]) h) λav h=>ob (gd ar false (M.aD (bin prog .eql 62 av (.pointer none))) h) λaw h=>ob (M.aD (cF ar (.bool true) aw) h) λax h=>ob (gd ax false (M.cB ah) h) λay h=>ob (gd ax false (O (.func 93) [ay]) h) λaz h=>ob (gd ax false (M.aD (bin prog .eql 160 az (.pointer none))) h) λba h=>ob (M.aD (cF ax (.bool true) ba) h) λbb h=>ob (gd bb false (M.cB ah) h) λbc h=>ob (gd bb false (O (.func 46) [bc,(.int .i64 1),(.int .i64 0)]) h) λbd h=>ob (gd bb false (M.aD (bin prog .eql 84 bd (.pointer none))) h) λbe h=>ob (M.aD (cF bb (.bool true) be) h) λbf h=>ob (gd bf false (M.cB ah) h) λbg h=>ob (gd bf false (O (.func 55) [bg,(.int .i64 1),(.int .i64 0)]) h) λbh h=>ob (gd bf false (M.aD (bin prog .eql 108 bh (.pointer none))) h) λbi h=>ob (M.aD (cF bf (.bool true) bi) h) λbj h=>aL bj (some (aJ [(.bool false)],h)) (ob (M.aD (bld prog 31 [(0,(.int .i64 0)),(1,(.int .i64 1)),(3,(.int .u32 7))]) h) λbk h=>ob (O (.func 38) [ah,bk] h) λbl h=>ob (O (.func 41) [ah] h) λbm h=>ob (M.aD (bX bm) h) λbn h=>ob (M.aD (bin prog .neq 3 bn (.int .i64 1)) h) λbo h=>ob (gd bo false (M.cB bm) h) λbp h=>ob (gd bo false (M.aD (bH 2 bp (.int .i64 0))) h) λbq h=>ob (gd bo false (M.aD (aG 0 bq)) h) λbr h=>ob (gd bo false (ld1 br) h) λbs h=>ob (gd bo false (M.aD (bin prog .neq 3 bs (.int .i64 1))) h) λbt h=>ob (M.aD (cF bo (.bool true) bt) h) λbu h=>aL bu (some (aJ [(.bool false)],h)) (ob (M.aD (bH 2 bm (.int .i64 0)) h) λbv h=>ob (M.aD (aG 1 bv) h) λbw h=>ob (ld1 bw h) λbx h=>ob (O (.func 49) [aj,(.int .i64 0),bx] h) λbz h=>ob (O (.func 41) [aj] h) λca h=>ob (O (.func 39) [aj] h) λcb h=>ob (O (.func 52) [cb] h) λcc h=>ob (M.aD (bin prog .eql 60 bl (.int .u16 0)) h) λcd h=>ob (gd cd true (M.cB bz) h) λce h=>ob (gd cd true (M.aD (bin prog .eql 60 ce (.int .u16 0))) h) λcf h=>ob (M.aD (cF cd cf (.bool false)) h) λcg h=>ob (gd cg true (M.cB cc) h) λch h=>ob (gd cg true (M.aD (bX ch)) h) λci h=>ob (gd cg true (M.aD (bin prog .eql 3 ci (.int .i64 1))) h) λcj h=>ob (M.aD (cF cg cj (.bool false)) h) λck h=>ob (gd ck true (M.cB cc) h) λcl h=>ob (gd ck true (M.aD (bH 4 cl (.int .i64 0))) h) λcm h=>ob (gd ck true (M.aD (aG 3 cm)) h) λcn h=>ob (gd ck true (ld1 cn) h) λco h=>ob (gd ck true (M.aD (bin prog .eql 29 co (.int .u32 7))) h) λcp h=>ob (M.aD (cF ck cp (.bool false)) h) λcq h=>ob (gd cq true (ldN 11 ac) h) λcr h=>ob (gd cq true (O (.func 36) [cr,(.int .i64 2)]) h) λcs h=>ob (gd cq true (M.aD (bin prog .eql 58 cs (.pointer none))) h) λct h=>ob (M.aD (cF cq ct (.bool false)) h) λcu h=>ob (gd cu true (M.cB ah) h) λcv h=>ob (gd cu true (M.aD (bld prog 31 [(0,(.int .i64 1))])) h) λcw h=>ob (gd cu true (O (.func 38) [cv,cw]) h) λcx h=>ob (gd cu true (M.aD (bin prog .eql 60 cx (.int .u16 1))) h) λcy h=>ob (M.aD (cF cu cy (.bool false)) h) λcz h=>ob (gd cz true (M.cB ah) h) λda h=>ob (gd cz true (O (.func 46) [da,(.int .i64 0),(.int .i64 0)]) h) λdb h=>ob (gd cz true (M.aD (bin prog .eql 84 db (.pointer none))) h) λdc h=>ob (M.aD (cF cz dc (.bool false)) h) λdd h=>some (aJ [dd],h))):=by kernel_rfl
end Go.Proofs.YtmimdleeihjdoaaGreatDoor
end
namespace Go.Proofs.YtmimdleeihjdoaaGreatDoor
open Go.Proofs.Tryz
open Go.Abs
open Classical
section
variable {H : aC} {m : Nat} {p : PlanD} {ev wv nv : Value}
theorem aNp (hp:PV H p ev wv nv)(hm:17592186045500<m)(hm2:m<=72057594037927936)(v:Int)(hno:mP p≠0∨v<0∨p.nodes<=v):
  ∃H',lvl prog pkN m (.func 36) [plV p ev wv nv,.int .i64 v] H=some (.pointer none,H')/\Ext H H':=by
 obtain⟨H1,hH1⟩: ∃H1,H1=H++[plB p ev wv nv]:=⟨_,rfl⟩;have x1:Ext H H1:=by rw[hH1];exact Fr.app _ _ _
 have b1:H1[H.length]? =some (plB p ev wv nv):=by rw[hH1];exact hP _ _
 have p1:=hp.ext x1;have l11:=kP b1;obtain⟨H2,g1,x2⟩:=Wr p1 (m:=m-1) (by omega) (by omega)
 have b2:H2[H.length]? =some (plB p ev wv nv):=by rw[x2.2 _ (dC b1) id,b1]
 have l0:ld1 (.pointer (some ⟨H.length,0,none⟩)) H2=some (.int .i64 p.nodes,H2):=eG b2 0 (.int .i64 p.nodes) rfl;have e1:H++[Blk.cells (plV p ev wv nv).cells.toList 40 .fix]=H1:=by rw[hH1];rfl
 refine k8 (cJ rfl) (by omega) ⟨H2,?_,x1.tr x2⟩
 rw[Xk];by_cases c0:mP p=0
 ·have d0:((mP p:Int)!=0)=false:=by rw[c0];rfl
  by_cases c1:v<0
  ·have d1:decide (v<0)=true:=aOQ c1
   simp -implicitDefEqProofs only[gsR,e1,l11,g1,d0,d1]
  ·have d1:decide (v<0)=false:=aOR c1
   have d2:decide (p.nodes<=v)=true:=aOQ (by omega)
   simp -implicitDefEqProofs only[gsR,e1,l11,g1,d0,d1,l0,d2]
 ·have d0:((mP p:Int)!=0)=true:=by rw[bne_iff_ne];exact c0
  simp -implicitDefEqProofs only[gsR,e1,l11,g1,d0]
theorem aAJ (m:Nat)(hm:17592186045600<m)(hm2:m<=72057594037927936): ∃H',lvl prog pkN m (.func 37) [] H=some (.bool true,H')/\Ext H H':=by
  obtain⟨H1,hH1⟩: ∃H1,H1=H++[Blk.cells [Value.int .u8 0] 5 .row]:=⟨_,rfl⟩;have x1:Ext H H1:=by rw[hH1];exact Fr.app _ _ _
  have e1:dJ 5 1 1 [.int .u8 0] [(0,.int .u8 0)] H=some (.slice (some ⟨H.length,0,none⟩) 1 1,H1):=by rw[hH1];rfl
  have hu:Us H1 (.slice (some ⟨H.length,0,none⟩) 1 1) [0]:= .inr ⟨H.length,0,1,rfl,aOb _,λ_=>⟨5,.row,[],[],rfl,λ_=>rfl,by rw[hH1,dK];rfl⟩⟩
  obtain⟨H2,ev,wv,nv,g2,x2,hp⟩:=Pm hu (by simp) (by simp) 1 0 0 (by omega) (by omega) (by omega) (m:=m-1) (by omega) (by omega)
  simp only[show((1:Nat):Int)=1 from rfl,show((0:Nat):Int)=0 from rfl] at g2
  obtain⟨q,hq⟩: ∃q,q=rY [0] 1 0 0:=⟨_,rfl⟩;have hqk:kp={q with every:=8}:=by rw[hq];rfl
  rw[<-hq] at g2 hp;have cp:=Ej hp H2;obtain⟨H3,hH3⟩: ∃H3,H3=H2++[plB q ev wv nv]:=⟨_,rfl⟩;rw[<-hH3] at cp;have b3:H3[H2.length]? =some (plB q ev wv nv):=by rw[hH3];exact hP _ _
  have x3:Ext H2 H3:=by rw[hH3];exact Fr.app _ _ _
  have st:stN 1 (.pointer (some ⟨H2.length,6,none⟩)) (.int .i64 8) H3=some (undef,H3.set H2.length (plB kp ev wv nv)):=Ek (q':=kp) (ev':=ev) (wv':=wv) (nv':=nv) b3 rfl rfl (by decide) (by rw[hqk];rfl)
  obtain⟨H4,hH4⟩: ∃H4,H4=H3.set H2.length (plB kp ev wv nv):=⟨_,rfl⟩;rw[<-hH4] at st;have x4:Ext H2 H4:=by rw[hH4];exact tP x3 (aOb _)
  have b4:H4[H2.length]? =some (plB kp ev wv nv):=by rw[hH4,aOc (dC b3)]
  have p4:PV H4 kp ev wv nv:=by
    have:=hp.ext x4;rw[hqk]
    exact⟨this.e,this.w,this.n,this.be,this.bw,this.bn⟩
  have l4:=kP b4;have hnn:kp.nodes=2:=by decide+kernel
  -- both nodes
  obtain⟨H5,Fa,ya,g5,ha⟩:=Gn p4 aAG (by decide+kernel) (m:=m-1) (by omega) (by omega) 0 (by rw[hnn];decide)
  have b5:=fN b4 ha.ext;have l5:=kP b5;obtain⟨H6,Fb,yb,g6,hb⟩:=Gn (p4.ext ha.ext) aAG (by decide+kernel) (m:=m-1) (by omega) (by omega) 1 (by rw[hnn];decide)
  simp only[show((1:Nat):Int)=1 from rfl,show((0:Nat):Int)=0 from rfl] at g5 g6
  have dis: ∀b,Un Fb b-> ¬Un Fa b:=λb h1 h2=>by have:=hb.old b h1;have:=ha.sep.pM b h2;omega
  have ha6:=ha.fR hb.ext;have hb6:=hb.aNi ha.ext p4;obtain⟨ca,hca⟩: ∃ca,ca=iI kp 0:=⟨_,rfl⟩;obtain⟨cb,hcb⟩: ∃cb,cb=iI kp 1:=⟨_,rfl⟩;have hpa:ca.aH=2/\ca.lanes=1:=by rw[hca];decide+kernel
  rw[<-hca] at ha ha6;rw[<-hcb] at hb hb6;obtain⟨r1,r2,r3,r4,r5⟩:=aNj
  -- they are there
  have k1:=Gi ha6 (m:=m-1) (by omega)
  have k2:=Gi hb6 (m:=m-1) (by omega)
  have k3:=aLZ ha6 (m:=m-1) (by omega)
  obtain⟨H7,k4,x7⟩:=aAe ha6 (m:=m-1) (by omega) (i:=1) (k:=0) (by omega) (by omega) (by omega)
  have ha7:=ha6.fR x7;have hb7:=hb6.fR x7;obtain⟨H8,k5,x8⟩:=aLY ha7 (m:=m-1) (by omega) (i:=1) (k:=0) (by omega) (by omega) (by omega)
  have ha8:=ha7.fR x8;have hb8:=hb7.fR x8;simp only[show((1:Nat):Int)=1 from rfl,show((0:Nat):Int)=0 from rfl] at k4 k5
  have n1:=λa=>(uC 58 a (by kernel_rfl)).1
  have n1':=(uC 58 ⟨0,0,none⟩ (by kernel_rfl)).2
  have n2:=λa=>(uC 62 a (by kernel_rfl)).1
  have n3:=λa=>(uC 160 a (by kernel_rfl)).1
  have n4:=λa=>(uC 84 a (by kernel_rfl)).1
  have n4':=(uC 84 ⟨0,0,none⟩ (by kernel_rfl)).2
  have n5:=λa=>(uC 108 a (by kernel_rfl)).1
  have bp:bld prog 31 [(0,.int .i64 0),(1,.int .i64 1),(3,.int .u32 7)]=some kx.dG:=rfl;have bp2:bld prog 31 [(0,.int .i64 1)]=some (Pkt.dG ⟨1,0,0,0⟩):=rfl
  -- what is injected goes out
  obtain⟨H9,Fa9,g9,ha9,m9⟩:=Cb ha8 (m:=m-1) (by omega) kx (by decide)
  have hr1:(nW ca kx (NS.iW ca)).1=0:=by rw[hca];exact r1
  have hs9:(nW ca kx (NS.iW ca)).2=kA:=by rw[hca];rfl
  rw[hr1] at g9;rw[hs9] at ha9;obtain⟨hb9,dis9⟩:=hb8.Gr ha9.ext m9 dis;obtain⟨H10,Fa10,v10,us10,g10,ha10,m10,o10⟩:=aAw ha9 (by omega) (m:=m-1) (by omega)
  obtain⟨hb10,dis10⟩:=hb9.Gr ha10.ext m10 dis9;have hT:vA ca kA=kT:=by rw[hca];rfl
  rw[hT] at ha10 o10;have hlen:us10.length=1:=by
    rw[o10.len];have:=congrArg List.length r2;simpa using this
  obtain⟨u0,hu0⟩: ∃u0,us10=[u0]:=List.length_eq_one_iff.mp hlen;obtain⟨o0,ho0⟩: ∃o0,kT.2=[o0]:=List.length_eq_one_iff.mp (by rw[<-o10.len,hlen])
  obtain⟨w1,w2,w3⟩:=o10.at_ 0 u0 o0 (by rw[hu0];rfl) (by rw[ho0];rfl)
  have ho1:o0.1=1:=by rw[ho0] at r2;simpa using r2
  have len10:bX v10=some (.int .i64 1):=by rw[o10.rw_.rs.kC,hlen];rfl
  obtain⟨bo,oo,i1,i2,i3⟩:=o10.rw_.rs.iS aAr (i:=0) (x:=u0) (by rw[hu0];rfl) .i64
  obtain⟨j1,j2,j3⟩:=i3 H10 rfl;have t0:=j2 0 _ rfl;have t1:=j2 1 _ rfl;rw[w1,ho1] at t0;rw[(aMD w2).1] at t1
  -- and comes
  obtain⟨H11,Fb11,g11,hb11,m11⟩:=zH hb10 (by omega) (m:=m-1) (by omega) 0 w2.rs
  have hba:(kT.2.getD 0 (0,[])).2=o0.2:=by rw[ho0];rfl
  have hr3:(kR cb 0 o0.2 (NS.iW cb)).1=0:=by rw[hcb,<-hba];exact r3
  have hs11:(kR cb 0 o0.2 (NS.iW cb)).2=kB.2:=by rw[hcb,<-hba];rfl
  rw[hr3] at g11;rw[hs11] at hb11;have dis10': ∀b,Un Fa10 b-> ¬Un Fb b:=λb h1 h2=>dis10 b h2 h1
  obtain⟨ha11,dis11⟩:=ha10.Gr hb11.ext m11 dis10';obtain⟨H12,Fb12,v12,us12,g12,hb12,m12,o12⟩:=aAw hb11 (by omega) (m:=m-1) (by omega)
  obtain⟨ha12,dis12⟩:=ha11.Gr hb12.ext m12 dis11;have hU:vA cb kB.2=kU:=by rw[hcb];rfl
  rw[hU] at hb12;have k6:=Gi hb12 (m:=m-1) (by omega)
  obtain⟨c0,c1,c2,cv,hh⟩:=hb12.aAj;rw[r4] at hh;obtain⟨H13,gv,g13,aN,q13,_⟩:=aLa hh (m:=m-1) (by omega) (by decide)
  have ha13:=ha12.fR aN;have len13:bX gv=some (.int .i64 1):=q13.rs.kC;obtain⟨bg,og,i4,i5,i6⟩:=q13.rs.iS y8 (i:=0) (x:=kx) rfl .i64;obtain⟨j4,j5,j6⟩:=i6 H13 rfl;have t3:=j5 3 (.int .u32 7) rfl
  -- what is none
  have b13:H13[H2.length]? =some (plB kp ev wv nv):=by
    have:=fN b4 ha13.ext;exact this
  have l13:=kP b13;obtain⟨H14,g14,aM⟩:=aNp (p4.ext ha13.ext) (m:=m-1) (by omega) (by omega) 2 (.inr (.inr (by rw[hnn];decide)))
  have ha14:=ha13.fR aM;obtain⟨H15,Fa15,g15,ha15,m15⟩:=Cb ha14 (m:=m-1) (by omega) ⟨1,0,0,0⟩ (by decide)
  have hr5:(nW ca ⟨1,0,0,0⟩ kT.1).1=1:=by rw[hca];exact r5
  rw[hr5] at g15;obtain⟨H16,g16,aZ⟩:=aL0 ha15 (m:=m-1) (by omega) 0 0 (by omega)
  refine k8 (cJ rfl) (by omega) ⟨H16,?_,((x1.tr x2).tr x4).tr (ha15.ext.tr aZ)⟩
  rw[aNm];have z1:((1:Int)!=1)=false:=rfl;have z2:((1:Int)==1)=true:=rfl;have z3:((0:Int)==0)=true:=rfl;have z4:((7:Int)==7)=true:=rfl;simp only[show((1:Nat):Int)=1 from rfl,show((0:Nat):Int)=0 from rfl] at i1 i4 g9 g11 g15 t0
  simp -implicitDefEqProofs only[gsR,qW,e1,g2,cp,st,l4,g5,l5,g6,n1,k1,n2,k2,k3,n3,k4,n4,k5,n5,bp,g9,g10,len10,z1,i1,t0,t1,g11,g12,k6,g13,z3,z2,len13,i4,t3,z4,l13,g14,n1',bp2,g15,g16,n4']
end
theorem xH (a b:Bool):bin prog .neq 4 (.bool a) (.bool b)=some (.bool (a !=b)):=by cases a<;>cases b<;>rfl
theorem aNs:un prog .not (.bool false)=some (.bool true):=rfl
theorem xI (x:Pkt)(H:aC):H++[Blk.cells (Value.cells x.dG).toList 31 .fix]=H++[dS x]:=rfl
theorem Gu {H:aC}{b:Nat}{x:Pkt}(hb:H[b]? =some (dS x)):ld1 (.pointer (some ⟨b,0,none⟩)) H=some (.int .i64 x.src,H)/\ld1 (.pointer (some ⟨b,1,none⟩)) H=some (.int .i64 x.dst,H)/\ld1 (.pointer (some ⟨b,2,none⟩)) H=some (.int .i64 x.lane,H)/\ldN 4 (.pointer (some ⟨b,0,none⟩)) H=some (x.dG,H):=
 ⟨cT hb rfl,cT hb rfl,cT hb rfl,yT hb (aOb 4)⟩
def inN (c:Cfg)(x:Pkt)(i:Nat):NS:={NS.iW c with hL:=List.replicate i x}
theorem aNq (c:Cfg)(x:Pkt):inN c x 0=NS.iW c:=rfl
theorem aAN (x:Pkt)(i:Nat):fP (List.replicate i x) x.lane=List.replicate i x:=by
 unfold fP;rw[List.filter_eq_self];intro y hy;rw[List.eq_of_mem_replicate hy];exact aOQ rfl
def Gt (c:Cfg)(x:Pkt):Prop:=x.src=c.me/\x.dst≠c.me/\0<=x.dst/\x.dst<c.nodes/\0<=x.lane/\x.lane<c.lanes
theorem aAK {c:Cfg}{x:Pkt}(h:Gt c x)(i:Nat):nW c x (inN c x i)=if i=c.queue then(150,inN c x i) else(0,inN c x (i+1)):=by
 obtain⟨h1,h2,h3,h4,h5,h6⟩:=h;unfold nW qF;rw[if_neg (by omega),if_neg (by omega)]
 show(if(fP (List.replicate i x) x.lane).length=c.queue then _ else _)=_
 rw[aAN,List.length_replicate];split
 ·rfl
 ·show(0,{inN c x i with hL:=List.replicate i x++[x]})=_
  rw[<-List.replicate_succ'];rfl
theorem aAL {c:Cfg}{x:Pkt}(h: ¬Gt c x)(s:NS):nW c x s=(1,s):=by
 unfold nW qF;split
 ·rfl
 ·rename_i h1
  rw[if_pos (λh2=>h ⟨by omega,by omega,by omega,by omega,by omega,by omega⟩)]
section
variable {H : aC} {m : Nat}
theorem ckI (k:IntKind)(z:Int)(G:aC):chk (some (Value.int k z,G)) (.int k z)=true:=by simp[chk,veq]
theorem aAM:un prog .not (.bool true)=some (.bool false):=rfl
theorem aNr {H0:aC}{y:Lay}{p:PlanD}{ev wv nv:Value}{c:Cfg}{x:Pkt}{xb pb:Nat}(hf:Gt c x)(hb:0<=x.body/\x.body<4294967296)(hque:p.queue=(c.queue:Int))(bx:H0[xb]? =some (dS x))(bp:H0[pb]? =some (plB p ev wv nv))(hm:20<m):
  ∀(q i l:Nat)(H:aC)(F:Part->Nat->Prop),c.queue-i+1=q->1<=i->i<=c.queue->q<l->NodeAt H0 H F y p ev wv nv c 0 (inN c x i)-> ∀(x0 x1 x2 x3 x4 x5 x6 x7 x8 aR aM aZ bG aQ bC bJ bL bI bE aS aT aU aV aW aX aY bA bB bN bO bP bQ bR bS bT bU bV bY cE cG cH cL cQ cU cV cM cN cO cR cY cW cX cZ dD dH dE dI dP dQ dV dW dX dY dZ eA eC eJ eK eM eN eO eP eQ eS eT eU eV eW fC fD fE fF fG fH fI fJ fS fT fU fV fW fX fY fZ gA gB gC gD gE:Value),
  ∃H2,aI l (aK prog (lvl prog pkN m) (aI m) Pp) (Pr (lvl prog pkN m) (aI m)) [x0,x1,x2,x3,x4,x5,x6,x7,x8,(.pointer (some ⟨xb,0,none⟩)),(.bool false),(.pointer (some ⟨pb,0,none⟩)),aR,(pt y.nb),aM,(.int .i64 (i:Nat)),aZ,bG,aQ,bC,bJ,bL,bI,bE,aS,aT,aU,aV,aW,aX,aY,bA,bB,bN,bO,bP,bQ,bR,bS,bT,bU,bV,bY,cE,cG,cH,cL,cQ,cU,cV,cM,cN,cO,cR,cY,cW,cX,cZ,dD,dH,dE,dI,dP,dQ,dV,dW,dX,dY,dZ,eA,eC,eJ,eK,eM,eN,eO,eP,eQ,eS,eT,eU,eV,eW,fC,fD,fE,fF,fG,fH,fI,fJ,fS,fT,fU,fV,fW,fX,fY,fZ,gA,gB,gC,gD,gE] H=some (.bool true,H2)/\True:=by
 intro q;induction q with
 |zero=>
  intro i l H F hq;omega
 |succ q ih=>
  intro i l H F hq h1 hi hl h;intros;obtain⟨l,rfl⟩:=aB l (by omega)
  have h8:=h.ok.queue;obtain⟨_,_,_,p4⟩:=Gu (fN bx h.ext);have lq:ld1 (.pointer (some ⟨pb,4,none⟩)) H=some (.int .i64 c.queue,H):=by rw[eG (fN bp h.ext) 4 (.int .i64 p.queue) rfl,hque]
  obtain⟨H1,F1,g1,ha1,_⟩:=Cb h (m:=m) (by omega) x hb
  rw[aAK hf] at g1 ha1;rw[eD,aNn];by_cases hiq:i=c.queue
  ·rw[if_pos hiq] at g1 ha1
   simp only[show((150:Nat):Int)=150 from rfl] at g1
   have e:decide ((i:Int)<(c.queue:Nat))=false:=aOR (by omega)
   have k1:=Gi ha1 (m:=m) (by omega)
   obtain⟨c0,c1,c2,cv,hh⟩:=ha1.aAj;obtain⟨kl,hkl⟩: ∃kl:Nat,x.lane=kl:=⟨x.lane.toNat,by have:=hf.2.2.2.2.1;omega⟩
   have g2:=N4 hh (m:=m) (by omega) kl (by have:=hf.2.2.2.2.2;omega)
   have hw:(fP (inN c x i).hL (kl:Int)).length=c.queue:=by
    rw[<-hkl]
    show(fP (List.replicate i x) x.lane).length=c.queue
    rw[aAN,List.length_replicate,hiq]
   have hh2:(if i=c.queue then((150:Nat),inN c x i) else(0,inN c x (i+1))).2.hL=(inN c x i).hL:=by rw[if_pos hiq]
   rw[hw] at g2;obtain⟨_,_,p5,_⟩:=Gu (fN bx ha1.ext);rw[hkl] at p5;have lq1:ld1 (.pointer (some ⟨pb,4,none⟩)) H1=some (.int .i64 c.queue,H1):=by rw[eG (fN bp ha1.ext) 4 (.int .i64 p.queue) rfl,hque]
   have z1:((150:Int)==150)=true:=rfl;have z2:((c.queue:Int)==c.queue)=true:=by rw[beq_iff_eq]
   simp -implicitDefEqProofs only[gsR,lq,e];rw[aNo];simp -implicitDefEqProofs only[gsR,p4,g1,k1,p5,g2,lq1,z1,z2,ckI]
   exact⟨_,rfl,trivial⟩
  ·rw[if_neg hiq] at g1 ha1
   simp only[show((0:Nat):Int)=0 from rfl] at g1
   have e:decide ((i:Int)<(c.queue:Nat))=true:=aOQ (by omega)
   have e2:=aA (i:=i) (by omega)
   have z0:((0:Int)!=0)=false:=rfl;simp -implicitDefEqProofs only[gsR,lq,e,p4,g1,z0,cI,e2];exact ih (i+1) l H1 F1 (by omega) (by omega) (by omega) (by omega) ha1 ..
theorem aNt {cv:Value}{c:List Nat}(hc:Us H cv c)(hu8: ∀x∈c,x<256)(hl:c.length<=72057594037927936)(room more v:Nat)(h2:room<256)(h3:more<256)(h4:v<256)(x:Pkt)(hb:0<=x.body/\x.body<4294967296):
  ∃H',lvl prog cD 18014398509481984 (.func 6) [cv,.int .u8 room,.int .u8 more,.int .u8 v,x.dG] H=some (.bool true,H')/\True:=by
 obtain⟨H1,hH1⟩: ∃H1,H1=H++[dS x]:=⟨_,rfl⟩;have x1:Ext H H1:=by rw[hH1];exact Fr.app _ _ _
 have b1:H1[H.length]? =some (dS x):=by rw[hH1];exact dK _ _
 obtain⟨H2,ev,wv,nv,g2,x2,hp⟩:=Pm (hc.ext x1) hu8 hl room more 0 h2 h3 (by omega) (m:=18014398509481984-1) (by omega) (by omega)
 simp only[show((0:Nat):Int)=0 from rfl] at g2
 have hpk:=aAE c room more 0;have hst:(rY c room more 0).start=0:=rfl;obtain⟨q,hq⟩: ∃q,q=rY c room more 0:=⟨_,rfl⟩;have hqn:q.nodes=(((ofT c).length+1:Nat):Int):=by rw[hq];rfl
 rw[<-hq] at g2 hp hpk hst;have cp:=Ej hp H2;obtain⟨H3,hH3⟩: ∃H3,H3=H2++[plB q ev wv nv]:=⟨_,rfl⟩;rw[<-hH3] at cp;have b3:H3[H2.length]? =some (plB q ev wv nv):=by rw[hH3];exact hP _ _
 have x3:Ext H2 H3:=by rw[hH3];exact Fr.app _ _ _
 have l3:=kP b3;obtain⟨n,hn⟩: ∃n,n=(ofT c).length+1:=⟨_,rfl⟩;rw[<-hn] at hqn;have l30:ld1 (.pointer (some ⟨H2.length,0,none⟩)) H3=some (.int .i64 (n:Nat),H3):=by rw[eG b3 0 (.int .i64 q.nodes) rfl,hqn]
 have hcv:=λG=>cvU G v h4
 have hrem:=rS v n (n:Nat) rfl (by omega)
 obtain⟨k,hk⟩: ∃k,k=v%n:=⟨_,rfl⟩;have hkn:k<n:=by rw[hk];exact Nat.mod_lt _ (by omega)
 rw[<-hk] at hrem;obtain⟨H4,F,y,g4,ha⟩:=Gn (hp.ext x3) hpk (by omega) (m:=18014398509481984-1) (by omega) (by omega) k (by rw[hqn];omega)
 obtain⟨c0,hc0⟩: ∃c0,c0=iI q k:=⟨_,rfl⟩;have hcn:c0.nodes=n:=by rw[hc0];show q.nodes.toNat=n;rw[hqn];rfl
 have hcm:c0.me=k:=by rw[hc0];rfl
 rw[<-hc0] at ha;have hqok:=ha.hp;have hlan:q.lanes=(c0.lanes:Int):=by
  obtain⟨n',hn'⟩:=hqok;rw[hc0];show q.lanes=(q.lanes.toNat:Int)
  have:=ha.ok.lanes;rw[hc0] at this;have h9:1<=q.lanes.toNat:=this.1;omega
 have hque:q.queue=(c0.queue:Int):=by
  rw[hc0];show q.queue=(q.queue.toNat:Int)
  have:=ha.ok.queue;rw[hc0] at this;have h9:1<=q.queue.toNat:=this.1;omega
 have n1:=λa=>(uC 58 a (by kernel_rfl)).1
 obtain⟨H5,g5,x5⟩:=aAJ (H:=H4) (18014398509481984-1) (by omega) (by omega)
 have ha5:=ha.fR x5;have xh5:Ext H1 H5:=((x2.tr x3).tr ha.ext).tr x5;have b15:=fN b1 xh5;obtain⟨p0,p1,p2,p3⟩:=Gu b15;have b35:H5[H2.length]? =some (plB q ev wv nv):=fN b3 (ha.ext.tr x5);have l50:ld1 (.pointer (some ⟨H2.length,0,none⟩)) H5=some (.int .i64 (n:Nat),H5):=by rw[eG b35 0 (.int .i64 q.nodes) rfl,hqn]
 have l52:ld1 (.pointer (some ⟨H2.length,2,none⟩)) H5=some (.int .i64 (c0.lanes:Nat),H5):=by rw[eG b35 2 (.int .i64 q.lanes) rfl,hlan]
 obtain⟨H6,F6,g6,ha6,m6⟩:=Cb ha5 (m:=18014398509481984-1) (by omega) x hb
 have z0:((0:Int)==0)=true:=rfl;have z1:((1:Int)==0)=false:=rfl;have z2:((1:Int)==1)=true:=rfl;have b13:H3[H.length]? =some (dS x):=fN b1 (x2.tr x3);by_cases hf:Gt c0 x
 ·obtain⟨e1,e2,e3,e4,e5,e6⟩:=id hf
  have d1:((x.src:Int)==(k:Int))=true:=by rw[beq_iff_eq];omega
  have d2:((x.dst:Int)!=(k:Int))=true:=by rw[bne_iff_ne];omega
  have d3:decide ((0:Int)<=x.dst)=true:=aOQ e3;have d4:decide (x.dst<(n:Nat))=true:=aOQ (by omega)
  have d5:decide ((0:Int)<=x.lane)=true:=aOQ e5;have d6:decide (x.lane<(c0.lanes:Nat))=true:=aOQ e6;have hq8:=ha.ok.queue;rw[<-aNq c0 x,aAK hf,if_neg (by omega)] at g6 ha6
  simp only[show((0:Nat):Int)=0 from rfl] at g6
  refine k8 (cJ rfl) (by omega) ?_
  rw[aAI];simp -implicitDefEqProofs only[gsR,xI,<-hH1,g2,qW,cp,hcv,l30,hrem,l3,g4,n1,g5,p0,p1,p2,p3,l50,l52,g6,z0,z1,z2,xH,bne_self_eq_false,d1,d2,d3,d4,d5,d6,aAM,aNs];exact aNr hf hb hque b13 b3 (by omega) c0.queue 1 (18014398509481984-1) H6 F6 (by omega) (by omega) (by omega) (by omega) ha6 ..
 ·rw[aAL hf] at g6 ha6
  obtain⟨H7,F7,g7,ha7,m7⟩:=Cb ha6 (m:=18014398509481984-1) (by omega) x hb
  rw[aAL hf] at g7 ha7;have b6:H6[H.length]? =some (dS x):=fN b13 ha6.ext;obtain⟨_,_,_,p6⟩:=Gu b6;simp only[show((1:Nat):Int)=1 from rfl] at g6 g7
  refine k8 (cJ rfl) (by omega) ⟨H7,?_,trivial⟩
  rw[aAI];by_cases c1:x.src=k
  ·have d1:((x.src:Int)==(k:Int))=true:=by rw[beq_iff_eq];exact c1
   by_cases c2:x.dst≠k
   ·have d2:((x.dst:Int)!=(k:Int))=true:=by rw[bne_iff_ne];exact c2
    by_cases c3:0<=x.dst
    ·have d3:decide ((0:Int)<=x.dst)=true:=aOQ c3
     by_cases c4:x.dst<n
     ·have d4:decide (x.dst<(n:Nat))=true:=aOQ c4
      by_cases c5:0<=x.lane
      ·have d5:decide ((0:Int)<=x.lane)=true:=aOQ c5
       by_cases c6:x.lane<c0.lanes
       ·have d6:decide (x.lane<(c0.lanes:Nat))=true:=aOQ c6
        exact absurd ⟨by omega,by omega,c3,by omega,c5,c6⟩ hf
       ·have d6:decide (x.lane<(c0.lanes:Nat))=false:=aOR c6
        simp -implicitDefEqProofs only[gsR,xI,<-hH1,g2,qW,cp,hcv,l30,hrem,l3,g4,n1,g5,p0,p1,p2,p3,l50,l52,g6,g7,p6,z0,z1,z2,xH,bne_self_eq_false,d1,d2,d3,d4,d5,d6]
      ·have d5:decide ((0:Int)<=x.lane)=false:=aOR c5
       simp -implicitDefEqProofs only[gsR,xI,<-hH1,g2,qW,cp,hcv,l30,hrem,l3,g4,n1,g5,p0,p1,p2,p3,l50,l52,g6,g7,p6,z0,z1,z2,xH,bne_self_eq_false,d1,d2,d3,d4,d5]
     ·have d4:decide (x.dst<(n:Nat))=false:=aOR c4
      simp -implicitDefEqProofs only[gsR,xI,<-hH1,g2,qW,cp,hcv,l30,hrem,l3,g4,n1,g5,p0,p1,p2,p3,l50,l52,g6,g7,p6,z0,z1,z2,xH,bne_self_eq_false,d1,d2,d3,d4]
    ·have d3:decide ((0:Int)<=x.dst)=false:=aOR c3
     simp -implicitDefEqProofs only[gsR,xI,<-hH1,g2,qW,cp,hcv,l30,hrem,l3,g4,n1,g5,p0,p1,p2,p3,l50,l52,g6,g7,p6,z0,z1,z2,xH,bne_self_eq_false,d1,d2,d3]
   ·have d2:((x.dst:Int)!=(k:Int))=false:=by rw[Bool.eq_false_iff,Ne,bne_iff_ne];exact c2
    simp -implicitDefEqProofs only[gsR,xI,<-hH1,g2,qW,cp,hcv,l30,hrem,l3,g4,n1,g5,p0,p1,p2,p3,l50,l52,g6,g7,p6,z0,z1,z2,xH,bne_self_eq_false,d1,d2]
  ·have d1:((x.src:Int)==(k:Int))=false:=by rw[beq_eq_false_iff_ne];exact c1
   simp -implicitDefEqProofs only[gsR,xI,<-hH1,g2,qW,cp,hcv,l30,hrem,l3,g4,n1,g5,p0,p1,p2,p3,l50,l52,g6,g7,p6,z0,z1,z2,xH,bne_self_eq_false,d1]
end
end Go.Proofs.YtmimdleeihjdoaaGreatDoor
namespace Go.Proofs.YtmimdleeihjdoaaGreatDoor
open Go.Proofs.Tryz
open Go.Abs
theorem aNv {i:Int}(h:(Lit.int .u32 i).wf=true):0<=i/\i<4294967296:=by
 simp[Lit.wf,IntKind.min,IntKind.max,IntKind.signed,IntKind.bits] at h;omega
theorem Ps {i:Int}(h:(Lit.int .i64 i).wf=true): -9223372036854775808<=i/\i<9223372036854775808:=by
 simp[Lit.wf,IntKind.min,IntKind.max,IntKind.signed,IntKind.bits] at h;omega
theorem aNu {G:aC}{n:Nat}{cs:List Value}(h:Rp prog G n 31 cs): ∃x:Pkt,Value.agg ⟨cs⟩=x.dG/\x.ok:=by
 have hf:Iz prog 31=some [(3,0),(3,1),(3,2),(29,3)]:=by kernel_rfl
 have c0:prog.cellsOf 31=4:=by kernel_rfl
 have c1:prog.cellsOf 29=1:=by kernel_rfl
 obtain⟨m,hl,hh⟩:=h.aC8 hf;rw[c0] at hl
 match cs,hl with
 |[x0,x1,x2,x3],_=>
  have f0:=hh (3,0) (by simp)
  have f1:=hh (3,1) (by simp)
  have f2:=hh (3,2) (by simp)
  have f3:=hh (29,3) (by simp)
  simp only[szI,c1,List.drop_zero,List.drop_succ_cons,List.take_succ_cons,List.take_zero] at f0 f1 f2 f3;obtain⟨a0,h0,w0⟩:=f0.Ar (k:= .i64) (by kernel_rfl)
  obtain⟨a1,h1,w1⟩:=f1.Ar (k:= .i64) (by kernel_rfl)
  obtain⟨a2,h2,w2⟩:=f2.Ar (k:= .i64) (by kernel_rfl)
  obtain⟨a3,h3,w3⟩:=f3.Ar (k:= .u32) (by kernel_rfl)
  cases h0;cases h1;cases h2;cases h3
  exact⟨⟨a0,a1,a2,a3⟩,rfl,Ps w0,Ps w1,Ps w2,aNv w3⟩
end Go.Proofs.YtmimdleeihjdoaaGreatDoor
namespace Go.Abs
theorem aAQ {n:Nat}(h:n<65536):fA (eI n)=n:=((X0 h).mp rfl).symm
theorem aNC {f:Frm}(h:dO f=true)(hk:f.kind≠1):f.src=0/\f.dst=0/\f.body=0:=by
 unfold dO at h;rw[if_neg hk] at h;simp only[aOe,decide_eq_true_eq] at h
 exact⟨h.2.1.1.2,h.2.1.2,h.2.2⟩
theorem xJ {n:Nat}(h:n<256):(by8 n).toNat=n:=by rw[sZ];omega
theorem aNA {f:Frm}(h:f.ok)(hk:f.kind≠1)(hs:dO f=true):iZ (kK f)=f:=by
 obtain⟨s1,s2,s3⟩:=aNC hs hk;have hb:iV f=[by8 f.kind,by8 f.lane,by8 (f.seq/256),by8 f.seq]:=by unfold iV;rw[if_neg hk];rfl
 have he:kK f=[by8 f.kind,by8 f.lane,by8 (f.seq/256),by8 f.seq]++eI (crc (iV f)):=by unfold kK;rw[hb]
 have h1:=xJ h.kind;have h2:=xJ h.lane;have h3:fA [by8 (f.seq/256),by8 f.seq]=f.seq:=aAQ h.seq;rw[he];cases f;simp only at*;simp only[iZ,List.cons_append,List.getD_cons_zero,List.getD_cons_succ,h1,h2,h3,s1,s2,s3]
theorem aNB {f:Frm}(h:f.ok)(hk:f.kind=1):nB (kK f)=f:=by
 have hb:iV f=[by8 f.kind,by8 f.lane,by8 (f.seq/256),by8 f.seq,by8 f.src,by8 f.dst,by8 (f.body/65536/256),by8 (f.body/65536),by8 (f.body/256),by8 f.body]:=by unfold iV;rw[if_pos hk];rfl
 have he:kK f=[by8 f.kind,by8 f.lane,by8 (f.seq/256),by8 f.seq,by8 f.src,by8 f.dst,by8 (f.body/65536/256),by8 (f.body/65536),by8 (f.body/256),by8 f.body]++eI (crc (iV f)):=by unfold kK;rw[hb]
 have h1:=xJ h.kind;have h2:=xJ h.lane;have h4:=xJ h.src;have h5:=xJ h.dst;have h3:fA [by8 (f.seq/256),by8 f.seq]=f.seq:=aAQ h.seq;have h6:fA [by8 (f.body/65536/256),by8 (f.body/65536),by8 (f.body/256),by8 f.body]=f.body:=by
  have:=h.body;rw[Xz,sZ,sZ,sZ,sZ];omega
 rw[he];cases f;simp only at*;simp only[nB,iZ,List.cons_append,List.getD_cons_zero,List.getD_cons_succ,h1,h2,h3,h4,h5,h6]
theorem aAO {f:Frm}(h:f.ok):((kK f).getD 0 0).toNat=f.kind:=by
 unfold kK iV pB;simp only[List.cons_append,List.getD_cons_zero];exact xJ h.kind
theorem aNw {f:Frm}(h:f.ok)(hs:dO f=true):mQ (kK f)=some f:=by
 rw[aJr];unfold Nr;have hl:=Ns f;by_cases hk:f.kind=1
 ·rw[if_pos hk] at hl
  rw[if_neg (by omega)]
  simp only[if_pos (show((kK f).getD 0 0).toNat=1/\12<=(kK f).length from⟨by rw[aAO h];exact hk,by omega⟩)]
  rw[aNB h hk,if_pos (by unfold nM;rw[if_pos hs])]
 ·rw[if_neg hk] at hl
  rw[if_neg (by omega)]
  simp only[if_neg (show¬(((kK f).getD 0 0).toNat=1/\12<=(kK f).length) from λhh=>hk (by rw[<-aAO h];exact hh.1))]
  rw[aNA h hk hs,if_pos (by unfold nM;rw[if_pos hs])]
theorem aNy {f:Frm}(hs:dO f=true):oH f=kK f:=by unfold oH nM;rw[if_pos hs];rfl
theorem aNx {bs:List UInt8}(h6:bs.length≠6)(h12:bs.length≠12):mQ bs=none:=by
 unfold mQ;rw[if_neg (by omega),if_neg (by omega)]
theorem aNz {l:List Nat}{fr:Int}(h: ∀w∈l,((w:Nat):Int)≠fr):(l.findIdx? λw:Nat=>decide ((w:Int)=fr))=none:=by
 rw[List.findIdx?_eq_none_iff];intro w hw;exact aOR (h w hw)
theorem aAP {l:List Nat}{w:Nat}(h:w∈l): ∃j,(l.findIdx? λz:Nat=>decide ((z:Int)=(w:Int)))=some j:=by
 cases hf:(l.findIdx? λz:Nat=>decide ((z:Int)=(w:Int))) with
 |some j=>exact⟨j,rfl⟩
 |none=>
  rw[List.findIdx?_eq_none_iff] at hf;exact absurd (hf w h) (by simp)
theorem aNF {c:Cfg}{fr:Int}(h: ∀w∈c.by',((w:Nat):Int)≠fr)(bs:List UInt8)(s:NS):kR c fr bs s=(1,s):=by
 unfold kR;rw[aNz h]
theorem aND {c:Cfg}{w:Nat}(h:w∈c.by'){bs:List UInt8}(hd:mQ bs=none)(s:NS):kR c w bs s=(30,s):=by
 obtain⟨j,hj⟩:=aAP h;unfold kR;rw[hj,hd]
theorem aNE {c:Cfg}{w:Nat}(h:w∈c.by'){bs:List UInt8}{f:Frm}(hd:mQ bs=some f)(hk:f.kind=2)(s:NS):
  ∃j,kR c w bs s=if c.lanes<=f.lane then(30,s) else(0,{s with snd:=up2 s.snd (j+1) f.lane ((s.snd (j+1) f.lane).qD f.seq)}):=by
 obtain⟨j,hj⟩:=aAP h;refine⟨j,?_⟩;unfold kR;rw[hj,hd];simp only;split
 ·rfl
 ·first
  |rfl
  |rw[if_pos hk]
end Go.Abs
noncomputable section
namespace Go.Proofs.YtmimdleeihjdoaaGreatDoor
open Go.Proofs.Tryz
open Go.Abs
variable (O:aE)(L:LV)(k:KV)(N P Q R S T U V W X Y Z a b c d e f g i j l m n o p q r s t u v w x y z A B C D E F G H I J zz zy zx zw zv zu zt zs zr zq zp zo zn zm zl zk zj zi zh zg zf ze zd zc zb za yz yy yx yw yv yu yt ys yr yq yp yo yn ym yl yk yj yi yh yg yf ye yd yc yb ya xz xy xx xw xv xu xt xs xr xq xp xo xn xm xl xk xj xi xh xg xf xe xd xc xb xa wz wy wx ww wv wu wt ws wr wq wp wo wn wm wl wk wj wi wh wg wf we wd wc wb wa vz vy vx vw vv vu vt vs vr vq vp vo vn vm vl vk vj vi vh vg vf:Value)(h:aC)
theorem aNK:cA prog O L 48 [N] h=ob (cP 71 (Value.cells N).toList .fix h) λaa h=>ob (ldN 6 aa h) λab h=>ob (O (.func 112) [ab] h) λac h=>ob (M.aD (un prog .not ac) h) λad h=>aL ad (some (aJ [(.slice none 0 0),(.int .i64 1)],h)) (ob (M.aD (aG 0 aa) h) λae h=>ob (ld1 ae h) λaf h=>ob (M.aD (aG 1 aa) h) λag h=>ob (ld1 ag h) λah h=>ob (M.aD (aG 2 aa) h) λai h=>ob (ld1 ai h) λaj h=>ob (M.aD (bin prog .quo 23 aj (.int .u16 256)) h) λak h=>ob (cS prog 23 5 ak h) λal h=>ob (M.aD (aG 2 aa) h) λam h=>ob (ld1 am h) λan h=>ob (M.aD (bin prog .rem 23 an (.int .u16 256)) h) λao h=>ob (cS prog 23 5 ao h) λap h=>ob (dJ 5 1 4 [(.int .u8 0)] [(0,af),(1,ah),(2,al),(3,ap)] h) λaq h=>ob (M.aD (aG 0 aa) h) λar h=>ob (ld1 ar h) λau h=>ob (M.aD (bin prog .eql 5 au (.int .u8 1)) h) λav h=>aL av (ob (M.aD (aG 3 aa) h) λaw h=>ob (ld1 aw h) λax h=>ob (M.aD (aG 4 aa) h) λay h=>ob (ld1 ay h) λaz h=>ob (M.aD (aG 5 aa) h) λba h=>ob (ld1 ba h) λbb h=>ob (M.aD (bin prog .shr 29 bb (.int .u64 24)) h) λbc h=>ob (cS prog 29 5 bc h) λbd h=>ob (M.aD (aG 5 aa) h) λbe h=>ob (ld1 be h) λbf h=>ob (M.aD (bin prog .shr 29 bf (.int .u64 16)) h) λbg h=>ob (cS prog 29 5 bg h) λbh h=>ob (M.aD (aG 5 aa) h) λbi h=>ob (ld1 bi h) λbj h=>ob (M.aD (bin prog .shr 29 bj (.int .u64 8)) h) λbk h=>ob (cS prog 29 5 bk h) λbl h=>ob (M.aD (aG 5 aa) h) λbm h=>ob (ld1 bm h) λbn h=>ob (cS prog 29 5 bn h) λbo h=>ob (dJ 5 1 6 [(.int .u8 0)] [(0,ax),(1,az),(2,bd),(3,bh),(4,bl),(5,bo)] h) λbp h=>ob (app 5 1 1 aq bp h) λbq h=>ob (O (.func 113) [bq] h) λbr h=>ob (M.aD (bin prog .quo 23 br (.int .u16 256)) h) λbs h=>ob (cS prog 23 5 bs h) λbt h=>ob (M.aD (bin prog .rem 23 br (.int .u16 256)) h) λbu h=>ob (cS prog 23 5 bu h) λbv h=>ob (dJ 5 1 2 [(.int .u8 0)] [(0,bt),(1,bv)] h) λbw h=>ob (app 5 1 1 bq bw h) λbx h=>some (aJ [bx,(.int .i64 0)],h)) (ob (O (.func 113) [aq] h) λbz h=>ob (M.aD (bin prog .quo 23 bz (.int .u16 256)) h) λca h=>ob (cS prog 23 5 ca h) λcb h=>ob (M.aD (bin prog .rem 23 bz (.int .u16 256)) h) λcc h=>ob (cS prog 23 5 cc h) λcd h=>ob (dJ 5 1 2 [(.int .u8 0)] [(0,cb),(1,cd)] h) λce h=>ob (app 5 1 1 aq ce h) λcf h=>some (aJ [cf,(.int .i64 0)],h))):=by kernel_rfl
theorem aNG:cA prog O L 112 [N] h=ob (cP 71 (Value.cells N).toList .fix h) λaa h=>ob (M.aD (aG 1 aa) h) λab h=>ob (ld1 ab h) λac h=>ob (M.aD (bin prog .gtr 5 ac (.int .u8 2)) h) λad h=>aL ad (some (aJ [(.bool false)],h)) (ob (M.aD (aG 0 aa) h) λae h=>ob (ld1 ae h) λaf h=>ob (M.aD (bin prog .eql 5 af (.int .u8 1)) h) λag h=>aL ag (ob (M.aD (aG 3 aa) h) λah h=>ob (ld1 ah h) λai h=>ob (M.aD (bin prog .leq 5 ai (.int .u8 5)) h) λaj h=>ob (gd aj true (M.aD (aG 4 aa)) h) λak h=>ob (gd aj true (ld1 ak) h) λal h=>ob (gd aj true (M.aD (bin prog .leq 5 al (.int .u8 5))) h) λam h=>ob (M.aD (cF aj am (.bool false)) h) λan h=>ob (gd an true (M.aD (aG 3 aa)) h) λao h=>ob (gd an true (ld1 ao) h) λap h=>ob (gd an true (M.aD (aG 4 aa)) h) λaq h=>ob (gd an true (ld1 aq) h) λar h=>ob (gd an true (M.aD (bin prog .neq 5 ap ar)) h) λau h=>ob (M.aD (cF an au (.bool false)) h) λav h=>some (aJ [av],h)) (ob (M.aD (aG 0 aa) h) λaw h=>ob (ld1 aw h) λax h=>ob (M.aD (bin prog .eql 5 ax (.int .u8 2)) h) λay h=>ob (gd ay false (M.aD (aG 0 aa)) h) λaz h=>ob (gd ay false (ld1 az) h) λba h=>ob (gd ay false (M.aD (bin prog .eql 5 ba (.int .u8 3))) h) λbb h=>ob (M.aD (cF ay (.bool true) bb) h) λbc h=>ob (gd bc true (M.aD (aG 3 aa)) h) λbd h=>ob (gd bc true (ld1 bd) h) λbe h=>ob (gd bc true (M.aD (bin prog .eql 5 be (.int .u8 0))) h) λbf h=>ob (M.aD (cF bc bf (.bool false)) h) λbg h=>ob (gd bg true (M.aD (aG 4 aa)) h) λbh h=>ob (gd bg true (ld1 bh) h) λbi h=>ob (gd bg true (M.aD (bin prog .eql 5 bi (.int .u8 0))) h) λbj h=>ob (M.aD (cF bg bj (.bool false)) h) λbk h=>ob (gd bk true (M.aD (aG 5 aa)) h) λbl h=>ob (gd bk true (ld1 bl) h) λbm h=>ob (gd bk true (M.aD (bin prog .eql 29 bm (.int .u32 0))) h) λbn h=>ob (M.aD (cF bk bn (.bool false)) h) λbo h=>some (aJ [bo],h))):=by kernel_rfl
def Pu:Code:=b9 [1,1,0,1,0,0,1,0,0,1,1,0,0] (cC prog 113)
def Pw:KV:=(dN 2 (dN 1 (eF prog O L (b9 [1,1,0,1,0,0,1,1] (cC prog 113)) k)))
theorem aNI:Pw O L k (.exit 2) [a,b,c,d,e,f,g,i,j,l,m,n,o,p,q,r,s,t,u,v,w,x,y,z,A,B,C,D,E,F,G,H,I] h=ob (M.aD (bin prog .add 3 e (.int .i64 1)) h) λaa h=>k .normal [a,b,c,d,aa,f,g,i,j,l,e,aa,o,p,q,r,s,t,u,v,w,x,y,z,A,B,C,D,E,F,G,H,I] h:=by kernel_rfl
theorem aAS:aK prog O L Pu k [a,b,c,d,e,f,g,i,j,l,m,n,o,p,q,r,s,t,u,v,w,x,y,z,A,B,C,D,E,F,G,H,I] h=ob (M.aD (bin prog .lss 3 f (.int .i64 8)) h) λaa h=>aL aa (ob (M.aD (bin prog .shl 29 d (.int .u64 1)) h) λab h=>ob (M.aD (bin prog .geq 29 ab (.int .u32 65536)) h) λac h=>aL ac (ob (M.aD (bin prog .sub 29 ab (.int .u32 65536)) h) λad h=>ob (M.aD (bin prog .xor 29 ad (.int .u32 4129)) h) λae h=>ob (M.aD (bin prog .add 3 f (.int .i64 1)) h) λaf h=>k .normal [a,b,c,ae,e,af,g,i,j,l,m,n,o,p,q,r,s,t,u,v,f,aa,f,af,d,ab,ab,ac,ab,ad,ae,H,I] h) (ob (M.aD (bin prog .add 3 f (.int .i64 1)) h) λag h=>k .normal [a,b,c,ab,e,ag,g,i,j,l,m,n,o,p,q,r,s,t,u,v,f,aa,f,ag,d,ab,ab,ac,E,F,G,H,I] h)) (k (.exit 2) [a,b,c,d,e,f,g,i,j,l,m,n,o,p,q,r,s,t,u,v,f,aa,y,z,A,B,C,D,E,F,G,H,I] h):=by kernel_rfl
def Pt:Code:=b9 [1,1,0,1,0,0] (cC prog 113)
def Pv:KV:=(dN 0 (eF prog O L (b9 [1,1,1] (cC prog 113)) (eX prog Tryz.f113)))
theorem aNH:Pv O L (.exit 0) [a,b,c,d,e,f,g,i,j,l,m,n,o,p,q,r,s,t,u,v,w,x,y,z,A,B,C,D,E,F,G,H,I] h=ob (cS prog 29 23 d h) λaa h=>some (aJ [aa],h):=by kernel_rfl
theorem aAR:aK prog O L Pt k [a,b,c,d,e,f,g,i,j,l,m,n,o,p,q,r,s,t,u,v,w,x,y,z,A,B,C,D,E,F,G,H,I] h=ob (M.aD (bX a) h) λaa h=>ob (M.aD (bin prog .lss 3 e aa) h) λab h=>aL ab (ob (M.aD (bH 1 a e) h) λac h=>ob (ld1 ac h) λad h=>ob (cS prog 5 29 ad h) λae h=>ob (M.aD (bin prog .shl 29 ae (.int .u64 8)) h) λaf h=>ob (M.aD (bin prog .xor 29 d af) h) λag h=>L (aK prog O L Pu) (Pw O L k) [a,b,c,ag,e,(.int .i64 0),e,a,aa,ab,m,n,d,a,e,ac,ad,ae,af,ag,w,x,y,z,A,B,C,D,E,F,G,H,I] h) (k (.exit 0) [a,b,c,d,e,f,e,a,aa,ab,m,n,o,p,q,r,s,t,u,v,w,x,y,z,A,B,C,D,E,F,G,H,I] h):=by kernel_rfl
theorem aNJ:cA prog O L 113 [N] h=L (aK prog O L Pt) (Pv O L) [N,undef,(.int .u16 0),(.int .u32 65535),(.int .i64 0),undef,undef,undef,undef,undef,undef,undef,undef,undef,undef,undef,undef,undef,undef,undef,undef,undef,undef,undef,undef,undef,undef,undef,undef,undef,undef,undef,undef] h:=by kernel_rfl
end Go.Proofs.YtmimdleeihjdoaaGreatDoor
end
namespace Go.Proofs.YtmimdleeihjdoaaGreatDoor
open Go.Proofs.Tryz
open Go.Abs
section
variable {H : aC} {m : Nat}
theorem aNM {u:Value}{j:Nat}(hj:j<4611686018427387904){O:aE}{L:aF (Value×aC)}{K:Ex->K (Value×aC)}{res:Option (Value×aC)}: ∀(q i n r:Nat),8-i=q->i<=8->q<n->r<65536->
  (∀x1 x2 x5 x6 x7 x8 x9 bK bM aR aN aM aP aZ bG aQ bC bJ bL bI bE aS aT aU aV aW aX aY bA bB:Value,K .normal [u,x1,x2,(.int .u32 (tS (8-i) r)),(.int .i64 ((j+1:Nat):Int)),x5,x6,x7,x8,x9,bK,bM,aR,aN,aM,aP,aZ,bG,aQ,bC,bJ,bL,bI,bE,aS,aT,aU,aV,aW,aX,aY,bA,bB] H=res)->
  ∀x1 x2 x6 x7 x8 x9 bK bM aR aN aM aP aZ bG aQ bC bJ bL bI bE aS aT aU aV aW aX aY bA bB:Value,aI n (aK prog O L Pu) (Pw O L K) [u,x1,x2,(.int .u32 r),(.int .i64 j),(.int .i64 i),x6,x7,x8,x9,bK,bM,aR,aN,aM,aP,aZ,bG,aQ,bC,bJ,bL,bI,bE,aS,aT,aU,aV,aW,aX,aY,bA,bB] H=res:=by
 intro q;induction q with
 |zero=>
  intro i n r hq hi hn hr hK x1 x2 x6 x7 x8 x9 bK bM aR aN aM aP aZ bG aQ bC bJ bL bI bE aS aT aU aV aW aX aY bA bB;obtain⟨n,rfl⟩: ∃k',n=k'+1:=⟨n-1,by omega⟩
  have hi8:i=8:=by omega
  subst hi8;have c1:decide (((8:Nat):Int)<8)=false:=by decide
  have e2:=aA (i:=j) (by omega)
  rw[aI,aAS];simp -implicitDefEqProofs only[gsR,c1];rw[aNI];simp -implicitDefEqProofs only[gsR,cI,e2];exact hK _ _ _ _ _ _ _ _ _ _ _ _ _ _ _ _ _ _ _ _ _ _ _ _ _ _ _ _ _ _
 |succ q ih=>
  intro i n r hq hi hn hr hK x1 x2 x6 x7 x8 x9 bK bM aR aN aM aP aZ bG aQ bC bJ bL bI bE aS aT aU aV aW aX aY bA bB;obtain⟨n,rfl⟩: ∃k',n=k'+1:=⟨n-1,by omega⟩
  have c1:decide ((i:Int)<8)=true:=by rw[decide_eq_true_eq];omega
  have e1:bin prog .shl 29 (.int .u32 (r:Int)) (.int .u64 1)=some (.int .u32 ((r*2:Nat):Int)):=by
   have:=yJ (P:=prog) .u32 .u64 rfl 29 r 1 (by decide)
   rw[show r*2 ^ 1%2 ^ IntKind.u32.bits=r*2 from by show r*2%4294967296=_;omega] at this
   exact this
  have e2:=aA (i:=i) (by omega)
  have h8:8-i=(8-(i+1))+1:=by omega
  have hK': ∀x1 x2 x5 x6 x7 x8 x9 bK bM aR aN aM aP aZ bG aQ bC bJ bL bI bE aS aT aU aV aW aX aY bA bB:Value,K .normal [u,x1,x2,(.int .u32 (tS (8-(i+1)) (qY r))),(.int .i64 ((j+1:Nat):Int)),x5,x6,x7,x8,x9,bK,bM,aR,aN,aM,aP,aZ,bG,aQ,bC,bJ,bL,bI,bE,aS,aT,aU,aV,aW,aX,aY,bA,bB] H=res:=by
   rw[h8,tS] at hK;exact hK
  rw[aI,aAS];by_cases hc:r<32768
  ·have c2:decide ((65536:Int)<=((r*2:Nat):Int))=false:=by rw[decide_eq_false_iff_not];omega
   have hb:qY r=r*2:=by rw[qY,if_pos hc]
   simp -implicitDefEqProofs only[gsR,c1,e1,c2,cI,e2];rw[hb] at hK';exact ih (i+1) n (r*2) (by omega) (by omega) (by omega) (by omega) hK' _ _ _ _ _ _ _ _ _ _ _ _ _ _ _ _ _ _ _ _ _ _ _ _ _ _ _ _ _
  ·have c2:decide ((65536:Int)<=((r*2:Nat):Int))=true:=by rw[decide_eq_true_eq];omega
   have hb:qY r=(r*2-65536)^^^4129:=by rw[qY,if_neg hc]
   have e3:IntKind.u32.wrap (((r*2:Nat):Int)-65536)=((r*2-65536:Nat):Int):=by rw[Rt (by omega) (by omega)];omega
   have e4:bin prog .xor 29 (.int .u32 ((r*2-65536:Nat):Int)) (.int .u32 4129)=some (.int .u32 (((r*2-65536)^^^4129:Nat):Int)):=Dp .u32 rfl _ (a:=r*2-65536) (b:=4129) (by show _<4294967296;omega) (by decide)
   simp -implicitDefEqProofs only[gsR,c1,e1,c2,iF,e3,e4,cI,e2];rw[hb] at hK';exact ih (i+1) n ((r*2-65536)^^^4129) (by omega) (by omega) (by omega) (by rw[<-hb];exact No hr) hK' _ _ _ _ _ _ _ _ _ _ _ _ _ _ _ _ _ _ _ _ _ _ _ _ _ _ _ _ _
theorem aNL {u:Value}{bs:List UInt8}(hu:Br H u bs)(hl:bs.length<4611686018427387904)(hm:20<m): ∀(q i k:Nat),bs.length-i=q->i<=bs.length->q<k->
  ∀x1 x2 x5 x6 x7 x8 x9 bK bM aR aN aM aP aZ bG aQ bC bJ bL bI bE aS aT aU aV aW aX aY bA bB:Value,aI k (aK prog (lvl prog pkN (m-1)) (aI (m-1)) Pt) (Pv (lvl prog pkN (m-1)) (aI (m-1))) [u,x1,x2,(.int .u32 (((bs.take i).foldl pA 65535:Nat):Int)),(.int .i64 i),x5,x6,x7,x8,x9,bK,bM,aR,aN,aM,aP,aZ,bG,aQ,bC,bJ,bL,bI,bE,aS,aT,aU,aV,aW,aX,aY,bA,bB] H=some (.int .u16 (crc bs),H):=by
 intro q;induction q with
 |zero=>
  intro i k hq hi hk x1 x2 x5 x6 x7 x8 x9 bK bM aR aN aM aP aZ bG aQ bC bJ bL bI bE aS aT aU aV aW aX aY bA bB;obtain⟨k,rfl⟩: ∃k',k=k'+1:=⟨k-1,by omega⟩
  have hi8:i=bs.length:=by omega
  subst hi8;have c1:decide ((bs.length:Int)<(bs.length:Int))=false:=by simp
  have hf:(bs.take bs.length).foldl pA 65535=crc bs:=by rw[List.take_length];unfold crc;rfl
  have e2:IntKind.u16.wrap (crc bs:Int)=(crc bs:Int):=A2 (by omega) (by have:=wS bs;omega)
  rw[aI,aAR];simp -implicitDefEqProofs only[gsR,hu.Jk,c1];rw[aNH];rw[hf];simp -implicitDefEqProofs only[gsR,eZ _ _ oJ lS,e2]
 |succ q ih=>
  intro i k hq hi hk x1 x2 x5 x6 x7 x8 x9 bK bM aR aN aM aP aZ bG aQ bC bJ bL bI bE aS aT aU aV aW aX aY bA bB;obtain⟨k,rfl⟩: ∃k',k=k'+1:=⟨k-1,by omega⟩
  have c1:decide ((i:Int)<(bs.length:Int))=true:=by rw[decide_eq_true_eq];omega
  have hx:bs[i]? =some bs[i]:=aN8 (by omega)
  obtain⟨b,o,a1,a2⟩:=hu.Ta hx .i64;have hc:=bs[i].toNat_lt;obtain⟨r,hr⟩: ∃r,(bs.take i).foldl pA 65535=r:=⟨_,rfl⟩;have hrl:r<65536:=by rw[<-hr];exact Nq _ (by decide)
  have e1:cS prog 5 29 (kZ bs[i]) H=some (.int .u32 (bs[i].toNat:Int),H):=by
   show cS prog 5 29 (.int .u8 bs[i].toNat) H=_
   rw[eZ _ _ u8U oJ,Nl _ (by omega)]
  have e2:bin prog .shl 29 (.int .u32 (bs[i].toNat:Int)) (.int .u64 8)=some (.int .u32 ((bs[i].toNat*256:Nat):Int)):=by
   have:=yJ (P:=prog) .u32 .u64 rfl 29 bs[i].toNat 8 (by decide)
   rw[show bs[i].toNat*2 ^ 8%2 ^ IntKind.u32.bits=bs[i].toNat*256 from by show bs[i].toNat*256%4294967296=_;omega] at this
   exact this
  have e3:bin prog .xor 29 (.int .u32 (r:Int)) (.int .u32 ((bs[i].toNat*256:Nat):Int))=some (.int .u32 ((r^^^bs[i].toNat*256:Nat):Int)):=Dp .u32 rfl _ (a:=r) (b:=bs[i].toNat*256) (by show _<4294967296;omega) (by show _<4294967296;omega)
  rw[aI,aAR,hr];simp -implicitDefEqProofs only[gsR,hu.Jk,c1,a1,a2,e1,e2,e3];refine aNM (by omega) 8 0 (m-1) (r^^^bs[i].toNat*256) rfl (by omega) (by omega) (Np hrl _) (λx1 x2 x5 x6 x7 x8 x9 bK bM aR aN aM aP aZ bG aQ bC bJ bL bI bE aS aT aU aV aW aX aY bA bB=> ?_) _ _ _ _ _ _ _ _ _ _ _ _ _ _ _ _ _ _ _ _ _ _ _ _ _ _ _ _ _
  have h1:tS (8-0) (r^^^bs[i].toNat*256)=(bs.take (i+1)).foldl pA 65535:=by
   rw[List.take_add_one,hx,List.foldl_append,hr];show _=pA r bs[i]
   unfold pA;rfl
  rw[h1];exact ih (i+1) k (by omega) (by omega) (by omega) _ _ _ _ _ _ _ _ _ _ _ _ _ _ _ _ _ _ _ _ _ _ _ _ _ _ _ _ _ _
theorem aAT {u:Value}{bs:List UInt8}(hu:Br H u bs)(hm:20<m)(hl:bs.length+1<m)(hl2:bs.length<4611686018427387904):lvl prog pkN m (.func 113) [u] H=some (.int .u16 (crc bs),H):=by
 refine dA (cJ rfl) (by omega) ?_
 rw[aNJ];exact aNL hu hl2 hm bs.length 0 (m-1) (by omega) (by omega) (by omega) _ _ _ _ _ _ _ _ _ _ _ _ _ _ _ _ _ _ _ _ _ _ _ _ _ _ _ _ _ _
end
section
variable {H : aC} {m : Nat}
theorem aNN (hm:0<m)(f:Frm):lvl prog pkN m (.func 112) [frV f] H=some (.bool (dO f),H++[frB f]):=by
 refine dA (cJ rfl) hm ?_;rw[aNG];have e0:(Blk.cells (Value.cells (frV f)).toList 71 .fix)=frB f:=rfl;obtain⟨l0,l1,l2,l3,l4,l5,l6⟩:=mR (dK H (frB f));have k1:((f.kind:Int)==1)=decide (f.kind=1):=pQ f.kind 1;have k2:((f.kind:Int)==2)=decide (f.kind=2):=pQ f.kind 2;have k3:((f.kind:Int)==3)=decide (f.kind=3):=pQ f.kind 3;have k4:decide (2<(f.lane:Int))=decide (¬f.lane<=2):=by congr 1;exact propext (by omega)
 have k5:decide ((f.src:Int)<=5)=decide (f.src<=5):=by congr 1;exact propext (by omega)
 have k6:decide ((f.dst:Int)<=5)=decide (f.dst<=5):=by congr 1;exact propext (by omega)
 have k7:((f.src:Int)!=(f.dst:Int))=decide (f.src≠f.dst):=yX _ _;have z1:((f.src:Int)==0)=decide (f.src=0):=pQ f.src 0;have z2:((f.dst:Int)==0)=decide (f.dst=0):=pQ f.dst 0;have z3:((f.body:Int)==0)=decide (f.body=0):=pQ f.body 0;by_cases p0:f.lane<=2
 ·have p0':decide (¬f.lane<=2)=false:=by simp[p0]
  by_cases p1:f.kind=1
  ·by_cases p2:f.src<=5
   ·by_cases p3:f.dst<=5
    ·by_cases p4:f.src≠f.dst
     ·have hs:dO f=true:=by unfold dO;simp[p0,p1,p2,p3,p4]
      simp -implicitDefEqProofs only[gsR,e0,l0,l1,l3,l4,k1,k4,p0',k5,k6,k7,aOQ p1,aOQ p2,aOQ p3,aOQ p4,hs]
     ·have hs:dO f=false:=by unfold dO;simp[p1,p4]
      simp -implicitDefEqProofs only[gsR,e0,l0,l1,l3,l4,k1,k4,p0',k5,k6,k7,aOQ p1,aOQ p2,aOQ p3,aOR p4,hs]
    ·have hs:dO f=false:=by unfold dO;simp[p1,p3]
     simp -implicitDefEqProofs only[gsR,e0,l0,l1,l3,l4,k1,k4,p0',k5,k6,k7,aOQ p1,aOQ p2,aOR p3,hs]
   ·have hs:dO f=false:=by unfold dO;simp[p1,p2]
    simp -implicitDefEqProofs only[gsR,e0,l0,l1,l3,l4,k1,k4,p0',k5,k6,k7,aOQ p1,aOR p2,hs]
  ·have tail: ∀kk:Bool,(kk=true↔f.kind=2∨f.kind=3)->dO f=(kk&&decide (f.src=0)&&decide (f.dst=0)&&decide (f.body=0)):=λkk hk=>by
    unfold dO;rw[if_neg p1,aOQ p0,aOu]
    congr 3
    rw[Bool.eq_iff_iff,hk];simp
   have fin: ∀kk:Bool,(kk=true↔f.kind=2∨f.kind=3)->kk=true->dO f=(decide (f.src=0)&&decide (f.dst=0)&&decide (f.body=0)):=λkk hk h=>by rw[tail kk hk,h,aOu]
   by_cases p2:f.kind=2
   ·have ht:=fin true (by simp[p2]) rfl
    by_cases q1:f.src=0
    ·by_cases q2:f.dst=0
     ·by_cases q3:f.body=0
      ·rw[aOQ q1,aOQ q2,aOQ q3] at ht
       simp -implicitDefEqProofs only[gsR,e0,l0,l1,l3,l4,l5,k1,k2,k4,p0',z1,z2,z3,aOR p1,aOQ p2,aOQ q1,aOQ q2,aOQ q3,ht]
      ·rw[aOQ q1,aOQ q2,aOR q3] at ht
       simp -implicitDefEqProofs only[gsR,e0,l0,l1,l3,l4,l5,k1,k2,k4,p0',z1,z2,z3,aOR p1,aOQ p2,aOQ q1,aOQ q2,aOR q3,ht,Bool.and_false]
     ·rw[aOQ q1,aOR q2,Bool.and_false,Bool.false_and] at ht
      simp -implicitDefEqProofs only[gsR,e0,l0,l1,l3,l4,l5,k1,k2,k4,p0',z1,z2,z3,aOR p1,aOQ p2,aOQ q1,aOR q2,ht]
    ·rw[aOR q1,Bool.false_and,Bool.false_and] at ht
     simp -implicitDefEqProofs only[gsR,e0,l0,l1,l3,l4,l5,k1,k2,k4,p0',z1,z2,z3,aOR p1,aOQ p2,aOR q1,ht]
   ·by_cases p2':f.kind=3
    ·have ht:=fin true (by simp[p2']) rfl
     by_cases q1:f.src=0
     ·by_cases q2:f.dst=0
      ·by_cases q3:f.body=0
       ·rw[aOQ q1,aOQ q2,aOQ q3] at ht
        simp -implicitDefEqProofs only[gsR,e0,l0,l1,l3,l4,l5,k1,k2,k3,k4,p0',z1,z2,z3,aOR p1,aOR p2,aOQ p2',aOQ q1,aOQ q2,aOQ q3,ht]
       ·rw[aOQ q1,aOQ q2,aOR q3] at ht
        simp -implicitDefEqProofs only[gsR,e0,l0,l1,l3,l4,l5,k1,k2,k3,k4,p0',z1,z2,z3,aOR p1,aOR p2,aOQ p2',aOQ q1,aOQ q2,aOR q3,ht,Bool.and_false]
      ·rw[aOQ q1,aOR q2,Bool.and_false,Bool.false_and] at ht
       simp -implicitDefEqProofs only[gsR,e0,l0,l1,l3,l4,l5,k1,k2,k3,k4,p0',z1,z2,z3,aOR p1,aOR p2,aOQ p2',aOQ q1,aOR q2,ht]
     ·rw[aOR q1,Bool.false_and,Bool.false_and] at ht
      simp -implicitDefEqProofs only[gsR,e0,l0,l1,l3,l4,l5,k1,k2,k3,k4,p0',z1,z2,z3,aOR p1,aOR p2,aOQ p2',aOR q1,ht]
    ·have hs:dO f=false:=by unfold dO;simp[p1,p2,p2']
     simp -implicitDefEqProofs only[gsR,e0,l0,l1,l3,l4,l5,k1,k2,k3,k4,p0',z1,z2,z3,aOR p1,aOR p2,aOR p2',hs]
 ·have p0':decide (¬f.lane<=2)=true:=by simp[p0]
  have hs:dO f=false:=by unfold dO;simp[p0]
  simp -implicitDefEqProofs only[gsR,e0,l0,l1,k4,p0',hs]
end
section
variable {H : aC} {m : Nat}
theorem Gv (n:Nat)(hn:n<65536):bin prog .quo 23 (.int .u16 n) (.int .u16 256)=some (.int .u16 ((n/256:Nat):Int)):=by
 rw[I1 _ _ _ _ (by decide),Int.tdiv_eq_ediv_of_nonneg (by omega),A2 (by omega) (by omega)]
 congr 2
theorem aAV (n:Nat):bin prog .rem 23 (.int .u16 n) (.int .u16 256)=some (.int .u16 ((n%256:Nat):Int)):=by
 rw[C8 _ _ _ _ (by decide),Int.tmod_eq_emod_of_nonneg (by omega)]
 congr 2
theorem aNO (G:aC)(a b c d e f:Int):dJ 5 1 6 [.int .u8 0] [(0,.int .u8 a),(1,.int .u8 b),(2,.int .u8 c),(3,.int .u8 d),(4,.int .u8 e),(5,.int .u8 f)] G=some (.slice (some ⟨G.length,0,none⟩) 6 6,G++[.cells [.int .u8 a,.int .u8 b,.int .u8 c,.int .u8 d,.int .u8 e,.int .u8 f] 5 .row]):=by kernel_rfl
theorem aAU (n:Nat):n%256%256=n%256:=Nat.mod_mod _ _
theorem aAW {H0:aC}{v:Value}{bs:List UInt8}(n:Nat)(h:By H v bs)(hv:New H0 v)(he:Ext H0 H)(hr:jQ (bs.length+2) 1=true):
  dJ 5 1 2 [.int .u8 0] [(0,.int .u8 ((n/256%256:Nat):Int)),(1,.int .u8 ((n%256:Nat):Int))] H=some (.slice (some ⟨H.length,0,none⟩) 2 2,H++[.cells ((eI n).map byC).flatten 5 .row])/\
  ∃v' H',app 5 1 1 v (.slice (some ⟨H.length,0,none⟩) 2 2) (H++[.cells ((eI n).map byC).flatten 5 .row])=some (v',H')/\By H' v' (bs++eI n)/\New H0 v'/\Ext H0 H':=by
 refine⟨?_,?_⟩
 ·rw[q9]
  simp only[eI,aOC,List.map_nil,yW];rfl
 ·exact(h.sP [.cells ((eI n).map byC).flatten 5 .row]).tL wV Bv (by decide) (by':=1) (By.yY H (eI n)).rs hv (he.tr (Fr.app _ _ _)) hr
set_option maxHeartbeats 1000000 in
theorem aNP (hm:100<m)(f:Frm)(hf:f.ok): ∃H' v,lvl prog pkN m (.func 48) [frV f] H=some (.tuple #[v,.int .i64 (if dO f=true then 0 else 1)],H')/\Ext H H'/\By H' v (oH f)/\New H v:=by
 have main: ∃H' r,lvl prog pkN m (.func 48) [frV f] H=some (r,H')/\ ∃v,r= .tuple #[v,.int .i64 (if dO f=true then 0 else 1)]/\Ext H H'/\By H' v (oH f)/\New H v:=by
  refine iP (cJ rfl) (by omega) ?_
  rw[aNK];have e0:(Blk.cells (Value.cells (frV f)).toList 71 .fix)=frB f:=rfl;obtain⟨l0,l1,l2,l3,l4,l5,l6⟩:=mR (dK H (frB f));have s1:=aNN (H:=H++[frB f]) (m:=m-1) (by omega) f
  have x0:Ext H (H++[frB f]):=Fr.app _ _ _;have x1:Ext H (H++[frB f]++[frB f]):=x0.tr (Fr.app _ _ _);by_cases hs:dO f=true
  ·rw[hs] at s1
   have hb2:=nK (dK H (frB f)) (frB f);obtain⟨q0,q1,q2,q3,q4,q5,q6⟩:=mR hb2;obtain⟨G2,hG2⟩: ∃G2,H++[frB f]++[frB f]=G2:=⟨_,rfl⟩;rw[hG2] at s1 x1 hb2 q0 q1 q2 q3 q4 q5 q6;have e2:dJ 5 1 4 [.int .u8 0] [(0,.int .u8 (f.kind:Int)),(1,.int .u8 (f.lane:Int)),(2,.int .u8 ((f.seq/256%256:Nat):Int)),(3,.int .u8 ((f.seq%256:Nat):Int))] G2=some (.slice (some ⟨G2.length,0,none⟩) 4 4,G2++[.cells (((pB f).map byC).flatten) 5 .row]):=by
    rw[q9];simp only[pB,eI,aOC,List.map_nil,yW,aOF hf.kind,aOF hf.lane];rfl
   obtain⟨G3,hG3⟩: ∃G3,G2++[Blk.cells (((pB f).map byC).flatten) 5 .row]=G3:=⟨_,rfl⟩;have b3:By G3 (.slice (some ⟨G2.length,0,none⟩) 4 4) (pB f):=by rw[<-hG3];exact By.yY G2 (pB f)
   have x3:Ext G2 G3:=by rw[<-hG3];exact Fr.app _ _ _
   have n3:New G2 (.slice (some ⟨G2.length,0,none⟩) 4 4):=X7 G2 (Fr.nF _ _) 4 4;have hb3:G3[H.length]? =some (frB f):=by rw[x3.2 _ (dC hb2) id,hb2]
   obtain⟨p0,p1,p2,p3,p4,p5,p6⟩:=mR hb3;have nk:((f.kind:Int)==1)=decide (f.kind=1):=pQ f.kind 1;have hl3:(pB f).length=4:=rfl;by_cases hk:f.kind=1
   ·have h24:bin prog .shr 29 (.int .u32 (f.body:Int)) (.int .u64 24)=some (.int .u32 ((f.body/16777216:Nat):Int)):=by
     have:=wL (P:=prog) .u32 .u64 29 f.body 24 (by decide)
     rw[Nat.shiftRight_eq_div_pow] at this;exact this
    have h16:bin prog .shr 29 (.int .u32 (f.body:Int)) (.int .u64 16)=some (.int .u32 ((f.body/65536:Nat):Int)):=by
     have:=wL (P:=prog) .u32 .u64 29 f.body 16 (by decide)
     rw[Nat.shiftRight_eq_div_pow] at this;exact this
    have h8:bin prog .shr 29 (.int .u32 (f.body:Int)) (.int .u64 8)=some (.int .u32 ((f.body/256:Nat):Int)):=by
     have:=wL (P:=prog) .u32 .u64 29 f.body 8 (by decide)
     rw[Nat.shiftRight_eq_div_pow] at this;exact this
    have e5:dJ 5 1 6 [.int .u8 0] [(0,.int .u8 (f.src:Int)),(1,.int .u8 (f.dst:Int)),(2,.int .u8 ((f.body/16777216%256:Nat):Int)),(3,.int .u8 ((f.body/65536%256:Nat):Int)),(4,.int .u8 ((f.body/256%256:Nat):Int)),(5,.int .u8 ((f.body%256:Nat):Int))] G3=
      some (.slice (some ⟨G3.length,0,none⟩) 6 6,G3++[.cells (((by8 f.src::by8 f.dst::(eI (f.body/65536)++eI f.body)).map byC).flatten) 5 .row]):=by
     rw[aNO,q9];simp only[eI,List.cons_append,List.nil_append,aOC,List.map_nil,yW,aOF hf.src,aOF hf.dst,Nat.div_div_eq_div_mul,Nat.reduceMul]
    have w5:=(By.yY G3 (by8 f.src::by8 f.dst::(eI (f.body/65536)++eI f.body))).rs;obtain⟨v6,G6,g6,b6,n6,x6⟩:=(b3.sP [.cells (((by8 f.src::by8 f.dst::(eI (f.body/65536)++eI f.body)).map byC).flatten) 5 .row]).tL wV Bv (by decide) (by':=1) w5 n3 (x3.tr (Fr.app _ _ _)) (yZ (by simp[hl3,eI]))
    have g6':app 5 1 1 (.slice (some ⟨G2.length,0,none⟩) 4 4) (.slice (some ⟨G3.length,0,none⟩) 6 6) (G3++[.cells (((by8 f.src::by8 f.dst::(eI (f.body/65536)++eI f.body)).map byC).flatten) 5 .row])=some (v6,G6):=g6;have hbody:iV f=pB f++(by8 f.src::by8 f.dst::(eI (f.body/65536)++eI f.body)):=by
     unfold iV;rw[if_pos hk]
    rw[<-hbody] at b6;have hl7:(iV f).length=10:=by rw[hbody];simp[eI,hl3]
    have s7:=aAT (H:=G6) (m:=m-1) (By.br (H:=G6) b6) (by omega) (by omega) (by omega)
    obtain⟨t1,v8,G8,g8,b8,n8,x8⟩:=aAW (crc (iV f)) b6 n6 x6 (yZ (by omega))
    simp -implicitDefEqProofs only[gsR,e0,l6,hG2,s1,q0,q1,q2,Gv _ hf.seq,aAV,eZ _ _ lS u8U,eZ _ _ oJ u8U,Nm,aAU,e2,hG3,p0,nk,aOQ hk,p3,p4,p5,h24,h16,h8,e5,g6',s7,Gv _ (wS _),t1,g8];refine⟨_,_,rfl,_,by simp[hs],x1.tr x8,?_,λb hb=>aOm x1.1 (n8 b hb)⟩
    unfold oH nM kK;rw[if_pos hs];exact b8
   ·have hbody:iV f=pB f:=by
     unfold iV;rw[if_neg hk,List.append_nil]
    rw[<-hbody] at b3;have hl7:(iV f).length=4:=by rw[hbody];rfl
    have s7:=aAT (H:=G3) (m:=m-1) b3.br (by omega) (by omega) (by omega)
    obtain⟨t1,v8,G8,g8,b8,n8,x8⟩:=aAW (crc (iV f)) b3 n3 x3 (yZ (by omega))
    simp -implicitDefEqProofs only[gsR,e0,l6,hG2,s1,q0,q1,q2,Gv _ hf.seq,aAV,eZ _ _ lS u8U,Nm,aAU,e2,hG3,p0,nk,aOR hk,s7,Gv _ (wS _),t1,g8];refine⟨_,_,rfl,_,by simp[hs],x1.tr x8,?_,λb hb=>aOm x1.1 (n8 b hb)⟩
    unfold oH nM kK;rw[if_pos hs];exact b8
  ·have hs':dO f=false:=by simpa using hs
   rw[hs'] at s1;simp -implicitDefEqProofs only[gsR,e0,l6,s1];refine⟨_,_,rfl,_,by simp[hs],x1,?_,New.nG H⟩
   unfold oH nM;rw[if_neg hs];exact Rw.lE
 obtain⟨H',r,h1,v,rfl,h2⟩:=main
 exact⟨H',v,h1,h2⟩
end
end Go.Proofs.YtmimdleeihjdoaaGreatDoor
namespace Go.Proofs.YtmimdleeihjdoaaGreatDoor
open Go.Proofs.Tryz
open Go.Abs
open Classical
def TiedTo (k:Int)(es:List Ed)(i:Nat)(x:Int):Prop:=(x= -1/\ ∀e∈es.take i,e.1≠k/\e.2≠k)∨(k,x)∈es∨(x,k)∈es
theorem TiedTo.aNS (k:Int)(es:List Ed):TiedTo k es 0 (-1):= .inl ⟨rfl,λe h=>by cases h⟩
theorem aNZ {α:Type}{l:List α}{i:Nat}{x:α}(h:l[i]? =some x):l.take (i+1)=l.take i++[x]:=by
 rw[List.take_add_one,h];rfl
theorem TiedTo.aNR {k:Int}{es:List Ed}{i:Nat}{x:Int}{e:Ed}(h:TiedTo k es i x)(he:es[i]? =some e):TiedTo k es (i+1) (if e.2=k then e.1 else if e.1=k then e.2 else x):=by
 have hm:=aOg he;by_cases h2:e.2=k
 ·rw[if_pos h2]
  exact .inr (.inr (by rw[<-h2];exact hm))
 ·rw[if_neg h2]
  by_cases h1:e.1=k
  ·rw[if_pos h1]
   exact .inr (.inl (by rw[<-h1];exact hm))
  ·rw[if_neg h1]
   rcases h with⟨a,b⟩|h
   ·refine .inl ⟨a,λe' he'=> ?_⟩
    rw[aNZ he,List.mem_append,List.mem_singleton] at he';rcases he' with he'|rfl
    ·exact b e' he'
    ·exact⟨h1,h2⟩
   ·exact .inr h
theorem TiedTo.end {k:Int}{es:List Ed}{x:Int}(h:TiedTo k es es.length x)(hex: ∃e∈es,e.1=k∨e.2=k):(k,x)∈es∨(x,k)∈es:=by
 rcases h with⟨_,b⟩|h
 ·obtain⟨e,he,h1⟩:=hex
  rw[List.take_of_length_le (aOb _)] at b;have:=b e he;omega
 ·exact h
theorem aN0 (t:List Int)(ht:1<=t.length)(h0:t.getD 0 0=0)(k:Nat)(hk:k<=t.length): ∃e∈tQ t,e.1=(k:Int)∨e.2=(k:Int):=by
 have hin: ∀i,i<t.length->(t.getD i 0,((i+1:Nat):Int))∈tQ t:=λi hi=>aOK.mpr ⟨i,aOL.mpr hi,rfl⟩
 by_cases hk0:k=0
 ·subst hk0
  exact⟨_,hin 0 ht,.inl (by rw[h0];rfl)⟩
 ·exact⟨_,hin (k-1) (by omega),.inr (by show((k-1+1:Nat):Int)=k;omega)⟩
theorem aNV (c:List Nat):(ofT c).getD 0 0=0:=by
 obtain⟨hr,h1⟩:=Gp c;unfold iH at hr;rw[aOe,aOM] at hr;have:=hr.1 0 (aOL.mpr (by omega))
 rw[aOe] at this;have h2:=of_decide_eq_true this.1;have h3:=of_decide_eq_true this.2;omega
theorem aNT {c:Cfg}{p:PlanD}(hc:c=iI p c.me){n:Nat}(hp:OkP p n){x:Int}(h:((c.me:Int),x)∈p.edges∨(x,(c.me:Int))∈p.edges): ∃w∈c.by',x=((w:Nat):Int):=by
 have hne:(c.me:Int)≠x:=by
  rcases h with h|h
  ·have:=hp.ve.ok _ h
   unfold okE at this;simp only at this;omega
  ·have:=hp.ve.ok _ h
   unfold okE at this;simp only at this;omega
 have hb:x∈bes p.edges (c.me:Int):=Kz.mpr ⟨hne,h⟩;have hin:=Be hp.ve hb;refine⟨x.toNat,?_,by omega⟩
 rw[hc];exact aOK.mpr ⟨x,hb,rfl⟩
theorem Bs.aNQ {H:aC}{v:Value}{xs:List Nat}(h:Us H v xs)(h8: ∀x∈xs,x<256):Bs H v (xs.map UInt8.ofNat):=by
 have e:(xs.map u8C).flatten=((xs.map UInt8.ofNat).map byC).flatten:=by
  rw[List.map_map]
  congr 1
  refine List.map_congr_left λx hx=> ?_
  show [Value.int .u8 (x:Int)]=[Value.int .u8 (((UInt8.ofNat x).toNat:Nat):Int)]
  rw[UInt8.toNat_ofNat',aOF (h8 x hx)]
 rcases h with⟨h1,h2⟩|⟨b,o,cap,h1,h2,h3⟩
 ·exact .inl ⟨h1,by rw[h2];rfl⟩
 ·refine .inr ⟨b,o,cap,by rw[aOk];exact h1,by rw[aOk];exact h2,λhne=> ?_⟩
  obtain⟨e',k,pre,post,q1,q2,q3⟩:=h3 (λh=>hne (by rw[h];rfl))
  exact⟨e',k,pre,post,q1,q2,by rw[q3,e]⟩
def crF (seq:Nat):Frm:=⟨2,2,seq,0,0,0⟩
theorem aAX {seq:Nat}(h:seq<65536):(crF seq).ok:=⟨by show 2<256;omega,by show 2<256;omega,h,by show 0<256;omega,by show 0<256;omega,by show 0<4294967296;omega⟩
theorem Px (seq:Nat):dO (crF seq)=true:=by unfold dO crF;simp
theorem aNW (t:TypeId)(a:Addr)(h:mJ prog t (.pointer none)=true):bin prog .neq t (.pointer (some a)) (.pointer none)=some (.bool true):=by
 have h2:mJ prog t (.pointer (some a))=true:=by
  rw[<-h];unfold mJ;cases prog.underlying t with
  |none=>rfl
  |some d=>cases d<;>rfl
 simp[bin,dU,oN,h,h2,eqV]
def ByA (F:Part->Nat->Prop)(H:aC)(v:Value)(bs:List UInt8):Prop:=By H v bs/\ ∀b,cK v b-> ¬Un F b
theorem ByA.mv {F F':Part->Nat->Prop}{H H':aC}{v:Value}{bs:List UInt8}(h:ByA F H v bs)(hm:Mv (Un F) (Un F') H H'):ByA F' H' v bs:=
 ⟨h.1.gF λb hb=>hm.keep b (h.1.iO hb) (h.2 b hb),λb hb hf=>(hm.own b hf).elim (h.2 b hb) λhl=>by have:=h.1.iO hb;omega⟩
theorem ByA.ext {F:Part->Nat->Prop}{H H':aC}{v:Value}{bs:List UInt8}(h:ByA F H v bs)(he:Ext H H'):ByA F H' v bs:=
 ⟨h.1.gF λb hb=>he.2 b (h.1.iO hb) id,h.2⟩
section
variable {m : Nat} {H0 H : aC} {F : Part → Nat → Prop} {y : Lay} {p : PlanD} {ev wv nv : Value} {c : Cfg}
theorem aNX {pb n v seq:Nat}{fr x:Int}{bv:Value}{bb:List UInt8}(h:NodeAt H0 H F y p ev wv nv c 0 (NS.iW c))(bp:H0[pb]? =some (plB p ev wv nv))(hb:Bs H0 bv bb)
    (hroom:p.room=(c.room:Int))(hlan:p.lanes=(c.lanes:Int))(hnod:p.nodes=(n:Int))(hn0:0<n)(hk:v%n=c.me)(hv:v<256)(hseq:seq<65536)(hm:1000<m)(hx: ∃w∈c.by',x=((w:Nat):Int)):
    ∀(x0 x1 x2 x7 x8 x9 bK bM aR aN aM aQ bC bJ bL bI bE aS aT aU aV aW aX aY bA bB bN bO bP bQ bR bS bT bU bV bY cE cG cH cL cQ cU cV cM cN cO cR cY cW cX cZ dD dH dE dI dP dQ dV dW dX dY dZ eA eC eJ eK eM eN eO eP eQ eS eT eU eV eW fC fD fE fF fG fH fI fJ fS fT fU fV fW fX fY fZ gA gB gC gD gE gG gH gI gJ gK gL gM gN gO gP gQ gR gS gT gU gV gW gX gY gZ jB jC jD jE jH jI jJ jK jL jM jO mE mF mG mH zK zL zM zN zO zP zQ zR zS zT zU zV zW zX zY zZ Aa Ab Ac Ad:Value),∃H2,Gs (lvl prog pkN m) (aI m) x0 x1 x2 (.int .u8 v) (.int .i64 fr) bv (.int .u16 seq) x7 x8 x9 bK bM aR aN aM (.pointer (some ⟨pb,0,none⟩)) (pt y.nb) (.int .i64 x) aQ bC bJ bL bI bE aS aT aU aV aW aX aY bA bB bN bO bP bQ bR bS bT bU bV bY cE cG cH cL cQ cU cV cM cN cO cR cY cW cX cZ dD dH dE dI dP dQ dV dW dX dY dZ eA eC eJ eK eM eN eO eP eQ eS eT eU eV eW fC fD fE fF fG fH fI fJ fS fT fU fV fW fX fY fZ gA gB gC gD gE gG gH gI gJ gK gL gM gN gO gP gQ gR gS gT gU gV gW gX gY gZ jB jC jD jE jH jI jJ jK jL jM jO mE mF mG mH zK zL zM zN zO zP zQ zR zS zT zU zV zW zX zY zZ Aa Ab Ac Ad H=some (.bool true,H2):=by
  intros;obtain⟨w,hw,rfl⟩:=hx;have hports:1<c.aH:=by
    have:0<c.by'.length:=List.length_pos_of_mem hw;unfold Cfg.aH;omega
  have hl:=h.ok.lanes;have hbld:bld prog 71 [(0,.int .u8 2),(1,.int .u8 2),(2,.int .u16 seq)]=some (frV (crF seq)):=rfl;obtain⟨H1,gv,g1,x1,b1,n1⟩:=aNP (H:=H) (m:=m) (by omega) (crF seq) (aAX hseq)
  rw[if_pos (Px seq),aNy (Px seq)] at*;have hl6:(kK (crF seq)).length=6:=by rw[Ns];rfl
  have h1:=h.fR x1;have a1:ByA F H1 gv (kK (crF seq)):=⟨b1,λb hb hf=>by have:=n1 b hb;have:=h.sep.pM b hf;omega⟩
  have hcv:=λG=>cvU G v hv
  have hrem:=rS v n (n:Nat) rfl hn0;rw[hk] at hrem;have lN: ∀{G:aC},Ext H0 G->ld1 (.pointer (some ⟨pb,0,none⟩)) G=some (.int .i64 (n:Nat),G):=λhe=>by rw[eG (fN bp he) 0 (.int .i64 p.nodes) rfl,hnod]
  have lL: ∀{G:aC},Ext H0 G->ld1 (.pointer (some ⟨pb,2,none⟩)) G=some (.int .i64 (c.lanes:Nat),G):=λhe=>by rw[eG (fN bp he) 2 (.int .i64 p.lanes) rfl,hlan]
  have lR: ∀{G:aC},Ext H0 G->ld1 (.pointer (some ⟨pb,3,none⟩)) G=some (.int .i64 (c.room:Nat),G):=λhe=>by rw[eG (fN bp he) 3 (.int .i64 p.room) rfl,hroom]
  have far: ∀(fr:Int)(bs:List UInt8)(s:NS),fr=(c.me:Int)∨fr<0->kR c fr bs s=(1,s):=λfr bs s hf=>aNF (λw hw=>by
    have:=(h.ok.byN w hw).2;omega) bs s
  -- from itself
  obtain⟨H2,F2,g2,h2,m2⟩:=zH h1 (by omega) (m:=m) (by omega) (c.me:Int) a1.1.rs
  rw[far _ _ _ (.inl rfl)] at g2 h2;have a2:=a1.mv m2
  -- from none
  obtain⟨H3,F3,g3,h3,m3⟩:=zH h2 (by omega) (m:=m) (by omega) (-1) a2.1.rs
  rw[far _ _ _ (.inr (by omega))] at g3 h3
  have a3:=a2.mv m3
  -- no frame
  obtain⟨H4,hH4⟩: ∃H4,H4=H3++[Blk.cells (([(9:UInt8)].map byC).flatten) 5 .row]:=⟨_,rfl⟩;have x4:Ext H3 H4:=by rw[hH4];exact Fr.app _ _ _
  have e4:dJ 5 1 1 [.int .u8 0] [(0,.int .u8 9)] H3=some (.slice (some ⟨H3.length,0,none⟩) 1 1,H4):=by rw[hH4];rfl
  have b4:By H4 (.slice (some ⟨H3.length,0,none⟩) 1 1) [9]:=by rw[hH4];exact By.yY H3 [9]
  have n4:New H3 (.slice (some ⟨H3.length,0,none⟩) 1 1):=λb ⟨_,_,_,hb⟩=>by cases hb;exact aOb _
  have a4:=a3.ext x4;obtain⟨nv5,H5,g5,b5,n5,x5⟩:=b4.tL wV Bv (by decide) (by':=1) a4.1.rs n4 x4 (by rw[hl6];decide)
  have h5:=h3.fR x5;have a5:ByA F3 H5 gv (kK (crF seq)):=a3.ext x5;obtain⟨H6,F6,g6,h6,m6⟩:=zH h5 (by omega) (m:=m) (by omega) (w:Int) b5.rs
  rw[aND hw (aNx (by rw[aOi,hl6];decide) (by rw[aOi,hl6];decide))] at g6 h6
  have a6:=a5.mv m6
  -- of a lane
  obtain⟨H7,F7,g7,h7,m7⟩:=zH h6 (by omega) (m:=m) (by omega) (w:Int) a6.1.rs
  obtain⟨j,hj⟩:=aNE (c:=c) hw (aNw (aAX hseq) (Px seq)) rfl (NS.iW c);obtain⟨s7,hs7⟩: ∃s7,s7=(kR c w (kK (crF seq)) (NS.iW c)).2:=⟨_,rfl⟩;have hr7:(kR c w (kK (crF seq)) (NS.iW c)).1=if c.lanes<=2 then 30 else 0:=by
    rw[hj];by_cases h2:c.lanes<=2
    · rw[if_pos (show c.lanes<=(crF seq).lane from h2),if_pos h2]
    · rw[if_neg (show¬c.lanes<=(crF seq).lane from h2),if_neg h2]
  have hsn:s7.snd 1 0=⟨c.start,c.start+c.room⟩:=by
    rw[hs7,hj];by_cases h2:c.lanes<=2
    · rw[if_pos (show c.lanes<=(crF seq).lane from h2)]
      rfl
    · rw[if_neg (show¬c.lanes<=(crF seq).lane from h2)]
      show up2 _ (j+1) 2 _ 1 0=_
      unfold up2;rw[if_neg (by omega)]
      rfl
  rw[hr7] at g7;rw[<-hs7] at h7;obtain⟨H8,g8,x8⟩:=aAe h7 (m:=m) (by omega) (i:=1) (k:=0) (by omega) hports (by omega)
  have h8:=h7.fR x8;have u8:=X5 (m:=m) (by omega) (h8.B9 (by omega) hports (by omega:0<c.lanes)) (h8.Ge (by omega) 1 0)
  rw[hsn] at u8;have hus:(Snd.mk c.start (c.start+c.room)).oX=c.room:=by unfold Snd.oX;simp
  rw[hus] at u8;obtain⟨H9,hH9⟩: ∃H9,H9=H8++[Blk.cells [.int .u64 c.start,.int .u64 (c.start+c.room:Nat)] 202 .fix]:=⟨_,rfl⟩;have x9:Ext H8 H9:=by rw[hH9];exact Fr.app _ _ _
  rw[<-hH9] at u8;have h9:=h8.fR x9;obtain⟨H10,F10,g10,h10,m10⟩:=zH h9 (by omega) (m:=m) (by omega) fr (hb.ext h9.ext)
  have z1:((1:Int)==1)=true:=rfl;have z2:((30:Int)==30)=true:=rfl;have z3:((0:Int)==30)=false:=rfl;have z4:((c.room:Int)==(c.room:Int))=true:=by rw[beq_iff_eq]
  simp only[show((1:Nat):Int)=1 from rfl,show((0:Nat):Int)=0 from rfl,show((30:Nat):Int)=30 from rfl] at g1 g2 g3 g6 g8
  have e7:((((if c.lanes<=2 then 30 else 0:Nat):Int)==30)==decide ((c.lanes:Int)<3))=true:=by
    by_cases h2:c.lanes<=2
    · rw[if_pos h2,show decide ((c.lanes:Int)<3)=true from aOQ (by omega)]
      rfl
    · rw[if_neg h2,show decide ((c.lanes:Int)<3)=false from aOR (by omega)]
      rfl
  unfold Gs;by_cases hf:0<=fr
  · have d1:decide ((0:Int)<=fr)=true:=aOQ hf
    simp -implicitDefEqProofs only[gsR,hbld,g1,hcv,lN h1.ext,hrem,g2,g3,e4,g5,g6,g7,z1,z2,lL h7.ext,Ws,e7,g8,u8,lR h9.ext,lR h8.ext,lR h7.ext,ckI,z4,d1]
    exact⟨_,rfl⟩
  · have d1:decide ((0:Int)<=fr)=false:=aOR hf
    rw[far _ _ _ (.inr (by omega))] at g10
    simp only[show((1:Nat):Int)=1 from rfl] at g10
    simp -implicitDefEqProofs only[gsR,hbld,g1,hcv,lN h1.ext,hrem,g2,g3,e4,g5,g6,g7,z1,z2,lL h7.ext,Ws,e7,g8,u8,lR h9.ext,lR h8.ext,lR h7.ext,ckI,z4,d1,g10]
    exact⟨_,rfl⟩
theorem aNY {pb n v:Nat}{fr:Int}{bv sq:Value}(hes:Es H ev p.edges)(bp:H[pb]? =some (plB p ev wv nv))(hnod:p.nodes=(n:Int))(hn0:0<n)(hv:v<256)(hL:p.edges.length<=15)
  (hK: ∀x,TiedTo ((v%n:Nat):Int) p.edges p.edges.length x-> ∀(x0 x1 x2 x7 x8 x9 bK bM aR aN aM aQ bC bJ bL bI bE aS aT aU aV aW aX aY bA bB bN bO bP bQ bR bS bT bU bV bY cE cG cH cL cQ cU cV cM cN cO cR cY cW cX cZ dD dH dE dI dP dQ dV dW dX dY dZ eA eC eJ eK eM eN eO eP eQ eS eT eU eV eW fC fD fE fF fG fH fI fJ fS fT fU fV fW fX fY fZ gA gB gC gD gE gG gH gI gJ gK gL gM gN gO gP gQ gR gS gT gU gV gW gX gY gZ jB jC jD jE jH jI jJ jK jL jM jO mE mF mG mH zK zL zM zN zO zP zQ zR zS zT zU zV zW zX zY zZ Aa Ab Ac Ad:Value),∃H2,Gs (lvl prog pkN m) (aI m) x0 x1 x2 (.int .u8 v) (.int .i64 fr) bv sq x7 x8 x9 bK bM aR aN aM (.pointer (some ⟨pb,0,none⟩)) (pt y.nb) (.int .i64 x) aQ bC bJ bL bI bE aS aT aU aV aW aX aY bA bB bN bO bP bQ bR bS bT bU bV bY cE cG cH cL cQ cU cV cM cN cO cR cY cW cX cZ dD dH dE dI dP dQ dV dW dX dY dZ eA eC eJ eK eM eN eO eP eQ eS eT eU eV eW fC fD fE fF fG fH fI fJ fS fT fU fV fW fX fY fZ gA gB gC gD gE gG gH gI gJ gK gL gM gN gO gP gQ gR gS gT gU gV gW gX gY gZ jB jC jD jE jH jI jJ jK jL jM jO mE mF mG mH zK zL zM zN zO zP zQ zR zS zT zU zV zW zX zY zZ Aa Ab Ac Ad H=some (.bool true,H2)):
  ∀(q i l:Nat)(x:Int),p.edges.length-i=q->i<=p.edges.length->q<l->TiedTo ((v%n:Nat):Int) p.edges i x-> ∀(x0 x1 x2 x7 x8 x9 bK bM aR aN aM bC bJ bL bI bE aS aT aU aV aW aX aY bA bB bN bO bP bQ bR bS bT bU bV bY cE cG cH cL cQ cU cV cM cN cO cR cY cW cX cZ dD dH dE dI dP dQ dV dW dX dY dZ eA eC eJ eK eM eN eO eP eQ eS eT eU eV eW fC fD fE fF fG fH fI fJ fS fT fU fV fW fX fY fZ gA gB gC gD gE gG gH gI gJ gK gL gM gN gO gP gQ gR gS gT gU gV gW gX gY gZ jB jC jD jE jH jI jJ jK jL jM jO mE mF mG mH zK zL zM zN zO zP zQ zR zS zT zU zV zW zX zY zZ Aa Ab Ac Ad:Value),
  ∃H2,aI l (aK prog (lvl prog pkN m) (aI m) Pn) (Po (lvl prog pkN m) (aI m)) [x0,x1,x2,(.int .u8 v),(.int .i64 fr),bv,sq,x7,x8,x9,bK,bM,aR,aN,aM,(.pointer (some ⟨pb,0,none⟩)),(pt y.nb),(.int .i64 x),(.int .i64 (i:Nat)),bC,bJ,bL,bI,bE,aS,aT,aU,aV,aW,aX,aY,bA,bB,bN,bO,bP,bQ,bR,bS,bT,bU,bV,bY,cE,cG,cH,cL,cQ,cU,cV,cM,cN,cO,cR,cY,cW,cX,cZ,dD,dH,dE,dI,dP,dQ,dV,dW,dX,dY,dZ,eA,eC,eJ,eK,eM,eN,eO,eP,eQ,eS,eT,eU,eV,eW,fC,fD,fE,fF,fG,fH,fI,fJ,fS,fT,fU,fV,fW,fX,fY,fZ,gA,gB,gC,gD,gE,gG,gH,gI,gJ,gK,gL,gM,gN,gO,gP,gQ,gR,gS,gT,gU,gV,gW,gX,gY,gZ,jB,jC,jD,jE,jH,jI,jJ,jK,jL,jM,jO,mE,mF,mG,mH,zK,zL,zM,zN,zO,zP,zQ,zR,zS,zT,zU,zV,zW,zX,zY,zZ,Aa,Ab,Ac,Ad] H=some (.bool true,H2):=by
 have l0:ld1 (.pointer (some ⟨pb,0,none⟩)) H=some (.int .i64 (n:Nat),H):=by rw[eG bp 0 (.int .i64 p.nodes) rfl,hnod]
 have l1:ld1 (.pointer (some ⟨pb,1,none⟩)) H=some (ev,H):=eG bp 1 ev rfl;have hcv:=λG=>cvU G v hv
 have hrem:=rS v n (n:Nat) rfl hn0;have hlen:=hes.kC;obtain⟨k,hk⟩: ∃k,k=v%n:=⟨_,rfl⟩;rw[<-hk] at hrem hK⊢;intro q;induction q with
 |zero=>
  intro i l x hr hi hl ht;intros;obtain⟨l,rfl⟩:=aB l (by omega)
  obtain rfl:i=p.edges.length:=by omega
  have e:decide ((p.edges.length:Int)<p.edges.length)=false:=by simp
  rw[eD,aAH];simp -implicitDefEqProofs only[gsR,l1,hlen,e];rw[aNk];exact hK x ht ..
 |succ q ih=>
  intro i l x hr hi hl ht;intros;obtain⟨l,rfl⟩:=aB l (by omega)
  have e:decide ((i:Int)<p.edges.length)=true:=by simp;omega
  have e3:=aA (i:=i) (by omega)
  obtain⟨z,hz⟩: ∃z,z=p.edges[i]:=⟨_,rfl⟩;have hxi:p.edges[i]? =some z:=by rw[hz];exact aN8 (by omega)
  obtain⟨b,o,g1,g2,g3⟩:=hes.iS sU hxi .i64;obtain⟨j1,j2,j3⟩:=g3 H rfl;have t0:=j2 0 (.int .i64 z.1) rfl;have t1:=j2 1 (.int .i64 z.2) rfl;have hnx:=ht.aNR hxi;rw[eD,aAH];by_cases c1:z.1=(k:Int)
  ·have d1:(z.1==(k:Int))=true:=by simpa using c1
   by_cases c2:z.2=(k:Int)
   ·have d2:(z.2==(k:Int))=true:=by simpa using c2
    rw[if_pos c2] at hnx;simp -implicitDefEqProofs only[gsR,l1,hlen,e,g1,t0,t1,hcv,l0,hrem,d1,d2,cI,e3];exact ih (i+1) l _ (by omega) (by omega) (by omega) hnx ..
   ·have d2:(z.2==(k:Int))=false:=by simpa using c2
    rw[if_neg c2,if_pos c1] at hnx;simp -implicitDefEqProofs only[gsR,l1,hlen,e,g1,t0,t1,hcv,l0,hrem,d1,d2,cI,e3];exact ih (i+1) l _ (by omega) (by omega) (by omega) hnx ..
  ·have d1:(z.1==(k:Int))=false:=by simpa using c1
   by_cases c2:z.2=(k:Int)
   ·have d2:(z.2==(k:Int))=true:=by simpa using c2
    rw[if_pos c2] at hnx;simp -implicitDefEqProofs only[gsR,l1,hlen,e,g1,t0,t1,hcv,l0,hrem,d1,d2,cI,e3];exact ih (i+1) l _ (by omega) (by omega) (by omega) hnx ..
   ·have d2:(z.2==(k:Int))=false:=by simpa using c2
    rw[if_neg c2,if_neg c1] at hnx;simp -implicitDefEqProofs only[gsR,l1,hlen,e,g1,t0,t1,hcv,l0,hrem,d1,d2,cI,e3];exact ih (i+1) l _ (by omega) (by omega) (by omega) hnx ..
theorem aNU {cv bv:Value}{cc bb:List Nat}(hc:Us H cv cc)(hu8: ∀x∈cc,x<256)(hl:cc.length<=72057594037927936)(hb:Us H bv bb)(hb8: ∀x∈bb,x<256)(room more v seq:Nat)(h2:room<256)(h3:more<256)(h4:v<256)(h5:seq<65536)(fr:Int):
  ∃H',lvl prog cD 18014398509481984 (.func 10) [cv,.int .u8 room,.int .u8 more,.int .u8 v,.int .i64 fr,bv,.int .u16 seq] H=some (.bool true,H')/\True:=by
 obtain⟨H2,ev,wv,nv,g2,x2,hp⟩:=Pm hc hu8 hl room more 0 h2 h3 (by omega) (m:=18014398509481984-1) (by omega) (by omega)
 simp only[show((0:Nat):Int)=0 from rfl] at g2
 have hpk:=aAE cc room more 0;have hst:(rY cc room more 0).start=0:=rfl;have hed:(rY cc room more 0).edges=tQ (ofT cc):=rfl;obtain⟨q,hq⟩: ∃q,q=rY cc room more 0:=⟨_,rfl⟩;have hqn:q.nodes=(((ofT cc).length+1:Nat):Int):=by rw[hq];rfl
 rw[<-hq] at g2 hp hpk hst hed;have cp:=Ej hp H2;obtain⟨H3,hH3⟩: ∃H3,H3=H2++[plB q ev wv nv]:=⟨_,rfl⟩;rw[<-hH3] at cp;have b3:H3[H2.length]? =some (plB q ev wv nv):=by rw[hH3];exact hP _ _
 have x3:Ext H2 H3:=by rw[hH3];exact Fr.app _ _ _
 have l3:=kP b3;obtain⟨n,hn⟩: ∃n,n=(ofT cc).length+1:=⟨_,rfl⟩;rw[<-hn] at hqn;have l30:ld1 (.pointer (some ⟨H2.length,0,none⟩)) H3=some (.int .i64 (n:Nat),H3):=by rw[eG b3 0 (.int .i64 q.nodes) rfl,hqn]
 have hcv:=λG=>cvU G v h4
 have hrem:=rS v n (n:Nat) rfl (by omega)
 have hkn:v%n<n:=Nat.mod_lt _ (by omega)
 obtain⟨H4,F,y,g4,ha⟩:=Gn (hp.ext x3) hpk (by omega) (m:=18014398509481984-1) (by omega) (by omega) (v%n) (by rw[hqn];omega)
 obtain⟨c0,hc0⟩: ∃c0,c0=iI q (v%n):=⟨_,rfl⟩;have hcm:c0.me=v%n:=by rw[hc0];rfl
 rw[<-hc0] at ha;obtain⟨nn,hqok⟩:=ha.hp;have hlan:q.lanes=(c0.lanes:Int):=by
  rw[hc0];show q.lanes=(q.lanes.toNat:Int)
  have:=ha.ok.lanes;rw[hc0] at this;have h9:1<=q.lanes.toNat:=this.1;omega
 have hroo:q.room=(c0.room:Int):=by
  rw[hc0];show q.room=(q.room.toNat:Int)
  have:=ha.ok.room;rw[hc0] at this;have h9:1<=q.room.toNat:=this.1;omega
 have n1:=λa=>(uC 58 a (by kernel_rfl)).1
 have n2:=λa=>aNW 58 a (by kernel_rfl)
 obtain⟨H5,g5,x5⟩:=aAJ (H:=H4) (18014398509481984-1) (by omega) (by omega)
 have ha5:=ha.fR x5;have xh5:Ext H H5:=((x2.tr x3).tr ha.ext).tr x5;have hlb:bX bv=some (.int .i64 bb.length):=hb.kC;refine k8 (cJ rfl) (by omega) ?_
 rw[aNl];by_cases hbl:100<bb.length
 ·have d1:decide ((100:Int)<(bb.length:Nat))=true:=aOQ (by omega)
  simp -implicitDefEqProofs only[gsR,g2,qW,cp,hcv,l30,hrem,l3,g4,n1,hlb,d1,n2,g5]
  exact⟨_,rfl,trivial⟩
 ·have d1:decide ((100:Int)<(bb.length:Nat))=false:=aOR (by omega)
  have b35:H5[H2.length]? =some (plB q ev wv nv):=fN b3 (ha.ext.tr x5);have hbase: ∃e∈q.edges,e.1=((v%n:Nat):Int)∨e.2=((v%n:Nat):Int):=by
   rw[hed];exact aN0 _ (aNh cc).1 (aNV cc) _ (by omega)
  have hE15:=hqok.e15;simp -implicitDefEqProofs only[gsR,g2,qW,cp,hcv,l30,hrem,l3,g4,n1,hlb,d1,g5,aAM];obtain⟨H6,g6⟩:=(aNY (m:=18014398509481984-1) (H:=H5) (y:=y) ((hp.ext (x3.tr (ha.ext.tr x5))).e) b35 hqn (by omega) h4 (by omega) (λx hx=>aNX (m:=18014398509481984-1) ha5 b3 (Bs.aNQ (hb.ext (x2.tr x3)) hb8) hroo hlan hqn (by omega) hcm.symm h4 h5 (by omega) (aNT ha.hc hqok (by rw[hcm];exact hx.end hbase))) q.edges.length 0 (18014398509481984-1) (-1) (by omega) (by omega) (by omega) (TiedTo.aNS _ _) ..)
  exact⟨H6,g6,trivial⟩
end
end Go.Proofs.YtmimdleeihjdoaaGreatDoor
