/-
  PARTS OF THIS CLAIM'S PROOF, laid together by a program of mine.
-/
import Derived.Test.YtkeilicinggjmaaGreatDoorAbsM6
import Derived.Test.YtkeilicinggjmaaGreatDoorAbsM5
import Derived.Test.YtkeilicinggjmaaGreatDoorAbsM4
import Derived.Test.YtkeilicinggjmaaGreatDoorAbsM3
import Derived.Test.YtkeilicinggjmaaGreatDoorAbsM2
import Derived.Test.YtkeilicinggjmaaGreatDoorAbsM1
import Derived.Calls
import Derived.LoopN
import Derived.Orders
import Derived.Laws.Sem
import Derived.Laws.Tables
import Derived.Laws.Cells
import Derived.Laws.StructEq
import Derived.Laws.Append
import Derived.Laws.MakeOwn
import Derived.Laws.Slices
import Derived.Lib.UnsafeStr
import Derived.Laws.BytesString
import Derived.Laws.BytesArg
import Derived.Laws.Pointers
import Derived.Lib.SliceRun
import Derived.Laws.Cover3
import Derived.MapKept
import Derived.WideKeyRuns
import Derived.Scope
import Derived.Test.YtkeilicinggjmaaGreatDoorProg
import Derived.KernelRfl
import Derived.ProofKit
import Derived.RowKit
import Derived.RowKit3
import Derived.ChangeSame
import Derived.Sort.Grow
import Derived.Ground.NamesProg
import Derived.Shelf.Sort.Plain
import Derived.Shelf.Slices.In.SortNone
import Derived.OpenShut
import Derived.Deep.Slices
import Derived.SizedLaws
set_option linter.unusedVariables false
set_option linter.unusedSimpArgs false
set_option linter.unusedSectionVars false
set_option maxRecDepth 100000
namespace Go.Proofs.YtkeilicinggjmaaGreatDoor
open Go.Proofs.Tryz
open Go.Abs
open Classical
theorem Am (H:aC):H++[Blk.cells [Value.int .i64 0,.int .i64 0,.int .i64 0,.int .u32 0] 54 .fix]=H++[eF pk0]:=rfl
theorem Pk (H:aC)(x:Pkt):stN 4 (.pointer (some ⟨H.length,0,none⟩)) x.dM (H++[eF pk0])=some (undef,H++[eF x]):=by rw[Gk x (dJ _ _),nG]
theorem aM6 {c:Cfg}{t:Nat}{s:NS}(h:NInv c t s)(k:Int):NInv c t {s with hL:=pT s.hL k}:=by
 refine {h with hL:=λx hx=>h.hL x (Zp hx),hQ:=λj=> ?_}
 have e:=Gb s.hL k j
 show(gP (pT s.hL k) j).length<=c.queue
 rw[e];by_cases hj:j=k
 ·rw[if_pos hj,List.length_tail]
  have:=h.hQ k;omega
 ·rw[if_neg hj]
  exact h.hQ j
section
variable {H0 H : aC} {F : Part → Nat → Prop} {y : Lay} {p : PlanD} {ev wv nv : Value} {c : Cfg} {t : Nat} {s : NS} {m : Nat}
theorem aM4 {K:Ex->K (Value×aC)}{Q:aC->Value->Prop}{k:Nat}(hk:k<c.lanes)(hm:200<m)(h:NodeAt H0 H F y p ev wv nv c t s)
  (hK: ∀H' F',NodeAt H0 H' F' y p ev wv nv c t (lA c s k)->Mv (Un F) (Un F') H H'-> ∀(x1 x2 x3 x4 x5 x6 x7 x8 x9 bK aO aP aM aS bI aN bG bJ bL bH bE aT aU aV aW aX aY aZ bA bB bO bP bQ bR bS bT bU bV bX bY cD cG cH cK cQ cS cT cM cN cO cP cW cU cV cY dA dC dB dD:Value),∃H2 r,K .normal [(pt y.nb),x1,x2,x3,x4,x5,x6,x7,x8,x9,bK,(.int .i64 c.lanes),(.int .i64 (k+1:Nat)),aO,aP,aM,aS,bI,aN,bG,bJ,bL,bH,bE,aT,aU,aV,aW,aX,aY,aZ,bA,bB,bO,bP,bQ,bR,bS,bT,bU,bV,bX,bY,cD,cG,cH,cK,cQ,cS,cT,cM,cN,cO,cP,cW,cU,cV,cY,dA,dC,dB,dD] H'=some (r,H2)/\Q H2 r):
  ∀(x1 x4 x5 x6 x7 x8 x9 bK aO aP aM aS bI aN bG bJ bL bH bE aT aU aV aW aX aY aZ bA bB bO bP bQ bR bS bT bU bV bX bY cD cG cH cK cQ cS cT cM cN cO cP cW cU cV cY dA dC dB dD:Value),∃H2 r,Fu (lvl prog pkN m) (aI m) K (pt y.nb) x1 (.int .i64 (k:Nat)) (.int .i64 (wM c s.rL k:Nat)) x4 x5 x6 x7 x8 x9 bK (.int .i64 c.lanes) (.int .i64 (k:Nat)) aO aP aM aS bI aN bG bJ bL bH bE aT aU aV aW aX aY aZ bA bB bO bP bQ bR bS bT bU bV bX bY cD cG cH cK cQ cS cT cM cN cO cP cW cU cV cY dA dC dB dD H=some (r,H2)/\Q H2 r:=by
 intros;have h3:=h.ok.lanes.2;have e9:=oO k (by omega)
 have l4:=h.ld 4 (.int .i64 c.room) rfl;unfold Fu;by_cases c1:c.room<=wM c s.rL k
 ·have c1':decide ((c.room:Int)<=(wM c s.rL k:Nat))=true:=by rw[decide_eq_true_eq];omega
  have hr:lA c s k=s:=by unfold lA;rw[if_pos c1]
  rw[hr] at hK;simp -implicitDefEqProofs only[gsR,l4,c1',cC,e9];exact hK H F h (Mv.Ug _ _) ..
 ·have c1':decide ((c.room:Int)<=(wM c s.rL k:Nat))=false:=by rw[decide_eq_false_iff_not];omega
  have l14:=h.ld 14 (pt y.hb) rfl;obtain⟨r,H1,F1,n1,n2,n3⟩:=(h.sep.own .host).zM rX (n:=m) (λD hD=>aM1 (m:=m) (by omega) hk hD)
  obtain⟨hrv,_⟩:=n2.at_;rw[hrv] at n1;cases hw:gP s.hL k with
  |nil=>
   have hr:lA c s k=s:=by unfold lA;rw[if_neg c1,hw]
   rw[hr] at hK;have hnl:yQ s.hL k=s.hL:=by unfold yQ;rw[if_pos hw]
   obtain⟨g1,mv1⟩:=h.Gx (L:=s.hL) (G:=s.hG) (Has.wX n2 λD hD=>by rw[<-hnl];exact hD.2) n3 h.inv
   rw[hw] at n1;have n1:lvl prog pkN m (.func 97) [pt y.hb,.int .i64 k] H=some (.tuple #[pk0.dM,.bool false],H1):=n1;have x2:Ext H1 (H1++[eF pk0]):=Fr.app _ _ _;simp -implicitDefEqProofs only[gsR,l4,c1',l14,n1,pJ,Am,Pk,cC,e9];exact hK (H1++[eF pk0]) _ (g1.hP x2) (mv1.pQ (Mv.pP x2 _)) ..
  |cons x xs=>
   have hr:lA c s k={s with hL:=pT s.hL k,rL:=pU c s.rL (0,(c.port x.dst.toNat:Int),k) x}:=by unfold lA;rw[if_neg c1,hw]
   have hinv:=h.inv.aKB h.ok k;rw[hr] at hK hinv;have hnl:yQ s.hL k=pT s.hL k:=by unfold yQ;rw[if_neg (by rw[hw];simp)]
   obtain⟨g1,mv1⟩:=h.Gx (L:=pT s.hL k) (G:=s.hG) (Has.wX n2 λD hD=>by rw[<-hnl];exact hD.2) n3 (aM6 h.inv k)
   rw[hw] at n1;have n1:lvl prog pkN m (.func 97) [pt y.hb,.int .i64 k] H=some (.tuple #[x.dM,.bool true],H1):=n1;obtain⟨H2,hH2⟩: ∃H2,H2=H1++[eF x]:=⟨_,rfl⟩;have x2:Ext H1 H2:=by rw[hH2];exact Fr.app _ _ _
   have g2:=g1.hP x2;have b2:H2[H1.length]? =some (eF x):=by rw[hH2];exact dJ _ _
   have hxm:x∈s.hL:=by
    have:x∈gP s.hL k:=by rw[hw];exact aO3 ..
    exact(List.mem_filter.mp this).1
   have hxd:=(h.inv.hL x hxm).dst;obtain⟨d,hd⟩: ∃d:Nat,x.dst=d:=⟨x.dst.toNat,by omega⟩
   have hdt:x.dst.toNat=d:=by omega
   rw[hdt] at hK hinv;have q1:ld1 (.pointer (some ⟨H1.length,1,none⟩)) H2=some (.int .i64 d,H2):=cZ b2 (by rw[<-hd];rfl)
   have l15:=g2.ld 15 (pt y.rg) rfl;obtain⟨H3,t1,x3⟩:=aAT g2 (m:=m) (by omega) d (by omega)
   have g3:=g2.hP x3;have l15':=g3.ld 15 (pt y.rg) rfl;have b3:H3[H1.length]? =some (eF x):=by rw[x3.2 _ (dE b2) id,b2]
   have q3:=(pX b3).2;have q3':=(pX b2).2;obtain⟨r',H4,F4,p1,p2,p3⟩:=(g3.sep.own .rings).zM rX (n:=m) (λD hD=>aAl (m:=m) hD (by omega) (0,(c.port d:Int),(k:Int)) x)
   obtain⟨g4,mv4⟩:=g3.Ph (L:=pU c s.rL (0,(c.port d:Int),k) x) p2 p3 hinv;have p1:lvl prog pkN m (.func 98) [pt y.rg,.int .i64 0,.int .i64 (c.port d:Nat),.int .i64 k,x.dM] H3=some (r',H4):=p1;simp -implicitDefEqProofs only[gsR,l4,c1',l14,n1,pJ,Am,Pk,<-hH2,l15,q1,t1,l15',wY,q3,q3',aAW,p1,cC,e9];exact hK H4 _ g4 ((mv1.pQ (Mv.pP (x2.tr x3) _)).pQ mv4) ..
theorem aM5 {Hs:aC}{Fs:Part->Nat->Prop}{s0:NS}(h3:c.lanes<=3)(hm:300<m)(h6:c.aH<=6):
  ∀(q k l:Nat)(H:aC)(F:Part->Nat->Prop),c.lanes-k=q->k<=c.lanes->q<l->NodeAt H0 H F y p ev wv nv c t ((List.range k).foldl (lA c) s0)->Mv (Un Fs) (Un F) Hs H-> ∀(x1 x2 x3 x4 x5 x6 x7 x8 x9 bK aO aP aM aS bI aN bG bJ bL bH bE aT aU aV aW aX aY aZ bA bB bO bP bQ bR bS bT bU bV bX bY cD cG cH cK cQ cS cT cM cN cO cP cW cU cV cY dA dC dB dD:Value),
  ∃H2 r,aI l (aK prog (lvl prog pkN m) (aI m) M6) (M8 (lvl prog pkN m) (aI m)) [(pt y.nb),x1,x2,x3,x4,x5,x6,x7,x8,x9,bK,(.int .i64 c.lanes),(.int .i64 (k:Nat)),aO,aP,aM,aS,bI,aN,bG,bJ,bL,bH,bE,aT,aU,aV,aW,aX,aY,aZ,bA,bB,bO,bP,bQ,bR,bS,bT,bU,bV,bX,bY,cD,cG,cH,cK,cQ,cS,cT,cM,cN,cO,cP,cW,cU,cV,cY,dA,dC,dB,dD] H=some (r,H2)/\(r=aJ []/\ ∃F2,NodeAt H0 H2 F2 y p ev wv nv c t (o5 c s0)/\Mv (Un Fs) (Un F2) Hs H2):=by
 intro q;induction q with
 |zero=>
  intro k l H F hq hk hl h hmv;intros;obtain⟨l,rfl⟩: ∃l',l=l'+1:=⟨l-1,by omega⟩
  have hke:k=c.lanes:=by omega
  have c1:decide ((k:Int)<(c.lanes:Int))=false:=by rw[decide_eq_false_iff_not];omega
  rw[aI,Yg];simp -implicitDefEqProofs only[gsR,c1];rw[aJA];rw[hke] at h
  exact⟨_,_,rfl,rfl,F,h,hmv⟩
 |succ q ih=>
  intro k l H F hq hk hl h hmv;intros;obtain⟨l,rfl⟩: ∃l',l=l'+1:=⟨l-1,by omega⟩
  have hkl:k<c.lanes:=by omega
  have c1:decide ((k:Int)<(c.lanes:Int))=true:=by rw[decide_eq_true_eq];omega
  have l13:=h.ld 13 (jC y c) rfl;have e1:bM (jC y c)=some (.int .i64 c.aH):=rfl;rw[aI,Yg];simp -implicitDefEqProofs only[gsR,c1,l13,e1];refine aM0 (kk:=k) (by omega) h ?_ c.aH 0 m (by omega) (by omega) (by omega) ..
  refine aM4 hkl (by omega) h ?_
  intro H' F' h' hmv';intros;have hn:(List.range (k+1)).foldl (lA c) s0=lA c ((List.range k).foldl (lA c) s0) k:=by rw[aPt,List.foldl_append];rfl
  rw[<-hn] at h';exact ih (k+1) l H' F' (by omega) (by omega) (by omega) h' (hmv.pQ hmv') ..
theorem aM3 (h:NodeAt H0 H F y p ev wv nv c t s)(hm:400<m): ∃H2 F2,lvl prog pkN m (.func 49) [pt y.nb] H=some (aJ [],H2)/\NodeAt H0 H2 F2 y p ev wv nv c t (o5 c s)/\Mv (Un F) (Un F2) H H2:=by
 have h6:c.aH<=6:=by have:=h.ok.by';unfold Cfg.aH;omega
 have main: ∃H2 r,lvl prog pkN m (.func 49) [pt y.nb] H=some (r,H2)/\(r=aJ []/\ ∃F2,NodeAt H0 H2 F2 y p ev wv nv c t (o5 c s)/\Mv (Un F) (Un F2) H H2):=by
  refine jJ (cL rfl) (by omega) ?_
  rw[aJC];have l3:=h.ld 3 (.int .i64 c.lanes) rfl;simp -implicitDefEqProofs only[gsR,l3];exact aM5 h.ok.lanes.2 (by omega) h6 c.lanes 0 (m-1) H F (by omega) (by omega) (by have:=h.ok.lanes;omega) h (Mv.Ug _ _) ..
 obtain⟨H2,r,g1,rfl,F2,g2,g3⟩:=main
 exact⟨H2,F2,g1,g2,g3⟩
end
def slV (v:Value):Value:=if dZ [v]=true then v else .slice none 0 0
theorem aNe (v:Value):dZ [slV v]=true:=by
 unfold slV;split
 ·assumption
 ·rfl
def tF (u:Nat×Value):List Value:=[.int .i64 u.1,slV u.2]
theorem Gy (u:Nat×Value):(tF u).length=2:=rfl
theorem aNb (u:Nat×Value):dZ (tF u)=true:=by
 have:=aNe u.2;unfold dZ tF at*;simp only[List.all_cons,List.all_nil,Bool.and_true] at*;rw[this];rfl
theorem Pm {H:aC}{v:Value}{bs:List UInt8}(h:By H v bs):slV v=v/\dL 43 2 1 [.int .i64 0,.slice none 0 0] [(0,.agg #[.int .i64 0,v])] []=some (.slice (some ⟨0,0,none⟩) 1 1,[Blk.cells [.int .i64 0,v] 43 .row]):=by
 obtain⟨_,⟨rfl,_⟩|⟨c,cap,rest,rfl,_⟩⟩:=h<;>exact⟨rfl,rfl⟩
theorem aM9 {H:aC}{v:Value}{bs:List UInt8}(h:By H v bs)(to:Nat)(G:aC):dL 43 2 1 [.int .i64 0,.slice none 0 0] [(0,.agg #[.int .i64 to,v])] G=some (.slice (some ⟨G.length,0,none⟩) 1 1,G++[.cells (tF (to,v)) 43 .row]):=by
 obtain⟨_,⟨rfl,_⟩|⟨c,cap,rest,rfl,_⟩⟩:=h<;>rfl
theorem aNa {H:aC}{v:Value}{bs:List UInt8}(h:By H v bs)(to:Nat):bld prog 43 [(0,.int .i64 to),(1,v)]=some (.agg #[.int .i64 to,v]):=by
 obtain⟨_,⟨rfl,_⟩|⟨c,cap,rest,rfl,_⟩⟩:=h<;>rfl
theorem Gz {α:Type}{el:α->List Value}{e:TypeId}{sz:Nat}{H:aC}{v:Value}{xs:List α}(h:Rw el e sz H v xs):v.cells.toList=[v]/\dZ [v]=true:=by
 obtain⟨_,⟨rfl,_⟩|⟨c,cap,rest,rfl,_⟩⟩:=h<;>exact⟨rfl,rfl⟩
theorem aNd {α:Type}{el:α->List Value}{e:TypeId}{sz:Nat}{H:aC}{v:Value}{xs:List α}(h:Rw el e sz H v xs)(H':aC):chk (some (v,H')) v=true:=by
 obtain⟨_,⟨rfl,_⟩|⟨c,cap,rest,rfl,_⟩⟩:=h<;>simp[chk,veq]
def wZ (v:Value):Blk:= .cells [v] 35 .fix
def pnB (nb:Nat):Blk:= .cells [pt nb] 30 .fix
def sA (vb cb:Nat):Value:= .func (.func 47) #[] #[pt vb,pt cb]
structure OutR (H:aC)(A:Nat->Prop)(v:Value)(us:List (Nat×Value))(outs:k8):Prop where
 rw_:Rw tF 43 2 H v us
 home: ∀b,cR v b->A b
 len:us.length=outs.length
 at_: ∀(i:Nat)(u:Nat×Value)(o:Nat×List UInt8),us[i]? =some u->outs[i]? =some o->u.1=o.1/\By H u.2 o.2/\ ∀b,Go.Abs.cR u.2 b->A b
structure TickS (H0 Hs H:aC)(Fs F:Part->Nat->Prop)(y:Lay)(p:PlanD)(ev wv nv:Value)(c:Cfg)(t:Nat)(s:NS)(vb cb:Nat)(outs:k8):Prop where
 node:NodeAt H0 H F y p ev wv nv c t s
 mv:Mv (Un Fs) (Un F) Hs H
 h0:H0.length<=Hs.length
 cell:H[cb]? =some (pnB y.nb)
 cbF: ¬Un F cb
 vbF: ¬Un F vb
 vb0:Hs.length<=vb
 rows: ∃v us,H[vb]? =some (wZ v)/\OutR H (λb=>Hs.length<=b/\ ¬Un F b) v us outs
theorem OutR.aM8 {H H':aC}{A A':Nat->Prop}{v:Value}{us:List (Nat×Value)}{outs:k8}(h:OutR H A v us outs)(hk: ∀b,b<H.length->A b->H'[b]? =H[b]? /\A' b):OutR H' A' v us outs where
 rw_:=h.rw_.iD λb hb=>(hk b (h.rw_.j8 hb) (h.home b hb)).1
 home:=λb hb=>(hk b (h.rw_.j8 hb) (h.home b hb)).2
 len:=h.len
 at_:=λi u o hu ho=>by
  obtain⟨g1,g2,g3⟩:=h.at_ i u o hu ho
  exact⟨g1,g2.iD λb hb=>(hk b (g2.j8 hb) (g3 b hb)).1,λb hb=>(hk b (g2.j8 hb) (g3 b hb)).2⟩
section
variable {H0 Hs H : aC} {Fs F : Part → Nat → Prop} {y : Lay} {p : PlanD} {ev wv nv : Value} {c : Cfg} {t : Nat} {s : NS} {m : Nat} {vb cb : Nat} {outs : k8}
theorem TickS.vE {H':aC}{F':Part->Nat->Prop}{t':Nat}{s':NS}(h:TickS H0 Hs H Fs F y p ev wv nv c t s vb cb outs)(hn:NodeAt H0 H' F' y p ev wv nv c t' s')(hm:Mv (Un F) (Un F') H H'):TickS H0 Hs H' Fs F' y p ev wv nv c t' s' vb cb outs:=by
 have key: ∀b,b<H.length-> ¬Un F b->H'[b]? =H[b]? /\ ¬Un F' b:=λb hb hF=>⟨hm.keep b hb hF,λhF'=>(hm.own b hF').elim hF λhl=>by omega⟩
 obtain⟨v,us,r1,r2⟩:=h.rows
 exact⟨hn,h.mv.pQ hm,h.h0,by rw[(key cb (dE h.cell) h.cbF).1,h.cell],(key cb (dE h.cell) h.cbF).2,(key vb (dE r1) h.vbF).2,h.vb0,v,us,by rw[(key vb (dE r1) h.vbF).1,r1],
  r2.aM8 λb hb hA=>⟨(key b hb hA.2).1,hA.1,(key b hb hA.2).2⟩⟩
theorem TickS.ext {H':aC}(h:TickS H0 Hs H Fs F y p ev wv nv c t s vb cb outs)(he:Ext H H'):TickS H0 Hs H' Fs F y p ev wv nv c t s vb cb outs:=h.vE (h.node.hP he) (Mv.pP he _)
theorem NodeAt.aM7 {H':aC}{N:Nat->Prop}(h:NodeAt H0 H F y p ev wv nv c t s)(hf:Fr N H H')(hN: ∀b,N b-> ¬Un F b/\H0.length<=b):NodeAt H0 H' F y p ev wv nv c t s:=by
 have hm:Mv N N H H':=⟨hf.1,λ_ h=> .inl h,λb hb hn=>hf.2 b hb hn⟩
 refine {h with ext:=⟨aPa h.ext.1 hf.1,λa ha _=> ?_⟩,sep:=h.sep.xU (Ak _ _ _ _ _ _ _) hm λa ha hh=>(hN a hh).1 ha}
 rw[hf.2 a (aO9 ha h.ext.1) (λhh=>by have:=(hN a hh).2;omega),h.ext.2 a ha id]
theorem aNc {n:Nat}(h:n<3000):j7 n 32=true:=kM (n:=3000) (by decide) (by omega)
theorem Pn (h:TickS H0 Hs H Fs F y p ev wv nv c t s vb cb outs)(hm:200<m){o:Nat}(ho:o<c.aH){f:Frm}(hf:f.ok)(hl:outs.length<1000):
  ∃H',oH (lvl prog pkN m) (sA vb cb) [.int .i64 o,frV f] H=some (aJ [],H')/\TickS H0 Hs H' Fs F y p ev wv nv c t s vb cb (outs++[(kS c o,jV f)])/\
   ∀(b:Nat)(cs:List Value)(e:TypeId)(k:Kind),H[b]? =some (.cells cs e k)->e≠43->b≠vb->H'[b]? =some (.cells cs e k):=by
 show∃H',lvl prog pkN m (.func 47) [.int .i64 o,frV f,pt vb,pt cb] H=_/\_
 obtain⟨H1,hH1⟩: ∃H1,H1=H++[frB f]:=⟨_,rfl⟩;have x1:Ext H H1:=by rw[hH1];exact Fr.app _ _ _
 have e0:H++[Blk.cells (Value.cells (frV f)).toList 39 .fix]=H1:=by rw[hH1];rfl
 have b1:H1[H.length]? =some (frB f):=by rw[hH1];exact dJ _ _
 have l6:=(kQ b1).2.2.2.2.2.2;obtain⟨H2,w,n1,x2,n2,n3⟩:=aKj (H:=H1) (m:=m-1) (by omega) f hf
 have h2:=(h.ext x1).ext x2;obtain⟨v,us,r1,r2⟩:=h2.rows;have lv:ld1 (pt vb) H2=some (v,H2):=cZ r1 rfl;have lc:ld1 (pt cb) H2=some (pt y.nb,H2):=cZ h2.cell rfl;have l13:=h2.node.ld 13 (jC y c) rfl;obtain⟨b,oo,a1,a2⟩:=h2.node.yL ho;obtain⟨_,a3,_,_⟩:=a2 _ (.inl h2.node);have eb:=aNa n2 (kS c o);have es:=aM9 n2 (kS c o) H2;have hw:Rr tF 43 (H2++[.cells (tF (kS c o,w)) 43 .row]) (.slice (some ⟨H2.length,0,none⟩) 1 1) [(kS c o,w)]:=xR (el:=tF) _ H2;obtain⟨H3,hH3⟩: ∃H3,H3=H2++[Blk.cells (tF (kS c o,w)) 43 .row]:=⟨_,rfl⟩;have hul:us.length<1000:=by have:=r2.len;omega
 obtain⟨v',H4,k1,k2,k3,k4,k5⟩:=(r2.rw_.sU [Blk.cells (tF (kS c o,w)) 43 .row]).xS Gy aNb (by decide) (by':=32) hw.rs (aNc (by show us.length+1<3000;omega))
 rw[<-hH3] at k1 k3 k4 k5 es;have h3l:H3.length=H2.length+1:=by rw[hH3];simp
 have hvb:vb<H2.length:=dE r1;have hvh: ¬cR v vb:=λhh=>by
  obtain⟨cs,hc⟩:=r2.rw_.blk hh;rw[r1] at hc;injection hc with hc;injection hc with _ h2 _
  revert h2
  decide
 have r4:H4[vb]? =some (wZ v):=by
  rw[k4 vb (by omega) hvh,hH3,aOX hvb,r1]
 have sh:=Gz k2;have st:stN 1 (pt vb) v' H4=some (undef,H4.set vb (wZ v')):=tC r4 (by decide) (by simp) sh.1 sh.2
 refine lK (cL rfl) (by omega) ⟨H4.set vb (wZ v'),?_,?_,?_⟩
 ·rw[aJy]
  simp -implicitDefEqProofs only[gsR,Nat.add_zero,e0,l6,n1,pJ,lv,lc,l13,a1,a3,eb,es,k1,st]
 ·have hfr:Fr (λb=>b=vb∨cR v b) H2 (H4.set vb (wZ v')):=⟨by simp;omega,λb hb hn=>by
   rw[aOV (λhh=>hn (.inl hh.symm)),k4 b (by omega) (λhh=>hn (.inr hh)),hH3,aOX hb]⟩
  have hN: ∀b,(b=vb∨cR v b)-> ¬Un F b/\Hs.length<=b:=λb hb=>by
   rcases hb with rfl|hb
   ·exact⟨h2.vbF,h2.vb0⟩
   ·exact⟨(r2.home b hb).2,(r2.home b hb).1⟩
  have hnF: ∀b,H2.length<=b-> ¬Un F b:=λb hb hu=>by have:=h2.node.sep.qF b hu;omega
  have hs2:=h2.mv.le;refine⟨h2.node.aM7 hfr λb hb=>⟨(hN b hb).1,aPa h2.h0 (hN b hb).2⟩,⟨aPa hs2 hfr.1,h2.mv.own,λb hb hF=> ?_⟩,h2.h0,?_,h2.cbF,h2.vbF,h2.vb0,v',us++[(kS c o,w)],iE r4,?_⟩
  ·rw[hfr.2 b (aO9 hb hs2) (λhh=>by have:=(hN b hh).2;omega),h2.mv.keep b hb hF]
  ·rw[hfr.2 cb (dE h2.cell) (λhh=> ?_),h2.cell]
   rcases hh with hh|hh
   ·have:=h2.cell
    rw[hh,r1] at this;injection this with this;injection this with _ h2 _
    revert h2
    decide
   ·obtain⟨cs,hc⟩:=r2.rw_.blk hh
    rw[h2.cell] at hc;injection hc with hc;injection hc with _ h2 _
    revert h2
    decide
  ·have hv'vb: ¬cR v' vb:=λhh=>by
    rcases k5 vb hh with hh|hh
    ·exact hvh hh
    ·omega
   have keepB: ∀(bv:Value)(bs:List UInt8),By H2 bv bs->By (H4.set vb (wZ v')) bv bs:=λbv bs hb=>hb.iD λb hhb=>hfr.2 b (hb.j8 hhb) λhh=>by
    obtain⟨cs,hc⟩:=hb.blk hhb;rcases hh with rfl|hh
    ·rw[r1] at hc
     injection hc with hc;injection hc with _ h2 _
     revert h2
     decide
    ·obtain⟨cs',hc'⟩:=r2.rw_.blk hh
     rw[hc] at hc';injection hc' with hc';injection hc' with _ h2 _
     revert h2
     decide
   refine⟨k2.iD λb hb=>aOV λhh=>hv'vb (by rw[hh];exact hb),λb hb=> ?_,by simp[r2.len],λi u oo hu hoo=> ?_⟩
   ·rcases k5 b hb with hh|hh
    ·exact r2.home b hh
    ·exact⟨by omega,hnF b (by omega)⟩
   ·by_cases hi:i<us.length
    ·rw[aOX hi] at hu
     rw[aOX (by rw[<-r2.len];exact hi)] at hoo
     obtain⟨g1,g2,g3⟩:=r2.at_ i u oo hu hoo
     exact⟨g1,keepB _ _ g2,g3⟩
    ·have hi2:i=us.length:=by
      have:=(aOU.mp hu).1;simp at this;omega
     subst hi2;rw[aPe (aOZ _),Nat.sub_self] at hu;rw[aPe (by rw[r2.len];exact aOZ _),r2.len,Nat.sub_self] at hoo
     simp only[List.getElem?_cons_zero,aPl] at hu hoo;subst hu hoo;refine⟨rfl,keepB _ _ n2,λb hb=> ?_⟩
     have hbn:=n3 b hb;have hsb:Hs.length<=b:=by
      have:=h.mv.le;have:=x1.1;omega
     refine⟨hsb,λhu=> ?_⟩
     have:=h.node.sep.qF b hu;have:=x1.1;omega
 ·intro b cs e k hb hne hbv
  have hb2:H2[b]? =some (.cells cs e k):=by rw[(x1.tr x2).2 _ (dE hb) id,hb]
  rw[aOV (λhh=>hbv hh.symm),k4 b (by rw[h3l];have:=dE hb2;omega) (λhh=> ?_),hH3,aOX (dE hb2),hb2]
  obtain⟨cs',hc'⟩:=r2.rw_.blk hh;rw[hb2] at hc';injection hc' with hc';injection hc' with _ h2 _;exact hne h2
end
theorem aNj {W:List Int}{x w:Whl}{may:Nat->Bool}(h:kN W x may=(none,w)):w=x:=by
 unfold kN at h
 split at h
 ·split at h
  ·cases h
  ·cases h;rfl
 ·cases h;rfl
theorem aNi {α:Type}(f:Nat->α)(i:Nat):up1 f i (f i)=f:=by
 funext j
 unfold up1;split
 ·rename_i h
  rw[h]
 ·rfl
theorem Cr (y:Lay)(c:Cfg)(H':aC):chk (some (jC y c,H')) (jC y c)=true:=by simp[chk,veq,jC]
section
variable {H0 Hs H : aC} {Fs F : Part → Nat → Prop} {y : Lay} {p : PlanD} {ev wv nv : Value} {c : Cfg} {t : Nat} {s : NS} {m : Nat} {vb cb : Nat} {outs : k8}
theorem NodeAt.aNf {H':aC}{t' o:Nat}{x':Whl}(h:NodeAt H0 H F y p ev wv nv c t s)(ho:o<c.aH)(hf:Fr (λb=>b=y.wh o∨b=y.wl o) H H')(hB:Blks (lX (y.wh o) (y.ww o) (y.wl o) (y.wc o) (y.lc o) (y.wr o) (y.lr o) c.weights x') H')(hi:NInv c t' {s with whl:=up1 s.whl o x'}):
  NodeAt H0 H' F y p ev wv nv c t' {s with whl:=up1 s.whl o x'}/\Mv (Un F) (Un F) H H':=by
 refine h.Ck (.whl o) (l:=lX (y.wh o) (y.ww o) (y.wl o) (y.wc o) (y.lc o) (y.wr o) (y.lr o) c.weights (s.whl o)) (l':=lX (y.wh o) (y.ww o) (y.wl o) (y.wc o) (y.lc o) (y.wr o) (y.lr o) c.weights x') (by simp only[lY];rw[if_pos ho]) aAN ?_ ?_ hB hi ?_ ?_
 ·intro q hq
  simp only[lX,aPd,aPk,or_false] at hq;rcases hq with rfl|rfl|rfl
  ·exact⟨_,aO3 ..,rfl⟩
  ·exact⟨_,aPb _ (aO3 ..),rfl⟩
  ·exact⟨_,aPb _ (aPb _ (aO3 ..)),rfl⟩
 ·refine hf.Bb λb hb=> ?_
  rcases hb with rfl|rfl
  ·exact⟨_,aO3 ..,rfl⟩
  ·exact⟨_,aPb _ (aPb _ (aO3 ..)),rfl⟩
 ·have e:up1 s.whl o x' o=x':=if_pos rfl
  simp only[lY];rw[if_pos ho,e]
 ·intro j hj
  cases j with
  |whl i'=>
   have e:up1 s.whl o x' i'=s.whl i':=if_neg λhh=>hj (by rw[hh])
   simp only[lY];rw[e]
  |_=>rfl
theorem aNk (h:NodeAt H0 H F y p ev wv nv c t s)(hm:30<m){i o:Nat}(ho:o<c.aH)(hi:NInv c (t+1) {s with whl:=up1 s.whl o (kN c.weights (s.whl o) (gM c s i o)).2}):
  ∃H',lvl prog pkN m (.func 105) [pt (y.wh o),.int .u16 (dH (gM c s i o) c.lanes:Nat)] H=some (pI (kN c.weights (s.whl o) (gM c s i o)).1,H')/\NodeAt H0 H' F y p ev wv nv c (t+1) {s with whl:=up1 s.whl o (kN c.weights (s.whl o) (gM c s i o)).2}/\Mv (Un F) (Un F) H H':=by
 have hw:=h.ok.wlen;have hl:=h.ok.lanes;have hx:=h.inv.whl o;rw[<-hw] at hx;obtain⟨H',g1,g2,g3⟩:=aMd (m:=m) (by omega) (h.aMp ho) (h.lay.ww o ho) hx (λy hy=>by have:=h.ok.wts y hy;omega) (by omega) (by omega) (dH (gM c s i o) c.lanes) (rI _ (by omega))
 have hc:kN c.weights (s.whl o) (λj=>(dH (gM c s i o) c.lanes).testBit j)=kN c.weights (s.whl o) (gM c s i o):=aL9 λj hj=>by
  rw[lL,aPD (by omega),aPh]
 rw[hc] at g1 g3;obtain⟨k1,k2⟩:=h.aNf ho g2 g3 hi
 exact⟨H',g1,k1,k2⟩
theorem aNh (h:NodeAt H0 H F y p ev wv nv c t s)(hm:100<m)(i o k:Nat)(hi:NInv c t {s with rL:=oM s.rL ((i:Int),(o:Int),(k:Int))}):
  ∃H' F',lvl prog pkN m (.func 106) [pt y.rg,.int .i64 i,.int .i64 o,.int .i64 k] H=some (Rg.u6 (lU s.rL ((i:Int),(o:Int),(k:Int))),H')/\NodeAt H0 H' F' y p ev wv nv c t {s with rL:=oM s.rL ((i:Int),(o:Int),(k:Int))}/\Mv (Un F) (Un F') H H':=by
 obtain⟨r,H',F',p1,p2,p3⟩:=(h.sep.own .rings).zM rX (n:=m) (B:=λr D'=>r=Rg.u6 (lU s.rL ((i:Int),(o:Int),(k:Int)))/\RingsN D' y.rg (oM s.rL ((i:Int),(o:Int),(k:Int))) (c.aH*c.lanes*c.room) c.aH c.lanes) (λD hD=>by
  obtain⟨D',g1,g2⟩:=aLC (m:=m) hD (by omega) i o k
  exact⟨_,D',g1,rfl,g2⟩)
 obtain⟨hr,_⟩:=p2.at_;rw[hr] at p1;obtain⟨g4,mv4⟩:=h.Ph (Has.wX p2 λD hD=>hD.2) p3 hi
 exact⟨H',_,p1,g4,mv4⟩
theorem aNg (h:NodeAt H0 H F y p ev wv nv c t s)(hm:10<m)(x:Pkt)(hl:s.hG.length<1000000000)(hi:NInv c t {s with hG:=s.hG++[x]}):
  ∃H' F',lvl prog pkN m (.func 108) [pt y.hb,x.dM] H=some (aJ [],H')/\NodeAt H0 H' F' y p ev wv nv c t {s with hG:=s.hG++[x]}/\Mv (Un F) (Un F') H H':=by
 obtain⟨r,H',F',p1,p2,p3⟩:=(h.sep.own .host).zM rX (n:=m) (B:=λr D'=>r=aJ []/\HostAt D' y.hb s.hL (s.hG++[x]) c.lanes c.queue) (λD hD=>by
  obtain⟨w0,w1,w2,cv,hI⟩:=hD;obtain⟨D',g1,g2⟩:=aKy hI (m:=m) (by omega) x (kM (n:=1000000001) (by decide) (by omega))
  exact⟨_,D',g1,rfl,g2⟩)
 obtain⟨hr,_⟩:=p2.at_;rw[hr] at p1;obtain⟨g4,mv4⟩:=h.Gx (L:=s.hL) (Has.wX p2 λD hD=>hD.2) p3 hi
 exact⟨H',_,p1,g4,mv4⟩
end
section
variable {H0 Hs H : aC} {Fs F : Part → Nat → Prop} {y : Lay} {p : PlanD} {ev wv nv : Value} {c : Cfg} {t : Nat} {s : NS} {m : Nat} {vb cb : Nat} {outs : k8}
def Po (s:NS)(o k:Nat)(x:Pkt):Frm:=⟨1,k,(s.snd o k).mW.1%65536,(x.src%256).toNat,(x.dst%256).toNat,x.body.toNat⟩
theorem aNn (s:NS)(o k:Nat)(x:Pkt)(hk:k<3)(hb:0<=x.body/\x.body<4294967296):(Po s o k x).ok where
 kind:=by show 1<256;decide
 lane:=by show k<256;omega
 seq:=Nat.mod_lt _ (by decide)
 src:=by show(x.src%256).toNat<256;omega
 dst:=by show(x.dst%256).toNat<256;omega
 body:=by show x.body.toNat<4294967296;omega
theorem aNm (s:NS)(o k:Nat)(x:Pkt)(hb:0<=x.body)(hk:k<3):
  bld prog 39 [(0,.int .u8 1),(1,.int .u8 k),(2,.int .u16 ((s.snd o k).mW.1%65536:Nat)),(3,.int .u8 (x.src%256)),(4,.int .u8 (x.dst%256)),(5,.int .u32 x.body)]=some (frV (Po s o k x)):=by
 have e1:(((x.src%256).toNat:Nat):Int)=x.src%256:=Int.toNat_of_nonneg (Int.emod_nonneg _ (by decide))
 have e2:(((x.dst%256).toNat:Nat):Int)=x.dst%256:=Int.toNat_of_nonneg (Int.emod_nonneg _ (by decide))
 have e3:((x.body.toNat:Nat):Int)=x.body:=Int.toNat_of_nonneg hb;rw[<-e1,<-e2,<-e3];rfl
theorem TickS.b15 {H':aC}{F':Part->Nat->Prop}{b:Nat}{x:Blk}(hm:Mv (Un F) (Un F') H H')(hb:H[b]? =some x)(hF: ¬Un F b):H'[b]? =some x/\ ¬Un F' b:=
 ⟨by rw[hm.keep b (dE hb) hF,hb],λhF'=>(hm.own b hF').elim hF λhl=>by have:=dE hb;omega⟩
def aNl (H0 Hs:aC)(Fs:Part->Nat->Prop)(y:Lay)(p:PlanD)(ev wv nv:Value)(c:Cfg)(t:Nat)(vb cb:Nat)(outs:k8)(r:NS×k8)(mb:Nat)(X:Blk)(H':aC)(v:Value):Prop:=
 v=aJ []/\H'[mb]? =some X/\ ∃F',TickS H0 Hs H' Fs F' y p ev wv nv c (t+1) r.1 vb cb (outs++r.2)/\ ¬Un F' mb
theorem aNo (h:TickS H0 Hs H Fs F y p ev wv nv c t s vb cb outs)(ht:t<100000000)(hm:300<m){i o:Nat}(hi:i<c.aH)(ho:o<c.aH)(hl:outs.length<1000){mb:Nat}{zs:List Int}(hmb:H[mb]? =some (gI zs []))(hmF: ¬Un F mb)(hmv:mb≠vb):
    ∃H' v,lvl prog pkN m (.func 52) [pt y.nb,.int .i64 i,.int .i64 o,sA vb cb] H=some (v,H')/\aNl H0 Hs Fs y p ev wv nv c t vb cb outs (o7 c s i o) mb (gI zs []) H' v:=by
  have hm0:0<m:=by omega
  have hn:=h.node;have hlanes:=hn.ok.lanes;have hmono:=hn.inv.rZ (Nat.le_succ t);have l13:=hn.ld 13 (jC y c) rfl;obtain⟨b,oo,a1,a2⟩:=hn.yL ho;obtain⟨_,_,_,a3⟩:=a2 _ (.inl hn);obtain⟨H1,m1,x1⟩:=aAY hn (by omega) (m:=m-1) (by omega) hi ho
  have h1:=h.ext x1;obtain⟨_,_,_,a4⟩:=a2 _ (.inl h1.node);have l13':=h1.node.ld 13 (jC y c) rfl;have hwi:NInv c (t+1) {s with whl:=up1 s.whl o (kN c.weights (s.whl o) (gM c s i o)).2}:={hmono with whl:=aKP hmono.whl (aKR hn.ok (hmono.whl o) _)};obtain⟨H2,w1,g2,mv2⟩:=aNk h1.node (m:=m-1) (by omega) ho hwi
  have h2:=h1.vE g2 mv2;have hb2:=TickS.b15 ((Mv.pP x1 (Un F)).pQ mv2) hmb hmF;cases hpk:(kN c.weights (s.whl o) (gM c s i o)).1 with
  |none=>
    obtain⟨w',hw'⟩: ∃w',kN c.weights (s.whl o) (gM c s i o)=(none,w'):=⟨_,Prod.ext hpk rfl⟩;have hr:o7 c s i o=(s,[]):=by unfold o7;rw[hw']
    have hww:=aNj hw';rw[hw'] at h2 w1;simp only at h2 w1;rw[hww,aNi] at h2;have c1:decide ((-1:Int)<0)=true:=rfl;refine⟨H2,_,dF (cL rfl) hm0 ?_,rfl,hb2.1,F,?_,hb2.2⟩
    · rw[Nm]
      simp -implicitDefEqProofs only[gsR,l13,a1,a3,m1,a4,wY,l13',Cr,w1,pI,c1]
    · rw[hr]
      rw[List.append_nil];exact h2
  |some k=>
    obtain⟨w',hw'⟩: ∃w',kN c.weights (s.whl o) (gM c s i o)=(some k,w'):=⟨_,Prod.ext hpk rfl⟩;rw[hw'] at h2 w1 hwi;simp only at h2 w1 hwi;obtain⟨hkl,hmk⟩:=aKQ hw';rw[hn.ok.wlen] at hkl;have c1:decide ((k:Int)<0)=false:=by rw[decide_eq_false_iff_not];omega
    -- the queue has one
    have hq0:0<nJ s.rL i o k:=by
      unfold gM at hmk;rw[aO2,aO2,decide_eq_true_eq,decide_eq_true_eq] at hmk;exact hmk.1.2
    obtain⟨x,xs,hq⟩: ∃x xs,lU s.rL ((i:Int),(o:Int),(k:Int))=x::xs:=by
      unfold nJ at hq0;cases hh:lU s.rL ((i:Int),(o:Int),(k:Int)) with
      |nil=>rw[hh] at hq0;simp at hq0
      |cons x xs=>exact⟨x,xs,rfl⟩
    have hxm:x∈lU s.rL ((i:Int),(o:Int),(k:Int)):=by rw[hq];exact aO3 ..
    obtain⟨e,he1,he2,_⟩:=aKO hxm;have hpk0:=hn.inv.rL e he1;rw[he2] at hpk0;have hr:o7 c s i o=if o=0 then({s with whl:=up1 s.whl o w',rL:=oM s.rL ((i:Int),(o:Int),(k:Int)),rcv:=tE s i k,hG:=s.hG++[x]},[])
        else({s with whl:=up1 s.whl o w',rL:=oM s.rL ((i:Int),(o:Int),(k:Int)),rcv:=tE s i k,snd:=up2 s.snd o k (s.snd o k).mW.2},[(kS c o,jV (Po s o k x))]):=by
      unfold o7;rw[hw'];simp only;rw[hq];by_cases h0:o=0
      · rw[if_pos h0,if_pos h0]
        rfl
      · rw[if_neg h0,if_neg h0]
        unfold rF kS;rw[if_neg h0];rfl
    have hi3:NInv c (t+1) {s with whl:=up1 s.whl o w',rL:=oM s.rL ((i:Int),(o:Int),(k:Int))}:={hwi with rL:=λe he=>hwi.rL e (aKN he),rN:=aPa (aKM _ _) hwi.rN}
    obtain⟨H3,F3,p1,g3,mv3⟩:=aNh h2.node (m:=m-1) (by omega) i o k hi3
    have h3:=h2.vE g3 mv3;have hb3:=TickS.b15 mv3 hb2.1 hb2.2;have p1:lvl prog pkN (m-1) (.func 106) [pt y.rg,.int .i64 i,.int .i64 o,.int .i64 k] H2=some (.tuple #[x.dM,.bool true],H3):=by
      rw[p1];show some (Rg.u6 (lU s.rL ((i:Int),(o:Int),(k:Int))),H3)=_
      rw[hq];rfl
    obtain⟨H4,hH4⟩: ∃H4,H4=H3++[eF x]:=⟨_,rfl⟩;have x4:Ext H3 H4:=by rw[hH4];exact Fr.app _ _ _
    have h4:=h3.ext x4;have q4:H4[H3.length]? =some (eF x):=by rw[hH4];exact dJ _ _
    have qF4: ¬Un F3 H3.length:=λhu=>by have:=h3.node.sep.qF _ hu;omega
    have hb4:=TickS.b15 (Mv.pP x4 (Un F3)) hb3.1 hb3.2;have l15:=h2.node.ld 15 (pt y.rg) rfl
    -- behind the pop: the lane of the input is free
    have free: ∃H5,TickS H0 Hs H5 Fs F3 y p ev wv nv c (t+1) {s with whl:=up1 s.whl o w',rL:=oM s.rL ((i:Int),(o:Int),(k:Int)),rcv:=tE s i k} vb cb outs/\H5[H3.length]? =some (eF x)/\H5[mb]? =some (gI zs [])/\
        ((i=0/\H5=H4)∨(0<i/\ ∃u,lvl prog pkN (m-1) (.func 107) [pt (y.rb i k)] H4=some (u,H5))):=by
      by_cases hi0:i=0
      · refine⟨H4,?_,q4,hb4.1,.inl ⟨hi0,rfl⟩⟩
        have:tE s i k=s.rcv:=by unfold tE;rw[if_pos hi0]
        rw[this];exact h4
      · obtain⟨H5,u,r1,r2⟩:=aKa (m:=m-1) (by omega) (h4.node.Gs (by omega) hi hkl) (h4.node.Gt (by omega) i k)
        have hfr:tE s i k=up2 s.rcv i k (s.rcv i k).u5:=by unfold tE;rw[if_neg hi0]
        have hi5:NInv c (t+1) {s with whl:=up1 s.whl o w',rL:=oM s.rL ((i:Int),(o:Int),(k:Int)),rcv:=up2 s.rcv i k (s.rcv i k).u5}:={hi3 with rcv:=Ae hi3.rcv (hi3.rcv i k).aKF};obtain⟨g5,mv5⟩:=h4.node.Pc (by omega) hi hkl r2 hi5
        refine⟨H5,?_,(TickS.b15 mv5 q4 qF4).1,(TickS.b15 mv5 hb4.1 hb4.2).1,.inr ⟨by omega,u,r1⟩⟩
        rw[hfr];exact h4.vE g5 mv5
    obtain⟨H5,h5,q5,hb5,hfree⟩:=free
    -- behind that: it is at the host, or on its way
    have hi5:=h5.node.inv;obtain⟨l0,l1,l2,l3,l4⟩:ld1 (.pointer (some ⟨H3.length,0,none⟩)) H5=some (.int .i64 x.src,H5)/\ld1 (.pointer (some ⟨H3.length,1,none⟩)) H5=some (.int .i64 x.dst,H5)/\ld1 (.pointer (some ⟨H3.length,2,none⟩)) H5=some (.int .i64 x.lane,H5)/\ld1 (.pointer (some ⟨H3.length,3,none⟩)) H5=some (.int .u32 x.body,H5)/\ldN 4 (.pointer (some ⟨H3.length,0,none⟩)) H5=some (x.dM,H5):=⟨cZ q5 rfl,cZ q5 rfl,cZ q5 rfl,cZ q5 rfl,(pX q5).2⟩;have hst:=Pk H3 x;rw[<-hH4] at hst;have ifree:0<i-> ∃bi oi bj oj,aR 3 (jC y c) (.int .i64 (i:Int))=some (.pointer (some ⟨bi,oi,none⟩))/\ld1 (.pointer (some ⟨bi,oi+1,none⟩)) H4=some (mY y c i,H4)/\aR 2 (mY y c i) (.int .i64 (k:Int))=some (.pointer (some ⟨bj,oj,none⟩))/\ld1 (.pointer (some ⟨bj,oj+1,none⟩)) H4=some (pt (y.rb i k),H4):=λhpos=>by
      obtain⟨bi,oi,j1,j2⟩:=h4.node.yL hi;obtain⟨_,_,j3,_⟩:=j2 _ (.inl h4.node);obtain⟨bj,oj,j4,_,_,j5⟩:=h4.node.Cl (by omega) hi hkl
      exact⟨bi,oi,bj,oj,j1,j3,j4,j5⟩
    have l13'':=h4.node.ld 13 (jC y c) rfl;by_cases ho0:o=0
    · rw[if_pos ho0] at hr
      have c3:((o:Int)==0)=true:=by rw[ho0];rfl
      have hgl:s.hG.length<=t:=hn.inv.hG;have hi6:NInv c (t+1) {s with whl:=up1 s.whl o w',rL:=oM s.rL ((i:Int),(o:Int),(k:Int)),rcv:=tE s i k,hG:=s.hG++[x]}:={hi5 with hG:=by simp;omega}
      obtain⟨H6,F6,k1,g6,mv6⟩:=aNg h5.node (m:=m-1) (by omega) x (by show s.hG.length<_;omega) hi6
      have h6:=h5.vE g6 mv6;have hb6:=TickS.b15 mv6 hb5 hb4.2;have l14:=h5.node.ld 14 (pt y.hb) rfl;refine⟨H6,aJ [],dF (cL rfl) hm0 ?_,rfl,hb6.1,F6,by rw[hr,List.append_nil];exact h6,hb6.2⟩
      rw[Nm];rcases hfree with⟨hi0,hH5⟩|⟨hpos,u,r1⟩
      · have c2:decide ((0:Int)<(i:Int))=false:=by rw[decide_eq_false_iff_not];omega
        rw[hH5] at l14 l4 k1;simp -implicitDefEqProofs only[gsR,l13,a1,a3,m1,a4,wY,l13',Cr,w1,pI,c1,l15,p1,pJ,Am,hst,<-hH4,c2,c3,l14,l4,k1]
      · have c2:decide ((0:Int)<(i:Int))=true:=by rw[decide_eq_true_eq];omega
        obtain⟨bi,oi,bj,oj,j1,j2,j3,j4⟩:=ifree hpos;simp -implicitDefEqProofs only[gsR,l13,a1,a3,m1,a4,wY,l13',Cr,w1,pI,c1,l15,p1,pJ,Am,hst,<-hH4,c2,l13'',j1,j2,j3,j4,r1,c3,l14,l4,k1]
    · rw[if_neg ho0] at hr
      have c3:((o:Int)==0)=false:=by rw[beq_eq_false_iff_ne];omega
      obtain⟨H6,r6,p6⟩:=aKg (m:=m-1) (by omega) (h5.node.Cm (by omega) ho hkl) (h5.node.Pd (by omega) o k)
      have hi6:NInv c (t+1) {s with whl:=up1 s.whl o w',rL:=oM s.rL ((i:Int),(o:Int),(k:Int)),rcv:=tE s i k,snd:=up2 s.snd o k (s.snd o k).mW.2}:={hi5 with snd:=Ae hi5.snd (hn.inv.snd o k).aKI};obtain⟨g6,mv6⟩:=h5.node.aAK (by omega) ho hkl p6 hi6
      have h6:=h5.vE g6 mv6;have q6:=(TickS.b15 mv6 q5 qF4).1;have hb6:=TickS.b15 mv6 hb5 hb4.2;obtain⟨n0,n1,n3⟩:ld1 (.pointer (some ⟨H3.length,0,none⟩)) H6=some (.int .i64 x.src,H6)/\ld1 (.pointer (some ⟨H3.length,1,none⟩)) H6=some (.int .i64 x.dst,H6)/\ld1 (.pointer (some ⟨H3.length,3,none⟩)) H6=some (.int .u32 x.body,H6):=⟨cZ q6 rfl,cZ q6 rfl,cZ q6 rfl⟩;obtain⟨H7,s7,h7,hk7⟩:=Pn h6 (m:=m-1) (by omega) ho (aNn s o k x (by omega) hpk0.body) hl
      have hb7:=hk7 mb _ _ _ hb6.1 (by decide) hmv
      obtain⟨bi',oi',i1,i2⟩:=h5.node.yL ho;obtain⟨_,_,i3,_⟩:=i2 _ (.inl h5.node);obtain⟨rfl,rfl⟩:bi'=b/\oi'=oo:=by
        have:=i1.symm.trans a1;simpa using this
      obtain⟨bj',oj',i4,_,i5,_⟩:=h5.node.Cl (by omega) ho hkl
      have l13c:=h5.node.ld 13 (jC y c) rfl;have ek:IntKind.u8.wrap (k:Int)=(k:Int):=by rw[Bf];omega
      have eq:IntKind.u16.wrap ((s.snd o k).mW.1:Int)=(((s.snd o k).mW.1%65536:Nat):Int):=B5 _;have ebl:=aNm s o k x hpk0.body.1 (by omega)
      have r6:lvl prog pkN (m-1) (.func 109) [pt (y.sb o k)] H5=some (.tuple #[.int .u64 (s.snd o k).mW.1,.bool (decide ((s.snd o k).l≠(s.snd o k).s))],H6):=r6;refine⟨H7,aJ [],dF (cL rfl) hm0 ?_,rfl,hb7,F3,by rw[hr];exact h7,hb6.2⟩
      rw[Nm];rcases hfree with⟨hi0,hH5⟩|⟨hpos,u,r1⟩
      · have c2:decide ((0:Int)<(i:Int))=false:=by rw[decide_eq_false_iff_not];omega
        rw[hH5] at l13c i3 i5 r6;simp -implicitDefEqProofs only[gsR,Nat.add_zero,l13,a1,a3,m1,a4,wY,l13',Cr,w1,pI,c1,l15,p1,pJ,Am,hst,<-hH4,c2,c3,l13c,i1,i3,i4,i5,r6,fF _ _ iU u8U,fF _ _ qL lV,ek,eq,n0,n1,n3,Bf,ebl,s7]
      · have c2:decide ((0:Int)<(i:Int))=true:=by rw[decide_eq_true_eq];omega
        obtain⟨bi,oi,bj,oj,j1,j2,j3,j4⟩:=ifree hpos;simp -implicitDefEqProofs only[gsR,Nat.add_zero,l13,a1,a3,m1,a4,wY,l13',Cr,w1,pI,c1,l15,p1,pJ,Am,hst,<-hH4,c2,l13'',j1,j2,j3,j4,r1,c3,l13c,i1,i3,i4,i5,r6,fF _ _ iU u8U,fF _ _ qL lV,ek,eq,n0,n1,n3,Bf,ebl,s7]
end
def exF (s:NS)(c:Cfg)(i k:Nat):k8:=[rF c i ⟨3,k,(s.snd i k).s%65536,0,0,0⟩,rF c i ⟨2,k,(s.rcv i k).mC c.room%65536,0,0,0⟩]
def sB (s:NS)(c:Cfg)(i k:Nat):k8:=(List.range k).flatMap (exF s c i)
def exP (s:NS)(c:Cfg)(i:Nat):k8:=if i=0 then [] else sB s c i c.lanes
def pY (s:NS)(c:Cfg)(i:Nat):k8:=(List.range i).flatMap (exP s c)
theorem aA4 (s:NS)(c:Cfg)(i k:Nat):sB s c i (k+1)=sB s c i k++exF s c i k:=by
 unfold sB;rw[aPt,List.flatMap_append];simp
theorem Pr (s:NS)(c:Cfg)(i:Nat):pY s c (i+1)=pY s c i++exP s c i:=by
 unfold pY;rw[aPt,List.flatMap_append];simp
theorem Pp (s:NS)(c:Cfg)(i:Nat): ∀k,(sB s c i k).length=2*k
 |0=>rfl
 |k+1=>by
  rw[aA4,aO6,Pp s c i k];simp[exF];omega
theorem aA5 (s:NS)(c:Cfg)(h3:c.lanes<=3): ∀i,(pY s c i).length<=6*i
 |0=>by simp[pY]
 |i+1=>by
  rw[Pr,aO6];have:=aA5 s c h3 i;have:(exP s c i).length<=6:=by
   unfold exP;split
   ·simp
   ·rw[Pp]
    omega
  omega
theorem aNr (s:NS)(c:Cfg):oL c s=pY s c c.aH:=by
 unfold oL pY Cfg.aH;rw[List.range_succ_eq_map,List.flatMap_cons,List.flatMap_map];have:exP s c 0=[]:=rfl;rw[this,List.nil_append];rfl
section
variable {H0 Hs H : aC} {Fs F : Part → Nat → Prop} {y : Lay} {p : PlanD} {ev wv nv : Value} {c : Cfg} {t : Nat} {s : NS} {m : Nat} {vb cb : Nat} {outs : k8}
theorem aNq (k q:Nat):bld prog 39 [(0,.int .u8 3),(1,.int .u8 k),(2,.int .u16 q)]=some (frV ⟨3,k,q,0,0,0⟩):=rfl
theorem aNp (k q:Nat):bld prog 39 [(0,.int .u8 2),(1,.int .u8 k),(2,.int .u16 q)]=some (frV ⟨2,k,q,0,0,0⟩):=rfl
theorem aA6 (a k q:Nat)(ha:a<256)(hk:k<256):(⟨a,k,q%65536,0,0,0⟩:Frm).ok:=⟨ha,hk,Nat.mod_lt _ (by decide),by show 0<256;decide,by show 0<256;decide,by show 0<4294967296;decide⟩
theorem aNs {i:Nat}(h1:1<=i)(hi:i<c.aH)(h3:c.lanes<=3)(ht:t<100000000)(hol:outs.length<900)(hm:220<m){K:Ex->K (Value×aC)}{Q:aC->Value->Prop}
  (hK: ∀H',TickS H0 Hs H' Fs F y p ev wv nv c t s vb cb (outs++sB s c i c.lanes)-> ∀(x2 x3 x4 x5 x6 x7 x8 x9 bK aP aM aS bI aN bG bJ bL bH bE aT aU aV aW aX aY aZ bA bB bO bP bQ bR bS bT bU bV bX bY cD cG cH cK cQ:Value),∃H2 r,Fv (lvl prog pkN m) (aI m) K (pt y.nb) (sA vb cb) x2 x3 x4 x5 x6 x7 x8 x9 bK (jC y c) (.int .i64 c.aH) (.int .i64 (i:Nat)) aP aM aS bI aN bG bJ bL bH bE aT aU aV aW aX aY aZ bA bB bO bP bQ bR bS bT bU bV bX bY cD cG cH cK cQ H'=some (r,H2)/\Q H2 r):
  ∀(q k l:Nat)(H:aC),c.lanes-k=q->k<=c.lanes->q<l->TickS H0 Hs H Fs F y p ev wv nv c t s vb cb (outs++sB s c i k)-> ∀(x2 x3 x5 x6 x7 x8 x9 bK aP aM aS bI aN bH bE aT aU aV aW aX aY aZ bA bB bO bP bQ bR bS bT bU bV bX bY cD cG cH cK cQ:Value),
  ∃H2 r,aI l (aK prog (lvl prog pkN m) (aI m) Np) (Nr (lvl prog pkN m) (aI m) K) [(pt y.nb),(sA vb cb),x2,x3,(.int .i64 (i:Nat)),x5,x6,x7,x8,x9,bK,(jC y c),(.int .i64 c.aH),(.int .i64 (i:Nat)),aP,aM,aS,bI,aN,(mY y c i),(.int .i64 c.lanes),(.int .i64 (k:Nat)),bH,bE,aT,aU,aV,aW,aX,aY,aZ,bA,bB,bO,bP,bQ,bR,bS,bT,bU,bV,bX,bY,cD,cG,cH,cK,cQ] H=some (r,H2)/\Q H2 r:=by
 intro q;induction q with
 |zero=>
  intro k l H hq hk hl h;intros;obtain⟨l,rfl⟩: ∃l',l=l'+1:=⟨l-1,by omega⟩
  have hke:k=c.lanes:=by omega
  subst hke;have c1:decide ((c.lanes:Int)<(c.lanes:Int))=false:=by simp
  rw[aI,Nn];simp -implicitDefEqProofs only[gsR,c1];rw[Yo];exact hK H h ..
 |succ q ih=>
  intro k l H hq hk hl h;intros;obtain⟨l,rfl⟩: ∃l',l=l'+1:=⟨l-1,by omega⟩
  have hkl:k<c.lanes:=by omega
  have c1:decide ((k:Int)<(c.lanes:Int))=true:=by rw[decide_eq_true_eq];omega
  have hil:=Pp s c i k;obtain⟨b,o,a1,a2,_,_⟩:=h.node.Cl h1 hi hkl;have a2:ldN 2 (.pointer (some ⟨b,o,none⟩)) H=some (.agg #[pt (y.sb i k),pt (y.rb i k)],H):=a2;obtain⟨H1,hH1⟩: ∃H1,H1=H++[gN (pt (y.sb i k)) (pt (y.rb i k))]:=⟨_,rfl⟩;have x1:Ext H H1:=by rw[hH1];exact Fr.app _ _ _
  have g1:=h.ext x1;have st:=Pj H (pt (y.sb i k)) (pt (y.rb i k)) rfl;rw[<-hH1] at st;have b1:H1[H.length]? =some (gN (pt (y.sb i k)) (pt (y.rb i k))):=by rw[hH1];exact dJ _ _
  have l0:=(vA b1).2.1;have s1:=Y7 (m:=m) (by omega) (g1.node.Cm h1 hi hkl)
  have ek:IntKind.u8.wrap (k:Int)=(k:Int):=by rw[Bf];omega
  have e1:IntKind.u16.wrap ((s.snd i k).s:Int)=(((s.snd i k).s%65536:Nat):Int):=B5 _;obtain⟨H2,r1,g2,k2⟩:=Pn g1 (m:=m) (by omega) hi (aA6 3 k (s.snd i k).s (by decide) (by omega)) (by rw[aO6];omega)
  have hvb:H.length≠vb:=λhh=>by
   obtain⟨v,us,r,_⟩:=h.rows;have:=dE r;omega
  have b2:H2[H.length]? =some (gN (pt (y.sb i k)) (pt (y.rb i k))):=k2 _ _ _ _ b1 (by decide) hvb
  have l1:=(vA b2).2.2;have s2:=aKc (m:=m) (by omega) (g2.node.Gs h1 hi hkl) (g2.node.Gt (by omega) i k)
  have e2:IntKind.u16.wrap (((s.rcv i k).mC c.room:Nat):Int)=(((s.rcv i k).mC c.room%65536:Nat):Int):=B5 _;obtain⟨H3,r2,g3,_⟩:=Pn g2 (m:=m) (by omega) hi (aA6 2 k ((s.rcv i k).mC c.room) (by decide) (by omega)) (by simp only[aO6,aPg,List.length_nil];omega)
  have e9:=oO k (by omega)
  have hto:kS c i=c.by'.getD (i-1) 0:=by unfold kS;rw[if_neg (by omega)]
  have hnext:outs++sB s c i k++[(kS c i,jV ⟨3,k,(s.snd i k).s%65536,0,0,0⟩)]++[(kS c i,jV ⟨2,k,(s.rcv i k).mC c.room%65536,0,0,0⟩)]=outs++sB s c i (k+1):=by
   rw[aA4,hto];simp[exF,rF]
  rw[hnext] at g3;rw[aI,Nn];simp -implicitDefEqProofs only[gsR,c1,a1,a2,Cp,st,fF _ _ iU u8U,ek,l0,s1,fF _ _ qL lV,e1,aNq,r1,l1,s2,e2,aNp,r2,cC,e9];exact ih (k+1) l H3 (by omega) (by omega) (by omega) g3 ..
theorem aNu (h3:c.lanes<=3)(h6:c.aH<=6)(ht:t<100000000)(hol:outs.length<800)(hm:300<m):
  ∀(q i l:Nat)(H:aC),c.aH-i=q->i<=c.aH->q<l->TickS H0 Hs H Fs F y p ev wv nv c t s vb cb (outs++pY s c i)-> ∀(x2 x3 x4 x5 x6 x7 x8 x9 bK aP aM aS bI aN bG bJ bL bH bE aT aU aV aW aX aY aZ bA bB bO bP bQ bR bS bT bU bV bX bY cD cG cH cK cQ:Value),
  ∃H2 r,aI l (aK prog (lvl prog pkN m) (aI m) No) (Nq (lvl prog pkN m) (aI m)) [(pt y.nb),(sA vb cb),x2,x3,x4,x5,x6,x7,x8,x9,bK,(jC y c),(.int .i64 c.aH),(.int .i64 (i:Nat)),aP,aM,aS,bI,aN,bG,bJ,bL,bH,bE,aT,aU,aV,aW,aX,aY,aZ,bA,bB,bO,bP,bQ,bR,bS,bT,bU,bV,bX,bY,cD,cG,cH,cK,cQ] H=some (r,H2)/\(r=aJ []/\TickS H0 Hs H2 Fs F y p ev wv nv c t s vb cb (outs++oL c s)):=by
 intro q;induction q with
 |zero=>
  intro i l H hq hi hl h;intros;obtain⟨l,rfl⟩: ∃l',l=l'+1:=⟨l-1,by omega⟩
  have hie:i=c.aH:=by omega
  subst hie;have c1:decide ((c.aH:Int)<(c.aH:Int))=false:=by simp
  rw[aI,Yn];simp -implicitDefEqProofs only[gsR,c1];rw[aJI];rw[aNr]
  exact⟨_,_,rfl,rfl,h⟩
 |succ q ih=>
  intro i l H hq hi hl h;intros;obtain⟨l,rfl⟩: ∃l',l=l'+1:=⟨l-1,by omega⟩
  have hil:i<c.aH:=by omega
  have c1:decide ((i:Int)<(c.aH:Int))=true:=by rw[decide_eq_true_eq];omega
  have hul:=aA5 s c h3 i;obtain⟨b,o,a1,a2⟩:=h.node.yL hil;obtain⟨a3,_,_,_⟩:=a2 _ (.inl h.node);obtain⟨H1,hH1⟩: ∃H1,H1=H++[nV y c i]:=⟨_,rfl⟩;have x1:Ext H H1:=by rw[hH1];exact Fr.app _ _ _
  have g1:=h.ext x1;have hlv:dZ [mY y c i]=true:=by unfold mY;split<;>rfl
  have st:stN 3 (.pointer (some ⟨H.length,0,none⟩)) (.agg ⟨gQ y c i⟩) (H++[Blk.cells [Value.int .i64 0,.slice none 0 0,.pointer none] 94 .fix])=some (undef,H1):=by
   rw[zW (n:=3) (vs:=gQ y c i) (dJ H _) (by decide) rfl rfl (aOZ 3) (by unfold gQ mY;split<;>rfl),nG,hH1]
   rfl
  have b1:H1[H.length]? =some (nV y c i):=by rw[hH1];exact dJ _ _
  have l1:ld1 (.pointer (some ⟨H.length,1,none⟩)) H1=some (mY y c i,H1):=cZ b1 rfl;have e9:=oO i (by omega)
  rw[aI,Yn];by_cases hi0:i=0
  ·have e1:bM (mY y c i)=some (.int .i64 0):=by unfold mY;rw[if_pos hi0];rfl
   simp -implicitDefEqProofs only[gsR,c1,a1,a3,st,l1,e1];have hx:outs++pY s c (i+1)=outs++pY s c i:=by rw[Pr];unfold exP;rw[if_pos hi0,List.append_nil]
   obtain⟨m',hm'⟩: ∃m',m=m'+1:=⟨m-1,by omega⟩
   have c2:decide ((0:Int)<0)=false:=rfl;rw[show aI m=aI (m'+1) by rw[hm'],aI,<-hm',Nn]
   simp -implicitDefEqProofs only[gsR,c2];rw[Yo];unfold Fv;simp -implicitDefEqProofs only[gsR,cC,e9];exact ih (i+1) l H1 (by omega) (by omega) (by omega) (by rw[hx];exact g1) ..
  ·have e1:bM (mY y c i)=some (.int .i64 c.lanes):=by unfold mY;rw[if_neg hi0];rfl
   simp -implicitDefEqProofs only[gsR,c1,a1,a3,st,l1,e1];refine aNs (outs:=outs++pY s c i) (by omega) hil h3 ht (by rw[aO6];omega) (by omega) ?_ c.lanes 0 m H1 (by omega) (by omega) (by omega) (by unfold sB;simpa using g1) ..
   intro H' h';intros;unfold Fv;simp -implicitDefEqProofs only[gsR,cC,e9];have hx:outs++pY s c (i+1)=outs++pY s c i++sB s c i c.lanes:=by rw[Pr];unfold exP;rw[if_neg hi0,aO1]
   exact ih (i+1) l H' (by omega) (by omega) (by omega) (by rw[hx];exact h') ..
theorem aNt (h:TickS H0 Hs H Fs F y p ev wv nv c t s vb cb outs)(ht:t<100000000)(hol:outs.length<800)(hm:400<m):
  ∃H2,lvl prog pkN m (.func 53) [pt y.nb,sA vb cb] H=some (aJ [],H2)/\TickS H0 Hs H2 Fs F y p ev wv nv c t s vb cb (outs++oL c s):=by
 have h6:c.aH<=6:=by have:=h.node.ok.by';unfold Cfg.aH;omega
 have main: ∃H2 r,lvl prog pkN m (.func 53) [pt y.nb,sA vb cb] H=some (r,H2)/\(r=aJ []/\TickS H0 Hs H2 Fs F y p ev wv nv c t s vb cb (outs++oL c s)):=by
  refine jJ (cL rfl) (by omega) ?_
  rw[aJJ];have l13:=h.node.ld 13 (jC y c) rfl;have e1:bM (jC y c)=some (.int .i64 c.aH):=rfl;simp -implicitDefEqProofs only[gsR,l13,e1];exact aNu h.node.ok.lanes.2 h6 ht hol (by omega) c.aH 0 (m-1) H (by omega) (by omega) (by omega) (by unfold pY;simpa using h) ..
 obtain⟨H2,r,g1,rfl,g2⟩:=main
 exact⟨H2,g1,g2⟩
end
theorem aA7 (c:Cfg)(m:List Int): ∀(l1 l2:List Nat)(s:NS×k8),rD c m (l1++l2) s=rD c m l2 (rD c m l1 s)
 |[],_,_=>rfl
 |i::l1,l2,s=>by rw[List.cons_append,rD,rD,aA7 c m l1 l2]
def iK (c:Cfg)(m:List Int)(s:NS)(i:Nat):NS×k8:=rD c m (List.range i) (s,[])
theorem Pu (c:Cfg)(m:List Int)(s:NS)(i:Nat):iK c m s (i+1)=if 0<=m.getD i 0 then((o7 c (iK c m s i).1 i (m.getD i 0).toNat).1,(iK c m s i).2++(o7 c (iK c m s i).1 i (m.getD i 0).toNat).2) else iK c m s i:=by
 unfold iK;rw[aPt,aA7];rfl
theorem aNz (c:Cfg)(s:NS)(i o:Nat):(o7 c s i o).2.length<=1:=by
 unfold o7;split
 ·simp
 ·simp only
  split<;>simp
theorem aNA (c:Cfg)(s:NS)(i o:Nat):(o7 c s i o).1.ticks=s.ticks:=by
 unfold o7;split
 ·rfl
 ·simp only
  split<;>rfl
theorem Pt (c:Cfg)(m:List Int)(s:NS): ∀i,(iK c m s i).2.length<=i
 |0=>by simp[iK,rD]
 |i+1=>by
  have:=Pt c m s i;have:=aNz c (iK c m s i).1 i (m.getD i 0).toNat;rw[Pu];split
  ·simp only[aO6]
   omega
  ·omega
theorem Pv (c:Cfg)(m:List Int)(s:NS): ∀i,(iK c m s i).1.ticks=s.ticks
 |0=>rfl
 |i+1=>by
  rw[Pu];split
  ·simp only
   rw[aNA,Pv c m s i]
  ·exact Pv c m s i
theorem aNx (c:Cfg)(s:NS)(k:Nat):(lA c s k).ticks=s.ticks:=by
 unfold lA;split
 ·rfl
 ·split<;>rfl
theorem aNy (c:Cfg)(s:NS):(o5 c s).ticks=s.ticks:=by
 unfold o5;have: ∀(l:List Nat)(s:NS),(l.foldl (lA c) s).ticks=s.ticks:=by
  intro l;induction l with
  |nil=>intro s;rfl
  |cons k l ih=>intro s;rw[List.foldl_cons,ih,aNx]
 exact this _ _
theorem aNw (i:Nat)(hi:i<1000000000):IntKind.i64.wrap ((i:Int)+1)=((i+1:Nat):Int):=by rw[dG (by omega) (by omega)];omega
section
variable {H0 Hs H : aC} {Fs F : Part → Nat → Prop} {y : Lay} {p : PlanD} {ev wv nv : Value} {c : Cfg} {t : Nat} {s : NS} {m : Nat} {vb cb : Nat} {outs : k8}
def Ps (H0 Hs:aC)(Fs:Part->Nat->Prop)(y:Lay)(p:PlanD)(ev wv nv:Value)(c:Cfg)(t:Nat)(s':NS)(vb cb:Nat)(outs:k8)(H':aC)(v:Value):Prop:=
 ∃F' us,TickS H0 Hs H' Fs F' y p ev wv nv c t s' vb cb outs/\OutR H' (λb=>Hs.length<=b/\ ¬Un F' b) v us outs
theorem NodeAt.aNv (h:NodeAt H0 H F y p ev wv nv c t s)(hi:NInv c t {s with ticks:=s.ticks+1}):
  NodeAt H0 (H.set y.nb (wV p.bag ev wv nv y c (s.ticks+1))) F y p ev wv nv c t {s with ticks:=s.ticks+1}/\Mv (Un F) (Un F) H (H.set y.nb (wV p.bag ev wv nv y c (s.ticks+1))):=by
 have hB:=h.sep.see .node rfl yM;refine h.Ck .node (l:=mM p.bag ev wv nv y c s.ticks) (l':=mM p.bag ev wv nv y c (s.ticks+1)) rfl yM ?_ ?_ ?_ hi rfl ?_
 ·intro q hq
  simp only[mM,aPd,aPx] at hq;rcases hq with rfl|rfl|⟨j,hj,rfl⟩
  ·exact⟨_,aO3 ..,rfl⟩
  ·exact⟨_,aPb _ (aO3 ..),rfl⟩
  ·exact⟨(y.lb (j+1),oQ y c (j+1)),by simp only[mM,aPd,aPx];exact .inr (.inr ⟨j,hj,rfl⟩),rfl⟩
 ·exact⟨by simp,λb hb hn=>aOV λhh=>hn ⟨_,aO3 ..,hh⟩⟩
 ·intro q hq
  have hnb:=h.nbB;simp only[mM,aPd,aPx] at hq;rcases hq with rfl|rfl|⟨j,hj,rfl⟩
  ·exact iE hnb
  ·have h2:H[y.pb]? =some (yN y c):=hB (y.pb,yN y c) (by simp[mM])
   simp only;rw[aOV (λhh=> ?_),h2]
   rw[<-hh,hnb] at h2;injection h2 with h2;injection h2 with _ h2 _
   revert h2
   decide
  ·have h2:H[y.lb (j+1)]? =some (oQ y c (j+1)):=hB (y.lb (j+1),oQ y c (j+1)) (by simp only[mM,aPd,aPx];exact .inr (.inr ⟨j,hj,rfl⟩))
   simp only;rw[aOV (λhh=> ?_),h2]
   rw[<-hh,hnb] at h2;injection h2 with h2;injection h2 with _ h2 _
   revert h2
   decide
 ·intro j hj
  cases j with
  |node=>exact absurd rfl hj
  |_=>rfl
theorem aNB (h:TickS H0 Hs H Fs F y p ev wv nv c t s vb cb outs)(ht:t<10000000)(hol:outs.length<700)(hm:500<m)(htk:s.ticks+1<=t+1):
  ∀(x0 x2 x5 x6 x7 x8 x9 bK bN bC aO aP aM aS bI aN bG bJ bL bH bE aT aU aV aW aX aY aZ bA bB bO bP bQ bR bS bT bU bV bX bY cD cG cH cK cQ cS cT cM cN cO cP cW cU cV cY:Value),∃H2 r,Ft (lvl prog pkN m) (aI m) x0 (pt cb) x2 (pt vb) (sA vb cb) x5 x6 x7 x8 x9 bK bN bC aO aP aM aS bI aN bG bJ bL bH bE aT aU aV aW aX aY aZ bA bB bO bP bQ bR bS bT bU bV bX bY cD cG cH cK cQ cS cT cM cN cO cP cW cU cV cY H=some (r,H2)/\
   Ps H0 Hs Fs y p ev wv nv c (t+1) {s with ticks:=s.ticks+1} vb cb (if(s.ticks+1)%c.every=0 then outs++oL c s else outs) H2 r:=by
 intros;have lc:ld1 (pt cb) H=some (pt y.nb,H):=cZ h.cell rfl;have l16:=h.node.ld 16 (.int .i64 s.ticks) rfl;have e1:=aNw s.ticks (by omega)
 have hi:NInv c (t+1) {s with ticks:=s.ticks+1}:={h.node.inv.rZ (Nat.le_succ t) with ticks:=htk};have hn:NodeAt H0 H F y p ev wv nv c (t+1) s:={h.node with inv:=h.node.inv.rZ (Nat.le_succ t)};obtain⟨H1,hH1⟩: ∃H1,H1=H.set y.nb (wV p.bag ev wv nv y c (s.ticks+1)):=⟨_,rfl⟩;have st:stN 1 (.pointer (some ⟨y.nb,16,none⟩)) (.int .i64 ((s.ticks+1:Nat):Int)) H=some (undef,H1):=by rw[hH1];exact kZ h.node.nbB (by decide) (by simp[Pe])
 obtain⟨g1,mv1⟩:=hn.aNv hi;rw[<-hH1] at g1 mv1;have h1:=h.vE g1 mv1;have lc1:ld1 (pt cb) H1=some (pt y.nb,H1):=cZ h1.cell rfl;have l16':=h1.node.ld 16 (.int .i64 (s.ticks+1:Nat)) rfl;have l7:=h1.node.ld 7 (.int .i64 c.every) rfl;have hev:=h.node.ok.every;have r1:bin prog .rem 3 (.int .i64 ((s.ticks+1:Nat):Int)) (.int .i64 c.every)=some (.int .i64 (((s.ticks+1)%c.every:Nat):Int)):=q9 (s.ticks+1) c.every _ rfl (by omega)
 unfold Ft;by_cases hz:(s.ticks+1)%c.every=0
 ·have c1:((((s.ticks+1)%c.every:Nat):Int)==0)=true:=by rw[hz];rfl
  obtain⟨H2,x1,h2⟩:=aNt h1 (m:=m) (by omega) (by omega) (by omega)
  obtain⟨v,us,r,hr⟩:=h2.rows;have lv:ld1 (pt vb) H2=some (v,H2):=cZ r rfl;simp -implicitDefEqProofs only[gsR,lc,l16,cC,e1,st,lc1,l16',l7,r1,c1,x1,lv];refine⟨_,_,rfl,F,us,?_,?_⟩
  ·rw[if_pos hz]
   exact h2
  ·rw[if_pos hz]
   exact hr
 ·have c1:((((s.ticks+1)%c.every:Nat):Int)==0)=false:=by rw[beq_eq_false_iff_ne];omega
  obtain⟨v,us,r,hr⟩:=h1.rows;have lv:ld1 (pt vb) H1=some (v,H1):=cZ r rfl;simp -implicitDefEqProofs only[gsR,lc,l16,cC,e1,st,lc1,l16',l7,r1,c1,lv];refine⟨_,_,rfl,F,us,?_,?_⟩
  ·rw[if_neg hz]
   exact h1
  ·rw[if_neg hz]
   exact hr
theorem aNC {mt:List Int}{mb:Nat}{Q:aC->Value->Prop}(hml:mt.length=c.aH)(hmr: ∀z∈mt,z= -1∨0<=z/\z<(c.aH:Int))(ht:t<9000000)(h6:c.aH<=6)(hmv:mb≠vb)(hm:500<m)
  (hK: ∀(H':aC)(F':Part->Nat->Prop),TickS H0 Hs H' Fs F' y p ev wv nv c (t+c.aH) (iK c mt s c.aH).1 vb cb (iK c mt s c.aH).2-> ∀(x0 x2 x5 x6 x7 x8 x9 bK bN bC aO aP aM aS bI aN bG bJ bL bH bE aT aU aV aW aX aY aZ bA bB bO bP bQ bR bS bT bU bV bX bY cD cG cH cK cQ cS cT cM cN cO cP cW cU cV cY:Value),∃H2 r,Ft (lvl prog pkN m) (aI m) x0 (pt cb) x2 (pt vb) (sA vb cb) x5 x6 x7 x8 x9 bK bN bC aO aP aM aS bI aN bG bJ bL bH bE aT aU aV aW aX aY aZ bA bB bO bP bQ bR bS bT bU bV bX bY cD cG cH cK cQ cS cT cM cN cO cP cW cU cV cY H'=some (r,H2)/\Q H2 r):
  ∀(q i l:Nat)(H:aC)(F:Part->Nat->Prop),c.aH-i=q->i<=c.aH->q<l->TickS H0 Hs H Fs F y p ev wv nv c (t+i) (iK c mt s i).1 vb cb (iK c mt s i).2->H[mb]? =some (gI mt [])-> ¬Un F mb-> ∀(x0 x2 x5 x6 x7 x8 x9 bK bN bC aO aP aM aS bI aN bG bJ aT aU aV aW aX aY aZ bA bB bO bP bQ bR bS bT bU bV bX bY cD cG cH cK cQ cS cT cM cN cO cP cW cU cV cY:Value),
  ∃H2 r,aI l (aK prog (lvl prog pkN m) (aI m) M0) (M1 (lvl prog pkN m) (aI m)) [x0,(pt cb),x2,(pt vb),(sA vb cb),x5,x6,x7,x8,x9,bK,bN,bC,aO,aP,aM,aS,bI,aN,bG,bJ,(eE mb c.aH),(.int .i64 c.aH),(.int .i64 (i:Nat)),aT,aU,aV,aW,aX,aY,aZ,bA,bB,bO,bP,bQ,bR,bS,bT,bU,bV,bX,bY,cD,cG,cH,cK,cQ,cS,cT,cM,cN,cO,cP,cW,cU,cV,cY] H=some (r,H2)/\Q H2 r:=by
 intro q;induction q with
 |zero=>
  intro i l H F hq hi hl h hmb hmF;intros;obtain⟨l,rfl⟩: ∃l',l=l'+1:=⟨l-1,by omega⟩
  have hie:i=c.aH:=by omega
  subst hie;have c1:decide ((c.aH:Int)<(c.aH:Int))=false:=by simp
  rw[aI,Yb];simp -implicitDefEqProofs only[gsR,c1];rw[aJa];exact hK H F h ..
 |succ q ih=>
  intro i l H F hq hi hl h hmb hmF;intros;obtain⟨l,rfl⟩: ∃l',l=l'+1:=⟨l-1,by omega⟩
  have hil:i<c.aH:=by omega
  have c1:decide ((i:Int)<(c.aH:Int))=true:=by rw[decide_eq_true_eq];omega
  obtain⟨a1,a2⟩:=Ai (c:=c.aH) hmb hml hil;have a1:aR 1 (eE mb c.aH) (.int .i64 (i:Int))=some (.pointer (some ⟨mb,i,none⟩)):=a1;have lc:ld1 (pt cb) H=some (pt y.nb,H):=cZ h.cell rfl;have e9:=oO i (by omega)
  have hup:=Pu c mt s i;have hul:=Pt c mt s i;have hz:mt.getD i 0= -1∨0<=mt.getD i 0/\mt.getD i 0<(c.aH:Int):=by
   rw[aOY,aOW (by omega),aPn]
   exact hmr _ (List.getElem_mem _)
  rw[aI,Yb];by_cases hneg:0<=mt.getD i 0
  ·obtain⟨o,ho⟩: ∃o:Nat,mt.getD i 0=o:=⟨(mt.getD i 0).toNat,by omega⟩
   have c2:decide ((0:Int)<=(o:Int))=true:=by rw[decide_eq_true_eq];omega
   rw[if_pos hneg,ho,aPm] at hup;rw[ho] at a2 hz;obtain⟨H1,v,g1,rfl,g2,F1,g3,g4⟩:=aNo h (m:=m) (i:=i) (o:=o) (by omega) (by omega) hil (by omega) (by omega) hmb hmF hmv
   simp -implicitDefEqProofs only[gsR,c1,a1,a2,c2,lc,g1,cC,e9];refine ih (i+1) l H1 F1 (by omega) (by omega) (by omega) ?_ g2 g4 ..
   rw[hup];exact g3
  ·have c2:decide ((0:Int)<=mt.getD i 0)=false:=aPE hneg
   rw[if_neg hneg] at hup;simp -implicitDefEqProofs only[gsR,c1,a1,a2,c2,cC,e9];refine ih (i+1) l H F (by omega) (by omega) (by omega) ?_ hmb hmF ..
   rw[hup];exact {h with node:={h.node with inv:=h.node.inv.rZ (by omega)}}
end
section
variable {H0 Hs H : aC} {Fs F : Part → Nat → Prop} {y : Lay} {p : PlanD} {ev wv nv : Value} {c : Cfg} {t : Nat} {s : NS} {m : Nat}
theorem NodeAt.aND {H':aC}{g' a':List Nat}(h:NodeAt H0 H F y p ev wv nv c t s)(hg:g'.length=s.g.length)(hf:Fr (λb=>b=y.ga∨b=y.aa) H H')(hB:Blks (jX y.ab y.ga y.aa g' a') H')(hi:NInv c t {s with g:=g',a:=a'}):
  NodeAt H0 H' F y p ev wv nv c t {s with g:=g',a:=a'}/\Mv (Un F) (Un F) H H':=by
 refine h.Ck .arb (l:=jX y.ab y.ga y.aa s.g s.a) (l':=jX y.ab y.ga y.aa g' a') rfl aAM ?_ ?_ hB hi rfl ?_
 ·intro q hq
  simp only[jX,aPd,aPk,or_false] at hq;rcases hq with rfl|rfl|rfl
  ·exact⟨_,aO3 ..,rfl⟩
  ·exact⟨_,aPb _ (aO3 ..),rfl⟩
  ·exact⟨_,aPb _ (aPb _ (aO3 ..)),rfl⟩
 ·refine hf.Bb λb hb=> ?_
  rcases hb with rfl|rfl
  ·exact⟨_,aPb _ (aO3 ..),rfl⟩
  ·exact⟨_,aPb _ (aPb _ (aO3 ..)),rfl⟩
 ·intro j hj
  cases j with
  |arb=>exact absurd rfl hj
  |_=>rfl
theorem G9 (h:NodeAt H0 H F y p ev wv nv c t s)(ht:t<8000000)(hm:600<m):
  ∃H' F' v us,lvl prog pkN m (.func 13) [pt y.nb] H=some (v,H')/\NodeAt H0 H' F' y p ev wv nv c (t+7) (lB c s).1/\Mv (Un F) (Un F') H H'/\OutR H' (λb=>H.length<=b/\ ¬Un F' b) v us (lB c s).2:=by
 have h6:c.aH<=6:=by have:=h.ok.by';unfold Cfg.aH;omega
 have hp1:1<=c.aH:=by unfold Cfg.aH;omega
 obtain⟨H1,hH1⟩: ∃H1,H1=H++[pnB y.nb]:=⟨_,rfl⟩;obtain⟨H2,hH2⟩: ∃H2,H2=H1++[wZ (.slice none 0 0)]:=⟨_,rfl⟩;have e1:H++[Blk.cells (Value.cells (pt y.nb)).toList 30 .fix]=H1:=by rw[hH1];rfl
 have e2:H1++[Blk.cells [Value.slice none 0 0] 35 .fix]=H2:=by rw[hH2];rfl
 have x1:Ext H H1:=by rw[hH1];exact Fr.app _ _ _
 have x2:Ext H1 H2:=by rw[hH2];exact Fr.app _ _ _
 have h1l:H1.length=H.length+1:=by rw[hH1];simp
 have bc:H2[H.length]? =some (pnB y.nb):=by
  have:H1[H.length]? =some (pnB y.nb):=by rw[hH1];exact dJ _ _
  rw[x2.2 _ (dE this) id,this]
 have bv:H2[H1.length]? =some (wZ (.slice none 0 0)):=by rw[hH2];exact dJ _ _
 have hnew: ∀b,H.length<=b-> ¬Un F b:=λb hb hu=>by have:=h.sep.qF b hu;omega
 have g2:=(h.hP x1).hP x2;have T2:TickS H0 H H2 F F y p ev wv nv c t s H1.length H.length []:=
  ⟨g2,Mv.pP (x1.tr x2) _,h.ext.1,bc,hnew _ (aOZ _),hnew _ (by omega),by omega,.slice none 0 0,[],bv,⟨Rw.lQ,λb ⟨_,_,_,hh⟩=>(by cases hh),rfl,λi u o hu _=>(by cases hu)⟩⟩
 have lc2:ld1 (pt H.length) H2=some (pt y.nb,H2):=cZ T2.cell rfl;obtain⟨H3,F3,f1,f2,f3⟩:=aM3 g2 (m:=m-1) (by omega)
 have T3:=T2.vE f2 f3;obtain⟨s1,hs1⟩: ∃s1,s1=o5 c s:=⟨_,rfl⟩;rw[<-hs1] at T3;have lc3:ld1 (pt H.length) H3=some (pt y.nb,H3):=cZ T3.cell rfl;have n0:=T3.node.ld 0 (pt y.ab) rfl;obtain⟨H4,k1,k2,x4⟩:=aMY T3.node (m:=m-1) (by omega) (by omega)
 have T4:=T3.ext x4;have lc4:ld1 (pt H.length) H4=some (pt y.nb,H4):=cZ T4.cell rfl;have n0':=T4.node.ld 0 (pt y.ab) rfl;have n6:=T4.node.ld 6 (.int .i64 c.rounds) rfl;have n6':=T3.node.ld 6 (.int .i64 c.rounds) rfl;have hI:=T4.node.inv;have hr:=T4.node.ok.rounds;obtain⟨H5,mb,r1,r2,r3,r4,r5⟩:=aMm (m:=m-1) (H:=H4) (ab:=y.ab) (ga:=y.ga) (aa:=y.aa) (g:=s1.g) (a:=s1.a) (n:=c.aH) (rows:=lD c s1 c.aH 0) (qb:=H3.length) (rounds:=c.rounds)
  (T4.node.sep.see .arb rfl aAM) h.lay.ga hI.gl hI.al hI.g hI.a hp1 (by omega) k2 (vB _ _ _ _) (aMV (by omega)) hr.1 (by omega) (by omega)
 rw[aMW] at r2 r5;obtain⟨mt,hmt⟩: ∃mt,mt=oI (mD c s1) c.aH c.rounds s1.g s1.a:=⟨_,rfl⟩;rw[<-hmt] at r2 r5;have hM:MatI c.aH mt:=by rw[hmt];exact MatI.aKz (by omega) hI.gl hI.al hI.g hI.a
 have hi5:NInv c t {s1 with g:=mt.g,a:=mt.a}:={hI with gl:=hM.gl,al:=hM.al,g:=hM.g,a:=hM.a};obtain⟨g5,mv5⟩:=T4.node.aND (hM.gl.trans hI.gl.symm) r4 r5 hi5;have T5:=T4.vE g5 mv5;obtain⟨s2,hs2⟩: ∃s2:NS,s2={s1 with g:=mt.g,a:=mt.a}:=⟨_,rfl⟩;rw[<-hs2] at T5;have hmbF: ¬Un F3 mb:=λhu=>by have:=T4.node.sep.qF mb hu;omega
 have hmbv:mb≠H1.length:=λhh=>by
  obtain⟨v,us,r,_⟩:=T4.rows;have:=dE r;omega
 have e5:bM (eE mb c.aH)=some (.int .i64 c.aH):=rfl;have hut:=Pv c mt.m s2 c.aH;have hst:s2.ticks=s.ticks:=by rw[hs2];show s1.ticks=_;rw[hs1,aNy]
 have hres:lB c s=({(iK c mt.m s2 c.aH).1 with ticks:=(iK c mt.m s2 c.aH).1.ticks+1},if((iK c mt.m s2 c.aH).1.ticks+1)%c.every=0 then(iK c mt.m s2 c.aH).2++oL c (iK c mt.m s2 c.aH).1 else(iK c mt.m s2 c.aH).2):=by
  rw[hut,hst];unfold lB iK;simp only;rw[hs2,hmt,hs1]
 have main: ∃H' v,lvl prog pkN m (.func 13) [pt y.nb] H=some (v,H')/\
   Ps H0 H F y p ev wv nv c (t+c.aH+1) {(iK c mt.m s2 c.aH).1 with ticks:=(iK c mt.m s2 c.aH).1.ticks+1} H1.length H.length (if((iK c mt.m s2 c.aH).1.ticks+1)%c.every=0 then(iK c mt.m s2 c.aH).2++oL c (iK c mt.m s2 c.aH).1 else(iK c mt.m s2 c.aH).2) H' v:=by
  refine jJ (cL rfl) (by omega) ?_
  rw[aJb];have e4:(Value.func (.func _) #[] #[pt H1.length,pt H.length])=sA H1.length H.length:=rfl;simp -implicitDefEqProofs only[gsR,e1,e2,lc2,f1,lc3,n0,k1,n0',wY,lc4,n6,n6',Cj,r1,e5];have T5':TickS H0 H H5 F F3 y p ev wv nv c (t+0) (iK c mt.m s2 0).1 H1.length H.length (iK c mt.m s2 0).2:=T5;refine aNC (Q:=λH' v=>Ps H0 H F y p ev wv nv c (t+c.aH+1) {(iK c mt.m s2 c.aH).1 with ticks:=(iK c mt.m s2 c.aH).1.ticks+1} H1.length H.length (if((iK c mt.m s2 c.aH).1.ticks+1)%c.every=0 then(iK c mt.m s2 c.aH).2++oL c (iK c mt.m s2 c.aH).1 else(iK c mt.m s2 c.aH).2) H' v)
   hM.ml hM.m (by omega) h6 hmbv (by omega) ?_ c.aH 0 (m-1) H5 F3 (by omega) (by omega) (by omega) T5' r2 hmbF ..
  intro H' F' h';intros;have hul:=Pt c mt.m s2 c.aH;refine aNB h' (by omega) (by omega) (by omega) ?_ ..
  rw[hut,hst];have:=h.inv.ticks;omega
 obtain⟨H',v,q1,F',us,q2,q3⟩:=main;rw[hres];refine⟨H',F',v,us,q1,{q2.node with inv:=q2.node.inv.rZ (by omega)},q2.mv,q3⟩
end
theorem aA8: ∀zs:List Int,(zs.map inC).flatten=zs.map λz:Int=>Value.int .i64 z
 |[]=>rfl
 |z::zs=>by
  rw[aPp,aPu,aA8 zs];rfl
theorem aA9 {H:aC}{u:Value}{zs:List Int}(h:Iw H u zs)(hne:zs≠[]): ∃b cap rest,u=kK b zs.length cap/\H[b]? =some (gI zs rest):=by
 obtain⟨_,⟨rfl,h0⟩|⟨c,cap,rest,rfl,h1,h2,h3⟩⟩:=h
 ·exact absurd (aPc.mp h0) hne
 ·refine⟨c,cap,rest,rfl,?_⟩
  rw[h3,aA8];rfl
section
variable {H : aC} {m : Nat}
theorem aBa {v:Value}{ws:List Int}(hw:Is H v ws)(hok:wOk ws=true)(hm:ws.length+100<m)(hm2:m<=72057594037927936):
  ∃H' wh ww wl wc lc wr lr,lvl prog pkN m (.func 36) [v] H=some (pt wh,H')/\Ext H H'/\Blks (lX wh ww wl wc lc wr lr ws ⟨ws,0⟩) H'/\ww≠wl/\H.length<=wh/\H.length<=ww/\H.length<=wl:=by
 have hlen:=hw.gO;have hcf:lvl prog pkN (m-1) (.func 80) [v,.func (.func 79) #[] #[]] H=some (.bool (ws.any q8),H):=by
  have:=Vq (H:=H) (m:=m-1) (v:=v) (fv:= .func (.func 79) #[] #[]) (n:=ws.length) (λi=>(ws[i]?.map q8).getD false) hlen (by omega) (by omega) (λi hi=>by
   have hx:ws[i]? =some ws[i]:=aOW hi;obtain⟨b,o,g1,g2,g3⟩:=hw.iG jK hx .i64;have l1:=(g3 H rfl).2.1 0 _ rfl;refine⟨_,_,g1,l1,?_⟩;have:=Vv (m:=m-1-1-1) (by omega) ws[i] H
   rw[hx];exact this)
  rw[this,Bm ws q8 _ λi x h=>by rw[h];rfl]
 unfold wOk at hok;simp only[Bool.not_eq_true',Bool.or_eq_false_iff,decide_eq_false_iff_not] at hok;obtain⟨c1,c2,c3⟩:=hok;have e1:((ws.length:Int)==0)=false:=by simpa using c1
 rw[c3] at hcf;have hne:ws≠[]:=λh=>c1 (by rw[h];rfl)
 obtain⟨H1,u1,g1,g2,g3,g4⟩:=Ep (m:=m-1) hw hne (by omega) (by omega)
 obtain⟨H2,u2,q1,q2,q3,q4⟩:=Ep (m:=m-1) (hw.ext g2) hne (by omega) (by omega)
 obtain⟨ww,wc,wr,rfl,b1⟩:=aA9 g3 hne;obtain⟨wl,lc,lr,rfl,b2⟩:=aA9 q3 hne;have n1:=g4 ww ⟨_,_,_,rfl⟩;have n2:=q4 wl ⟨_,_,_,rfl⟩;have hb:bld prog 171 [(0,kK ww ws.length wc),(1,kK wl ws.length lc)]=some (.agg #[kK ww ws.length wc,kK wl ws.length lc,.int .i64 0]):=rfl;have e6:H2++[Blk.cells (Value.cells (.agg #[kK ww ws.length wc,kK wl ws.length lc,.int .i64 0])).toList 171 .fix]=H2++[rJ ww wl wc lc ws.length 0]:=rfl;have x3:Ext H2 (H2++[rJ ww wl wc lc ws.length 0]):=Fr.app _ _ _;have l1:=dE b1;have l2:=g2.1;have l3:=q2.1;refine⟨H2++[rJ ww wl wc lc ws.length 0],H2.length,ww,wl,wc,lc,wr,lr,dF (cL rfl) (by omega) ?_,(g2.tr q2).tr x3,λq hq=> ?_,by omega,by omega,n1,by omega⟩
 ·rw[Bk]
  simp -implicitDefEqProofs only[gsR,hlen,e1,c2,decide_false,hcf,g1,q1,hb,e6]
 ·simp only[lX,aPd,aPk,or_false] at hq
  rcases hq with rfl|rfl|rfl
  ·exact dJ _ _
  ·simp only
   rw[x3.2 _ (by omega) id,q2.2 _ l1 id,b1]
  ·simp only
   rw[x3.2 _ (dE b2) id,b2]
end
theorem aBc (y:Lay)(c:Cfg)(i:Nat):dZ (gQ y c i)=true:=by unfold gQ mY;split<;>rfl
theorem aNE (y:Lay)(i k:Nat):dZ (mL y i k)=true:=rfl
def DnB (c:Cfg)(n x i k:Nat):Prop:=(1<=i/\i<n/\k<c.lanes)∨(i=n/\k<x)
def mN (y:Lay)(c:Cfg)(n nw cs cr:Nat):Part->aC->Prop
 | .host=>λD=>HostAt D y.hb [] [] c.lanes c.queue
 | .whl i=>Blks (if i<nw then lX (y.wh i) (y.ww i) (y.wl i) (y.wc i) (y.lc i) (y.wr i) (y.lr i) c.weights ⟨c.weights,0⟩ else [])
 | .snd i k=>Blks (if DnB c n cs i k then [(y.sb i k,mK ⟨c.start,c.start+c.room⟩)] else [])
 | .rcv i k=>Blks (if DnB c n cr i k then [(y.rb i k,jZ ⟨c.start,0⟩ c.room)] else [])
 |_=>Blks []
def rK (bag:Int)(ev wv nv:Value)(y:Lay)(c:Cfg)(pv:Value):Blk:=
 .cells [.pointer none,.int .i64 c.nodes,ev,.int .i64 c.lanes,.int .i64 c.room,.int .i64 c.queue,.int .i64 c.rounds,.int .i64 c.every,.int .i64 bag,wv,.int .u16 c.start,nv,.int .i64 c.me,pv,pt y.hb,.pointer none,.int .i64 0] 89 .fix
structure BN (Hs H:aC)(F:Part->Nat->Prop)(bag:Int)(ev wv nv:Value)(y:Lay)(c:Cfg)(n nw cs cr:Nat)(pv:Value):Prop where
 ext:Ext Hs H
 sep:Sep (mN y c n nw cs cr) F H
 new: ∀b,Un F b->Hs.length<=b
 nb:H[y.nb]? =some (rK bag ev wv nv y c pv)
 nbF: ¬Un F y.nb
 nb0:Hs.length<=y.nb
 ports:Rw (gQ y c) 94 3 H pv (List.range n)
 pvF: ∀b,cR pv b->Hs.length<=b/\ ¬Un F b
 lanes: ∀i,1<=i->i<n->H[y.lb i]? =some (oQ y c i)/\Hs.length<=y.lb i/\ ¬Un F (y.lb i)/\c.lanes<=y.lcap i
 lne: ∀i j,1<=i->i<n->1<=j->j<n->y.lb i=y.lb j->i=j
 ww: ∀i,i<nw->y.ww i≠y.wl i
theorem Cs (y:Lay)(c:Cfg)(n nw cs cr:Nat)(i:Part):DX (mN y c n nw cs cr i):=by
 cases i with
 |host=>exact λD D' h he=>h.ext he
 |_=>exact Blks.dx _
theorem tG {F:Part->Nat->Prop}{i:Part}{G:Nat->Prop}{b:Nat}(h:Un (updI F i G) b):Un F b∨G b:=by
 obtain⟨j,hj⟩:=h;by_cases hji:j=i
 ·rw[hji,nQ] at hj
  exact .inr hj
 ·rw[gL _ _ hji] at hj
  exact .inl ⟨j,hj⟩
section
variable {Hs H : aC} {F : Part → Nat → Prop} {bag : Int} {ev wv nv : Value} {y : Lay} {c : Cfg} {n nw cs cr : Nat} {pv : Value}
theorem BN.aBb {H':aC}(h:BN Hs H F bag ev wv nv y c n nw cs cr pv)(he:Ext H H'):BN Hs H' F bag ev wv nv y c n nw cs cr pv:=by
 refine {h with ext:=h.ext.tr he,sep:=h.sep.ext (Cs _ _ _ _ _ _) he,nb:=by rw[he.2 _ (dE h.nb) id,h.nb],ports:=h.ports.iD λb hb=>he.2 b (h.ports.j8 hb) id,lanes:=λi h1 h2=> ?_}
 obtain⟨q1,q2⟩:=h.lanes i h1 h2
 exact⟨by rw[he.2 _ (dE q1) id,q1],q2⟩
theorem BN.Px {H':aC}{y':Lay}{nw' cs' cr':Nat}(h:BN Hs H F bag ev wv nv y c n nw cs cr pv)(i:Part){l:List (Nat×Blk)}(hB:Blks l H')(he:Ext H H')(hn: ∀q∈l,H.length<=q.1)(hi: ∀b,¬F i b)
  (hcon: ∀j D,updI (mN y c n nw cs cr) i (Blks l) j D->mN y' c n nw' cs' cr' j D)(e1:y'.nb=y.nb)(e2:y'.hb=y.hb)(e3: ∀i,i<n->gQ y' c i=gQ y c i)(e4:y'.lb=y.lb)(e5:y'.lcap=y.lcap)(e6: ∀i,1<=i->i<n->oQ y' c i=oQ y c i)(e7: ∀i,i<nw'->y'.ww i≠y'.wl i):
  BN Hs H' (updI F i (InB l)) bag ev wv nv y' c n nw' cs' cr' pv:=by
 have hlt: ∀b,InB l b->b<H'.length:=λb hb=>by
  obtain⟨q,hq,rfl⟩:=hb;exact dE (hB q hq)
 have hge: ∀b,InB l b->H.length<=b:=λb hb=>by
  obtain⟨q,hq,rfl⟩:=hb;exact hn q hq
 have hhas:Has (Blks l) (InB l) H':=Has.Gl hB (λq hq=>⟨q,hq,rfl⟩) hlt
 have hs:=h.sep.Gm i (Cs _ _ _ _ _ _) hi hhas he hge;have hun: ∀b,b<H.length-> ¬Un F b-> ¬Un (updI F i (InB l)) b:=λb hb hF hu=>(tG hu).elim hF λhg=>by have:=hge b hg;omega
 refine⟨h.ext.tr he,hs.xT hcon,λb hb=> ?_,?_,?_,by rw[e1];exact h.nb0,?_,λb hb=>⟨(h.pvF b hb).1,hun b (h.ports.j8 hb) (h.pvF b hb).2⟩,λj h1 h2=> ?_,λi j=>by rw[e4];exact h.lne i j,e7⟩
 ·rcases tG hb with hb|hb
  ·exact h.new b hb
  ·exact aPa h.ext.1 (hge b hb)
 ·rw[e1,he.2 _ (dE h.nb) id,h.nb]
  unfold rK;rw[e2]
 ·rw[e1]
  exact hun _ (dE h.nb) h.nbF
 ·have hk:=h.ports.iD (H':=H') λb hb=>he.2 b (h.ports.j8 hb) id
  have em:(List.range n).map (gQ y' c)=(List.range n).map (gQ y c):=List.map_congr_left λi hi=>e3 i (aPy.mp hi)
  unfold Rw at hk⊢;rw[em];exact hk
 ·obtain⟨q1,q2,q3,q4⟩:=h.lanes j h1 h2
  rw[e4,e5,e6 j h1 h2]
  exact⟨by rw[he.2 _ (dE q1) id,q1],q2,hun _ (dE q1) q3,q4⟩
theorem oG {α:Type}(f:Nat->α)(i:Nat)(x:α):up1 f i x i=x:=if_pos rfl
theorem nW {α:Type}(f:Nat->α){i j:Nat}(x:α)(h:j≠i):up1 f i x j=f j:=if_neg h
theorem He {α:Type}(f:Nat->Nat->α)(i k:Nat)(x:α):up2 f i k x i k=x:=if_pos ⟨rfl,rfl⟩
theorem An {α:Type}(f:Nat->Nat->α){i k j l:Nat}(x:α)(h: ¬(j=i/\l=k)):up2 f i k x j l=f j l:=if_neg h
theorem BN.whl {H':aC}(h:BN Hs H F bag ev wv nv y c n n 0 0 pv)(hF: ∀i,n<=i-> ∀b,¬F (.whl i) b){wh ww wl wc lc:Nat}{wr lr:List Value}(hB:Blks (lX wh ww wl wc lc wr lr c.weights ⟨c.weights,0⟩) H')(he:Ext H H')(hne:ww≠wl)(h1:H.length<=wh)(h2:H.length<=ww)(h3:H.length<=wl):
  BN Hs H' (updI F (.whl n) (InB (lX wh ww wl wc lc wr lr c.weights ⟨c.weights,0⟩))) bag ev wv nv {y with wh:=up1 y.wh n wh,ww:=up1 y.ww n ww,wl:=up1 y.wl n wl,wc:=up1 y.wc n wc,lc:=up1 y.lc n lc,wr:=up1 y.wr n wr,lr:=up1 y.lr n lr} c n (n+1) 0 0 pv:=by
 refine h.Px (.whl n) hB he (λq hq=> ?_) (hF n (aOZ _)) (λj D hD=> ?_) rfl rfl (λi hi=> ?_) rfl rfl (λ_ _ _=>rfl) λi hi=> ?_
 ·simp only[lX,aPd,aPk,or_false] at hq
  rcases hq with rfl|rfl|rfl
  ·exact h1
  ·exact h2
  ·exact h3
 ·cases j with
  |whl i=>
   by_cases hi:i=n
   ·subst hi
    rw[nQ] at hD;simp only[mN];rw[if_pos (Nat.lt_succ_self _),oG,oG,oG,oG,oG,oG,oG];exact hD
   ·rw[gL _ _ (λhh=>hi (by injection hh))] at hD
    simp only[mN] at hD⊢;rw[nW _ _ hi,nW _ _ hi,nW _ _ hi,nW _ _ hi,nW _ _ hi,nW _ _ hi,nW _ _ hi];by_cases hin:i<n
    ·rw[if_pos hin] at hD
     rw[if_pos (by omega)]
     exact hD
    ·rw[if_neg hin] at hD
     rw[if_neg (by omega)]
     exact hD
  |_=>
   rw[gL _ _ (λhh=>by cases hh)] at hD
   exact hD
 ·unfold gQ mY
  simp only;rw[nW _ _ (by omega)]
 ·simp only
  by_cases hin:i=n
  ·subst hin
   rw[oG,oG];exact hne
  ·rw[nW _ _ hin,nW _ _ hin]
   exact h.ww i (by omega)
theorem BN.snd {k b:Nat}(h:BN Hs H F bag ev wv nv y c n (n+1) k k pv)(hF: ∀b,¬F (.snd n k) b)(hb:b=H.length):
  BN Hs (H++[mK ⟨c.start,c.start+c.room⟩]) (updI F (.snd n k) (InB [(b,mK ⟨c.start,c.start+c.room⟩)])) bag ev wv nv {y with sb:=up2 y.sb n k b} c n (n+1) (k+1) k pv:=by
 subst hb;refine h.Px (.snd n k) (λq hq=> ?_) (Fr.app _ _ _) (λq hq=> ?_) hF (λj D hD=> ?_) rfl rfl (λi hi=>rfl) rfl rfl (λi h1 h2=> ?_) h.ww
 ·simp only[aPd,aPk,or_false] at hq
  subst hq;exact dJ _ _
 ·simp only[aPd,aPk,or_false] at hq
  subst hq;exact aOZ _
 ·cases j with
  |snd i k'=>
   by_cases hi:i=n/\k'=k
   ·obtain⟨rfl,rfl⟩:=hi
    rw[nQ] at hD;simp only[mN];rw[if_pos (.inr ⟨rfl,Nat.lt_succ_self _⟩),He];exact hD
   ·rw[gL _ _ (λhh=>hi (by injection hh with h1 h2;exact⟨h1,h2⟩))] at hD
    simp only[mN] at hD⊢;rw[An _ _ hi];by_cases hd:DnB c n k i k'
    ·rw[if_pos hd] at hD
     rw[if_pos (by unfold DnB at hd ⊢; omega)]
     exact hD
    ·rw[if_neg hd] at hD
     rw[if_neg (by unfold DnB at hd ⊢; omega)]
     exact hD
  |_=>
   rw[gL _ _ (λhh=>by cases hh)] at hD
   exact hD
 ·have: ∀k',mL {y with sb:=up2 y.sb n k H.length} i k'=mL y i k':=λk'=>by
   unfold mL;simp only;rw[An _ _ (by omega)]
  unfold oQ;rw[List.map_congr_left λk' _=>this k']
theorem BN.rcv {k b:Nat}(h:BN Hs H F bag ev wv nv y c n (n+1) (k+1) k pv)(hF: ∀b,¬F (.rcv n k) b)(hb:b=H.length):
  BN Hs (H++[jZ ⟨c.start,0⟩ c.room]) (updI F (.rcv n k) (InB [(b,jZ ⟨c.start,0⟩ c.room)])) bag ev wv nv {y with rb:=up2 y.rb n k b} c n (n+1) (k+1) (k+1) pv:=by
 subst hb;refine h.Px (.rcv n k) (λq hq=> ?_) (Fr.app _ _ _) (λq hq=> ?_) hF (λj D hD=> ?_) rfl rfl (λi hi=>rfl) rfl rfl (λi h1 h2=> ?_) h.ww
 ·simp only[aPd,aPk,or_false] at hq
  subst hq;exact dJ _ _
 ·simp only[aPd,aPk,or_false] at hq
  subst hq;exact aOZ _
 ·cases j with
  |rcv i k'=>
   by_cases hi:i=n/\k'=k
   ·obtain⟨rfl,rfl⟩:=hi
    rw[nQ] at hD;simp only[mN];rw[if_pos (.inr ⟨rfl,Nat.lt_succ_self _⟩),He];exact hD
   ·rw[gL _ _ (λhh=>hi (by injection hh with h1 h2;exact⟨h1,h2⟩))] at hD
    simp only[mN] at hD⊢;rw[An _ _ hi];by_cases hd:DnB c n k i k'
    ·rw[if_pos hd] at hD
     rw[if_pos (by unfold DnB at hd ⊢; omega)]
     exact hD
    ·rw[if_neg hd] at hD
     rw[if_neg (by unfold DnB at hd ⊢; omega)]
     exact hD
  |_=>
   rw[gL _ _ (λhh=>by cases hh)] at hD
   exact hD
 ·have: ∀k',mL {y with rb:=up2 y.rb n k H.length} i k'=mL y i k':=λk'=>by
   unfold mL;simp only;rw[An _ _ (by omega)]
  unfold oQ;rw[List.map_congr_left λk' _=>this k']
theorem BN.Pw {H':aC}{N:Nat->Prop}{pv':Value}{n':Nat}(h:BN Hs H F bag ev wv nv y c n nw cs cr pv)(hf:Fr N H H')(hN: ∀b,N b-> ¬Un F b/\Hs.length<=b):
  Ext Hs H'/\Sep (mN y c n nw cs cr) F H':=by
 have hm:Mv N N H H':=⟨hf.1,λ_ h=> .inl h,λb hb hn=>hf.2 b hb hn⟩
 refine⟨⟨aPa h.ext.1 hf.1,λa ha _=> ?_⟩,h.sep.xU (Cs _ _ _ _ _ _) hm λa ha hh=>(hN a hh).1 ha⟩
 rw[hf.2 a (aO9 ha h.ext.1) (λhh=>by have:=(hN a hh).2;omega),h.ext.2 a ha id]
end
theorem aBd {α:Type}(f:α->Bool): ∀l:List α,l.length=(l.filter f).length+(l.filter λx=> !f x).length
 |[]=>rfl
 |x::l=>by
  have:=aBd f l;rw[List.filter_cons,List.filter_cons];cases f x
  ·simp
   omega
  ·simp
   omega
theorem aNF {p:PlanD}{me:Nat}(h:kY p=true)(hm:(me:Int)<p.nodes)(hs:0<=p.start/\p.start<65536):(iJ p me).ok/\p.nodes=((iJ p me).nodes:Int)/\p.lanes=((iJ p me).lanes:Int)/\p.room=((iJ p me).room:Int)/\p.queue=((iJ p me).queue:Int)/\p.rounds=((iJ p me).rounds:Int)/\p.every=((iJ p me).every:Int)/\p.start=((iJ p me).start:Int)/\
  (∀i,i<(bes p.edges me).length->(bes p.edges me)[i]? =some (((iJ p me).by'.getD i 0:Nat):Int))/\wOk p.weights=true:=by
 obtain⟨n,hok⟩:=Fg h;have h':=h;unfold kY uW xZ wE wi at h;simp only[aO2,decide_eq_true_eq,Bool.not_eq_true'] at h;obtain⟨⟨⟨a1,a2⟩,⟨b1,b2⟩,⟨c1,c2⟩,⟨d1,d2⟩,⟨e1,e2⟩,⟨f1,f2⟩,g1,g2⟩,⟨h3,h4⟩,hwl,hwo,h5,h6⟩:=h;have hw:=hwo;unfold wOk at hwo;simp only[Bool.not_eq_true',Bool.or_eq_false_iff,decide_eq_false_iff_not] at hwo;obtain⟨w1,w2,w3⟩:=hwo;rw[List.any_eq_false] at w3;have hmem: ∀w∈bes p.edges me,0<=w/\w<(n:Int)/\w≠me:=λw hw=>by
  rw[Wf] at hw;obtain⟨q1,q2⟩:=hw;rcases q2 with q2|q2
  ·have:=hok.ve.ok _ q2
   unfold okE at this;simp only at this;omega
  ·have:=hok.ve.ok _ q2
   unfold okE at this;simp only at this;omega
 have hn:=hok.hn;have hpw:=Er p.edges me;have hlen:(bes p.edges me).length<=5:=by
  have k1:=Eu ((bes p.edges me).filter λw=>decide (w<me)) 0 ((me:Int)-1) (hpw.sublist List.filter_sublist) (λx hx=>by
   obtain⟨y1,y2⟩:=List.mem_filter.mp hx;have:=hmem x y1;rw[decide_eq_true_eq] at y2;omega) (by omega)
  have k2:=Eu ((bes p.edges me).filter λw=> !decide (w<me)) ((me:Int)+1) ((n:Int)-1) (hpw.sublist List.filter_sublist) (λx hx=>by
   obtain⟨y1,y2⟩:=List.mem_filter.mp hx;have:=hmem x y1;simp only[Bool.not_eq_true',decide_eq_false_iff_not] at y2;omega) (by omega)
  have k3:=aBd (λw=>decide (w<(me:Int))) (bes p.edges me)
  have:=hok.h6;omega
 have hget: ∀i,i<(bes p.edges me).length->(bes p.edges me)[i]? =some (((iJ p me).by'.getD i 0:Nat):Int):=λi hi=>by
  have hx:=hmem _ (List.getElem_mem hi);show _=some (((((bes p.edges me).map Int.toNat).getD i 0:Nat)):Int)
  rw[aOY,aO7,aOW hi,Option.map_some,aPn,Int.toNat_of_nonneg hx.1]
 have hbl:(iJ p me).by'.length=(bes p.edges me).length:=by show((bes p.edges me).map Int.toNat).length=_;simp
 refine⟨⟨?_,?_,?_,?_,?_,?_,?_,?_,?_,?_,?_,?_,?_,?_⟩,?_,?_,?_,?_,?_,?_,?_,hget,hw⟩
 ·show 2<=p.nodes.toNat/\p.nodes.toNat<=6
  omega
 ·show 1<=p.lanes.toNat/\p.lanes.toNat<=3
  omega
 ·show 1<=p.room.toNat/\p.room.toNat<=8
  omega
 ·show 1<=p.queue.toNat/\p.queue.toNat<=8
  omega
 ·show 1<=p.rounds.toNat/\p.rounds.toNat<=4
  omega
 ·show 1<=p.every.toNat/\p.every.toNat<=8
  omega
 ·show p.weights.length=p.lanes.toNat
  omega
 ·intro x hx
  have:=w3 x hx;unfold q8 at this;simp only[Bool.or_eq_true,decide_eq_true_eq,not_or] at this;omega
 ·show p.start.toNat<65536
  omega
 ·show me<p.nodes.toNat
  omega
 ·rw[hbl]
  exact hlen
 ·intro w hw
  obtain⟨z,hz,rfl⟩:=aPx.mp hw;have:=hmem z hz;show z.toNat<p.nodes.toNat/\z.toNat≠me
  omega
 ·show((bes p.edges me).map Int.toNat).Nodup
  unfold List.Nodup;rw[List.pairwise_map];refine List.Pairwise.imp_of_mem (λ{a b} ha hb hab=> ?_) hpw
  have h1:=hmem a ha;have h2:=hmem b hb;omega
 ·intro d hd
  show(if d=me then 0 else _)<(iJ p me).by'.length+1
  split
  ·omega
  ·split
   ·rename_i j hj
    have:=(List.findIdx?_eq_some_iff_getElem.mp hj).1;show j+1<((bes p.edges me).map Int.toNat).length+1
    omega
   ·omega
 ·show p.nodes=(p.nodes.toNat:Int)
  omega
 ·show p.lanes=(p.lanes.toNat:Int)
  omega
 ·show p.room=(p.room.toNat:Int)
  omega
 ·show p.queue=(p.queue.toNat:Int)
  omega
 ·show p.rounds=(p.rounds.toNat:Int)
  omega
 ·show p.every=(p.every.toNat:Int)
  omega
 ·show p.start=(p.start.toNat:Int)
  omega
def rM (c:Cfg)(n nw cs cr:Nat):Part->Prop
 | .host=>True
 | .whl i=>i<nw
 | .snd i k=>DnB c n cs i k
 | .rcv i k=>DnB c n cr i k
 |_=>False
def FE (F:Part->Nat->Prop)(c:Cfg)(n nw cs cr:Nat):Prop:= ∀j,¬rM c n nw cs cr j-> ∀b,¬F j b
theorem FE.Hf {F:Part->Nat->Prop}{c:Cfg}{n nw cs cr n' nw' cs' cr':Nat}{i:Part}{G:Nat->Prop}(h:FE F c n nw cs cr)(hi:rM c n' nw' cs' cr' i)(hm: ∀j,rM c n nw cs cr j->rM c n' nw' cs' cr' j):FE (updI F i G) c n' nw' cs' cr':=λj hj b hb=>by
 by_cases hji:j=i
 ·exact hj (by rw[hji];exact hi)
 ·rw[gL _ _ hji] at hb
  exact h j (λhd=>hj (hm j hd)) b hb
def Krow (H H':aC):Prop:= ∀(b:Nat)(cs:List Value),H[b]? =some (.cells cs 3 .row)->H'[b]? =some (.cells cs 3 .row)
theorem Krow.ext {H0 H H':aC}(h:Krow H0 H)(he:Ext H H'):Krow H0 H':=λb cs hb=>by
 have:=h b cs hb;rw[he.2 _ (dE this) id,this]
theorem Krow.iw {H H':aC}{v:Value}{zs:List Int}(h:Krow H H')(hv:Iw H v zs):Iw H' v zs:=hv.iD λb hb=>by
 obtain⟨cs,hc⟩:=hv.blk hb;rw[hc,h b cs hc]
section
variable {Hs H : aC} {F : Part → Nat → Prop} {bag : Int} {ev wv nv : Value} {y : Lay} {c : Cfg} {n nw cs cr : Nat} {pv : Value} {m : Nat}
theorem BN.aNG {H':aC}{N:Nat->Prop}(h:BN Hs H F bag ev wv nv y c n nw cs cr pv)(hf:Fr N H H')(hN: ∀b,N b->b<H.length-> ¬Un F b/\Hs.length<=b/\b≠y.nb/\ ¬cR pv b/\ ∀i,1<=i->i<n->b≠y.lb i):BN Hs H' F bag ev wv nv y c n nw cs cr pv:=by
 have hf':Fr (λb=>N b/\b<H.length) H H':=⟨hf.1,λb hb hn=>hf.2 b hb λhh=>hn ⟨hh,hb⟩⟩
 obtain⟨x1,x2⟩:=h.Pw (pv':=pv) (n':=n) hf' λb hb=>⟨(hN b hb.1 hb.2).1,(hN b hb.1 hb.2).2.1⟩
 have hnb:=dE h.nb;refine {h with ext:=x1,sep:=x2,nb:= ?_,ports:=h.ports.iD λb hb=>hf.2 b (h.ports.j8 hb) λhh=>(hN b hh (h.ports.j8 hb)).2.2.2.1 hb,lanes:=λi h1 h2=> ?_}
 ·rw[hf.2 _ hnb (λhh=>(hN _ hh hnb).2.2.1 rfl),h.nb]
 ·obtain⟨q1,q2⟩:=h.lanes i h1 h2
  have hl:=dE q1
  exact⟨by rw[hf.2 _ hl (λhh=>(hN _ hh hl).2.2.2.2 i h1 h2 rfl),q1],q2⟩
structure XN (Hs H:aC)(F:Part->Nat->Prop)(y:Lay)(n k xb:Nat)(w:Nat)(lv:Value):Prop where
 blk:H[xb]? =some (.cells [.int .i64 w,lv,pt (y.wh n)] 94 .fix)
 xF: ¬Un F xb
 x0:Hs.length<=xb
 rows:Rw (mL y n) 100 2 H lv (List.range k)
 lvF: ∀b,cR lv b->Hs.length<=b/\ ¬Un F b/\ ∀i,1<=i->i<n->b≠y.lb i
theorem aNH {b:Nat}{a1 a2:Nat}(H:aC):bld prog 100 [(0,pt a1),(1,pt a2)]=some (.agg #[pt a1,pt a2])/\dL 100 2 1 [.pointer none,.pointer none] [(0,.agg #[pt a1,pt a2])] H=some (.slice (some ⟨H.length,0,none⟩) 1 1,H++[.cells [pt a1,pt a2] 100 .row]):=⟨rfl,rfl⟩
theorem aNI {p:PlanD}{pl i w xb len:Nat}{bv:Value}(hok:c.ok)(hpl:Hs[pl]? =some (plB p ev wv nv))(h1:1<=n)(e3:p.room=(c.room:Int))(e9:p.start=(c.start:Int))(hm:50<m){nb:Nat}{Hb:aC}{K:Ex->K (Value×aC)}{Q:aC->Value->Prop}
    (hK: ∀H' F' y' lv,y'.nb=nb->BN Hs H' F' bag ev wv nv y' c n (n+1) c.lanes c.lanes pv->FE F' c n (n+1) c.lanes c.lanes->XN Hs H' F' y' n c.lanes xb w lv->Krow Hb H'-> ∀(x0 x1 x3 x4 x6 x7 x9 bK bN bC aO aP aM aS bI aN bG bJ bL bH bE aT aU aV aW aX aY aZ bA bB bO bP bQ bR bS bT bU bV bX bY cD cG cH cK cM cN cO cP cW cU cV cY dA dC dB dD dN dO dR dS dT dU dV dW dX eG eH eI eJ eK eL eM eN eO eP eQ eS eX eY eZ fA fB fC fD fE fJ fK fL fM fN fO fP fQ fR fS fT fU fV fW fX fY fZ gA gB gC gD gE gF gG gH gR gS gT gU gV gW gX gY:Value),∃H2 r,Mu (lvl prog pkN m) (aI m) K x0 x1 (pt pl) x3 x4 (pt nb) x6 x7 (pt xb) x9 bK bN bC aO aP aM aS bI aN bG bJ bL bH bE aT aU aV aW aX aY aZ bA bB bO bP bQ bR bS bT bU bV bX bY cD cG cH cK bv (.int .i64 len) (.int .i64 (i:Nat)) cM cN cO cP cW cU cV cY dA dC dB dD dN dO dR dS dT dU dV dW dX eG eH eI eJ eK eL eM eN eO eP eQ eS eX eY eZ fA fB fC fD fE fJ fK fL fM fN fO fP fQ fR fS fT fU fV fW fX fY fZ gA gB gC gD gE gF gG gH gR gS gT gU gV gW gX gY H'=some (r,H2)/\Q H2 r):
    ∀(q k l:Nat)(H:aC)(F:Part->Nat->Prop)(y:Lay)(lv:Value),c.lanes-k=q->k<=c.lanes->q<l->y.nb=nb->BN Hs H F bag ev wv nv y c n (n+1) k k pv->FE F c n (n+1) k k->XN Hs H F y n k xb w lv->Krow Hb H-> ∀(x0 x1 x3 x4 x6 x7 x9 bK bN bC aO aP aM aS bI aN bG bJ bL bH bE aT aU aV aW aX aY aZ bA bB bO bP bQ bR bS bT bU bV bX bY cD cG cH cK cM cN cO cP cW cU cV cY dA dD dN dO dR dS dT dU dV dW dX eG eH eI eJ eK eL eM eN eO eP eQ eS eX eY eZ fA fB fC fD fE fJ fK fL fM fN fO fP fQ fR fS fT fU fV fW fX fY fZ gA gB gC gD gE gF gG gH gR gS gT gU gV gW gX gY:Value),
    ∃H2 r,aI l (aK prog (lvl prog pkN m) (aI m) Ms) (Mx (lvl prog pkN m) (aI m) K) [x0,x1,(pt pl),x3,x4,(pt nb),x6,x7,(pt xb),x9,bK,bN,bC,aO,aP,aM,aS,bI,aN,bG,bJ,bL,bH,bE,aT,aU,aV,aW,aX,aY,aZ,bA,bB,bO,bP,bQ,bR,bS,bT,bU,bV,bX,bY,cD,cG,cH,cK,bv,(.int .i64 len),(.int .i64 (i:Nat)),cM,cN,cO,cP,cW,cU,cV,cY,dA,(.int .i64 c.lanes),(.int .i64 (k:Nat)),dD,dN,dO,dR,dS,dT,dU,dV,dW,dX,eG,eH,eI,eJ,eK,eL,eM,eN,eO,eP,eQ,eS,eX,eY,eZ,fA,fB,fC,fD,fE,fJ,fK,fL,fM,fN,fO,fP,fQ,fR,fS,fT,fU,fV,fW,fX,fY,fZ,gA,gB,gC,gD,gE,gF,gG,gH,gR,gS,gT,gU,gV,gW,gX,gY] H=some (r,H2)/\Q H2 r:=by
  intro q;induction q with
  |zero=>
    intro k l H F y lv hq hk hl hnb h hfe hx hkr;intros;obtain⟨l,rfl⟩: ∃l',l=l'+1:=⟨l-1,by omega⟩
    have hke:k=c.lanes:=by omega
    subst hke;have c1:decide ((c.lanes:Int)<(c.lanes:Int))=false:=by simp
    rw[aI,X7];simp -implicitDefEqProofs only[gsR,c1];rw[aI4];exact hK H F y lv hnb h hfe hx hkr ..
  |succ q ih=>
    intro k l H F y lv hq hk hl hnb h hfe hx hkr;intros;obtain⟨l,rfl⟩: ∃l',l=l'+1:=⟨l-1,by omega⟩
    have h3:=hok.lanes.2;have hst:=hok.start;have hrm:=hok.room;have hkl:k<c.lanes:=by omega
    have c1:decide ((k:Int)<(c.lanes:Int))=true:=by rw[decide_eq_true_eq];omega
    have hpH: ∀G:aC,Ext Hs G->G[pl]? =some (plB p ev wv nv):=λG hG=>by rw[hG.2 _ (dE hpl) id,hpl]
    -- the ends
    obtain⟨H1,hH1⟩: ∃H1,H1=H++[mK ⟨c.start,c.start+c.room⟩]:=⟨_,rfl⟩;obtain⟨H2,hH2⟩: ∃H2,H2=H1++[jZ ⟨c.start,0⟩ c.room]:=⟨_,rfl⟩;have x1:Ext H H1:=by rw[hH1];exact Fr.app _ _ _
    have x2:Ext H1 H2:=by rw[hH2];exact Fr.app _ _ _
    have h1l:H1.length=H.length+1:=by rw[hH1];simp
    have h2l:H2.length=H.length+2:=by rw[hH2];simp;omega
    have g1:=h.snd (hfe (.snd n k) (by unfold rM DnB;omega)) (b:=H.length) rfl
    rw[<-hH1] at g1;have fe1:FE _ c n (n+1) (k+1) k:=hfe.Hf (i:= .snd n k) (G:=InB [(H.length,mK ⟨c.start,c.start+c.room⟩)]) (n':=n) (nw':=n+1) (cs':=k+1) (cr':=k) (show DnB c n (k+1) n k from .inr ⟨rfl,by omega⟩) (λj hj=>by
      cases j<;>simp only[rM] at hj⊢ <;>(try exact hj)<;>(unfold DnB at hj ⊢; omega))
    have g2:=g1.rcv (fe1 (.rcv n k) (by unfold rM DnB;omega)) (b:=H1.length) rfl
    rw[<-hH2] at g2;have fe2:FE _ c n (n+1) (k+1) (k+1):=fe1.Hf (i:= .rcv n k) (G:=InB [(H1.length,jZ ⟨c.start,0⟩ c.room)]) (n':=n) (nw':=n+1) (cs':=k+1) (cr':=k+1) (show DnB c n (k+1) n k from .inr ⟨rfl,by omega⟩) (λj hj=>by
      cases j<;>simp only[rM] at hj⊢ <;>(try exact hj)<;>(unfold DnB at hj ⊢; omega))
    obtain⟨F2,hF2⟩: ∃F2,F2=updI (updI F (.snd n k) (InB [(H.length,mK ⟨c.start,c.start+c.room⟩)])) (.rcv n k) (InB [(H1.length,jZ ⟨c.start,0⟩ c.room)]):=⟨_,rfl⟩;obtain⟨y2,hy2⟩: ∃y2:Lay,y2={y with sb:=up2 y.sb n k H.length,rb:=up2 y.rb n k H1.length}:=⟨_,rfl⟩;rw[<-hF2] at g2 fe2;have g2:BN Hs H2 F2 bag ev wv nv y2 c n (n+1) (k+1) (k+1) pv:=by rw[hy2];exact g2
    have hun2: ∀b,b<H.length-> ¬Un F b-> ¬Un F2 b:=λb hb hF hu=>by
      rw[hF2] at hu;rcases tG hu with hu|⟨q,hq,rfl⟩
      · rcases tG hu with hu|⟨q,hq,rfl⟩
        · exact hF hu
        · simp only[aPd,aPk,or_false] at hq
          subst hq;simp at hb
      · simp only[aPd,aPk,or_false] at hq
        subst hq;simp only at hb;omega
    -- the row of one
    obtain⟨eb,es⟩:=aNH (b:=0) (a1:=H.length) (a2:=H1.length) H2;have hl2:mL y2 n k=[pt H.length,pt H1.length]:=by
      rw[hy2];unfold mL;simp only;rw[He,He]
    have hrow:Rw (mL y2 n) 100 2 H2 lv (List.range k):=by
      have hk0:=hx.rows.iD (H':=H2) λb hb=>(x1.tr x2).2 b (hx.rows.j8 hb) id
      have em:(List.range k).map (mL y2 n)=(List.range k).map (mL y n):=List.map_congr_left λj hj=>by
        have hj:=aPy.mp hj;rw[hy2];unfold mL;simp only;rw[An _ _ (by omega),An _ _ (by omega)]
      unfold Rw at hk0⊢;rw[em];exact hk0
    have hw1:Rr (mL y2 n) 100 (H2++[.cells [pt H.length,pt H1.length] 100 .row]) (.slice (some ⟨H2.length,0,none⟩) 1 1) [k]:=by
      have:=xR (el:=mL y2 n) (e:=100) k H2;rw[hl2] at this;exact this
    obtain⟨H3,hH3⟩: ∃H3,H3=H2++[Blk.cells [pt H.length,pt H1.length] 100 .row]:=⟨_,rfl⟩;have h3l:H3.length=H2.length+1:=by rw[hH3];simp
    obtain⟨lv',H4,k1,k2,k3,k4,k5⟩:=(hrow.sU [Blk.cells [pt H.length,pt H1.length] 100 .row]).xS (aAO y2 n) (aNE y2 n) (by decide) (by':=16) hw1.rs (kM (n:=1000) (by decide) (by simp;omega))
    rw[<-hH3] at k1 k3 k4 k5 es;rw[<-aPt] at k2
    -- stored
    have hxl:=dE hx.blk;have hlvx: ¬cR lv xb:=λhh=>by
      obtain⟨cs',hc'⟩:=hx.rows.blk hh;rw[hx.blk] at hc';injection hc' with hc';injection hc' with _ _ h3;cases h3
    have bx2:H2[xb]? =some (.cells [.int .i64 w,lv,pt (y.wh n)] 94 .fix):=by rw[(x1.tr x2).2 _ hxl id,hx.blk]
    have bx1:H1[xb]? =some (.cells [.int .i64 w,lv,pt (y.wh n)] 94 .fix):=by rw[x1.2 _ hxl id,hx.blk]
    have bx4:H4[xb]? =some (.cells [.int .i64 w,lv,pt (y.wh n)] 94 .fix):=by rw[k4 xb (by omega) hlvx,hH3,aOX (by omega),bx2]
    have sh:=Gz k2;obtain⟨H5,hH5⟩: ∃H5,H5=H4.set xb (.cells [.int .i64 w,lv',pt (y.wh n)] 94 .fix):=⟨_,rfl⟩;have st:stN 1 (.pointer (some ⟨xb,1,none⟩)) lv' H4=some (undef,H5):=by rw[hH5];exact tC bx4 (by decide) (by simp) sh.1 sh.2
    have hfr:Fr (λb=>b=xb∨cR lv b) H2 H5:=⟨by rw[hH5];simp;omega,λb hb hn=>by
      rw[hH5,aOV (λhh=>hn (.inl hh.symm)),k4 b (by omega) (λhh=>hn (.inr hh)),hH3,aOX hb]⟩
    have hnbx:xb≠y.nb:=λhh=>by
      have:=h.nb;rw[<-hh,hx.blk] at this;injection this with this;injection this with _ h2 _
      revert h2
      decide
    have hpvx: ¬cR pv xb:=λhh=>by
      obtain⟨cs',hc'⟩:=h.ports.blk hh;rw[hx.blk] at hc';injection hc' with hc';injection hc' with _ _ h3;cases h3
    have hlbx: ∀i,1<=i->i<n->xb≠y.lb i:=λi a b hh=>by
      have:=(h.lanes i a b).1;rw[<-hh,hx.blk] at this;injection this with this;injection this with _ _ h3;cases h3
    have g5:BN Hs H5 F2 bag ev wv nv y2 c n (n+1) (k+1) (k+1) pv:=by
      refine g2.aNG hfr λb hb hbl=> ?_
      have e1:y2.nb=y.nb:=by rw[hy2]
      have e2:y2.lb=y.lb:=by rw[hy2]
      rw[e1,e2];rcases hb with rfl|hb
      · exact⟨hun2 _ hxl hx.xF,hx.x0,hnbx,hpvx,hlbx⟩
      · obtain⟨q1,q2,q3⟩:=hx.lvF b hb
        have hbH:=hx.rows.j8 hb;refine⟨hun2 _ hbH q2,q1,λhh=> ?_,λhh=> ?_,q3⟩
        · obtain⟨cs',hc'⟩:=hx.rows.blk hb
          rw[hh,h.nb] at hc';injection hc' with hc';injection hc' with _ _ h3;cases h3
        · obtain⟨cs',hc'⟩:=hx.rows.blk hb
          obtain⟨cs2,hc2⟩:=h.ports.blk hh;rw[hc'] at hc2;injection hc2 with hc2;injection hc2 with _ h2 _
          revert h2
          decide
    have hwh:y2.wh=y.wh:=by rw[hy2]
    have hlv'x: ¬cR lv' xb:=λhh=>by
      rcases k5 xb hh with hh|hh
      · exact hlvx hh
      · omega
    have hx5:XN Hs H5 F2 y2 n (k+1) xb w lv':=by
      refine⟨by rw[hwh,hH5];exact iE bx4,hun2 _ hxl hx.xF,hx.x0,k2.iD λb hb=>by rw[hH5];exact aOV λhh=>hlv'x (by rw[hh];exact hb),λb hb=> ?_⟩
      have e2:y2.lb=y.lb:=by rw[hy2]
      rw[e2];have hsl:=h.ext.1;rcases k5 b hb with hb|hb
      · obtain⟨q1,q2,q3⟩:=hx.lvF b hb
        exact⟨q1,hun2 _ (hx.rows.j8 hb) q2,q3⟩
      · refine⟨by omega,λhu=>by have:=g2.sep.qF b hu;omega,λi a b' hh=> ?_⟩
        have:=dE (h.lanes i a b').1;omega
    -- the walk
    have hp0:=hpH H h.ext;have hp1:=hpH H1 (h.ext.tr x1);have l9:ld1 (.pointer (some ⟨pl,9,none⟩)) H=some (.int .u16 c.start,H):=by rw[eU hp0 9 (.int .u16 p.start) rfl,e9]
    have l3:ld1 (.pointer (some ⟨pl,3,none⟩)) H=some (.int .i64 c.room,H):=by rw[eU hp0 3 (.int .i64 p.room) rfl,e3]
    have l9':ld1 (.pointer (some ⟨pl,9,none⟩)) H1=some (.int .u16 c.start,H1):=by rw[eU hp1 9 (.int .u16 p.start) rfl,e9]
    have l3':ld1 (.pointer (some ⟨pl,3,none⟩)) H1=some (.int .i64 c.room,H1):=by rw[eU hp1 3 (.int .i64 p.room) rfl,e3]
    have ecs:IntKind.u64.wrap (c.start:Int)=(c.start:Int):=zU _ (by omega)
    have s1:=aKf (H:=H) (m:=m) (by omega) c.start c.room hst hrm
    have s2:=aKd (H:=H1) (m:=m) (by omega) c.start c.room hst hrm
    rw[<-hH1] at s1;rw[<-hH2] at s2;have lx:ld1 (.pointer (some ⟨xb,1,none⟩)) H=some (lv,H):=cZ hx.blk rfl;have lx1:ld1 (.pointer (some ⟨xb,1,none⟩)) H1=some (lv,H1):=cZ bx1 rfl;have lx2:ld1 (.pointer (some ⟨xb,1,none⟩)) H2=some (lv,H2):=cZ bx2 rfl;have lvc:=λG=>aNd hx.rows G
    have ek:=oO k (by omega)
    rw[aI,X7];simp -implicitDefEqProofs only[gsR,c1,lx,l9,l3,fF _ _ lV qL,ecs,s1,lx1,lvc,l9',Cj,l3',s2,lx2,eb,es,k1,st,cC,ek];refine ih (k+1) l H5 F2 y2 lv' (by omega) (by omega) (by omega) (by rw[hy2];exact hnb) g5 fe2 hx5 (λb cs hb=> ?_) ..
    have hb2:=(hkr.ext (x1.tr x2)) b cs hb;rw[hfr.2 b (dE hb2) (λhh=> ?_),hb2]
    rcases hh with rfl|hh
    · rw[bx2] at hb2
      injection hb2 with hb2;injection hb2 with _ _ h3;cases h3
    · obtain⟨cs',hc'⟩:=hrow.blk hh
      rw[hb2] at hc';injection hc' with hc';injection hc' with _ h2 _
      revert h2
      decide
end
theorem Sep.aNK {ι:Type}{A:ι->aC->Prop}{F:ι->Nat->Prop}{H:aC}(h:Sep A F H)(i:ι)(hi: ∀b,¬F i b){B:aC->Prop}{G:Nat->Prop}(hB:Has B G H)(hd: ∀b,G b-> ¬Un F b):Sep (updI A i B) (updI F i G) H:=by
 refine⟨λj=> ?_,λj k b hj hk=> ?_⟩
 ·by_cases hji:j=i
  ·rw[hji,nQ,nQ]
   exact hB
  ·rw[gL _ _ hji,gL _ _ hji]
   exact h.own j
 ·by_cases hji:j=i
  ·by_cases hki:k=i
   ·rw[hji,hki]
   ·rw[hji,nQ] at hj
    rw[gL _ _ hki] at hk;exact absurd ⟨k,hk⟩ (hd b hj)
  ·rw[gL _ _ hji] at hj
   by_cases hki:k=i
   ·rw[hki,nQ] at hk
    exact absurd ⟨j,hj⟩ (hd b hk)
   ·rw[gL _ _ hki] at hk
    exact h.sep j k b hj hk
section
variable {Hs H : aC} {F : Part → Nat → Prop} {bag : Int} {ev wv nv : Value} {y : Lay} {c : Cfg} {n nw cs cr : Nat} {pv : Value} {m : Nat}
theorem Ct (hn:1<=n)(i k:Nat):DnB c n c.lanes i k↔DnB c (n+1) 0 i k:=by
 unfold DnB
 constructor<;>intro h<;>omega
theorem BN.aNJ {w xb:Nat}{lv:Value}(h:BN Hs H F bag ev wv nv y c n (n+1) c.lanes c.lanes pv)(hfe:FE F c n (n+1) c.lanes c.lanes)(hx:XN Hs H F y n c.lanes xb w lv)(hn:1<=n)(hn6:n<=6)(hl:1<=c.lanes)(hw:w=kS c n):
  ∃y' pv' H3 H4 H',y'.nb=y.nb/\dL 94 3 1 [.int .i64 0,.slice none 0 0,.pointer none] [(0,.agg #[.int .i64 w,lv,pt (y.wh n)])] H=some (.slice (some ⟨H.length,0,none⟩) 1 1,H3)/\Go.Abs.app 94 3 40 pv (.slice (some ⟨H.length,0,none⟩) 1 1) H3=some (pv',H4)/\
   stN 1 (.pointer (some ⟨y.nb,13,none⟩)) pv' H4=some (undef,H')/\BN Hs H' F bag ev wv nv y' c (n+1) (n+1) 0 0 pv'/\FE F c (n+1) (n+1) 0 0/\Krow H H':=by
 obtain⟨b,cap,rest,hlv,hcap,hlb⟩: ∃b cap rest,lv= .slice (some ⟨b,0,none⟩) c.lanes cap/\c.lanes<=cap/\H[b]? =some (.cells (((List.range c.lanes).map (mL y n)).flatten++rest) 100 .row):=by
  obtain⟨_,⟨_,h0⟩|⟨c',cap,rest,h1,h2,_,h3⟩⟩:=hx.rows
  ·rw[aPo] at h0
   omega
  ·rw[aPo] at h1 h2
   exact⟨c',cap,rest,h1,h2,h3⟩
 obtain⟨y',hy'⟩: ∃y':Lay,y'={y with lb:=up1 y.lb n b,lcap:=up1 y.lcap n cap,lrest:=up1 y.lrest n rest}:=⟨_,rfl⟩;have hbF:=hx.lvF b (by rw[hlv];exact⟨_,_,_,rfl⟩)
 have hpo: ∀i,i<n->gQ y' c i=gQ y c i:=λi hi=>by
  rw[hy'];unfold gQ mY;simp only;rw[nW _ _ (by omega),nW _ _ (by omega)]
 have hpn:gQ y' c n=[.int .i64 w,lv,pt (y.wh n)]:=by
  rw[hy',hw,hlv];unfold gQ mY;simp only;rw[if_neg (by omega),oG,oG]
 have hrw:Rw (gQ y' c) 94 3 H pv (List.range n):=by
  have:=h.ports;unfold Rw at this⊢;rw[List.map_congr_left λi hi=>hpo i (aPy.mp hi)]
  exact this
 have eb:dL 94 3 1 [.int .i64 0,.slice none 0 0,.pointer none] [(0,.agg #[.int .i64 w,lv,pt (y.wh n)])] H=some (.slice (some ⟨H.length,0,none⟩) 1 1,H++[.cells [.int .i64 w,lv,pt (y.wh n)] 94 .row]):=by
  rw[hlv];rfl
 have hw1:Rr (gQ y' c) 94 (H++[.cells [.int .i64 w,lv,pt (y.wh n)] 94 .row]) (.slice (some ⟨H.length,0,none⟩) 1 1) [n]:=by
  have:=xR (el:=gQ y' c) (e:=94) n H;rw[hpn] at this;exact this
 obtain⟨pv',H4,k1,k2,k3,k4,k5⟩:=(hrw.sU [Blk.cells [.int .i64 w,lv,pt (y.wh n)] 94 .row]).xS (Cn y' c) (aBc y' c) (by decide) (by':=40) hw1.rs (kM (n:=1000) (by decide) (by simp;omega))
 rw[<-aPt] at k2;have hlen:(H++[Blk.cells [.int .i64 w,lv,pt (y.wh n)] 94 .row]).length=H.length+1:=by simp
 rw[hlen] at k3 k4 k5;have hnl:=dE h.nb;have hnpv: ¬cR pv y.nb:=λhh=>by
  obtain⟨cs',hc'⟩:=h.ports.blk hh;rw[h.nb] at hc';injection hc' with hc';injection hc' with _ _ h3;cases h3
 have bn4:H4[y.nb]? =some (rK bag ev wv nv y c pv):=by rw[k4 _ (by omega) hnpv,aOX hnl,h.nb]
 have sh:=Gz k2;have st:stN 1 (.pointer (some ⟨y.nb,13,none⟩)) pv' H4=some (undef,H4.set y.nb (rK bag ev wv nv y c pv')):=tC bn4 (by decide) (by simp) sh.1 sh.2
 have hfr:Fr (λb=>b=y.nb∨cR pv b) H (H4.set y.nb (rK bag ev wv nv y c pv')):=⟨by simp;omega,λb hb hn=>by
  rw[aOV (λhh=>hn (.inl hh.symm)),k4 b (by omega) (λhh=>hn (.inr hh)),aOX hb]⟩
 have hNF: ∀b,(b=y.nb∨cR pv b)-> ¬Un F b/\Hs.length<=b:=λb hb=>by
  rcases hb with rfl|hb
  ·exact⟨h.nbF,h.nb0⟩
  ·exact⟨(h.pvF b hb).2,(h.pvF b hb).1⟩
 obtain⟨x1,x2⟩:=h.Pw (pv':=pv) (n':=n) hfr hNF;have hlkeep: ∀(a:Nat)(cs':List Value),H[a]? =some (.cells cs' 100 .row)->(H4.set y.nb (rK bag ev wv nv y c pv'))[a]? =some (.cells cs' 100 .row):=λa cs' ha=>by
  rw[hfr.2 a (dE ha) (λhh=> ?_),ha]
  rcases hh with rfl|hh
  ·rw[h.nb] at ha
   injection ha with ha;injection ha with _ _ h3;cases h3
  ·obtain⟨cs2,hc2⟩:=h.ports.blk hh
   rw[ha] at hc2;injection hc2 with hc2;injection hc2 with _ h2 _
   revert h2
   decide
 have hpvn: ¬cR pv' y.nb:=λhh=>by
  rcases k5 _ hh with hh|hh
  ·exact hnpv hh
  ·omega
 have hsl:=h.ext.1;refine⟨y',pv',_,H4,_,by rw[hy'],eb,k1,st,?_,λj hj=>hfe j λhd=>hj ?_,λb cs hb=> ?_⟩
 ·refine⟨x1,x2.xT λj D hD=> ?_,h.new,?_,by rw[hy'];exact h.nbF,by rw[hy'];exact h.nb0,k2.iD λb hb=>aOV λhh=>hpvn (by rw[hh];exact hb),λb hb=> ?_,λi h1 h2=> ?_,λi j a1 a2 a3 a4 he=> ?_,by rw[hy'];exact h.ww⟩
  ·rw[hy']
   cases j with
   |snd i k=>
    simp only[mN] at hD⊢;by_cases hd:DnB c n c.lanes i k
    ·rw[if_pos hd] at hD
     rw[if_pos ((Ct hn i k).mp hd)];exact hD
    ·rw[if_neg hd] at hD
     rw[if_neg (λhh=>hd ((Ct hn i k).mpr hh))]
     exact hD
   |rcv i k=>
    simp only[mN] at hD⊢;by_cases hd:DnB c n c.lanes i k
    ·rw[if_pos hd] at hD
     rw[if_pos ((Ct hn i k).mp hd)];exact hD
    ·rw[if_neg hd] at hD
     rw[if_neg (λhh=>hd ((Ct hn i k).mpr hh))]
     exact hD
   |_=>exact hD
  ·rw[hy']
   exact iE bn4
  ·rcases k5 b hb with hb|hb
   ·exact h.pvF b hb
   ·exact⟨by omega,λhu=>by have:=h.sep.qF b hu;omega⟩
  ·by_cases hin:i=n
   ·subst hin
    have e1:y'.lb i=b:=by rw[hy'];exact oG _ _ _
    have e2:y'.lcap i=cap:=by rw[hy'];exact oG _ _ _
    have e3:oQ y' c i= .cells (((List.range c.lanes).map (mL y i)).flatten++rest) 100 .row:=by
     rw[hy'];unfold oQ;simp only;rw[oG];rfl
    rw[e1,e2,e3]
    exact⟨hlkeep _ _ hlb,hbF.1,hbF.2.1,hcap⟩
   ·obtain⟨q1,q2,q3,q4⟩:=h.lanes i h1 (by omega)
    have e1:y'.lb i=y.lb i:=by rw[hy'];exact nW _ _ hin
    have e2:y'.lcap i=y.lcap i:=by rw[hy'];exact nW _ _ hin
    have e3:oQ y' c i=oQ y c i:=by
     rw[hy'];unfold oQ;simp only;rw[nW _ _ hin];rfl
    rw[e1,e2,e3]
    exact⟨hlkeep _ _ q1,q2,q3,q4⟩
  ·have e1: ∀i,y'.lb i=up1 y.lb n b i:=λi=>by rw[hy']
   rw[e1,e1] at he;by_cases hi:i=n
   ·by_cases hj:j=n
    ·rw[hi,hj]
    ·rw[hi,oG,nW _ _ hj] at he
     exact absurd he (hbF.2.2 j a3 (by omega))
   ·by_cases hj:j=n
    ·rw[hj,oG,nW _ _ hi] at he
     exact absurd he.symm (hbF.2.2 i a1 (by omega))
    ·rw[nW _ _ hi,nW _ _ hj] at he
     exact h.lne i j a1 (by omega) a3 (by omega) he
 ·cases j<;>simp only[rM] at hd⊢ <;>(try exact hd)<;>exact(Ct hn _ _).mp hd
 ·rw[hfr.2 b (dE hb) (λhh=> ?_),hb]
  rcases hh with rfl|hh
  ·rw[h.nb] at hb
   injection hb with hb;injection hb with _ _ h3;cases h3
  ·obtain⟨cs2,hc2⟩:=h.ports.blk hh
   rw[hb] at hc2;injection hc2 with hc2;injection hc2 with _ h2 _
   revert h2
   decide
end
section
variable {Hs H : aC} {F : Part → Nat → Prop} {ev wv nv : Value} {y : Lay} {c : Cfg} {p : PlanD} {m : Nat}
def Py (Hs:aC)(p:PlanD)(ev wv nv:Value)(c:Cfg)(H':aC)(r:Value):Prop:= ∃F y,r=pt y.nb/\NodeAt Hs H' F y p ev wv nv c 0 (NS.jB c)
theorem aBe (a b:Nat)(h:a*b<100000):IntKind.i64.wrap ((a:Int)*b)=((a*b:Nat):Int):=by
 have e:(a:Int)*b=((a*b:Nat):Int):=by push_cast;rfl
 rw[e];exact dG (by omega) (by omega)
theorem aNL {pl:Nat}{pv:Value}(hok:c.ok)(hc:c=iJ p c.me)(hop: ∃n,OkP p n)(hPV:PV Hs p ev wv nv)(hpl:Hs[pl]? =some (plB p ev wv nv))(e2:p.lanes=(c.lanes:Int))(e3:p.room=(c.room:Int))(hm:400<m)
    (h:BN Hs H F p.bag ev wv nv y c c.aH c.aH 0 0 pv)(hfe:FE F c c.aH c.aH 0 0): ∀(x0 x1 x3 x4 x6 x7 x8 x9 bK bN bC aO aP aM aS bI aN bG bJ bL bH bE aT aU aV aW aX aY aZ bA bB bO bP bQ bR bS bT bU bV bX bY cD cG cH cK cQ cS cT cM cN cO cP cW cU cV cY dA dC dB dD dN dO dR dS dT dU dV dW dX eG eH eI eJ eK eL eM eN eO eP eQ eS eX eY eZ fA fB fC fD fE fJ fK fL fM fN fO fP fQ fR fS fT fU fV fW fX fY fZ gA gB gC gD gE gF gG gH gR gS gT gU gV gW gX gY:Value),
    ∃H2 r,Mt (lvl prog pkN m) (aI m) x0 x1 (pt pl) x3 x4 (pt y.nb) x6 x7 x8 x9 bK bN bC aO aP aM aS bI aN bG bJ bL bH bE aT aU aV aW aX aY aZ bA bB bO bP bQ bR bS bT bU bV bX bY cD cG cH cK cQ cS cT cM cN cO cP cW cU cV cY dA dC dB dD dN dO dR dS dT dU dV dW dX eG eH eI eJ eK eL eM eN eO eP eQ eS eX eY eZ fA fB fC fD fE fJ fK fL fM fN fO fP fQ fR fS fT fU fV fW fX fY fZ gA gB gC gD gE gF gG gH gR gS gT gU gV gW gX gY H=some (r,H2)/\Py Hs p ev wv nv c H2 r:=by
  intros;have h6:c.aH<=6:=by have:=hok.by';unfold Cfg.aH;omega
  have hp1:1<=c.aH:=by unfold Cfg.aH;omega
  have hlanes:=hok.lanes;have hroom:=hok.room
  -- the ports' slice
  obtain⟨pb,pcap,prest,hpv,hpc,hpb⟩: ∃b cap rest,pv= .slice (some ⟨b,0,none⟩) c.aH cap/\c.aH<=cap/\H[b]? =some (.cells (((List.range c.aH).map (gQ y c)).flatten++rest) 94 .row):=by
    obtain⟨_,⟨_,h0⟩|⟨c',cap,rest,h1,h2,_,h3⟩⟩:=h.ports
    · rw[aPo] at h0
      omega
    · rw[aPo] at h1 h2
      exact⟨c',cap,rest,h1,h2,h3⟩
  have hpbF:=h.pvF pb (by rw[hpv];exact⟨_,_,_,rfl⟩)
  have n13:ld1 (.pointer (some ⟨y.nb,13,none⟩)) H=some (pv,H):=cZ h.nb rfl;have lpv:bM pv=some (.int .i64 c.aH):=by rw[hpv];rfl
  -- the arbiter
  obtain⟨ab,ga,aa,H1,a1,a2,a3,x1,a4,a5,a6⟩:=aMl (H:=H) (m:=m) (n:=c.aH) hp1 (by omega) (by omega)
  have hA1:Has (Blks (jX ab ga aa (List.replicate c.aH 0) (List.replicate c.aH 0))) (InB (jX ab ga aa (List.replicate c.aH 0) (List.replicate c.aH 0))) H1:=
    Has.Gl a2 (λq hq=>⟨q,hq,rfl⟩) λb ⟨q,hq,hb⟩=>by rw[<-hb];exact dE (a2 q hq)
  have hge1: ∀b,InB (jX ab ga aa (List.replicate c.aH 0) (List.replicate c.aH 0)) b->H.length<=b:=λb ⟨q,hq,hb⟩=>by
    rw[<-hb];simp only[jX,aPd,aPk,or_false] at hq;rcases hq with rfl|rfl|rfl
    · exact a4
    · exact a5
    · exact a6
  have sep1:=h.sep.Gm .arb (Cs _ _ _ _ _ _) (hfe .arb id) hA1 x1 hge1;obtain⟨F1,hF1⟩: ∃F1,F1=updI F .arb (InB (jX ab ga aa (List.replicate c.aH 0) (List.replicate c.aH 0))):=⟨_,rfl⟩;obtain⟨A1,hA1'⟩: ∃A1,A1=updI (mN y c c.aH c.aH 0 0) .arb (Blks (jX ab ga aa (List.replicate c.aH 0) (List.replicate c.aH 0))):=⟨_,rfl⟩;rw[<-hF1,<-hA1'] at sep1;have dx1: ∀j,DX (A1 j):=λj=>by
    rw[hA1'];unfold updI;split
    · exact Blks.dx _
    · exact Cs _ _ _ _ _ _ j
  have hun1: ∀b,b<H.length-> ¬Un F b-> ¬Un F1 b:=λb hb hF hu=>by
    rw[hF1] at hu
    exact(tG hu).elim hF λhg=>by have:=hge1 b hg;omega
  have bn1:H1[y.nb]? =some (rK p.bag ev wv nv y c pv):=by rw[x1.2 _ (dE h.nb) id,h.nb]
  -- stored
  obtain⟨H2,hH2⟩: ∃H2,H2=H1.set y.nb (.cells [pt ab,.int .i64 c.nodes,ev,.int .i64 c.lanes,.int .i64 c.room,.int .i64 c.queue,.int .i64 c.rounds,.int .i64 c.every,.int .i64 p.bag,wv,.int .u16 c.start,nv,.int .i64 c.me,pv,pt y.hb,.pointer none,.int .i64 0] 89 .fix):=⟨_,rfl⟩;have st1:stN 1 (.pointer (some ⟨y.nb,0,none⟩)) (pt ab) H1=some (undef,H2):=by rw[hH2];exact tC bn1 (by decide) (by simp) rfl rfl
  have bn2:H2[y.nb]? =some (.cells [pt ab,.int .i64 c.nodes,ev,.int .i64 c.lanes,.int .i64 c.room,.int .i64 c.queue,.int .i64 c.rounds,.int .i64 c.every,.int .i64 p.bag,wv,.int .u16 c.start,nv,.int .i64 c.me,pv,pt y.hb,.pointer none,.int .i64 0] 89 .fix):=by rw[hH2];exact iE bn1
  have fr2:Fr (λb=>b=y.nb) H1 H2:=⟨by rw[hH2];simp,λb hb hn=>by rw[hH2,aOV (λhh=>hn hh.symm)]⟩
  have nbl:=dE h.nb;have nbF1:=hun1 _ nbl h.nbF;have mv2:Mv (λb=>b=y.nb) (λb=>b=y.nb) H1 H2:=⟨fr2.1,λ_ h=> .inl h,λb hb hn=>fr2.2 b hb hn⟩
  have sep2:=sep1.xU dx1 mv2 λb hb hh=>nbF1 (by rw[<-hh];exact hb)
  -- the rings
  have hroom2:=aA3 hok;have hpos:1<=c.aH*c.lanes*c.room:=Nat.mul_pos (Nat.mul_pos (by omega) (by omega)) (by omega)
  obtain⟨r,H3,G3,r1,r2,x3,r3⟩:=Has.aAo (A:=λ_=>True) (H:=H2) rX (n:=m) (B:=λr D'=> ∃a,r=pt a/\RingsN D' a [] (c.aH*c.lanes*c.room) c.aH c.lanes) (λD _ _=>by
    obtain⟨a,D',g1,g2,_,_⟩:=aLB (D:=D) (m:=m) (by omega) c.aH c.lanes (c.aH*c.lanes*c.room) ⟨hp1,by omega,hlanes.1,hlanes.2,hpos,by omega⟩
    exact⟨_,D',g1,a,rfl,g2⟩)
  obtain⟨rg,hrg,_⟩:=r2.at_;have r2':Has (λD=>RingsN D rg [] (c.aH*c.lanes*c.room) c.aH c.lanes) G3 H3:=Has.wX r2 λD ⟨a,ha,hD⟩=>by
    rw[hrg] at ha;injection ha with ha;injection ha with ha;injection ha with ha;rw[ha];exact hD
  have fr1: ∀b,¬F1 .rings b:=λb hb=>by
    rw[hF1,gL _ _ (λhh=>by cases hh)] at hb
    exact hfe .rings id b hb
  have sep3:=sep2.Gm .rings dx1 fr1 r2' x3 r3;obtain⟨F3,hF3⟩: ∃F3,F3=updI F1 .rings G3:=⟨_,rfl⟩;obtain⟨A3,hA3⟩: ∃A3,A3=updI A1 .rings (λD=>RingsN D rg [] (c.aH*c.lanes*c.room) c.aH c.lanes):=⟨_,rfl⟩
  rw[<-hF3,<-hA3] at sep3;have dx3: ∀j,DX (A3 j):=λj=>by
    rw[hA3];unfold updI;split
    · exact λD D' h he=>h.ext he
    · exact dx1 j
  have hl12:=fr2.1;have hl01:=x1.1;have hun3: ∀b,b<H.length-> ¬Un F b-> ¬Un F3 b:=λb hb hF hu=>by
    rw[hF3] at hu
    exact(tG hu).elim (hun1 b hb hF) λhg=>by have:=r3 b hg;omega
  have bn3:H3[y.nb]? =some (.cells [pt ab,.int .i64 c.nodes,ev,.int .i64 c.lanes,.int .i64 c.room,.int .i64 c.queue,.int .i64 c.rounds,.int .i64 c.every,.int .i64 p.bag,wv,.int .u16 c.start,nv,.int .i64 c.me,pv,pt y.hb,.pointer none,.int .i64 0] 89 .fix):=by rw[x3.2 _ (dE bn2) id,bn2]
  -- stored
  obtain⟨y',hy'⟩: ∃y':Lay,y'={y with pb:=pb,pcap:=pcap,prest:=prest,ab:=ab,ga:=ga,aa:=aa,rg:=rg}:=⟨_,rfl⟩;have hnc:Blk.cells [pt ab,.int .i64 c.nodes,ev,.int .i64 c.lanes,.int .i64 c.room,.int .i64 c.queue,.int .i64 c.rounds,.int .i64 c.every,.int .i64 p.bag,wv,.int .u16 c.start,nv,.int .i64 c.me,pv,pt y.hb,pt rg,.int .i64 0] 89 .fix=wV p.bag ev wv nv y' c 0:=by
    rw[hy',hpv];rfl
  obtain⟨H4,hH4⟩: ∃H4,H4=H3.set y.nb (wV p.bag ev wv nv y' c 0):=⟨_,rfl⟩;have st2:stN 1 (.pointer (some ⟨y.nb,15,none⟩)) (pt rg) H3=some (undef,H4):=by rw[hH4,<-hnc];exact tC bn3 (by decide) (by simp) rfl rfl
  have fr4:Fr (λb=>b=y.nb) H3 H4:=⟨by rw[hH4];simp,λb hb hn=>by rw[hH4,aOV (λhh=>hn hh.symm)]⟩
  have mv4:Mv (λb=>b=y.nb) (λb=>b=y.nb) H3 H4:=⟨fr4.1,λ_ h=> .inl h,λb hb hn=>fr4.2 b hb hn⟩
  have nbF3:=hun3 _ nbl h.nbF;have sep4:=sep3.xU dx3 mv4 λb hb hh=>nbF3 (by rw[<-hh];exact hb)
  have keep: ∀b,b<H.length->b≠y.nb->H4[b]? =H[b]? :=λb hb hn=>by
    have hl23:=x3.1;rw[fr4.2 b (by omega) hn,x3.2 b (by omega) id,fr2.2 b (by omega) hn,x1.2 b hb id]
  have bn4:H4[y.nb]? =some (wV p.bag ev wv nv y' c 0):=by rw[hH4];exact iE bn3
  -- the node's own blocks
  have enb:y'.nb=y.nb:=by rw[hy']
  have hpbn:pb≠y.nb:=λhh=>by
    have:=h.nb;rw[<-hh,hpb] at this;injection this with this;injection this with _ _ h3;cases h3
  have hlbn: ∀i,1<=i->i<c.aH->y.lb i≠y.nb:=λi a b hh=>by
    have:=(h.lanes i a b).1;rw[hh,h.nb] at this;injection this with this;injection this with _ _ h3;cases h3
  have hnl:Blks (mM p.bag ev wv nv y' c 0) H4/\ ∀b,InB (mM p.bag ev wv nv y' c 0) b->b<H.length/\ ¬Un F b/\Hs.length<=b:=by
    have q0: ∀q∈mM p.bag ev wv nv y' c 0,H4[q.1]? =some q.2/\q.1<H.length/\ ¬Un F q.1/\Hs.length<=q.1:=λq hq=>by
      simp only[mM,aPd,aPx,aPy] at hq;rcases hq with rfl|rfl|⟨j,hj,rfl⟩
      · simp only
        rw[enb]
        exact⟨bn4,nbl,h.nbF,h.nb0⟩
      · have e:y'.pb=pb:=by rw[hy']
        have e2:yN y' c= .cells (((List.range c.aH).map (gQ y c)).flatten++prest) 94 .row:=by rw[hy'];rfl
        simp only;rw[e,e2]
        exact⟨by rw[keep _ (dE hpb) hpbn,hpb],dE hpb,hpbF.2,hpbF.1⟩
      · have hjp:j+1<c.aH:=by unfold Cfg.aH;omega
        obtain⟨q1,q2,q3,q4⟩:=h.lanes (j+1) (by omega) hjp
        have e:y'.lb (j+1)=y.lb (j+1):=by rw[hy']
        have e2:oQ y' c (j+1)=oQ y c (j+1):=by rw[hy'];rfl
        simp only;rw[e,e2]
        exact⟨by rw[keep _ (dE q1) (hlbn _ (by omega) hjp),q1],dE q1,q3,q2⟩
    exact⟨λq hq=>(q0 q hq).1,λb ⟨q,hq,hb⟩=>by rw[<-hb];exact(q0 q hq).2⟩
  have hl4:H.length<=H4.length:=by
    have:=x3.1;have:=fr4.1;omega
  have fn3: ∀b,¬F3 .node b:=λb hb=>by
    rw[hF3,gL _ _ (λhh=>by cases hh),hF1,gL _ _ (λhh=>by cases hh)] at hb
    exact hfe .node id b hb
  have sep5:=Sep.aNK sep4 .node fn3 (B:=Blks (mM p.bag ev wv nv y' c 0)) (G:=InB (mM p.bag ev wv nv y' c 0)) (Has.Gl hnl.1 (λq hq=>⟨q,hq,rfl⟩) λb hb=>by have:=(hnl.2 b hb).1;omega) λb hb=>hun3 b (hnl.2 b hb).1 (hnl.2 b hb).2.1
  -- all of it
  have hx4:Ext Hs H4:=by
    have hsl:=h.ext.1;have hnb0:=h.nb0
    exact⟨by omega,λb hb _=>by rw[keep b (by omega) (by omega),h.ext.2 b hb id]⟩
  have hnode:NodeAt Hs H4 (updI F3 .node (InB (mM p.bag ev wv nv y' c 0))) y' p ev wv nv c 0 (NS.jB c):=by
    refine⟨hok,hc,hop,⟨?_,?_,?_,?_⟩,hx4,λb hb=> ?_,hPV,NInv.aKD hok,sep5.xT λj D hD=> ?_⟩
    · rw[hy'];exact hpc
    · rw[hy'];exact λi h1 h2=>(h.lanes i h1 h2).2.2.2
    · rw[hy'];exact a3
    · rw[hy'];exact h.ww
    · have hsl:=h.ext.1
      rcases tG hb with hb|hb
      · rw[hF3] at hb
        rcases tG hb with hb|hb
        · rw[hF1] at hb
          rcases tG hb with hb|hb
          · exact h.new b hb
          · have:=hge1 b hb;omega
        · have:=r3 b hb;omega
      · exact(hnl.2 b hb).2.2
    · cases j with
      |node=>
        rw[nQ] at hD;exact hD
      |rings=>
        rw[gL _ _ (λhh=>by cases hh),hA3,nQ] at hD
        rw[hy'];exact hD
      |arb=>
        rw[gL _ _ (λhh=>by cases hh),hA3,gL _ _ (λhh=>by cases hh),hA1',nQ] at hD
        rw[hy'];exact hD
      |host=>
        rw[gL _ _ (λhh=>by cases hh),hA3,gL _ _ (λhh=>by cases hh),hA1',gL _ _ (λhh=>by cases hh)] at hD
        rw[hy'];exact hD
      |whl i=>
        rw[gL _ _ (λhh=>by cases hh),hA3,gL _ _ (λhh=>by cases hh),hA1',gL _ _ (λhh=>by cases hh)] at hD
        rw[hy'];exact hD
      |snd i k=>
        rw[gL _ _ (λhh=>by cases hh),hA3,gL _ _ (λhh=>by cases hh),hA1',gL _ _ (λhh=>by cases hh)] at hD
        rw[hy'];simp only[mN,lY] at hD⊢;by_cases hd:1<=i/\i<c.aH/\k<c.lanes
        · rw[if_pos (.inl hd)] at hD
          rw[if_pos hd];exact hD
        · rw[if_neg (by unfold DnB;omega)] at hD
          rw[if_neg hd];exact hD
      |rcv i k=>
        rw[gL _ _ (λhh=>by cases hh),hA3,gL _ _ (λhh=>by cases hh),hA1',gL _ _ (λhh=>by cases hh)] at hD
        rw[hy'];simp only[mN,lY] at hD⊢;by_cases hd:1<=i/\i<c.aH/\k<c.lanes
        · rw[if_pos (.inl hd)] at hD
          rw[if_pos hd];exact hD
        · rw[if_neg (by unfold DnB;omega)] at hD
          rw[if_neg hd];exact hD
  -- the walk
  have hp: ∀G:aC,Ext Hs G->G[pl]? =some (plB p ev wv nv):=λG hG=>by rw[hG.2 _ (dE hpl) id,hpl]
  have hx2:Ext Hs H2:=by
    have hsl:=h.ext.1;have hnb0:=h.nb0
    exact⟨by omega,λb hb _=>by rw[fr2.2 b (by omega) (by omega),x1.2 b (by omega) id,h.ext.2 b hb id]⟩
  have l2:ld1 (.pointer (some ⟨pl,2,none⟩)) H2=some (.int .i64 c.lanes,H2):=by rw[eU (hp H2 hx2) 2 (.int .i64 p.lanes) rfl,e2]
  have l3:ld1 (.pointer (some ⟨pl,3,none⟩)) H2=some (.int .i64 c.room,H2):=by rw[eU (hp H2 hx2) 3 (.int .i64 p.room) rfl,e3]
  have n13':ld1 (.pointer (some ⟨y.nb,13,none⟩)) H2=some (pv,H2):=cZ bn2 rfl;have hpl18:c.aH*c.lanes<=18:=Nat.mul_le_mul h6 hlanes.2;have m1:=aBe c.aH c.lanes (by omega)
  have m2:=aBe (c.aH*c.lanes) c.room (by omega)
  rw[hrg] at r1;refine⟨H4,pt y.nb,?_,updI F3 .node (InB (mM p.bag ev wv nv y' c 0)),y',by rw[enb],hnode⟩
  unfold Mt;simp -implicitDefEqProofs only[gsR,n13,lpv,a1,st1,n13',l2,qC,m1,l3,m2,r1,st2]
end
theorem aNM (a b d e f g h i:Int)(ev wv nv:Value)(me:Int)(q:Nat):bld prog 89 [(1,.agg ⟨[.int .i64 a,ev,.int .i64 b,.int .i64 d,.int .i64 e,.int .i64 f,.int .i64 g,.int .i64 h,wv,.int .u16 i,nv]⟩),(2,.int .i64 me),(4,pt q)]=
  some (.agg ⟨[.pointer none]++[.int .i64 a,ev,.int .i64 b,.int .i64 d,.int .i64 e,.int .i64 f,.int .i64 g,.int .i64 h,wv,.int .u16 i,nv]++[.int .i64 me,.slice none 0 0,pt q,.pointer none,.int .i64 0]⟩):=by kernel_rfl
section
variable {Hs H : aC} {F : Part → Nat → Prop} {ev wv nv : Value} {y : Lay} {c : Cfg} {p : PlanD} {m : Nat}
theorem aNN {pl:Nat}{bv:Value}(hok:c.ok)(hc:c=iJ p c.me)(hop: ∃n,OkP p n)(hPV:PV Hs p ev wv nv)(hpl:Hs[pl]? =some (plB p ev wv nv))(e2:p.lanes=(c.lanes:Int))(e3:p.room=(c.room:Int))(e9:p.start=(c.start:Int))(hwo:wOk p.weights=true)
  {Hb:aC}(hbv:Iw Hb bv (bes p.edges c.me))(hbl:(bes p.edges c.me).length=c.by'.length)(hbg: ∀i,i<c.by'.length->(bes p.edges c.me)[i]? =some ((c.by'.getD i 0:Nat):Int))(hm:500<m)(hm2:m<=72057594037927936){nb:Nat}:
  ∀(q i l:Nat)(H:aC)(F:Part->Nat->Prop)(y:Lay)(pv:Value),c.by'.length-i=q->i<=c.by'.length->q<l->y.nb=nb->BN Hs H F p.bag ev wv nv y c (i+1) (i+1) 0 0 pv->FE F c (i+1) (i+1) 0 0->Krow Hb H-> ∀(x0 x1 x3 x4 x6 x7 x8 x9 bK bN bC aO aP aM aS bI aN bG bJ bL bH bE aT aU aV aW aX aY aZ bA bB bO bP bQ bR bS bT bU bV bX bY cD cG cH cK cM cN cO cP cW cU cV cY dA dC dB dD dN dO dR dS dT dU dV dW dX eG eH eI eJ eK eL eM eN eO eP eQ eS eX eY eZ fA fB fC fD fE fJ fK fL fM fN fO fP fQ fR fS fT fU fV fW fX fY fZ gA gB gC gD gE gF gG gH gR gS gT gU gV gW gX gY:Value),
  ∃H2 r,aI l (aK prog (lvl prog pkN m) (aI m) Mr) (Mw (lvl prog pkN m) (aI m)) [x0,x1,(pt pl),x3,x4,(pt nb),x6,x7,x8,x9,bK,bN,bC,aO,aP,aM,aS,bI,aN,bG,bJ,bL,bH,bE,aT,aU,aV,aW,aX,aY,aZ,bA,bB,bO,bP,bQ,bR,bS,bT,bU,bV,bX,bY,cD,cG,cH,cK,bv,(.int .i64 c.by'.length),(.int .i64 (i:Nat)),cM,cN,cO,cP,cW,cU,cV,cY,dA,dC,dB,dD,dN,dO,dR,dS,dT,dU,dV,dW,dX,eG,eH,eI,eJ,eK,eL,eM,eN,eO,eP,eQ,eS,eX,eY,eZ,fA,fB,fC,fD,fE,fJ,fK,fL,fM,fN,fO,fP,fQ,fR,fS,fT,fU,fV,fW,fX,fY,fZ,gA,gB,gC,gD,gE,gF,gG,gH,gR,gS,gT,gU,gV,gW,gX,gY] H=some (r,H2)/\Py Hs p ev wv nv c H2 r:=by
 intro q;induction q with
 |zero=>
  intro i l H F y pv hq hi hl hnb h hfe hkr;intros;obtain⟨l,rfl⟩: ∃l',l=l'+1:=⟨l-1,by omega⟩
  have hie:i+1=c.aH:=by unfold Cfg.aH;omega
  have c1:decide ((i:Int)<(c.by'.length:Int))=false:=by rw[decide_eq_false_iff_not];omega
  rw[aI,X6];simp -implicitDefEqProofs only[gsR,c1];rw[aI3];rw[hie] at h hfe;rw[<-hnb];exact aNL hok hc hop hPV hpl e2 e3 (by omega) h hfe ..
 |succ q ih=>
  intro i l H F y pv hq hi hl hnb h hfe hkr;intros;obtain⟨l,rfl⟩: ∃l',l=l'+1:=⟨l-1,by omega⟩
  have h5:=hok.by';have hil:i<c.by'.length:=by omega
  have c1:decide ((i:Int)<(c.by'.length:Int))=true:=by rw[decide_eq_true_eq];omega
  have hpH: ∀G:aC,Ext Hs G->G[pl]? =some (plB p ev wv nv):=λG hG=>by rw[hG.2 _ (dE hpl) id,hpl]
  obtain⟨b,o,a1,_,a3⟩:=(hkr.iw hbv).rs.iG jK (hbg i hil) .i64;have a3:ld1 (.pointer (some ⟨b,o,none⟩)) H=some (.int .i64 (c.by'.getD i 0:Nat),H):=(a3 H rfl).2.1 0 _ rfl;have l8:ld1 (.pointer (some ⟨pl,8,none⟩)) H=some (wv,H):=eU (hpH H h.ext) 8 wv rfl;have hcw:c.weights=p.weights:=by have:=congrArg Cfg.weights hc;rw[this];rfl
  have hwl:=hok.wlen;rw[hcw] at hwl;have hlanes:=hok.lanes;obtain⟨H1,wh,ww,wl,wc,lc,wr,lr,w1,x1,w2,w3,w4,w5,w6⟩:=aBa (m:=m) (hPV.w.ext h.ext) hwo (by omega) hm2
  rw[<-hcw] at w2;have g1:=h.whl (λj hj b hb=>hfe (.whl j) (by show¬j<i+1;omega) b hb) w2 x1 w3 w4 w5 w6
  have fe1:=hfe.Hf (i:= .whl (i+1)) (G:=InB (lX wh ww wl wc lc wr lr c.weights ⟨c.weights,0⟩)) (n':=i+1) (nw':=i+1+1) (cs':=0) (cr':=0) (show i+1<i+1+1 by omega) (λj hj=>by
   cases j<;>simp only[rM] at hj⊢ <;>(try exact hj);omega)
  obtain⟨y1,hy1⟩: ∃y1:Lay,y1={y with wh:=up1 y.wh (i+1) wh,ww:=up1 y.ww (i+1) ww,wl:=up1 y.wl (i+1) wl,wc:=up1 y.wc (i+1) wc,lc:=up1 y.lc (i+1) lc,wr:=up1 y.wr (i+1) wr,lr:=up1 y.lr (i+1) lr}:=⟨_,rfl⟩;obtain⟨F1,hF1⟩: ∃F1,F1=updI F (.whl (i+1)) (InB (lX wh ww wl wc lc wr lr c.weights ⟨c.weights,0⟩)):=⟨_,rfl⟩;rw[<-hF1] at g1 fe1;have g1:BN Hs H1 F1 p.bag ev wv nv y1 c (i+1) (i+1+1) 0 0 pv:=by rw[hy1];exact g1
  have hwh:y1.wh (i+1)=wh:=by rw[hy1];exact oG _ _ _
  have eb:bld prog 94 [(0,.int .i64 (c.by'.getD i 0:Nat)),(2,pt wh)]=some (.agg #[.int .i64 (c.by'.getD i 0:Nat),.slice none 0 0,pt wh]):=rfl;obtain⟨H2,hH2⟩: ∃H2,H2=H1++[Blk.cells [.int .i64 (c.by'.getD i 0:Nat),.slice none 0 0,pt wh] 94 .fix]:=⟨_,rfl⟩;have x2:Ext H1 H2:=by rw[hH2];exact Fr.app _ _ _
  have st:stN 3 (.pointer (some ⟨H1.length,0,none⟩)) (.agg #[.int .i64 (c.by'.getD i 0:Nat),.slice none 0 0,pt wh]) (H1++[Blk.cells [Value.int .i64 0,.slice none 0 0,.pointer none] 94 .fix])=some (undef,H2):=by
   rw[zW (n:=3) (vs:=[.int .i64 (c.by'.getD i 0:Nat),.slice none 0 0,pt wh]) (dJ H1 _) (by decide) rfl rfl (aOZ 3) rfl,nG,hH2]
   rfl
  have g2:=g1.aBb x2;have hx2:XN Hs H2 F1 y1 (i+1) 0 H1.length (c.by'.getD i 0) (.slice none 0 0):=by
   have hs1:=g1.ext.1;refine⟨by rw[hwh,hH2];exact dJ _ _,λhu=>by have:=g1.sep.qF _ hu;omega,hs1,Rw.lQ,λb ⟨_,_,_,hh⟩=>(by cases hh)⟩
  have l2:ld1 (.pointer (some ⟨pl,2,none⟩)) H2=some (.int .i64 c.lanes,H2):=by rw[eU (hpH H2 g2.ext) 2 (.int .i64 p.lanes) rfl,e2]
  rw[aI,X6];simp -implicitDefEqProofs only[gsR,c1,a1,a3,l8,w1,eb,st,l2];refine aNI (nb:=nb) (Hb:=Hb) (p:=p) (pl:=pl) (i:=i) (w:=c.by'.getD i 0) (xb:=H1.length) hok hpl (by omega) e3 e9 (by omega) ?_ c.lanes 0 m H2 F1 y1 (.slice none 0 0) (by omega) (by omega) (by omega) (by rw[hy1];exact hnb) g2 fe1 hx2 (hkr.ext (x1.tr x2)) ..
  intro H3 F3 y3 lv hnb3 g3 fe3 hx3 hkr3;intros;obtain⟨y',pv',H4,H5,H6,q1,q2,q3,q4,q5,q6,q7⟩:=g3.aNJ fe3 hx3 (by omega) (by omega) hlanes.1 (by unfold kS;rw[if_neg (by omega)];rfl)
  have n13:ld1 (.pointer (some ⟨nb,13,none⟩)) H3=some (pv,H3):=by rw[<-hnb3];exact cZ g3.nb rfl
  have lx:ldN 3 (.pointer (some ⟨H1.length,0,none⟩)) H3=some (.agg #[.int .i64 (c.by'.getD i 0:Nat),lv,pt (y3.wh (i+1))],H3):=B6 hx3.blk (aOZ 3);have e1:=oO i (by omega)
  rw[hnb3] at q4;unfold Mu;simp -implicitDefEqProofs only[gsR,n13,lx,q2,q3,q4,cC,e1];exact ih (i+1) l H6 F3 y' pv' (by omega) (by omega) (by omega) (by rw[q1,hnb3]) q5 q6 (λb cs hb=>q7 b cs (hkr3 b cs hb)) ..
theorem Hg (hp:PV H p ev wv nv)(hck:mI p=0)(hst:0<=p.start/\p.start<65536)(hm:17592186045500<m)(hm2:m<=72057594037927936)(me:Nat)(hme:(me:Int)<p.nodes):
    ∃H' F y,lvl prog pkN m (.func 11) [plV p ev wv nv,.int .i64 me] H=some (pt y.nb,H')/\NodeAt H H' F y p ev wv nv (iJ p me) 0 (NS.jB (iJ p me)):=by
  have hcheck:kY p=true:=by
    unfold mI at hck
    split at hck
    · assumption
    · omega
  obtain⟨hok,k1,k2,k3,k4,k5,k6,k7,hbg,hwo⟩:=aNF hcheck hme hst;obtain⟨c,hc⟩: ∃c,c=iJ p me:=⟨_,rfl⟩;rw[<-hc] at hok k1 k2 k3 k4 k5 k6 k7 hbg⊢;have hcme:c.me=me:=by rw[hc];rfl
  have hc':c=iJ p c.me:=by rw[hcme];exact hc
  have hlanes:=hok.lanes;have hqueue:=hok.queue;have hbl:(bes p.edges me).length=c.by'.length:=by rw[hc];show _=((bes p.edges me).map Int.toNat).length;simp
  have hop:=Fg hcheck;have hel:p.edges.length<=15:=by
    obtain⟨n,hn⟩:=hop;exact hn.e15
  -- the plan in a block
  obtain⟨H1,hH1⟩: ∃H1,H1=H++[plB p ev wv nv]:=⟨_,rfl⟩;have x1:Ext H H1:=by rw[hH1];exact Fr.app _ _ _
  have b1:H1[H.length]? =some (plB p ev wv nv):=by rw[hH1];exact gZ _ _
  have p1:=hp.ext x1;have l11:=kX b1;obtain⟨H2,g1,x2⟩:=Xw p1 (m:=m-1) (by omega) (by omega)
  rw[hck] at g1;have bC:=x1.tr x2;have b2:H2[H.length]? =some (plB p ev wv nv):=by rw[x2.2 _ (dE b1) id,b1]
  have l0:ld1 (.pointer (some ⟨H.length,0,none⟩)) H2=some (.int .i64 c.nodes,H2):=by rw[eU b2 0 (.int .i64 p.nodes) rfl,k1]
  have l2:ld1 (.pointer (some ⟨H.length,2,none⟩)) H2=some (.int .i64 c.lanes,H2):=by rw[eU b2 2 (.int .i64 p.lanes) rfl,k2]
  have l4:ld1 (.pointer (some ⟨H.length,4,none⟩)) H2=some (.int .i64 c.queue,H2):=by rw[eU b2 4 (.int .i64 p.queue) rfl,k4]
  have l11':=kX b2;have hmn:=hok.me;rw[hcme] at hmn;have c1:decide ((me:Int)<0)=false:=by rw[decide_eq_false_iff_not];omega
  have c2:decide ((c.nodes:Int)<=(me:Int))=false:=by rw[decide_eq_false_iff_not];omega
  -- the host
  obtain⟨r,H3,G3,r1,r2,x3,r3⟩:=Has.aAo (A:=λ_=>True) (H:=H2) rX (n:=m-1) (B:=λr D'=> ∃a,r=pt a/\HostAt D' a [] [] c.lanes c.queue) (λD _ _=>by
    obtain⟨a,D',q1,q2,_,_⟩:=aKt (D:=D) (m:=m-1) (by omega) c.lanes c.queue hlanes hqueue
    exact⟨_,D',q1,a,rfl,q2⟩)
  obtain⟨hb,hrb,_⟩:=r2.at_;have r2':Has (λD=>HostAt D hb [] [] c.lanes c.queue) G3 H3:=Has.wX r2 λD ⟨a,ha,hD⟩=>by
    rw[hrb] at ha;injection ha with ha;injection ha with ha;injection ha with ha;rw[ha];exact hD
  rw[hrb] at r1;have b3:H3[H.length]? =some (plB p ev wv nv):=by rw[x3.2 _ (dE b2) id,b2]
  have l11c:=kX b3
  -- the node's block
  have eplc:plC p ev wv nv=[.int .i64 c.nodes,ev,.int .i64 c.lanes,.int .i64 c.room,.int .i64 c.queue,.int .i64 c.rounds,.int .i64 c.every,.int .i64 p.bag,wv,.int .u16 c.start,nv]:=by
    unfold plC;rw[k1,k2,k3,k4,k5,k6,k7]
  have ebn:bld prog 89 [(1,plV p ev wv nv),(2,.int .i64 me),(4,pt hb)]=some (.agg ⟨[.pointer none]++plC p ev wv nv++[.int .i64 me,.slice none 0 0,pt hb,.pointer none,.int .i64 0]⟩):=by
    exact aNM ..
  obtain⟨y0,hy0⟩: ∃y0:Lay,y0=⟨H3.length,0,0,[],λ_=>0,λ_=>0,λ_=>[],λ_=>0,λ_=>0,λ_=>0,λ_=>0,λ_=>0,λ_=>[],λ_=>[],λ_ _=>0,λ_ _=>0,0,0,0,hb,0⟩:=⟨_,rfl⟩
  have y0n:y0.nb=H3.length:=by rw[hy0]
  have y0h:y0.hb=hb:=by rw[hy0]
  obtain⟨H4,hH4⟩: ∃H4,H4=H3++[rK p.bag ev wv nv y0 c (.slice none 0 0)]:=⟨_,rfl⟩;have e4:H3++[Blk.cells (Value.cells (.agg ⟨[.pointer none]++plC p ev wv nv++[.int .i64 me,.slice none 0 0,pt hb,.pointer none,.int .i64 0]⟩)).toList 89 .fix]=H4:=by
    rw[hH4,eplc];unfold rK;rw[hcme,y0h];rfl
  have x4:Ext H3 H4:=by rw[hH4];exact Fr.app _ _ _
  have bn4:H4[y0.nb]? =some (rK p.bag ev wv nv y0 c (.slice none 0 0)):=by rw[y0n,hH4];exact dJ _ _
  obtain⟨F0,hF0⟩: ∃F0:Part->Nat->Prop,F0=updI (λ_ _=>False) .host G3:=⟨_,rfl⟩
  have sep0:Sep (mN y0 c 0 0 0 0) F0 H4:=by
    have s0:Sep (λ_:Part=>Blks []) (λ_ _=>False) H2:=⟨λi=>⟨λq hq=>(by cases hq),λb hb=>hb.elim⟩,λi j b hb=>hb.elim⟩
    have s1:=s0.Gm .host (λ_=>Blks.dx _) (λb hb=>hb) r2' x3 r3
    rw[<-hF0] at s1;have s2:=s1.ext (λj=>by
      unfold updI;split
      · exact λD D' h he=>h.ext he
      · exact Blks.dx _) x4
    refine s2.xT λj D hD=> ?_
    cases j with
    |host=>
      rw[nQ] at hD;show HostAt D y0.hb [] [] c.lanes c.queue
      rw[y0h];exact hD
    |whl i=>
      rw[gL _ _ (λhh=>by cases hh)] at hD
      simp only[mN];rw[if_neg (by omega)]
      exact hD
    |snd i k=>
      rw[gL _ _ (λhh=>by cases hh)] at hD
      simp only[mN];rw[if_neg (by unfold DnB;omega)]
      exact hD
    |rcv i k=>
      rw[gL _ _ (λhh=>by cases hh)] at hD
      simp only[mN];rw[if_neg (by unfold DnB;omega)]
      exact hD
    |_=>
      rw[gL _ _ (λhh=>by cases hh)] at hD
      exact hD
  have unF0: ∀b,Un F0 b->G3 b:=λb hb=>by
    rw[hF0] at hb;rcases tG hb with⟨_,hb⟩|hb
    · exact hb.elim
    · exact hb
  have hg3l: ∀b,G3 b->b<H3.length:=λb hb=>r2'.lt b hb
  have bnN:BN H2 H4 F0 p.bag ev wv nv y0 c 0 0 0 0 (.slice none 0 0):=
    ⟨x3.tr x4,sep0,λb hb=>r3 b (unF0 b hb),bn4,λhu=>by have:=hg3l _ (unF0 _ hu);omega,by rw[y0n];exact x3.1,Rw.lQ,λb ⟨_,_,_,hh⟩=>(by cases hh),λi a b=>by omega,λi j a b=>by omega,λi hi=>by omega⟩
  have fe0:FE F0 c 0 0 0 0:=λj hj b hb=>by
    rw[hF0] at hb;cases j with
    |host=>exact hj trivial
    |_=>
      rw[gL _ _ (λhh=>by cases hh)] at hb
      exact hb
  -- the first wheel
  have hpH: ∀G:aC,Ext H2 G->G[H.length]? =some (plB p ev wv nv):=λG hG=>by rw[hG.2 _ (dE b2) id,b2]
  have n13:ld1 (.pointer (some ⟨H3.length,13,none⟩)) H4=some (.slice none 0 0,H4):=by rw[<-y0n];exact cZ bn4 rfl
  have l8:ld1 (.pointer (some ⟨H.length,8,none⟩)) H4=some (wv,H4):=eU (hpH H4 bnN.ext) 8 wv rfl;have hcw:c.weights=p.weights:=by rw[hc];rfl
  have hwl:=hok.wlen;rw[hcw] at hwl;obtain⟨H5,wh,ww,wl,wc,lc,wr,lr,w1,x5,w2,w3,w4,w5,w6⟩:=aBa (m:=m-1) (hp.w.ext (bC.tr bnN.ext)) hwo (by omega) (by omega)
  rw[<-hcw] at w2;have g5:=bnN.whl (λj hj b hb=>fe0 (.whl j) (by show¬j<0;omega) b hb) w2 x5 w3 w4 w5 w6
  have fe5:=fe0.Hf (i:= .whl 0) (G:=InB (lX wh ww wl wc lc wr lr c.weights ⟨c.weights,0⟩)) (n':=0) (nw':=1) (cs':=0) (cr':=0) (show 0<1 by omega) (λj hj=>by
    cases j<;>simp only[rM] at hj⊢ <;>(try exact hj);omega)
  obtain⟨y1,hy1⟩: ∃y1:Lay,y1={y0 with wh:=up1 y0.wh 0 wh,ww:=up1 y0.ww 0 ww,wl:=up1 y0.wl 0 wl,wc:=up1 y0.wc 0 wc,lc:=up1 y0.lc 0 lc,wr:=up1 y0.wr 0 wr,lr:=up1 y0.lr 0 lr}:=⟨_,rfl⟩;obtain⟨F1,hF1⟩: ∃F1,F1=updI F0 (.whl 0) (InB (lX wh ww wl wc lc wr lr c.weights ⟨c.weights,0⟩)):=⟨_,rfl⟩;rw[<-hF1] at g5 fe5;have g5:BN H2 H5 F1 p.bag ev wv nv y1 c 0 1 0 0 (.slice none 0 0):=by rw[hy1];exact g5
  have y1n:y1.nb=H3.length:=by rw[hy1];exact y0n
  have n13':ld1 (.pointer (some ⟨H3.length,13,none⟩)) H5=some (.slice none 0 0,H5):=by rw[<-y1n];exact cZ g5.nb rfl
  have hpc0:gQ y1 c 0=[.int .i64 me,.slice none 0 0,pt wh]:=by
    unfold gQ kS mY;rw[if_pos rfl,if_pos rfl,hcme,hy1];simp only;rw[oG]
  have eb:bld prog 94 [(0,.int .i64 me),(2,pt wh)]=some (.agg #[.int .i64 me,.slice none 0 0,pt wh]):=rfl;obtain⟨H6,hH6⟩: ∃H6,H6=H5++[Blk.cells [.int .i64 me,.slice none 0 0,pt wh] 94 .row]:=⟨_,rfl⟩;have es:dL 94 3 1 [.int .i64 0,.slice none 0 0,.pointer none] [(0,.agg #[.int .i64 me,.slice none 0 0,pt wh])] H5=some (.slice (some ⟨H5.length,0,none⟩) 1 1,H6):=by rw[hH6];rfl
  have hw1:Rr (gQ y1 c) 94 H6 (.slice (some ⟨H5.length,0,none⟩) 1 1) [0]:=by
    have:=xR (el:=gQ y1 c) (e:=94) 0 H5;rw[hpc0] at this;rw[hH6];exact this
  have hrw0:Rw (gQ y1 c) 94 3 H6 (.slice none 0 0) []:=Rw.lQ;obtain⟨pv,H7,k1',k2',k3',k4',k5'⟩:=hrw0.xS (Cn y1 c) (aBc y1 c) (by decide) (by':=40) hw1.rs (by decide)
  have hnh: ∀b,¬cR (.slice none 0 0) b:=λb ⟨_,_,_,hh⟩=>by cases hh
  have h6l:H6.length=H5.length+1:=by rw[hH6];simp
  have nbl:=dE g5.nb;have bn7:H7[y1.nb]? =some (rK p.bag ev wv nv y1 c (.slice none 0 0)):=by rw[k4' _ (by omega) (hnh _),hH6,aOX nbl,g5.nb]
  have sh:=Gz k2';obtain⟨H8,hH8⟩: ∃H8,H8=H7.set y1.nb (rK p.bag ev wv nv y1 c pv):=⟨_,rfl⟩;have st:stN 1 (.pointer (some ⟨H3.length,13,none⟩)) pv H7=some (undef,H8):=by rw[<-y1n,hH8];exact tC bn7 (by decide) (by simp) sh.1 sh.2
  have hfr:Fr (λb=>b=y1.nb) H5 H8:=⟨by rw[hH8];simp;omega,λb hb hn=>by
    rw[hH8,aOV (λhh=>hn hh.symm),k4' b (by omega) (hnh _),hH6,aOX hb]⟩
  obtain⟨x8,s8⟩:=g5.Pw (pv':=pv) (n':=0) hfr λb hb=>by rw[hb];exact⟨g5.nbF,g5.nb0⟩
  have hpvn: ¬cR pv y1.nb:=λhh=>by
    rcases k5' _ hh with hh|hh
    · exact hnh _ hh
    · omega
  have hsl:=g5.ext.1;have g8:BN H2 H8 F1 p.bag ev wv nv y1 c 1 1 0 0 pv:=by
    refine⟨x8,s8.xT λj D hD=> ?_,g5.new,by rw[hH8];exact iE bn7,g5.nbF,g5.nb0,?_,λb hb=> ?_,λi a b=>by omega,λi j a b=>by omega,g5.ww⟩
    · cases j with
      |snd i k=>
        simp only[mN] at hD⊢;rw[if_neg (by unfold DnB;omega)] at hD⊢
        exact hD
      |rcv i k=>
        simp only[mN] at hD⊢;rw[if_neg (by unfold DnB;omega)] at hD⊢
        exact hD
      |_=>exact hD
    · refine(show Rw (gQ y1 c) 94 3 H7 pv (List.range 1) from k2').iD λb hb=> ?_
      rw[hH8];exact aOV λhh=>hpvn (by rw[hh];exact hb)
    · rcases k5' b hb with hb|hb
      · exact absurd hb (hnh b)
      · exact⟨by omega,λhu=>by have:=g5.sep.qF b hu;omega⟩
  have fe8:FE F1 c 1 1 0 0:=λj hj=>fe5 j λhd=>hj (by
    cases j<;>simp only[rM] at hd⊢ <;>(try exact hd)<;>(unfold DnB at hd ⊢; omega))
  -- who is beside
  have b8:=hpH H8 g8.ext;have l11d:=kX b8;obtain⟨H9,bv,q1,x9,q3,q4⟩:=K0 (hp.ext (bC.tr g8.ext)) (m:=m-1) (by omega) (by omega) (me:Int)
  have g9:=g8.aBb x9;have lbv:=q3.zK;rw[hbl] at lbv;have main: ∃H' r,lvl prog pkN m (.func 11) [plV p ev wv nv,.int .i64 me] H=some (r,H')/\Py H2 p ev wv nv c H' r:=by
    refine jJ (cL rfl) (by omega) ?_
    rw[X9];have e1:H++[Blk.cells (Value.cells (plV p ev wv nv)).toList 28 .fix]=H1:=by rw[hH1];rfl
    have c3:((0:Int)!=0)=false:=rfl;have pchk:=λG=>(hp.chk G)
    have nchk: ∀G:aC,chk (some (Value.slice none 0 0,G)) (.slice none 0 0)=true:=λ_=>by simp[chk,veq]
    simp -implicitDefEqProofs only[gsR,e1,l11,g1,c3,c1,l0,c2,l11',l2,l4,r1,l11c,pchk,ebn,e4,n13,l8,w1,n13',nchk,eb,es,k1',st,l11d,q1,lbv];have y1n':y1.nb=H3.length:=y1n;exact aNN (pl:=H.length) (Hs:=H2) (Hb:=H9) hok hc' hop (hp.ext bC) b2 k2 k3 k7 hwo (by rw[hcme];exact q3) (by rw[hcme];exact hbl) (λi hi=>by rw[hcme];exact hbg i (by rw[hbl];exact hi)) (by omega) (by omega) c.by'.length 0 (m-1) H9 F1 y1 pv (by omega) (by omega) (by have:=hok.by';omega) y1n' g9 fe8 (λb cs hb=>hb) ..
  obtain⟨H',r,z1,F,y,rfl,z2⟩:=main;refine⟨H',F,y,z1,{z2 with ext:=bC.tr z2.ext,old:=λb hb=>aPa bC.1 (z2.old b hb),plan:=hp}⟩
end
end Go.Proofs.YtkeilicinggjmaaGreatDoor
namespace Go.Proofs.YtkeilicinggjmaaGreatDoor
open Go.Proofs.Tryz
open Go.Abs
section
variable {H : aC} {m : Nat}
theorem P0 (c:List Nat):jO (ofT c)=true/\1<=(ofT c).length:=by
 unfold ofT;split
 ·exact⟨by decide+kernel,by simp⟩
 ·rename_i h
  have hl:(ofL c (min c.length 5)).length=min c.length 5:=by simp[ofL]
  refine⟨?_,by rw[hl];omega⟩
  unfold jO;rw[hl,aO2,aPz];refine⟨λi hi=> ?_,aPD (by omega)⟩
  have hi':=aPy.mp hi;have e:(ofL c (min c.length 5)).getD i 0=((c.getD i 0%(i+1):Nat):Int):=by
   unfold ofL;rw[aOY,aO7,aPB hi'];rfl
  have hm:c.getD i 0%(i+1)<i+1:=Nat.mod_lt _ (by omega)
  rw[e,aO2]
  exact⟨aPD (by omega),aPD (by omega)⟩
def tH (c:List Nat)(room more start:Nat):PlanD:=qK (mkP 0 room more start []) (ofT c)
theorem aNO (c:List Nat)(room more start:Nat):mI (tH c room more start)=0:=by
 obtain⟨hr,ht1⟩:=P0 c
 exact(X3 (Ld 0 room more start []) (Mk hr ht1)).1
theorem Pz {D H D' H':aC}(hs:Sub D H)(hf:Fs D H D' H')(he:Ext D D'):Ext H H':=by
 refine⟨by have:=hf.sub.1;have:=hs.1;have:=he.1;omega,λb hb _=> ?_⟩
 have hbD:b<D.length:=by rw[hs.1];exact hb
 by_cases hd:D[b]? =some .dead
 ·exact hf.keep b hd
 ·have hx:D[b]? =some D[b]:=aOW hbD
  have hn:D[b]≠ .dead:=λh=>hd (by rw[hx,h])
  rw[hs.2 b _ hx hn,hf.sub.2 b _ ((he.2 b hbD id).trans hx) hn]
theorem Hi {α:Type}{el:α->List Value}{e:TypeId}{D H:aC}{v:Value}{xs:List α}(h:Rs el e D v xs)(hk: ∀(b:Nat)(x:Blk),D[b]? =some x->x≠ .dead->H[b]? =some x):Rs el e H v xs:=by
 rcases h with h|⟨b,o,cap,h1,h2,h3⟩
 ·exact .inl h
 ·refine .inr ⟨b,o,cap,h1,h2,λhne=> ?_⟩
  obtain⟨e',k,pre,post,q1,q2,q3⟩:=h3 hne
  exact⟨e',k,pre,post,q1,q2,hk b _ q3 (λh=>by cases h)⟩
theorem aBf {D H:aC}{p:PlanD}{ev wv nv:Value}(h:PV D p ev wv nv)(hk: ∀(b:Nat)(x:Blk),D[b]? =some x->x≠ .dead->H[b]? =some x):PV H p ev wv nv:=by
 obtain⟨h1,h2,⟨us,h3,h4,h5⟩,h6,h7,h8⟩:=h
 exact⟨Hi h1 hk,Hi h2 hk,⟨us,Hi h3 hk,h4,λi u xs hu hx=>Hi (h5 i u xs hu hx) hk⟩,h6,h7,h8⟩
theorem P1 {cv:Value}{c:List Nat}(hc:Us H cv c)(hu8: ∀x∈c,x<256)(hl:c.length<=72057594037927936)(room more start:Nat)(h2:room<256)(h3:more<256)(h4:start<65536)(hm:700<m)(hm2:m<=72057594037927936):
  ∃H' ev wv nv,lvl prog cF m (.func 10) [cv,.int .u8 room,.int .u8 more,.int .u16 start] H=some (plV (tH c room more start) ev wv nv,H')/\Ext H H'/\PV H' (tH c room more start) ev wv nv:=by
 obtain⟨Ha,hHa⟩: ∃Ha,Ha=H++[plZ]:=⟨_,rfl⟩;obtain⟨Da,hDa⟩: ∃Da,Da=H++[Blk.dead]:=⟨_,rfl⟩;have xa:Ext H Ha:=by rw[hHa];exact Fr.app _ _ _
 have xd:Ext H Da:=by rw[hDa];exact Fr.app _ _ _
 have ba:Ha[H.length]? =some plZ:=by rw[hHa];exact gZ _ _
 have bd:Da[H.length]? =some .dead:=by rw[hDa];exact gZ _ _
 have sa:Sub Da Ha:=by
  rw[hHa,hDa];refine⟨by simp,λb x hb hx=> ?_⟩
  by_cases hlt:b<H.length
  ·rw[aOX hlt] at hb⊢
   exact hb
  ·have h9:=dE hb
   simp at h9;have:b=H.length:=by omega
   subst this;rw[gZ] at hb;cases hb;exact absurd rfl hx
 obtain⟨D2,u,d2,hmd⟩:=aGZ (H:=Da) (m:=m-1) 0 room more start (by omega) h2 h3 h4 (aHb Da) (by simp) (by simp) (by omega)
 obtain⟨H2,g2,f2⟩:=Ba _ rX _ _ _ Da Ha sa _ _ d2;obtain⟨ev,wv,nv,rfl,y2,hp⟩:=hmd.pv;have x2:=Pz sa f2 y2;have hok:=Ld 0 room more start [];have hwl:(mkP 0 room more start []).weights.length<=1000:=by simp[mkP];omega
 obtain⟨p,hpp⟩: ∃p,p=mkP 0 room more start []:=⟨_,rfl⟩;have hq0:tH c room more start=qK p (ofT c):=by rw[hpp];rfl
 rw[hq0];rw[<-hpp] at hp g2 hok hwl;have z0:((0:Nat):Int)=0:=rfl;simp only[z0] at g2;obtain⟨D1,tv,d1,y1,qt,_⟩:=aIp (hc.ext (xd.tr y2)) hu8 hl (m:=m-1) (by omega)
 obtain⟨H1,g1,f1⟩:=Ba _ rX _ _ _ D2 H2 f2.sub _ _ d1;have x1:=Pz f2.sub f1 y1;obtain⟨hr,ht1⟩:=P0 c;obtain⟨D3,_,d3,ev3,wv3,nv3,rfl,y3,hp3⟩:=aIE (hp.ext y1) hwl qt.rs hr ht1 (m:=m-1) (by omega) (by omega)
 obtain⟨H3,g3,f3⟩:=Ba _ rX _ _ _ D1 H1 f1.sub _ _ d3;have x3:=Pz f1.sub f3 y3;have bD:D3[H.length]? =some .dead:=hZ bd ((y2.tr y1).tr y3);obtain⟨q,hq⟩: ∃q,q=qK p (ofT c):=⟨_,rfl⟩;rw[<-hq] at hp3 g3⊢;have hp3H:PV H3 q ev3 wv3 nv3:=aBf hp3 f3.sub.2;have cp:=E3 hp3H H3;obtain⟨H4,hH4⟩: ∃H4,H4=H3++[plB q ev3 wv3 nv3]:=⟨_,rfl⟩;rw[<-hH4] at cp;have x4:Ext H3 H4:=by rw[hH4];exact Fr.app _ _ _
 have b4:H4[H3.length]? =some (plB q ev3 wv3 nv3):=by rw[hH4];exact gZ _ _
 have l4:=kX b4;have xx:=((x2.tr x1).tr x3).tr x4;have bz:H4[H.length]? =some plZ:=hZ ba xx;have e1:(plV q ev3 wv3 nv3).cells.toList=plC q ev3 wv3 nv3:=rfl;have st:stN 11 (.pointer (some ⟨H.length,0,none⟩)) (plV q ev3 wv3 nv3) H4=some (undef,H4.set H.length (plB q ev3 wv3 nv3)):=by
  rw[mS 11 _ _ _ rfl,bz,e1];unfold plZ;rw[n9 _ _ _ _ _ _ (by decide) (by simp[plC]) hp3H.Lg]
  simp[eT,plC,plB]
 have hlt:H.length<H4.length:=dE bz;have x5:Ext H (H4.set H.length (plB q ev3 wv3 nv3)):=s5 (xa.tr xx) (aOZ _);have l5:ldN 11 (.pointer (some ⟨H.length,0,none⟩)) (H4.set H.length (plB q ev3 wv3 nv3))=some (plV q ev3 wv3 nv3,H4.set H.length (plB q ev3 wv3 nv3)):=kX (by rw[aO0 (by omega)])
 refine⟨H4.set H.length (plB q ev3 wv3 nv3),ev3,wv3,nv3,dF (cL rfl) (by omega) ?_,x5,?_⟩
 ·rw[aHg]
  simp -implicitDefEqProofs only[gsR,Bu,<-hHa,g2,g1,g3,cp,l4,st,l5]
  done
 ·refine aBf hp3 λb x hb hx=> ?_
  have hne:b≠H.length:=λh=>by rw[h,bD] at hb;cases hb;exact hx rfl
  rw[aOV (Ne.symm hne),x4.2 b (dE (f3.sub.2 b x hb hx)) id];exact f3.sub.2 b x hb hx
end
end Go.Proofs.YtkeilicinggjmaaGreatDoor
namespace Go.Proofs.YtkeilicinggjmaaGreatDoor
open Go.Proofs.Tryz
open Go.Abs
open Classical
theorem vF (t:TypeId)(a:Addr)(h:nY prog t (.pointer none)=true):bin prog .eql t (.pointer (some a)) (.pointer none)=some (.bool false)/\bin prog .eql t (.pointer none) (.pointer none)=some (.bool true):=by
 have h2:nY prog t (.pointer (some a))=true:=by
  rw[<-h];unfold nY;cases prog.underlying t with
  |none=>rfl
  |some d=>cases d<;>rfl
 constructor<;>simp[bin,eC,o9,h,h2,eqV]
section
variable {H00 H0 H H' : aC} {F : Part → Nat → Prop} {y : Lay} {p : PlanD} {ev wv nv : Value} {c : Cfg} {t : Nat} {s : NS} {N N' : Nat → Prop}
theorem NodeAt.aNP (h:NodeAt H0 H F y p ev wv nv c t s)(he:Ext H00 H0)(hp:PV H00 p ev wv nv):NodeAt H00 H F y p ev wv nv c t s:=
 {h with ext:=he.tr h.ext,old:=λb hb=>aPa he.1 (h.old b hb),plan:=hp}
theorem NodeAt.Hj (h:NodeAt H0 H F y p ev wv nv c t s)(he:Ext H0 H')(hm:Mv N N' H H')(hd: ∀b,Un F b-> ¬N b):NodeAt H0 H' F y p ev wv nv c t s/\ ∀b,Un F b-> ¬N' b:=
 ⟨{h with ext:=he,sep:=h.sep.xU (Ak _ _ _ _ _ _ _) hm hd},λb hb hn=>(hm.own b hn).elim (hd b hb) λhl=>by have:=h.sep.qF b hb;omega⟩
end
end Go.Proofs.YtkeilicinggjmaaGreatDoor
namespace Go.Proofs.YtkeilicinggjmaaGreatDoor
open Go.Proofs.Tryz
open Go.Abs
def kp:PlanD:={tH [0] 1 0 0 with every:=8}
def kx:Pkt:=⟨0,1,0,7⟩
def kA:NS:=(o6 (iJ kp 0) kx (NS.jB (iJ kp 0))).2
def kT:NS×k8:=lB (iJ kp 0) kA
def kB:Nat×NS:=oN (iJ kp 1) 0 (kT.2.getD 0 (0,[])).2 (NS.jB (iJ kp 1))
def kU:NS×k8:=lB (iJ kp 1) kB.2
theorem aBg:mI kp=0:=by decide+kernel
theorem aNQ:(o6 (iJ kp 0) kx (NS.jB (iJ kp 0))).1=0/\kT.2.map (·.1)=[1]/\kB.1=0/\kU.1.hG=[kx]/\(o6 (iJ kp 0) ⟨1,0,0,0⟩ kT.1).1=1:=by decide+kernel
end Go.Proofs.YtkeilicinggjmaaGreatDoor
noncomputable section
namespace Go.Proofs.YtkeilicinggjmaaGreatDoor
open Go.Proofs.Tryz
open Go.Abs
variable (O:aE)(L:LV)(k:KV)(N P Q R S T U V W X Y Z a b c d e f g i j l m n o p q r s t u v w x y z A B C D E F G H I J zz zy zx zw zv zu zt zs zr zq zp zo zn zm zl zk zj zi zh zg zf ze zd zc zb za yz yy yx yw yv yu yt ys yr yq yp yo yn ym yl yk yj yi yh yg yf ye yd yc yb ya xz xy xx xw xv xu xt xs xr xq xp xo xn xm xl xk xj xi xh xg xf xe xd xc xb xa wz wy wx ww wv wu wt ws wr wq wp wo wn wm wl wk wj wi wh wg wf we wd wc wb wa vz vy vx vw vv vu vt vs vr vq vp vo vn vm vl vk vj vi vh vg vf ve vd vc vb va:Value)(h:aC)
def P3:Code:=b9 [1,1,1,1,1,1,0,1,0,0,1,0,0,1,1,1,1,0,0] (cB prog 3)
def P5:KV:=(dQ 4 (dQ 3 (eD prog O L (b9 [1,1,1,1,1,1,0,1,0,0,1,1] (cB prog 3)) k)))
theorem aNU:P5 O L k (.exit 4) [a,b,c,d,e,f,g,i,j,l,m,n,o,p,q,r,s,t,u,v,w,x,y,z,A,B,C,D,E,F,G,H,I,J,zz,zy,zx,zw,zv,zu,zt,zs,zr,zq,zp,zo,zn,zm,zl,zk,zj,zi,zh,zg,zf,ze,zd,zc,zb,za,yz,yy,yx,yw,yv,yu,yt,ys,yr,yq,yp,yo,yn,ym,yl,yk,yj,yi,yh,yg,yf,ye,yd,yc,yb,ya,xz,xy,xx,xw,xv,xu,xt,xs,xr,xq,xp,xo,xn,xm,xl,xk,xj,xi,xh,xg,xf,xe,xd,xc,xb,xa,wz,wy,wx,ww,wv,wu,wt,ws,wr,wq,wp,wo,wn,wm,wl,wk,wj,wi,wh,wg,wf,we,wd,wc,wb,wa,vz,vy,vx,vw,vv,vu,vt,vs,vr,vq,vp,vo,vn,vm,vl,vk,vj,vi,vh,vg,vf,ve,vd,vc,vb,va] h=ob (M.aD (bin prog .add 3 t (.int .i64 1)) h) λaa h=>k .normal [a,b,c,d,e,f,g,i,j,l,m,n,o,p,q,r,s,aa,u,v,w,x,y,z,A,B,C,D,E,F,G,H,I,J,zz,zy,zx,zw,zv,zu,zt,zs,zr,zq,zp,zo,zn,zm,zl,zk,zj,zi,zh,zg,zf,ze,zd,zc,zb,za,yz,yy,yx,yw,yv,yu,yt,ys,yr,yq,yp,yo,yn,ym,yl,yk,yj,yi,yh,yg,t,aa,yd,yc,yb,ya,xz,xy,xx,xw,xv,xu,xt,xs,xr,xq,xp,xo,xn,xm,xl,xk,xj,xi,xh,xg,xf,xe,xd,xc,xb,xa,wz,wy,wx,ww,wv,wu,wt,ws,wr,wq,wp,wo,wn,wm,wl,wk,wj,wi,wh,wg,wf,we,wd,wc,wb,wa,vz,vy,vx,vw,vv,vu,vt,vs,vr,vq,vp,vo,vn,vm,vl,vk,vj,vi,vh,vg,vf,ve,vd,vc,vb,va] h:=by kernel_rfl
theorem aBj:aK prog O L P3 k [a,b,c,d,e,f,g,i,j,l,m,n,o,p,q,r,s,t,u,v,w,x,y,z,A,B,C,D,E,F,G,H,I,J,zz,zy,zx,zw,zv,zu,zt,zs,zr,zq,zp,zo,zn,zm,zl,zk,zj,zi,zh,zg,zf,ze,zd,zc,zb,za,yz,yy,yx,yw,yv,yu,yt,ys,yr,yq,yp,yo,yn,ym,yl,yk,yj,yi,yh,yg,yf,ye,yd,yc,yb,ya,xz,xy,xx,xw,xv,xu,xt,xs,xr,xq,xp,xo,xn,xm,xl,xk,xj,xi,xh,xg,xf,xe,xd,xc,xb,xa,wz,wy,wx,ww,wv,wu,wt,ws,wr,wq,wp,wo,wn,wm,wl,wk,wj,wi,wh,wg,wf,we,wd,wc,wb,wa,vz,vy,vx,vw,vv,vu,vt,vs,vr,vq,vp,vo,vn,vm,vl,vk,vj,vi,vh,vg,vf,ve,vd,vc,vb,va] h=ob (M.aD (bM u) h) λaa h=>ob (M.aD (bin prog .lss 3 v aa) h) λab h=>aL ab (ob (M.aD (aR 2 u v) h) λac h=>ob (M.aD (aG 1 ac) h) λad h=>ob (ld1 ad h) λae h=>ob (O (.func 14) [ae] h) λaf h=>ob (M.aD (ext 0 af) h) λag h=>ob (M.aD (ext 1 af) h) λah h=>ob (cX 39 [(.int .u8 0),(.int .u8 0),(.int .u16 0),(.int .u8 0),(.int .u8 0),(.int .u32 0)] .fix h) λai h=>ob (stN 6 ai ag h) λaj h=>ob (M.aD (bin prog .neq 3 ah (.int .i64 0)) h) λak h=>ob (gd ak false (M.cA v) h) λal h=>ob (gd ak false (M.aD (bin prog .rem 3 al (.int .i64 2))) h) λam h=>ob (gd ak false (M.aD (bin prog .eql 3 am (.int .i64 0))) h) λan h=>ob (gd ak false (M.cA an) h) λao h=>ob (gd ao true (M.aD (aG 0 ai)) h) λap h=>ob (gd ao true (ld1 ap) h) λaq h=>ifB (true) (ob (gd ao true (M.aD (bin prog .neq 5 aq (.int .u8 3))) h) λar h=>ob (gd ao true (M.cA ar) h) λau h=>ob (gd au false (M.aD (aG 2 ai)) h) λav h=>ob (gd au false (ld1 av) h) λaw h=>ifB (true) (ob (gd au false (M.cA d) h) λax h=>ob (gd au false (M.aD (bin prog .neq 23 aw ax)) h) λay h=>ob (gd ao true (M.aD (cJ au (.bool true) ay)) h) λaz h=>ob (gd ak false (M.aD (cJ ao az (.bool false))) h) λba h=>ob (M.aD (cJ ak (.bool true) ba) h) λbb h=>ob (gd bb false (M.cA v) h) λbc h=>ob (gd bb false (M.aD (bin prog .rem 3 bc (.int .i64 2))) h) λbd h=>ob (gd bb false (M.aD (bin prog .eql 3 bd (.int .i64 1))) h) λbe h=>ob (gd bb false (M.cA be) h) λbf h=>ob (gd bf true (M.aD (aG 0 ai)) h) λbg h=>ob (gd bf true (ld1 bg) h) λbh h=>ifB (true) (ob (gd bf true (M.aD (bin prog .neq 5 bh (.int .u8 2))) h) λbi h=>ob (gd bf true (M.cA bi) h) λbj h=>ob (gd bj false (M.aD (aG 2 ai)) h) λbk h=>ob (gd bj false (ld1 bk) h) λbl h=>ifB (true) (ob (gd bj false (M.cA d) h) λbm h=>ob (gd bj false (M.aD (aG 3 p)) h) λbn h=>ob (gd bj false (ld1 bn) h) λbo h=>ifB (true) (ob (gd bj false (cI prog 3 23 bo) h) λbp h=>ob (gd bj false (M.aD (bin prog .add 23 bm bp)) h) λbq h=>ob (gd bj false (M.aD (bin prog .neq 23 bl bq)) h) λbr h=>ob (gd bf true (M.aD (cJ bj (.bool true) br)) h) λbs h=>ob (gd bb false (M.aD (cJ bf bs (.bool false))) h) λbt h=>ob (M.aD (cJ bb (.bool true) bt) h) λbu h=>ob (gd bu false (M.aD (aG 1 ai)) h) λbv h=>ob (gd bu false (ld1 bv) h) λbw h=>ifB (true) (ob (gd bu false (cI prog 5 3 bw) h) λbx h=>ob (gd bu false (M.cA v) h) λbz h=>ob (gd bu false (M.aD (bin prog .quo 3 bz (.int .i64 2))) h) λca h=>ob (gd bu false (M.aD (aG 2 p)) h) λcb h=>ob (gd bu false (ld1 cb) h) λcc h=>ifB (true) (ob (gd bu false (M.aD (bin prog .rem 3 ca cc)) h) λcd h=>ob (gd bu false (M.aD (bin prog .neq 3 bx cd)) h) λce h=>ob (M.aD (cJ bu (.bool true) ce) h) λcf h=>aL cf (k .ret [a,b,c,d,e,f,g,i,j,l,m,n,(.bool false),p,q,r,s,t,u,v,ai,ah,y,z,A,B,C,D,E,F,G,H,I,J,zz,zy,zx,zw,zv,zu,zt,zs,zr,zq,zp,zo,zn,zm,zl,zk,zj,zi,zh,zg,zf,ze,zd,zc,zb,za,yz,yy,yx,yw,yv,yu,yt,ys,yr,yq,yp,yo,yn,ym,yl,yk,yj,yi,yh,yg,yf,ye,yd,yc,yb,ya,xz,xy,xx,xw,xv,xu,xt,xs,xr,xq,xp,xo,xn,xm,v,u,aa,ab,xh,xg,af,u,v,ac,ad,ae,af,ag,ah,ah,ak,ak,al,am,an,ao,ap,aq,ar,au,av,aw,ax,ay,az,ba,bb,bb,bc,bd,be,bf,bg,bh,bi,bj,bk,bl,bm,bn,bo,bp,bq,br,bs,bt,bu,bu,bv,bw,bx,bz,ca,cb,cc,cd,ce,cf] h) (ob (M.aD (bin prog .add 3 v (.int .i64 1)) h) λcg h=>k .normal [a,b,c,d,e,f,g,i,j,l,m,n,o,p,q,r,s,t,u,cg,ai,ah,y,z,A,B,C,D,E,F,G,H,I,J,zz,zy,zx,zw,zv,zu,zt,zs,zr,zq,zp,zo,zn,zm,zl,zk,zj,zi,zh,zg,zf,ze,zd,zc,zb,za,yz,yy,yx,yw,yv,yu,yt,ys,yr,yq,yp,yo,yn,ym,yl,yk,yj,yi,yh,yg,yf,ye,yd,yc,yb,ya,xz,xy,xx,xw,xv,xu,xt,xs,xr,xq,xp,xo,xn,xm,v,u,aa,ab,v,cg,af,u,v,ac,ad,ae,af,ag,ah,ah,ak,ak,al,am,an,ao,ap,aq,ar,au,av,aw,ax,ay,az,ba,bb,bb,bc,bd,be,bf,bg,bh,bi,bj,bk,bl,bm,bn,bo,bp,bq,br,bs,bt,bu,bu,bv,bw,bx,bz,ca,cb,cc,cd,ce,cf] h))))))))) (k (.exit 4) [a,b,c,d,e,f,g,i,j,l,m,n,o,p,q,r,s,t,u,v,w,x,y,z,A,B,C,D,E,F,G,H,I,J,zz,zy,zx,zw,zv,zu,zt,zs,zr,zq,zp,zo,zn,zm,zl,zk,zj,zi,zh,zg,zf,ze,zd,zc,zb,za,yz,yy,yx,yw,yv,yu,yt,ys,yr,yq,yp,yo,yn,ym,yl,yk,yj,yi,yh,yg,yf,ye,yd,yc,yb,ya,xz,xy,xx,xw,xv,xu,xt,xs,xr,xq,xp,xo,xn,xm,v,u,aa,ab,xh,xg,xf,xe,xd,xc,xb,xa,wz,wy,wx,ww,wv,wu,wt,ws,wr,wq,wp,wo,wn,wm,wl,wk,wj,wi,wh,wg,wf,we,wd,wc,wb,wa,vz,vy,vx,vw,vv,vu,vt,vs,vr,vq,vp,vo,vn,vm,vl,vk,vj,vi,vh,vg,vf,ve,vd,vc,vb,va] h):=by kernel_rfl
def Hl:Code:=b9 [1,1,1,1,1,1,0,1,0,0] (cB prog 3)
def Hm:KV:=(dQ 2 (eD prog O L (b9 [1,1,1,1,1,1,1] (cB prog 3)) (fG prog Tryz.f3)))
theorem aNT:Hm O L (.exit 2) [a,b,c,d,e,f,g,i,j,l,m,n,o,p,q,r,s,t,u,v,w,x,y,z,A,B,C,D,E,F,G,H,I,J,zz,zy,zx,zw,zv,zu,zt,zs,zr,zq,zp,zo,zn,zm,zl,zk,zj,zi,zh,zg,zf,ze,zd,zc,zb,za,yz,yy,yx,yw,yv,yu,yt,ys,yr,yq,yp,yo,yn,ym,yl,yk,yj,yi,yh,yg,yf,ye,yd,yc,yb,ya,xz,xy,xx,xw,xv,xu,xt,xs,xr,xq,xp,xo,xn,xm,xl,xk,xj,xi,xh,xg,xf,xe,xd,xc,xb,xa,wz,wy,wx,ww,wv,wu,wt,ws,wr,wq,wp,wo,wn,wm,wl,wk,wj,wi,wh,wg,wf,we,wd,wc,wb,wa,vz,vy,vx,vw,vv,vu,vt,vs,vr,vq,vp,vo,vn,vm,vl,vk,vj,vi,vh,vg,vf,ve,vd,vc,vb,va] h=some (aJ [(.bool true)],h):=by kernel_rfl
theorem aBi:aK prog O L Hl k [a,b,c,d,e,f,g,i,j,l,m,n,o,p,q,r,s,t,u,v,w,x,y,z,A,B,C,D,E,F,G,H,I,J,zz,zy,zx,zw,zv,zu,zt,zs,zr,zq,zp,zo,zn,zm,zl,zk,zj,zi,zh,zg,zf,ze,zd,zc,zb,za,yz,yy,yx,yw,yv,yu,yt,ys,yr,yq,yp,yo,yn,ym,yl,yk,yj,yi,yh,yg,yf,ye,yd,yc,yb,ya,xz,xy,xx,xw,xv,xu,xt,xs,xr,xq,xp,xo,xn,xm,xl,xk,xj,xi,xh,xg,xf,xe,xd,xc,xb,xa,wz,wy,wx,ww,wv,wu,wt,ws,wr,wq,wp,wo,wn,wm,wl,wk,wj,wi,wh,wg,wf,we,wd,wc,wb,wa,vz,vy,vx,vw,vv,vu,vt,vs,vr,vq,vp,vo,vn,vm,vl,vk,vj,vi,vh,vg,vf,ve,vd,vc,vb,va] h=ob (M.aD (bin prog .rem 5 f (.int .u8 30)) h) λaa h=>ob (cI prog 5 3 aa h) λab h=>ob (M.aD (bin prog .leq 3 t ab) h) λac h=>aL ac (ob (O (.func 13) [q] h) λad h=>ob (M.aD (aG 6 p) h) λae h=>ob (ld1 ae h) λaf h=>ob (M.aD (bin prog .rem 3 t af) h) λag h=>ob (M.aD (bin prog .neq 3 ag (.int .i64 0)) h) λah h=>aL ah (ob (M.aD (bM ad) h) λai h=>ob (M.aD (bin prog .gtr 3 ai (.int .i64 0)) h) λaj h=>aL aj (k .ret [a,b,c,d,e,f,g,i,j,l,m,n,(.bool false),p,q,r,s,t,ad,v,w,x,y,z,A,B,C,D,E,F,G,H,I,J,zz,zy,zx,zw,zv,zu,zt,zs,zr,zq,zp,zo,zn,zm,zl,zk,zj,zi,zh,zg,zf,ze,zd,zc,zb,za,yz,yy,yx,yw,yv,yu,yt,ys,yr,yq,yp,yo,yn,ym,yl,t,f,aa,ab,ac,yf,ye,q,ad,t,ae,af,ag,ah,ad,ai,aj,xt,xs,xr,xq,xp,xo,xn,xm,xl,xk,xj,xi,xh,xg,xf,xe,xd,xc,xb,xa,wz,wy,wx,ww,wv,wu,wt,ws,wr,wq,wp,wo,wn,wm,wl,wk,wj,wi,wh,wg,wf,we,wd,wc,wb,wa,vz,vy,vx,vw,vv,vu,vt,vs,vr,vq,vp,vo,vn,vm,vl,vk,vj,vi,vh,vg,vf,ve,vd,vc,vb,va] h) (ob (M.aD (bin prog .add 3 t (.int .i64 1)) h) λak h=>k .normal [a,b,c,d,e,f,g,i,j,l,m,n,o,p,q,r,s,ak,ad,v,w,x,y,z,A,B,C,D,E,F,G,H,I,J,zz,zy,zx,zw,zv,zu,zt,zs,zr,zq,zp,zo,zn,zm,zl,zk,zj,zi,zh,zg,zf,ze,zd,zc,zb,za,yz,yy,yx,yw,yv,yu,yt,ys,yr,yq,yp,yo,yn,ym,yl,t,f,aa,ab,ac,t,ak,q,ad,t,ae,af,ag,ah,ad,ai,aj,xt,xs,xr,xq,xp,xo,xn,xm,xl,xk,xj,xi,xh,xg,xf,xe,xd,xc,xb,xa,wz,wy,wx,ww,wv,wu,wt,ws,wr,wq,wp,wo,wn,wm,wl,wk,wj,wi,wh,wg,wf,we,wd,wc,wb,wa,vz,vy,vx,vw,vv,vu,vt,vs,vr,vq,vp,vo,vn,vm,vl,vk,vj,vi,vh,vg,vf,ve,vd,vc,vb,va] h)) (ob (M.aD (bM ad) h) λal h=>ob (M.aD (bin prog .mul 3 (.int .i64 2) r) h) λam h=>ob (M.aD (aG 2 p) h) λan h=>ob (ld1 an h) λao h=>ob (M.aD (bin prog .mul 3 am ao) h) λap h=>ob (M.aD (bin prog .neq 3 al ap) h) λaq h=>aL aq (k .ret [a,b,c,d,e,f,g,i,j,l,m,n,(.bool false),p,q,r,s,t,ad,v,w,x,y,z,A,B,C,D,E,F,G,H,I,J,zz,zy,zx,zw,zv,zu,zt,zs,zr,zq,zp,zo,zn,zm,zl,zk,zj,zi,zh,zg,zf,ze,zd,zc,zb,za,yz,yy,yx,yw,yv,yu,yt,ys,yr,yq,yp,yo,yn,ym,yl,t,f,aa,ab,ac,yf,ye,q,ad,t,ae,af,ag,ah,xw,xv,xu,ad,al,r,am,an,ao,ap,aq,xl,xk,xj,xi,xh,xg,xf,xe,xd,xc,xb,xa,wz,wy,wx,ww,wv,wu,wt,ws,wr,wq,wp,wo,wn,wm,wl,wk,wj,wi,wh,wg,wf,we,wd,wc,wb,wa,vz,vy,vx,vw,vv,vu,vt,vs,vr,vq,vp,vo,vn,vm,vl,vk,vj,vi,vh,vg,vf,ve,vd,vc,vb,va] h) (L (aK prog O L P3) (P5 O L k) [a,b,c,d,e,f,g,i,j,l,m,n,o,p,q,r,s,t,ad,(.int .i64 0),w,x,y,z,A,B,C,D,E,F,G,H,I,J,zz,zy,zx,zw,zv,zu,zt,zs,zr,zq,zp,zo,zn,zm,zl,zk,zj,zi,zh,zg,zf,ze,zd,zc,zb,za,yz,yy,yx,yw,yv,yu,yt,ys,yr,yq,yp,yo,yn,ym,yl,t,f,aa,ab,ac,yf,ye,q,ad,t,ae,af,ag,ah,xw,xv,xu,ad,al,r,am,an,ao,ap,aq,xl,xk,xj,xi,xh,xg,xf,xe,xd,xc,xb,xa,wz,wy,wx,ww,wv,wu,wt,ws,wr,wq,wp,wo,wn,wm,wl,wk,wj,wi,wh,wg,wf,we,wd,wc,wb,wa,vz,vy,vx,vw,vv,vu,vt,vs,vr,vq,vp,vo,vn,vm,vl,vk,vj,vi,vh,vg,vf,ve,vd,vc,vb,va] h))) (k (.exit 2) [a,b,c,d,e,f,g,i,j,l,m,n,o,p,q,r,s,t,u,v,w,x,y,z,A,B,C,D,E,F,G,H,I,J,zz,zy,zx,zw,zv,zu,zt,zs,zr,zq,zp,zo,zn,zm,zl,zk,zj,zi,zh,zg,zf,ze,zd,zc,zb,za,yz,yy,yx,yw,yv,yu,yt,ys,yr,yq,yp,yo,yn,ym,yl,t,f,aa,ab,ac,yf,ye,yd,yc,yb,ya,xz,xy,xx,xw,xv,xu,xt,xs,xr,xq,xp,xo,xn,xm,xl,xk,xj,xi,xh,xg,xf,xe,xd,xc,xb,xa,wz,wy,wx,ww,wv,wu,wt,ws,wr,wq,wp,wo,wn,wm,wl,wk,wj,wi,wh,wg,wf,we,wd,wc,wb,wa,vz,vy,vx,vw,vv,vu,vt,vs,vr,vq,vp,vo,vn,vm,vl,vk,vj,vi,vh,vg,vf,ve,vd,vc,vb,va] h):=by kernel_rfl
def P2:Code:=b9 [1,1,1,1,1,0,1,0,0] (cB prog 3)
def P4:KV:=(dQ 0 (eD prog O L (b9 [1,1,1,1,1,1] (cB prog 3)) (fG prog Tryz.f3)))
theorem aNS:P4 O L (.exit 0) [a,b,c,d,e,f,g,i,j,l,m,n,o,p,q,r,s,t,u,v,w,x,y,z,A,B,C,D,E,F,G,H,I,J,zz,zy,zx,zw,zv,zu,zt,zs,zr,zq,zp,zo,zn,zm,zl,zk,zj,zi,zh,zg,zf,ze,zd,zc,zb,za,yz,yy,yx,yw,yv,yu,yt,ys,yr,yq,yp,yo,yn,ym,yl,yk,yj,yi,yh,yg,yf,ye,yd,yc,yb,ya,xz,xy,xx,xw,xv,xu,xt,xs,xr,xq,xp,xo,xn,xm,xl,xk,xj,xi,xh,xg,xf,xe,xd,xc,xb,xa,wz,wy,wx,ww,wv,wu,wt,ws,wr,wq,wp,wo,wn,wm,wl,wk,wj,wi,wh,wg,wf,we,wd,wc,wb,wa,vz,vy,vx,vw,vv,vu,vt,vs,vr,vq,vp,vo,vn,vm,vl,vk,vj,vi,vh,vg,vf,ve,vd,vc,vb,va] h=L (aK prog O L Hl) (Hm O L) [a,b,c,d,e,f,g,i,j,l,m,n,o,p,q,r,s,(.int .i64 1),u,v,w,x,y,z,A,B,C,D,E,F,G,H,I,J,zz,zy,zx,zw,zv,zu,zt,zs,zr,zq,zp,zo,zn,zm,zl,zk,zj,zi,zh,zg,zf,ze,zd,zc,zb,za,yz,yy,yx,yw,yv,yu,yt,ys,yr,yq,yp,yo,yn,ym,yl,yk,yj,yi,yh,yg,yf,ye,yd,yc,yb,ya,xz,xy,xx,xw,xv,xu,xt,xs,xr,xq,xp,xo,xn,xm,xl,xk,xj,xi,xh,xg,xf,xe,xd,xc,xb,xa,wz,wy,wx,ww,wv,wu,wt,ws,wr,wq,wp,wo,wn,wm,wl,wk,wj,wi,wh,wg,wf,we,wd,wc,wb,wa,vz,vy,vx,vw,vv,vu,vt,vs,vr,vq,vp,vo,vn,vm,vl,vk,vj,vi,vh,vg,vf,ve,vd,vc,vb,va] h:=by kernel_rfl
theorem aBh:aK prog O L P2 k [a,b,c,d,e,f,g,i,j,l,m,n,o,p,q,r,s,t,u,v,w,x,y,z,A,B,C,D,E,F,G,H,I,J,zz,zy,zx,zw,zv,zu,zt,zs,zr,zq,zp,zo,zn,zm,zl,zk,zj,zi,zh,zg,zf,ze,zd,zc,zb,za,yz,yy,yx,yw,yv,yu,yt,ys,yr,yq,yp,yo,yn,ym,yl,yk,yj,yi,yh,yg,yf,ye,yd,yc,yb,ya,xz,xy,xx,xw,xv,xu,xt,xs,xr,xq,xp,xo,xn,xm,xl,xk,xj,xi,xh,xg,xf,xe,xd,xc,xb,xa,wz,wy,wx,ww,wv,wu,wt,ws,wr,wq,wp,wo,wn,wm,wl,wk,wj,wi,wh,wg,wf,we,wd,wc,wb,wa,vz,vy,vx,vw,vv,vu,vt,vs,vr,vq,vp,vo,vn,vm,vl,vk,vj,vi,vh,vg,vf,ve,vd,vc,vb,va] h=ob (M.aD (aG 1 p) h) λaa h=>ob (ld1 aa h) λab h=>ob (M.aD (bM ab) h) λac h=>ob (M.aD (bin prog .lss 3 s ac) h) λad h=>aL ad (ob (M.aD (aG 1 p) h) λae h=>ob (ld1 ae h) λaf h=>ifB (true) (ob (M.aD (aR 2 af s) h) λag h=>ob (M.aD (aG 0 ag) h) λah h=>ob (ld1 ah h) λai h=>ifB (true) (ob (cI prog 5 3 e h) λaj h=>ob (M.aD (aG 0 p) h) λak h=>ob (ld1 ak h) λal h=>ifB (true) (ob (M.aD (bin prog .rem 3 aj al) h) λam h=>ob (M.aD (bin prog .eql 3 ai am) h) λan h=>ob (gd an false (M.aD (aG 1 p)) h) λao h=>ob (gd an false (ld1 ao) h) λap h=>ifB (true) (ob (gd an false (M.cA s) h) λaq h=>ob (gd an false (M.aD (aR 2 ap aq)) h) λar h=>ob (gd an false (M.aD (aG 1 ar)) h) λau h=>ob (gd an false (ld1 au) h) λav h=>ifB (true) (ob (gd an false (M.cA e) h) λaw h=>ob (gd an false (cI prog 5 3 aw) h) λax h=>ob (gd an false (M.aD (aG 0 p)) h) λay h=>ob (gd an false (ld1 ay) h) λaz h=>ifB (true) (ob (gd an false (M.aD (bin prog .rem 3 ax az)) h) λba h=>ob (gd an false (M.aD (bin prog .eql 3 av ba)) h) λbb h=>ob (M.aD (cJ an (.bool true) bb) h) λbc h=>aL bc (ob (M.aD (bin prog .add 3 r (.int .i64 1)) h) λbd h=>ob (M.aD (bin prog .add 3 s (.int .i64 1)) h) λbe h=>k .normal [a,b,c,d,e,f,g,i,j,l,m,n,o,p,q,bd,be,t,u,v,w,x,y,z,A,B,C,D,E,F,G,H,I,J,zz,zy,zx,zw,zv,zu,s,aa,ab,ac,ad,s,be,ae,af,s,ag,ah,ai,e,aj,ak,al,am,an,an,ao,ap,aq,ar,au,av,aw,ax,ay,az,ba,bb,bc,r,bd,yk,yj,yi,yh,yg,yf,ye,yd,yc,yb,ya,xz,xy,xx,xw,xv,xu,xt,xs,xr,xq,xp,xo,xn,xm,xl,xk,xj,xi,xh,xg,xf,xe,xd,xc,xb,xa,wz,wy,wx,ww,wv,wu,wt,ws,wr,wq,wp,wo,wn,wm,wl,wk,wj,wi,wh,wg,wf,we,wd,wc,wb,wa,vz,vy,vx,vw,vv,vu,vt,vs,vr,vq,vp,vo,vn,vm,vl,vk,vj,vi,vh,vg,vf,ve,vd,vc,vb,va] h) (ob (M.aD (bin prog .add 3 s (.int .i64 1)) h) λbf h=>k .normal [a,b,c,d,e,f,g,i,j,l,m,n,o,p,q,r,bf,t,u,v,w,x,y,z,A,B,C,D,E,F,G,H,I,J,zz,zy,zx,zw,zv,zu,s,aa,ab,ac,ad,s,bf,ae,af,s,ag,ah,ai,e,aj,ak,al,am,an,an,ao,ap,aq,ar,au,av,aw,ax,ay,az,ba,bb,bc,ym,yl,yk,yj,yi,yh,yg,yf,ye,yd,yc,yb,ya,xz,xy,xx,xw,xv,xu,xt,xs,xr,xq,xp,xo,xn,xm,xl,xk,xj,xi,xh,xg,xf,xe,xd,xc,xb,xa,wz,wy,wx,ww,wv,wu,wt,ws,wr,wq,wp,wo,wn,wm,wl,wk,wj,wi,wh,wg,wf,we,wd,wc,wb,wa,vz,vy,vx,vw,vv,vu,vt,vs,vr,vq,vp,vo,vn,vm,vl,vk,vj,vi,vh,vg,vf,ve,vd,vc,vb,va] h)))))))) (k (.exit 0) [a,b,c,d,e,f,g,i,j,l,m,n,o,p,q,r,s,t,u,v,w,x,y,z,A,B,C,D,E,F,G,H,I,J,zz,zy,zx,zw,zv,zu,s,aa,ab,ac,ad,zo,zn,zm,zl,zk,zj,zi,zh,zg,zf,ze,zd,zc,zb,za,yz,yy,yx,yw,yv,yu,yt,ys,yr,yq,yp,yo,yn,ym,yl,yk,yj,yi,yh,yg,yf,ye,yd,yc,yb,ya,xz,xy,xx,xw,xv,xu,xt,xs,xr,xq,xp,xo,xn,xm,xl,xk,xj,xi,xh,xg,xf,xe,xd,xc,xb,xa,wz,wy,wx,ww,wv,wu,wt,ws,wr,wq,wp,wo,wn,wm,wl,wk,wj,wi,wh,wg,wf,we,wd,wc,wb,wa,vz,vy,vx,vw,vv,vu,vt,vs,vr,vq,vp,vo,vn,vm,vl,vk,vj,vi,vh,vg,vf,ve,vd,vc,vb,va] h):=by kernel_rfl
theorem aNV:cE prog O L 3 [N,P,Q,R,S,T] h=ob (O (.func 10) [N,P,Q,R] h) λaa h=>ob (cX 28 [(.int .i64 0),(.slice none 0 0),(.int .i64 0),(.int .i64 0),(.int .i64 0),(.int .i64 0),(.int .i64 0),(.int .i64 0),(.slice none 0 0),(.int .u16 0),(.slice none 0 0)] .fix h) λab h=>ob (stN 11 ab aa h) λac h=>ob (ldN 11 ab h) λad h=>ifB (true) (ob (cI prog 5 3 S h) λae h=>ob (M.aD (aG 0 ab) h) λaf h=>ob (ld1 af h) λag h=>ifB (true) (ob (M.aD (bin prog .rem 3 ae ag) h) λah h=>ob (O (.func 11) [ad,ah] h) λai h=>ifB (true) (ob (M.aD (bin prog .eql 30 ai (.pointer none)) h) λaj h=>ob (gd aj false (O (.func 12) []) h) λak h=>ob (gd aj false (M.aD (un prog .not ak)) h) λal h=>ob (M.aD (cJ aj (.bool true) al) h) λam h=>aL am (some (aJ [(.bool false)],h)) (L (aK prog O L P2) (P4 O L) [N,P,Q,R,S,T,undef,undef,undef,undef,undef,undef,(.bool false),ab,ai,(.int .i64 0),(.int .i64 0),undef,undef,undef,undef,undef,N,P,Q,R,aa,ad,S,ae,af,ag,ah,ai,ai,aj,aj,ak,al,am,undef,undef,undef,undef,undef,undef,undef,undef,undef,undef,undef,undef,undef,undef,undef,undef,undef,undef,undef,undef,undef,undef,undef,undef,undef,undef,undef,undef,undef,undef,undef,undef,undef,undef,undef,undef,undef,undef,undef,undef,undef,undef,undef,undef,undef,undef,undef,undef,undef,undef,undef,undef,undef,undef,undef,undef,undef,undef,undef,undef,undef,undef,undef,undef,undef,undef,undef,undef,undef,undef,undef,undef,undef,undef,undef,undef,undef,undef,undef,undef,undef,undef,undef,undef,undef,undef,undef,undef,undef,undef,undef,undef,undef,undef,undef,undef,undef,undef,undef,undef,undef,undef,undef,undef,undef,undef,undef,undef,undef,undef,undef,undef,undef,undef,undef,undef,undef,undef,undef,undef,undef,undef,undef,undef] h)))):=by kernel_rfl
def P7:Code:=b9 [1,1,1,1,1,1,1,1,0,1,0,0] (cB prog 5)
def Qa:KV:=(dQ 2 (eD prog O L (b9 [1,1,1,1,1,1,1,1,1] (cB prog 5)) (fG prog Tryz.f5)))
def P8 (O:aE)(L:LV) (a b c d e f g i j l m n o p q r s t u v w x y z A B C D E F G H I J zz zy zx zw zv zu zt zs zr zq zp zo zn zm zl zk zj zi zh zg zf ze zd zc zb za yz yy yx yw yv yu yt ys yr yq yp yo yn ym yl yk yj yi yh yg yf ye yd yc yb ya xz xy xx xw xv xu xt xs xr xq xp xo xn xm xl xk xj xi xh xg xf xe xd xc xb xa wz wy wx ww:Value) (h:aC):OV:=ob (O (.func 19) [j,(.int .i64 1),(.int .i64 0)] h) λaa h=>ob (O (.func 20) [aa] h) λab h=>ob (cI prog 23 55 b h) λac h=>ob (cI prog 3 55 m h) λad h=>ob (M.aD (bin prog .add 55 ac ad) h) λae h=>ob (M.aD (bin prog .eql 55 ab ae) h) λaf h=>some (aJ [af],h)
theorem aNX:Qa O L (.exit 2) [a,b,c,d,e,f,g,i,j,l,m,n,o,p,q,r,s,t,u,v,w,x,y,z,A,B,C,D,E,F,G,H,I,J,zz,zy,zx,zw,zv,zu,zt,zs,zr,zq,zp,zo,zn,zm,zl,zk,zj,zi,zh,zg,zf,ze,zd,zc,zb,za,yz,yy,yx,yw,yv,yu,yt,ys,yr,yq,yp,yo,yn,ym,yl,yk,yj,yi,yh,yg,yf,ye,yd,yc,yb,ya,xz,xy,xx,xw,xv,xu,xt,xs,xr,xq,xp,xo,xn,xm,xl,xk,xj,xi,xh,xg,xf,xe,xd,xc,xb,xa,wz,wy,wx,ww] h=P8 O L a b c d e f g i j l m n o p q r s t u v w x y z A B C D E F G H I J zz zy zx zw zv zu zt zs zr zq zp zo zn zm zl zk zj zi zh zg zf ze zd zc zb za yz yy yx yw yv yu yt ys yr yq yp yo yn ym yl yk yj yi yh yg yf ye yd yc yb ya xz xy xx xw xv xu xt xs xr xq xp xo xn xm xl xk xj xi xh xg xf xe xd xc xb xa wz wy wx ww h:=by kernel_rfl
theorem aBl:aK prog O L P7 k [a,b,c,d,e,f,g,i,j,l,m,n,o,p,q,r,s,t,u,v,w,x,y,z,A,B,C,D,E,F,G,H,I,J,zz,zy,zx,zw,zv,zu,zt,zs,zr,zq,zp,zo,zn,zm,zl,zk,zj,zi,zh,zg,zf,ze,zd,zc,zb,za,yz,yy,yx,yw,yv,yu,yt,ys,yr,yq,yp,yo,yn,ym,yl,yk,yj,yi,yh,yg,yf,ye,yd,yc,yb,ya,xz,xy,xx,xw,xv,xu,xt,xs,xr,xq,xp,xo,xn,xm,xl,xk,xj,xi,xh,xg,xf,xe,xd,xc,xb,xa,wz,wy,wx,ww] h=ob (M.aD (bin prog .lss 3 n (.int .i64 7)) h) λaa h=>aL aa (ob (O (.func 13) [j] h) λab h=>ob (M.aD (bM c) h) λac h=>ob (M.aD (aG 3 i) h) λad h=>ob (ld1 ad h) λae h=>ob (M.aD (lN prog false [ac,ae]) h) λaf h=>ob (M.aD (bin prog .lss 3 m af) h) λag h=>aL ag (ob (M.aD (bM ab) h) λah h=>ob (M.aD (bin prog .neq 3 ah (.int .i64 1)) h) λai h=>aL ai (k .ret [a,b,c,d,e,f,(.bool false),i,j,l,m,n,ab,p,q,r,s,t,u,v,w,x,y,z,A,B,C,D,E,F,G,H,I,J,zz,zy,zx,zw,zv,zu,zt,zs,zr,zq,zp,zo,zn,zm,n,aa,zj,zi,j,ab,m,c,ac,ad,ae,af,ag,ab,ah,ai,yv,yu,yt,ys,yr,yq,yp,yo,yn,ym,yl,yk,yj,yi,yh,yg,yf,ye,yd,yc,yb,ya,xz,xy,xx,xw,xv,xu,xt,xs,xr,xq,xp,xo,xn,xm,xl,xk,xj,xi,xh,xg,xf,xe,xd,xc,xb,xa,wz,wy,wx,ww] h) (ob (M.aD (aR 2 ab (.int .i64 0)) h) λaj h=>ob (M.aD (aG 1 aj) h) λak h=>ob (ld1 ak h) λal h=>ob (O (.func 14) [al] h) λam h=>ob (M.aD (ext 0 am) h) λan h=>ob (M.aD (ext 1 am) h) λao h=>ob (cX 39 [(.int .u8 0),(.int .u8 0),(.int .u16 0),(.int .u8 0),(.int .u8 0),(.int .u32 0)] .fix h) λap h=>ob (stN 6 ap an h) λaq h=>ob (M.aD (bin prog .neq 3 ao (.int .i64 0)) h) λar h=>ob (gd ar false (M.aD (aG 5 ap)) h) λau h=>ob (gd ar false (ld1 au) h) λav h=>ifB (true) (ob (gd ar false (M.cA c) h) λaw h=>ob (gd ar false (M.cA m) h) λax h=>ob (gd ar false (M.aD (aR 1 aw ax)) h) λay h=>ob (gd ar false (ld1 ay) h) λaz h=>ifB (true) (ob (gd ar false (M.aD (bin prog .neq 37 av az)) h) λba h=>ob (M.aD (cJ ar (.bool true) ba) h) λbb h=>ob (gd bb false (M.aD (aG 2 ap)) h) λbc h=>ob (gd bb false (ld1 bc) h) λbd h=>ifB (true) (ob (gd bb false (M.cA b) h) λbe h=>ob (gd bb false (M.cA m) h) λbf h=>ob (gd bb false (cI prog 3 23 bf) h) λbg h=>ob (gd bb false (M.aD (bin prog .add 23 be bg)) h) λbh h=>ob (gd bb false (M.aD (bin prog .neq 23 bd bh)) h) λbi h=>ob (M.aD (cJ bb (.bool true) bi) h) λbj h=>ob (gd bj false (M.aD (aG 3 ap)) h) λbk h=>ob (gd bj false (ld1 bk) h) λbl h=>ifB (true) (ob (gd bj false (M.aD (bin prog .neq 5 bl (.int .u8 0))) h) λbm h=>ob (M.aD (cJ bj (.bool true) bm) h) λbn h=>ob (gd bn false (M.aD (aG 4 ap)) h) λbo h=>ob (gd bn false (ld1 bo) h) λbp h=>ifB (true) (ob (gd bn false (M.aD (bin prog .neq 5 bp (.int .u8 1))) h) λbq h=>ob (M.aD (cJ bn (.bool true) bq) h) λbr h=>aL br (k .ret [a,b,c,d,e,f,(.bool false),i,j,l,m,n,ab,ap,ao,r,s,t,u,v,w,x,y,z,A,B,C,D,E,F,G,H,I,J,zz,zy,zx,zw,zv,zu,zt,zs,zr,zq,zp,zo,zn,zm,n,aa,zj,zi,j,ab,m,c,ac,ad,ae,af,ag,ab,ah,ai,am,ab,aj,ak,al,am,an,ao,ao,ar,ar,au,av,aw,ax,ay,az,ba,bb,bb,bc,bd,be,bf,bg,bh,bi,bj,bj,bk,bl,bm,bn,bn,bo,bp,bq,br,xj,xi,xh,xg,xf,xe,xd,xc,xb,xa,wz,wy,wx,ww] h) (ob (M.aD (bin prog .add 3 m (.int .i64 1)) h) λbs h=>ob (M.aD (bin prog .add 3 n (.int .i64 1)) h) λbt h=>k .normal [a,b,c,d,e,f,g,i,j,l,bs,bt,ab,ap,ao,r,s,t,u,v,w,x,y,z,A,B,C,D,E,F,G,H,I,J,zz,zy,zx,zw,zv,zu,zt,zs,zr,zq,zp,zo,zn,zm,n,aa,n,bt,j,ab,m,c,ac,ad,ae,af,ag,ab,ah,ai,am,ab,aj,ak,al,am,an,ao,ao,ar,ar,au,av,aw,ax,ay,az,ba,bb,bb,bc,bd,be,bf,bg,bh,bi,bj,bj,bk,bl,bm,bn,bn,bo,bp,bq,br,m,bs,xh,xg,xf,xe,xd,xc,xb,xa,wz,wy,wx,ww] h)))))))) (ob (M.aD (bM ab) h) λbu h=>ob (M.aD (bin prog .gtr 3 bu (.int .i64 0)) h) λbv h=>aL bv (k .ret [a,b,c,d,e,f,(.bool false),i,j,l,m,n,ab,p,q,r,s,t,u,v,w,x,y,z,A,B,C,D,E,F,G,H,I,J,zz,zy,zx,zw,zv,zu,zt,zs,zr,zq,zp,zo,zn,zm,n,aa,zj,zi,j,ab,m,c,ac,ad,ae,af,ag,yy,yx,yw,yv,yu,yt,ys,yr,yq,yp,yo,yn,ym,yl,yk,yj,yi,yh,yg,yf,ye,yd,yc,yb,ya,xz,xy,xx,xw,xv,xu,xt,xs,xr,xq,xp,xo,xn,xm,xl,xk,xj,xi,ab,bu,bv,xe,xd,xc,xb,xa,wz,wy,wx,ww] h) (ob (M.aD (bin prog .add 3 n (.int .i64 1)) h) λbw h=>k .normal [a,b,c,d,e,f,g,i,j,l,m,bw,ab,p,q,r,s,t,u,v,w,x,y,z,A,B,C,D,E,F,G,H,I,J,zz,zy,zx,zw,zv,zu,zt,zs,zr,zq,zp,zo,zn,zm,n,aa,n,bw,j,ab,m,c,ac,ad,ae,af,ag,yy,yx,yw,yv,yu,yt,ys,yr,yq,yp,yo,yn,ym,yl,yk,yj,yi,yh,yg,yf,ye,yd,yc,yb,ya,xz,xy,xx,xw,xv,xu,xt,xs,xr,xq,xp,xo,xn,xm,xl,xk,xj,xi,ab,bu,bv,xe,xd,xc,xb,xa,wz,wy,wx,ww] h))) (k (.exit 2) [a,b,c,d,e,f,g,i,j,l,m,n,o,p,q,r,s,t,u,v,w,x,y,z,A,B,C,D,E,F,G,H,I,J,zz,zy,zx,zw,zv,zu,zt,zs,zr,zq,zp,zo,zn,zm,n,aa,zj,zi,zh,zg,zf,ze,zd,zc,zb,za,yz,yy,yx,yw,yv,yu,yt,ys,yr,yq,yp,yo,yn,ym,yl,yk,yj,yi,yh,yg,yf,ye,yd,yc,yb,ya,xz,xy,xx,xw,xv,xu,xt,xs,xr,xq,xp,xo,xn,xm,xl,xk,xj,xi,xh,xg,xf,xe,xd,xc,xb,xa,wz,wy,wx,ww] h):=by kernel_rfl
def P6:Code:=b9 [1,1,1,1,1,1,0,1,0,0] (cB prog 5)
def P9:KV:=(dQ 0 (eD prog O L (b9 [1,1,1,1,1,1,1] (cB prog 5)) (fG prog Tryz.f5)))
theorem aNW:P9 O L (.exit 0) [a,b,c,d,e,f,g,i,j,l,m,n,o,p,q,r,s,t,u,v,w,x,y,z,A,B,C,D,E,F,G,H,I,J,zz,zy,zx,zw,zv,zu,zt,zs,zr,zq,zp,zo,zn,zm,zl,zk,zj,zi,zh,zg,zf,ze,zd,zc,zb,za,yz,yy,yx,yw,yv,yu,yt,ys,yr,yq,yp,yo,yn,ym,yl,yk,yj,yi,yh,yg,yf,ye,yd,yc,yb,ya,xz,xy,xx,xw,xv,xu,xt,xs,xr,xq,xp,xo,xn,xm,xl,xk,xj,xi,xh,xg,xf,xe,xd,xc,xb,xa,wz,wy,wx,ww] h=L (aK prog O L P7) (Qa O L) [a,b,c,d,e,f,g,i,j,l,(.int .i64 0),(.int .i64 0),o,p,q,r,s,t,u,v,w,x,y,z,A,B,C,D,E,F,G,H,I,J,zz,zy,zx,zw,zv,zu,zt,zs,zr,zq,zp,zo,zn,zm,zl,zk,zj,zi,zh,zg,zf,ze,zd,zc,zb,za,yz,yy,yx,yw,yv,yu,yt,ys,yr,yq,yp,yo,yn,ym,yl,yk,yj,yi,yh,yg,yf,ye,yd,yc,yb,ya,xz,xy,xx,xw,xv,xu,xt,xs,xr,xq,xp,xo,xn,xm,xl,xk,xj,xi,xh,xg,xf,xe,xd,xc,xb,xa,wz,wy,wx,ww] h:=by kernel_rfl
theorem aBk:aK prog O L P6 k [a,b,c,d,e,f,g,i,j,l,m,n,o,p,q,r,s,t,u,v,w,x,y,z,A,B,C,D,E,F,G,H,I,J,zz,zy,zx,zw,zv,zu,zt,zs,zr,zq,zp,zo,zn,zm,zl,zk,zj,zi,zh,zg,zf,ze,zd,zc,zb,za,yz,yy,yx,yw,yv,yu,yt,ys,yr,yq,yp,yo,yn,ym,yl,yk,yj,yi,yh,yg,yf,ye,yd,yc,yb,ya,xz,xy,xx,xw,xv,xu,xt,xs,xr,xq,xp,xo,xn,xm,xl,xk,xj,xi,xh,xg,xf,xe,xd,xc,xb,xa,wz,wy,wx,ww] h=ob (M.aD (bM c) h) λaa h=>ob (M.aD (bin prog .lss 3 l aa) h) λab h=>aL ab (ob (M.aD (aR 1 c l) h) λac h=>ob (ld1 ac h) λad h=>ob (M.aD (bld prog 54 [(0,(.int .i64 0)),(1,(.int .i64 1)),(3,ad)]) h) λae h=>ob (O (.func 18) [j,ae] h) λaf h=>ob (M.aD (bin prog .neq 51 af (.int .u16 0)) h) λag h=>aL ag (k .ret [a,b,c,d,e,f,(.bool false),i,j,l,m,n,o,p,q,r,s,t,u,v,w,x,y,z,A,B,C,D,E,F,G,H,I,J,l,c,aa,ab,zv,zu,j,c,l,ac,ad,ae,af,ag,zl,zk,zj,zi,zh,zg,zf,ze,zd,zc,zb,za,yz,yy,yx,yw,yv,yu,yt,ys,yr,yq,yp,yo,yn,ym,yl,yk,yj,yi,yh,yg,yf,ye,yd,yc,yb,ya,xz,xy,xx,xw,xv,xu,xt,xs,xr,xq,xp,xo,xn,xm,xl,xk,xj,xi,xh,xg,xf,xe,xd,xc,xb,xa,wz,wy,wx,ww] h) (ob (M.aD (bin prog .add 3 l (.int .i64 1)) h) λah h=>k .normal [a,b,c,d,e,f,g,i,j,ah,m,n,o,p,q,r,s,t,u,v,w,x,y,z,A,B,C,D,E,F,G,H,I,J,l,c,aa,ab,l,ah,j,c,l,ac,ad,ae,af,ag,zl,zk,zj,zi,zh,zg,zf,ze,zd,zc,zb,za,yz,yy,yx,yw,yv,yu,yt,ys,yr,yq,yp,yo,yn,ym,yl,yk,yj,yi,yh,yg,yf,ye,yd,yc,yb,ya,xz,xy,xx,xw,xv,xu,xt,xs,xr,xq,xp,xo,xn,xm,xl,xk,xj,xi,xh,xg,xf,xe,xd,xc,xb,xa,wz,wy,wx,ww] h)) (k (.exit 0) [a,b,c,d,e,f,g,i,j,l,m,n,o,p,q,r,s,t,u,v,w,x,y,z,A,B,C,D,E,F,G,H,I,J,l,c,aa,ab,zv,zu,zt,zs,zr,zq,zp,zo,zn,zm,zl,zk,zj,zi,zh,zg,zf,ze,zd,zc,zb,za,yz,yy,yx,yw,yv,yu,yt,ys,yr,yq,yp,yo,yn,ym,yl,yk,yj,yi,yh,yg,yf,ye,yd,yc,yb,ya,xz,xy,xx,xw,xv,xu,xt,xs,xr,xq,xp,xo,xn,xm,xl,xk,xj,xi,xh,xg,xf,xe,xd,xc,xb,xa,wz,wy,wx,ww] h):=by kernel_rfl
theorem aNY:cE prog O L 5 [N,P,Q] h=ob (M.aD (bM Q) h) λaa h=>ob (M.aD (bin prog .gtr 3 aa (.int .i64 8)) h) λab h=>ob (gd ab false (O (.func 12) []) h) λac h=>ob (gd ab false (M.aD (un prog .not ac)) h) λad h=>ob (M.aD (cJ ab (.bool true) ad) h) λae h=>aL ae (ob (O (.func 12) [] h) λaf h=>some (aJ [af],h)) (ob (dL 5 1 1 [(.int .u8 0)] [(0,(.int .u8 0))] h) λag h=>ob (M.aD (bin prog .rem 5 N (.int .u8 8)) h) λah h=>ob (M.aD (bin prog .add 5 (.int .u8 56) ah) h) λai h=>ob (O (.func 10) [ag,ai,(.int .u8 0),P] h) λaj h=>ob (cX 28 [(.int .i64 0),(.slice none 0 0),(.int .i64 0),(.int .i64 0),(.int .i64 0),(.int .i64 0),(.int .i64 0),(.int .i64 0),(.slice none 0 0),(.int .u16 0),(.slice none 0 0)] .fix h) λak h=>ob (stN 11 ak aj h) λal h=>ob (M.aD (aG 6 ak) h) λam h=>ob (stN 1 am (.int .i64 8) h) λan h=>ob (ldN 11 ak h) λao h=>ob (O (.func 11) [ao,(.int .i64 0)] h) λap h=>ob (M.aD (bin prog .eql 30 ap (.pointer none)) h) λaq h=>aL aq (some (aJ [(.bool false)],h)) (L (aK prog O L P6) (P9 O L) [N,P,Q,undef,undef,undef,(.bool false),ak,ap,(.int .i64 0),undef,undef,undef,undef,undef,Q,aa,ab,ab,ac,ad,ae,undef,ag,N,ah,ai,P,aj,am,ao,ap,ap,aq,undef,undef,undef,undef,undef,undef,undef,undef,undef,undef,undef,undef,undef,undef,undef,undef,undef,undef,undef,undef,undef,undef,undef,undef,undef,undef,undef,undef,undef,undef,undef,undef,undef,undef,undef,undef,undef,undef,undef,undef,undef,undef,undef,undef,undef,undef,undef,undef,undef,undef,undef,undef,undef,undef,undef,undef,undef,undef,undef,undef,undef,undef,undef,undef,undef,undef,undef,undef,undef,undef,undef,undef,undef,undef,undef,undef,undef,undef,undef,undef,undef,undef] h)):=by kernel_rfl
theorem aNR:cE prog O L 12 [] h=ob (dL 5 1 1 [(.int .u8 0)] [(0,(.int .u8 0))] h) λaa h=>ob (O (.func 10) [aa,(.int .u8 1),(.int .u8 0),(.int .u16 0)] h) λab h=>ob (cX 28 [(.int .i64 0),(.slice none 0 0),(.int .i64 0),(.int .i64 0),(.int .i64 0),(.int .i64 0),(.int .i64 0),(.int .i64 0),(.slice none 0 0),(.int .u16 0),(.slice none 0 0)] .fix h) λac h=>ob (stN 11 ac ab h) λad h=>ob (M.aD (aG 6 ac) h) λae h=>ob (stN 1 ae (.int .i64 8) h) λaf h=>ob (ldN 11 ac h) λag h=>ob (O (.func 11) [ag,(.int .i64 0)] h) λah h=>ob (ldN 11 ac h) λai h=>ob (O (.func 11) [ai,(.int .i64 1)] h) λaj h=>ob (M.aD (bin prog .eql 30 ah (.pointer none)) h) λak h=>ob (gd ak false (M.cA aj) h) λal h=>ob (gd ak false (M.aD (bin prog .eql 30 al (.pointer none))) h) λam h=>ob (M.aD (cJ ak (.bool true) am) h) λan h=>ob (gd an false (M.cA ah) h) λao h=>ob (gd an false (O (.func 42) [ao]) h) λap h=>ob (gd an false (M.aD (bin prog .eql 83 ap (.pointer none))) h) λaq h=>ob (M.aD (cJ an (.bool true) aq) h) λar h=>ob (gd ar false (M.cA aj) h) λau h=>ob (gd ar false (O (.func 42) [au]) h) λav h=>ob (gd ar false (M.aD (bin prog .eql 83 av (.pointer none))) h) λaw h=>ob (M.aD (cJ ar (.bool true) aw) h) λax h=>ob (gd ax false (M.cA ah) h) λay h=>ob (gd ax false (O (.func 43) [ay]) h) λaz h=>ob (gd ax false (M.aD (bin prog .eql 87 az (.pointer none))) h) λba h=>ob (M.aD (cJ ax (.bool true) ba) h) λbb h=>ob (gd bb false (M.cA ah) h) λbc h=>ob (gd bb false (O (.func 19) [bc,(.int .i64 1),(.int .i64 0)]) h) λbd h=>ob (gd bb false (M.aD (bin prog .eql 56 bd (.pointer none))) h) λbe h=>ob (M.aD (cJ bb (.bool true) be) h) λbf h=>ob (gd bf false (M.cA ah) h) λbg h=>ob (gd bf false (O (.func 44) [bg,(.int .i64 1),(.int .i64 0)]) h) λbh h=>ob (gd bf false (M.aD (bin prog .eql 97 bh (.pointer none))) h) λbi h=>ob (M.aD (cJ bf (.bool true) bi) h) λbj h=>aL bj (some (aJ [(.bool false)],h)) (ob (M.aD (bld prog 54 [(0,(.int .i64 0)),(1,(.int .i64 1)),(3,(.int .u32 7))]) h) λbk h=>ob (O (.func 18) [ah,bk] h) λbl h=>ob (O (.func 13) [ah] h) λbm h=>ob (M.aD (bM bm) h) λbn h=>ob (M.aD (bin prog .neq 3 bn (.int .i64 1)) h) λbo h=>ob (gd bo false (M.cA bm) h) λbp h=>ob (gd bo false (M.aD (aR 2 bp (.int .i64 0))) h) λbq h=>ob (gd bo false (M.aD (aG 0 bq)) h) λbr h=>ob (gd bo false (ld1 br) h) λbs h=>ob (gd bo false (M.aD (bin prog .neq 3 bs (.int .i64 1))) h) λbt h=>ob (M.aD (cJ bo (.bool true) bt) h) λbu h=>aL bu (some (aJ [(.bool false)],h)) (ob (M.aD (aR 2 bm (.int .i64 0)) h) λbv h=>ob (M.aD (aG 1 bv) h) λbw h=>ob (ld1 bw h) λbx h=>ob (O (.func 45) [aj,(.int .i64 0),bx] h) λbz h=>ob (O (.func 13) [aj] h) λca h=>ob (O (.func 42) [aj] h) λcb h=>ob (O (.func 46) [cb] h) λcc h=>ob (M.aD (bin prog .eql 51 bl (.int .u16 0)) h) λcd h=>ob (gd cd true (M.cA bz) h) λce h=>ob (gd cd true (M.aD (bin prog .eql 51 ce (.int .u16 0))) h) λcf h=>ob (M.aD (cJ cd cf (.bool false)) h) λcg h=>ob (gd cg true (M.cA cc) h) λch h=>ob (gd cg true (M.aD (bM ch)) h) λci h=>ob (gd cg true (M.aD (bin prog .eql 3 ci (.int .i64 1))) h) λcj h=>ob (M.aD (cJ cg cj (.bool false)) h) λck h=>ob (gd ck true (M.cA cc) h) λcl h=>ob (gd ck true (M.aD (aR 4 cl (.int .i64 0))) h) λcm h=>ob (gd ck true (M.aD (aG 3 cm)) h) λcn h=>ob (gd ck true (ld1 cn) h) λco h=>ob (gd ck true (M.aD (bin prog .eql 37 co (.int .u32 7))) h) λcp h=>ob (M.aD (cJ ck cp (.bool false)) h) λcq h=>ob (gd cq true (ldN 11 ac) h) λcr h=>ob (gd cq true (O (.func 11) [cr,(.int .i64 2)]) h) λcs h=>ob (gd cq true (M.aD (bin prog .eql 30 cs (.pointer none))) h) λct h=>ob (M.aD (cJ cq ct (.bool false)) h) λcu h=>ob (gd cu true (M.cA ah) h) λcv h=>ob (gd cu true (M.aD (bld prog 54 [(0,(.int .i64 1))])) h) λcw h=>ob (gd cu true (O (.func 18) [cv,cw]) h) λcx h=>ob (gd cu true (M.aD (bin prog .eql 51 cx (.int .u16 1))) h) λcy h=>ob (M.aD (cJ cu cy (.bool false)) h) λcz h=>ob (gd cz true (M.cA ah) h) λda h=>ob (gd cz true (O (.func 19) [da,(.int .i64 0),(.int .i64 0)]) h) λdb h=>ob (gd cz true (M.aD (bin prog .eql 56 db (.pointer none))) h) λdc h=>ob (M.aD (cJ cz dc (.bool false)) h) λdd h=>some (aJ [dd],h))):=by kernel_rfl
end Go.Proofs.YtkeilicinggjmaaGreatDoor
end
namespace Go.Proofs.YtkeilicinggjmaaGreatDoor
open Go.Proofs.Tryz
open Go.Abs
open Classical
section
variable {H : aC} {m : Nat} {p : PlanD} {ev wv nv : Value}
theorem aNZ (hp:PV H p ev wv nv)(hm:17592186045500<m)(hm2:m<=72057594037927936)(v:Int)(hno:mI p≠0∨v<0∨p.nodes<=v):
  ∃H',lvl prog pkN m (.func 11) [plV p ev wv nv,.int .i64 v] H=some (.pointer none,H')/\Ext H H':=by
 obtain⟨H1,hH1⟩: ∃H1,H1=H++[plB p ev wv nv]:=⟨_,rfl⟩;have x1:Ext H H1:=by rw[hH1];exact Fr.app _ _ _
 have b1:H1[H.length]? =some (plB p ev wv nv):=by rw[hH1];exact gZ _ _
 have p1:=hp.ext x1;have l11:=kX b1;obtain⟨H2,g1,x2⟩:=Xw p1 (m:=m-1) (by omega) (by omega)
 have b2:H2[H.length]? =some (plB p ev wv nv):=by rw[x2.2 _ (dE b1) id,b1]
 have l0:ld1 (.pointer (some ⟨H.length,0,none⟩)) H2=some (.int .i64 p.nodes,H2):=eU b2 0 (.int .i64 p.nodes) rfl;have e1:H++[Blk.cells (plV p ev wv nv).cells.toList 28 .fix]=H1:=by rw[hH1];rfl
 refine lK (cL rfl) (by omega) ⟨H2,?_,x1.tr x2⟩
 rw[X9];by_cases c0:mI p=0
 ·have d0:((mI p:Int)!=0)=false:=by rw[c0];rfl
  by_cases c1:v<0
  ·have d1:decide (v<0)=true:=aPD c1
   simp -implicitDefEqProofs only[gsR,e1,l11,g1,d0,d1]
  ·have d1:decide (v<0)=false:=aPE c1
   have d2:decide (p.nodes<=v)=true:=aPD (by omega)
   simp -implicitDefEqProofs only[gsR,e1,l11,g1,d0,d1,l0,d2]
 ·have d0:((mI p:Int)!=0)=true:=by rw[bne_iff_ne];exact c0
  simp -implicitDefEqProofs only[gsR,e1,l11,g1,d0]
theorem aBm (m:Nat)(hm:17592186045600<m)(hm2:m<=72057594037927936): ∃H',lvl prog pkN m (.func 12) [] H=some (.bool true,H')/\Ext H H':=by
  obtain⟨H1,hH1⟩: ∃H1,H1=H++[Blk.cells [Value.int .u8 0] 5 .row]:=⟨_,rfl⟩;have x1:Ext H H1:=by rw[hH1];exact Fr.app _ _ _
  have e1:dL 5 1 1 [.int .u8 0] [(0,.int .u8 0)] H=some (.slice (some ⟨H.length,0,none⟩) 1 1,H1):=by rw[hH1];rfl
  have hu:Us H1 (.slice (some ⟨H.length,0,none⟩) 1 1) [0]:= .inr ⟨H.length,0,1,rfl,aOZ _,λ_=>⟨5,.row,[],[],rfl,λ_=>rfl,by rw[hH1,dJ];rfl⟩⟩
  obtain⟨H2,ev,wv,nv,g2,x2,hp⟩:=P1 hu (by simp) (by simp) 1 0 0 (by omega) (by omega) (by omega) (m:=m-1) (by omega) (by omega)
  simp only[show((1:Nat):Int)=1 from rfl,show((0:Nat):Int)=0 from rfl] at g2
  obtain⟨q,hq⟩: ∃q,q=tH [0] 1 0 0:=⟨_,rfl⟩;have hqk:kp={q with every:=8}:=by rw[hq];rfl
  rw[<-hq] at g2 hp;have cp:=E3 hp H2;obtain⟨H3,hH3⟩: ∃H3,H3=H2++[plB q ev wv nv]:=⟨_,rfl⟩;rw[<-hH3] at cp;have b3:H3[H2.length]? =some (plB q ev wv nv):=by rw[hH3];exact gZ _ _
  have x3:Ext H2 H3:=by rw[hH3];exact Fr.app _ _ _
  have st:stN 1 (.pointer (some ⟨H2.length,6,none⟩)) (.int .i64 8) H3=some (undef,H3.set H2.length (plB kp ev wv nv)):=Bv (q':=kp) (ev':=ev) (wv':=wv) (nv':=nv) b3 rfl rfl (by decide) (by rw[hqk];rfl)
  obtain⟨H4,hH4⟩: ∃H4,H4=H3.set H2.length (plB kp ev wv nv):=⟨_,rfl⟩;rw[<-hH4] at st;have x4:Ext H2 H4:=by rw[hH4];exact s5 x3 (aOZ _)
  have b4:H4[H2.length]? =some (plB kp ev wv nv):=by rw[hH4,aO0 (dE b3)]
  have p4:PV H4 kp ev wv nv:=by
    have:=hp.ext x4;rw[hqk]
    exact⟨this.e,this.w,this.n,this.be,this.bw,this.bn⟩
  have l4:=kX b4;have hnn:kp.nodes=2:=by decide+kernel
  -- both nodes
  obtain⟨H5,Fa,ya,g5,ha⟩:=Hg p4 aBg (by decide+kernel) (m:=m-1) (by omega) (by omega) 0 (by rw[hnn];decide)
  have b5:=hZ b4 ha.ext;have l5:=kX b5;obtain⟨H6,Fb,yb,g6,hb⟩:=Hg (p4.ext ha.ext) aBg (by decide+kernel) (m:=m-1) (by omega) (by omega) 1 (by rw[hnn];decide)
  simp only[show((1:Nat):Int)=1 from rfl,show((0:Nat):Int)=0 from rfl] at g5 g6
  have dis: ∀b,Un Fb b-> ¬Un Fa b:=λb h1 h2=>by have:=hb.old b h1;have:=ha.sep.qF b h2;omega
  have ha6:=ha.hP hb.ext;have hb6:=hb.aNP ha.ext p4;obtain⟨ca,hca⟩: ∃ca,ca=iJ kp 0:=⟨_,rfl⟩;obtain⟨cb,hcb⟩: ∃cb,cb=iJ kp 1:=⟨_,rfl⟩;have hpa:ca.aH=2/\ca.lanes=1:=by rw[hca];decide+kernel
  rw[<-hca] at ha ha6;rw[<-hcb] at hb hb6;obtain⟨r1,r2,r3,r4,r5⟩:=aNQ
  -- they are there
  have k1:=Pg ha6 (m:=m-1) (by omega)
  have k2:=Pg hb6 (m:=m-1) (by omega)
  have k3:=aMv ha6 (m:=m-1) (by omega)
  obtain⟨H7,k4,x7⟩:=aAS ha6 (m:=m-1) (by omega) (i:=1) (k:=0) (by omega) (by omega) (by omega)
  have ha7:=ha6.hP x7;have hb7:=hb6.hP x7;obtain⟨H8,k5,x8⟩:=aMu ha7 (m:=m-1) (by omega) (i:=1) (k:=0) (by omega) (by omega) (by omega)
  have ha8:=ha7.hP x8;have hb8:=hb7.hP x8;simp only[show((1:Nat):Int)=1 from rfl,show((0:Nat):Int)=0 from rfl] at k4 k5
  have n1:=λa=>(vF 30 a (by kernel_rfl)).1
  have n1':=(vF 30 ⟨0,0,none⟩ (by kernel_rfl)).2
  have n2:=λa=>(vF 83 a (by kernel_rfl)).1
  have n3:=λa=>(vF 87 a (by kernel_rfl)).1
  have n4:=λa=>(vF 56 a (by kernel_rfl)).1
  have n4':=(vF 56 ⟨0,0,none⟩ (by kernel_rfl)).2
  have n5:=λa=>(vF 97 a (by kernel_rfl)).1
  have bp:bld prog 54 [(0,.int .i64 0),(1,.int .i64 1),(3,.int .u32 7)]=some kx.dM:=rfl;have bp2:bld prog 54 [(0,.int .i64 1)]=some (Pkt.dM ⟨1,0,0,0⟩):=rfl
  -- what is injected goes out
  obtain⟨H9,Fa9,g9,ha9,m9⟩:=Pi ha8 (m:=m-1) (by omega) kx (by decide)
  have hr1:(o6 ca kx (NS.jB ca)).1=0:=by rw[hca];exact r1
  have hs9:(o6 ca kx (NS.jB ca)).2=kA:=by rw[hca];rfl
  rw[hr1] at g9;rw[hs9] at ha9;obtain⟨hb9,dis9⟩:=hb8.Hj ha9.ext m9 dis;obtain⟨H10,Fa10,v10,us10,g10,ha10,m10,o10⟩:=G9 ha9 (by omega) (m:=m-1) (by omega)
  obtain⟨hb10,dis10⟩:=hb9.Hj ha10.ext m10 dis9;have hT:lB ca kA=kT:=by rw[hca];rfl
  rw[hT] at ha10 o10;have hlen:us10.length=1:=by
    rw[o10.len];have:=congrArg List.length r2;simpa using this
  obtain⟨u0,hu0⟩: ∃u0,us10=[u0]:=List.length_eq_one_iff.mp hlen;obtain⟨o0,ho0⟩: ∃o0,kT.2=[o0]:=List.length_eq_one_iff.mp (by rw[<-o10.len,hlen])
  obtain⟨w1,w2,w3⟩:=o10.at_ 0 u0 o0 (by rw[hu0];rfl) (by rw[ho0];rfl)
  have ho1:o0.1=1:=by rw[ho0] at r2;simpa using r2
  have len10:bM v10=some (.int .i64 1):=by rw[o10.rw_.rs.gO,hlen];rfl
  obtain⟨bo,oo,i1,i2,i3⟩:=o10.rw_.rs.iG Gy (i:=0) (x:=u0) (by rw[hu0];rfl) .i64
  obtain⟨j1,j2,j3⟩:=i3 H10 rfl;have t0:=j2 0 _ rfl;have t1:=j2 1 _ rfl;rw[w1,ho1] at t0;rw[(Pm w2).1] at t1
  -- and comes
  obtain⟨H11,Fb11,g11,hb11,m11⟩:=aMK hb10 (by omega) (m:=m-1) (by omega) 0 w2.rs
  have hba:(kT.2.getD 0 (0,[])).2=o0.2:=by rw[ho0];rfl
  have hr3:(oN cb 0 o0.2 (NS.jB cb)).1=0:=by rw[hcb,<-hba];exact r3
  have hs11:(oN cb 0 o0.2 (NS.jB cb)).2=kB.2:=by rw[hcb,<-hba];rfl
  rw[hr3] at g11;rw[hs11] at hb11;have dis10': ∀b,Un Fa10 b-> ¬Un Fb b:=λb h1 h2=>dis10 b h2 h1
  obtain⟨ha11,dis11⟩:=ha10.Hj hb11.ext m11 dis10';obtain⟨H12,Fb12,v12,us12,g12,hb12,m12,o12⟩:=G9 hb11 (by omega) (m:=m-1) (by omega)
  obtain⟨ha12,dis12⟩:=ha11.Hj hb12.ext m12 dis11;have hU:lB cb kB.2=kU:=by rw[hcb];rfl
  rw[hU] at hb12;have k6:=Pg hb12 (m:=m-1) (by omega)
  obtain⟨c0,c1,c2,cv,hh⟩:=hb12.aMM;rw[r4] at hh;obtain⟨H13,gv,g13,aO,q13,_⟩:=aLG hh (m:=m-1) (by omega) (by decide)
  have ha13:=ha12.hP aO;have len13:bM gv=some (.int .i64 1):=q13.rs.gO;obtain⟨bg,og,i4,i5,i6⟩:=q13.rs.iG Ad (i:=0) (x:=kx) rfl .i64;obtain⟨j4,j5,j6⟩:=i6 H13 rfl;have t3:=j5 3 (.int .u32 7) rfl
  -- what is none
  have b13:H13[H2.length]? =some (plB kp ev wv nv):=by
    have:=hZ b4 ha13.ext;exact this
  have l13:=kX b13;obtain⟨H14,g14,aP⟩:=aNZ (p4.ext ha13.ext) (m:=m-1) (by omega) (by omega) 2 (.inr (.inr (by rw[hnn];decide)))
  have ha14:=ha13.hP aP;obtain⟨H15,Fa15,g15,ha15,m15⟩:=Pi ha14 (m:=m-1) (by omega) ⟨1,0,0,0⟩ (by decide)
  have hr5:(o6 ca ⟨1,0,0,0⟩ kT.1).1=1:=by rw[hca];exact r5
  rw[hr5] at g15;obtain⟨H16,g16,aS⟩:=aMw ha15 (m:=m-1) (by omega) 0 0 (by omega)
  refine lK (cL rfl) (by omega) ⟨H16,?_,((x1.tr x2).tr x4).tr (ha15.ext.tr aS)⟩
  rw[aNR];have z1:((1:Int)!=1)=false:=rfl;have z2:((1:Int)==1)=true:=rfl;have z3:((0:Int)==0)=true:=rfl;have z4:((7:Int)==7)=true:=rfl;simp only[show((1:Nat):Int)=1 from rfl,show((0:Nat):Int)=0 from rfl] at i1 i4 g9 g11 g15 t0
  simp -implicitDefEqProofs only[gsR,Bu,e1,g2,cp,st,l4,g5,l5,g6,n1,k1,n2,k2,k3,n3,k4,n4,k5,n5,bp,g9,g10,len10,z1,i1,t0,t1,g11,g12,k6,g13,z3,z2,len13,i4,t3,z4,l13,g14,n1',bp2,g15,g16,n4']
end
section
variable {H : aC} {m : Nat}
theorem aBn:un prog .not (.bool true)=some (.bool false):=rfl
end
end Go.Proofs.YtkeilicinggjmaaGreatDoor
namespace Go.Proofs.YtkeilicinggjmaaGreatDoor
open Go.Proofs.Tryz
open Go.Abs
theorem aN0 {i:Int}(h:(Lit.int .u32 i).wf=true):0<=i/\i<4294967296:=by
 simp[Lit.wf,IntKind.min,IntKind.max,IntKind.signed,IntKind.bits] at h;omega
end Go.Proofs.YtkeilicinggjmaaGreatDoor
namespace Go.Abs
theorem aBr {n:Nat}(h:n<65536):fH (eV n)=n:=((Y2 h).mp rfl).symm
theorem aN3 {f:Frm}(h:dK f=true)(hk:f.kind≠1):f.src=0/\f.dst=0/\f.body=0:=by
 unfold dK at h;rw[if_neg hk] at h;simp only[aO2,decide_eq_true_eq] at h
 exact⟨h.2.1.1.2,h.2.1.2,h.2.2⟩
theorem yR {n:Nat}(h:n<256):(by8 n).toNat=n:=by rw[tD];omega
theorem aN1 {f:Frm}(h:f.ok)(hk:f.kind≠1)(hs:dK f=true):eW (kP f)=f:=by
 obtain⟨s1,s2,s3⟩:=aN3 hs hk;have hb:jQ f=[by8 f.kind,by8 f.lane,by8 (f.seq/256),by8 f.seq]:=by unfold jQ;rw[if_neg hk];rfl
 have he:kP f=[by8 f.kind,by8 f.lane,by8 (f.seq/256),by8 f.seq]++eV (crc (jQ f)):=by unfold kP;rw[hb]
 have h1:=yR h.kind;have h2:=yR h.lane;have h3:fH [by8 (f.seq/256),by8 f.seq]=f.seq:=aBr h.seq;rw[he];cases f;simp only at*;simp only[eW,List.cons_append,List.getD_cons_zero,List.getD_cons_succ,h1,h2,h3,s1,s2,s3]
theorem aN2 {f:Frm}(h:f.ok)(hk:f.kind=1):jL (kP f)=f:=by
 have hb:jQ f=[by8 f.kind,by8 f.lane,by8 (f.seq/256),by8 f.seq,by8 f.src,by8 f.dst,by8 (f.body/65536/256),by8 (f.body/65536),by8 (f.body/256),by8 f.body]:=by unfold jQ;rw[if_pos hk];rfl
 have he:kP f=[by8 f.kind,by8 f.lane,by8 (f.seq/256),by8 f.seq,by8 f.src,by8 f.dst,by8 (f.body/65536/256),by8 (f.body/65536),by8 (f.body/256),by8 f.body]++eV (crc (jQ f)):=by unfold kP;rw[hb]
 have h1:=yR h.kind;have h2:=yR h.lane;have h4:=yR h.src;have h5:=yR h.dst;have h3:fH [by8 (f.seq/256),by8 f.seq]=f.seq:=aBr h.seq;have h6:fH [by8 (f.body/65536/256),by8 (f.body/65536),by8 (f.body/256),by8 f.body]=f.body:=by
  have:=h.body;rw[N6,tD,tD,tD,tD];omega
 rw[he];cases f;simp only at*;simp only[jL,eW,List.cons_append,List.getD_cons_zero,List.getD_cons_succ,h1,h2,h3,h4,h5,h6]
theorem aBq {f:Frm}(h:f.ok):((kP f).getD 0 0).toNat=f.kind:=by
 unfold kP jQ pG;simp only[List.cons_append,List.getD_cons_zero];exact yR h.kind
theorem aBo {f:Frm}(h:f.ok)(hs:dK f=true):oK (kP f)=some f:=by
 rw[N5];unfold yD;have hl:=Yz f;by_cases hk:f.kind=1
 ·rw[if_pos hk] at hl
  rw[if_neg (by omega)]
  simp only[if_pos (show((kP f).getD 0 0).toNat=1/\12<=(kP f).length from⟨by rw[aBq h];exact hk,by omega⟩)]
  rw[aN2 h hk,if_pos (by unfold nH;rw[if_pos hs])]
 ·rw[if_neg hk] at hl
  rw[if_neg (by omega)]
  simp only[if_neg (show¬(((kP f).getD 0 0).toNat=1/\12<=(kP f).length) from λhh=>hk (by rw[<-aBq h];exact hh.1))]
  rw[aN1 h hk hs,if_pos (by unfold nH;rw[if_pos hs])]
theorem aBp {f:Frm}(hs:dK f=true):jV f=kP f:=by unfold jV nH;rw[if_pos hs];rfl
end Go.Abs
noncomputable section
namespace Go.Proofs.YtkeilicinggjmaaGreatDoor
open Go.Proofs.Tryz
open Go.Abs
variable (O:aE)(L:LV)(k:KV)(N P Q R S T U V W X Y Z a b c d e f g i j l m n o p q r s t u v w x y z A B C D E F G H I J zz zy zx zw zv zu zt zs zr zq zp zo zn zm zl zk zj zi zh zg zf ze zd zc zb za yz yy yx yw yv yu yt ys yr yq yp yo yn ym yl yk yj yi yh yg yf ye yd yc yb ya xz xy xx xw xv xu xt xs xr xq xp xo xn xm xl xk xj xi xh xg xf xe xd xc xb xa wz wy wx ww wv wu wt ws wr wq wp wo wn wm wl wk wj wi wh wg wf we wd wc wb wa vz vy vx vw vv vu vt vs vr vq vp vo vn vm vl vk vj vi vh vg vf ve vd vc vb va:Value)(h:aC)
theorem aN8:cE prog O L 14 [N] h=ob (cX 39 [(.int .u8 0),(.int .u8 0),(.int .u16 0),(.int .u8 0),(.int .u8 0),(.int .u32 0)] .fix h) λaa h=>ob (M.aD (bM N) h) λab h=>ob (M.aD (bin prog .lss 3 ab (.int .i64 6)) h) λac h=>aL ac (ob (M.aD (bld prog 39 []) h) λad h=>ob (stN 6 aa ad h) λae h=>ob (ldN 6 aa h) λw5 _=>some (aJ [w5,(.int .i64 30)],h)) (ob (M.aD (aR 1 N (.int .i64 0)) h) λaf h=>ob (ld1 af h) λag h=>ifB (true) (ob (M.aD (aR 1 N (.int .i64 1)) h) λah h=>ob (ld1 ah h) λai h=>ifB (true) (ob (M.aD (aR 1 N (.int .i64 2)) h) λaj h=>ob (ld1 aj h) λak h=>ifB (true) (ob (cI prog 5 23 ak h) λal h=>ob (M.aD (bin prog .mul 23 al (.int .u16 256)) h) λam h=>ob (M.aD (aR 1 N (.int .i64 3)) h) λan h=>ob (ld1 an h) λao h=>ifB (true) (ob (cI prog 5 23 ao h) λap h=>ob (M.aD (bin prog .add 23 am ap) h) λaq h=>ob (M.aD (bld prog 39 [(0,ag),(1,ai),(2,aq)]) h) λar h=>ob (cX 39 [(.int .u8 0),(.int .u8 0),(.int .u16 0),(.int .u8 0),(.int .u8 0),(.int .u32 0)] .fix h) λau h=>ob (stN 6 au ar h) λav h=>ifB (true) (ob (M.aD (aG 0 au) h) λaw h=>ob (ld1 aw h) λax h=>ob (M.aD (bin prog .eql 5 ax (.int .u8 1)) h) λay h=>ob (gd ay true (M.cA N) h) λaz h=>ob (gd ay true (M.aD (bM az)) h) λba h=>ob (gd ay true (M.aD (bin prog .geq 3 ba (.int .i64 12))) h) λbb h=>ob (M.aD (cJ ay bb (.bool false)) h) λbc h=>aL bc (ob (M.aD (aR 1 N (.int .i64 4)) h) λbd h=>ob (ld1 bd h) λbe h=>ob (M.aD (aG 3 au) h) λbf h=>ob (stN 1 bf be h) λbg h=>ob (M.aD (aR 1 N (.int .i64 5)) h) λbh h=>ob (ld1 bh h) λbi h=>ob (M.aD (aG 4 au) h) λbj h=>ob (stN 1 bj bi h) λbk h=>ob (M.aD (aR 1 N (.int .i64 6)) h) λbl h=>ob (ld1 bl h) λbm h=>ifB (true) (ob (cI prog 5 37 bm h) λbn h=>ob (M.aD (bin prog .shl 37 bn (.int .u64 24)) h) λbo h=>ob (M.aD (aR 1 N (.int .i64 7)) h) λbp h=>ob (ld1 bp h) λbq h=>ifB (true) (ob (cI prog 5 37 bq h) λbr h=>ob (M.aD (bin prog .shl 37 br (.int .u64 16)) h) λbs h=>ob (M.aD (bin prog .add 37 bo bs) h) λbt h=>ob (M.aD (aR 1 N (.int .i64 8)) h) λbu h=>ob (ld1 bu h) λbv h=>ifB (true) (ob (cI prog 5 37 bv h) λbw h=>ob (M.aD (bin prog .shl 37 bw (.int .u64 8)) h) λbx h=>ob (M.aD (bin prog .add 37 bt bx) h) λbz h=>ob (M.aD (aR 1 N (.int .i64 9)) h) λca h=>ob (ld1 ca h) λcb h=>ifB (true) (ob (cI prog 5 37 cb h) λcc h=>ob (M.aD (bin prog .add 37 bz cc) h) λcd h=>ob (M.aD (aG 5 au) h) λce h=>ob (stN 1 ce cd h) λcf h=>ifB (true) (ob (ldN 6 au h) λcg h=>ob (O (.func 54) [cg] h) λch h=>ob (M.aD (ext 0 ch) h) λci h=>ob (M.aD (ext 1 ch) h) λcj h=>ob (M.aD (bin prog .neq 3 cj (.int .i64 0)) h) λck h=>ob (gd ck false (M.cA ci) h) λcl h=>ob (gd ck false (cI prog 22 9 cl) h) λcm h=>ob (gd ck false (M.cA N) h) λcn h=>ob (gd ck false (cI prog 22 9 cn) h) λco h=>ob (gd ck false (M.aD (bin prog .neq 9 cm co)) h) λcp h=>ob (M.aD (cJ ck (.bool true) cp) h) λcq h=>aL cq (ob (M.aD (bld prog 39 []) h) λcr h=>ob (stN 6 aa cr h) λcs h=>ob (ldN 6 aa h) λw69 _=>some (aJ [w69,(.int .i64 30)],h)) (ob (ldN 6 au h) λct h=>ob (stN 6 aa ct h) λcu h=>ob (ldN 6 aa h) λw72 _=>some (aJ [w72,(.int .i64 0)],h)))))))) (ob (ldN 6 au h) λcv h=>ob (O (.func 54) [cv] h) λcw h=>ob (M.aD (ext 0 cw) h) λcx h=>ob (M.aD (ext 1 cw) h) λcy h=>ob (M.aD (bin prog .neq 3 cy (.int .i64 0)) h) λcz h=>ob (gd cz false (M.cA cx) h) λda h=>ob (gd cz false (cI prog 22 9 da) h) λdb h=>ob (gd cz false (M.cA N) h) λdc h=>ob (gd cz false (cI prog 22 9 dc) h) λdd h=>ob (gd cz false (M.aD (bin prog .neq 9 db dd)) h) λde h=>ob (M.aD (cJ cz (.bool true) de) h) λdf h=>aL df (ob (M.aD (bld prog 39 []) h) λdg h=>ob (stN 6 aa dg h) λdh h=>ob (ldN 6 aa h) λw86 _=>some (aJ [w86,(.int .i64 30)],h)) (ob (ldN 6 au h) λdi h=>ob (stN 6 aa di h) λdj h=>ob (ldN 6 aa h) λw89 _=>some (aJ [w89,(.int .i64 0)],h))))))))):=by kernel_rfl
theorem aN9:cE prog O L 54 [N] h=ob (cX 39 (Value.cells N).toList .fix h) λaa h=>ob (ldN 6 aa h) λab h=>ob (O (.func 111) [ab] h) λac h=>ob (M.aD (un prog .not ac) h) λad h=>aL ad (some (aJ [(.slice none 0 0),(.int .i64 1)],h)) (ob (M.aD (aG 0 aa) h) λae h=>ob (ld1 ae h) λaf h=>ob (M.aD (aG 1 aa) h) λag h=>ob (ld1 ag h) λah h=>ob (M.aD (aG 2 aa) h) λai h=>ob (ld1 ai h) λaj h=>ob (M.aD (bin prog .quo 23 aj (.int .u16 256)) h) λak h=>ob (cI prog 23 5 ak h) λal h=>ob (M.aD (aG 2 aa) h) λam h=>ob (ld1 am h) λan h=>ob (M.aD (bin prog .rem 23 an (.int .u16 256)) h) λao h=>ob (cI prog 23 5 ao h) λap h=>ob (dL 5 1 4 [(.int .u8 0)] [(0,af),(1,ah),(2,al),(3,ap)] h) λaq h=>ob (M.aD (aG 0 aa) h) λar h=>ob (ld1 ar h) λau h=>ob (M.aD (bin prog .eql 5 au (.int .u8 1)) h) λav h=>aL av (ob (M.aD (aG 3 aa) h) λaw h=>ob (ld1 aw h) λax h=>ob (M.aD (aG 4 aa) h) λay h=>ob (ld1 ay h) λaz h=>ob (M.aD (aG 5 aa) h) λba h=>ob (ld1 ba h) λbb h=>ob (M.aD (bin prog .shr 37 bb (.int .u64 24)) h) λbc h=>ob (cI prog 37 5 bc h) λbd h=>ob (M.aD (aG 5 aa) h) λbe h=>ob (ld1 be h) λbf h=>ob (M.aD (bin prog .shr 37 bf (.int .u64 16)) h) λbg h=>ob (cI prog 37 5 bg h) λbh h=>ob (M.aD (aG 5 aa) h) λbi h=>ob (ld1 bi h) λbj h=>ob (M.aD (bin prog .shr 37 bj (.int .u64 8)) h) λbk h=>ob (cI prog 37 5 bk h) λbl h=>ob (M.aD (aG 5 aa) h) λbm h=>ob (ld1 bm h) λbn h=>ob (cI prog 37 5 bn h) λbo h=>ob (dL 5 1 6 [(.int .u8 0)] [(0,ax),(1,az),(2,bd),(3,bh),(4,bl),(5,bo)] h) λbp h=>ob (app 5 1 1 aq bp h) λbq h=>ob (O (.func 112) [bq] h) λbr h=>ob (M.aD (bin prog .quo 23 br (.int .u16 256)) h) λbs h=>ob (cI prog 23 5 bs h) λbt h=>ob (M.aD (bin prog .rem 23 br (.int .u16 256)) h) λbu h=>ob (cI prog 23 5 bu h) λbv h=>ob (dL 5 1 2 [(.int .u8 0)] [(0,bt),(1,bv)] h) λbw h=>ob (app 5 1 1 bq bw h) λbx h=>some (aJ [bx,(.int .i64 0)],h)) (ob (O (.func 112) [aq] h) λbz h=>ob (M.aD (bin prog .quo 23 bz (.int .u16 256)) h) λca h=>ob (cI prog 23 5 ca h) λcb h=>ob (M.aD (bin prog .rem 23 bz (.int .u16 256)) h) λcc h=>ob (cI prog 23 5 cc h) λcd h=>ob (dL 5 1 2 [(.int .u8 0)] [(0,cb),(1,cd)] h) λce h=>ob (app 5 1 1 aq ce h) λcf h=>some (aJ [cf,(.int .i64 0)],h))):=by kernel_rfl
theorem aN4:cE prog O L 111 [N] h=ob (cX 39 (Value.cells N).toList .fix h) λaa h=>ob (M.aD (aG 1 aa) h) λab h=>ob (ld1 ab h) λac h=>ob (M.aD (bin prog .gtr 5 ac (.int .u8 2)) h) λad h=>aL ad (some (aJ [(.bool false)],h)) (ob (M.aD (aG 0 aa) h) λae h=>ob (ld1 ae h) λaf h=>ob (M.aD (bin prog .eql 5 af (.int .u8 1)) h) λag h=>aL ag (ob (M.aD (aG 3 aa) h) λah h=>ob (ld1 ah h) λai h=>ob (M.aD (bin prog .leq 5 ai (.int .u8 5)) h) λaj h=>ob (gd aj true (M.aD (aG 4 aa)) h) λak h=>ob (gd aj true (ld1 ak) h) λal h=>ob (gd aj true (M.aD (bin prog .leq 5 al (.int .u8 5))) h) λam h=>ob (M.aD (cJ aj am (.bool false)) h) λan h=>ob (gd an true (M.aD (aG 3 aa)) h) λao h=>ob (gd an true (ld1 ao) h) λap h=>ob (gd an true (M.aD (aG 4 aa)) h) λaq h=>ob (gd an true (ld1 aq) h) λar h=>ob (gd an true (M.aD (bin prog .neq 5 ap ar)) h) λau h=>ob (M.aD (cJ an au (.bool false)) h) λav h=>some (aJ [av],h)) (ob (M.aD (aG 0 aa) h) λaw h=>ob (ld1 aw h) λax h=>ob (M.aD (bin prog .eql 5 ax (.int .u8 2)) h) λay h=>ob (gd ay false (M.aD (aG 0 aa)) h) λaz h=>ob (gd ay false (ld1 az) h) λba h=>ob (gd ay false (M.aD (bin prog .eql 5 ba (.int .u8 3))) h) λbb h=>ob (M.aD (cJ ay (.bool true) bb) h) λbc h=>ob (gd bc true (M.aD (aG 3 aa)) h) λbd h=>ob (gd bc true (ld1 bd) h) λbe h=>ob (gd bc true (M.aD (bin prog .eql 5 be (.int .u8 0))) h) λbf h=>ob (M.aD (cJ bc bf (.bool false)) h) λbg h=>ob (gd bg true (M.aD (aG 4 aa)) h) λbh h=>ob (gd bg true (ld1 bh) h) λbi h=>ob (gd bg true (M.aD (bin prog .eql 5 bi (.int .u8 0))) h) λbj h=>ob (M.aD (cJ bg bj (.bool false)) h) λbk h=>ob (gd bk true (M.aD (aG 5 aa)) h) λbl h=>ob (gd bk true (ld1 bl) h) λbm h=>ob (gd bk true (M.aD (bin prog .eql 37 bm (.int .u32 0))) h) λbn h=>ob (M.aD (cJ bk bn (.bool false)) h) λbo h=>some (aJ [bo],h))):=by kernel_rfl
def Qc:Code:=b9 [1,1,0,1,0,0,1,0,0,1,1,0,0] (cB prog 112)
def Qe:KV:=(dQ 2 (dQ 1 (eD prog O L (b9 [1,1,0,1,0,0,1,1] (cB prog 112)) k)))
theorem aN6:Qe O L k (.exit 2) [a,b,c,d,e,f,g,i,j,l,m,n,o,p,q,r,s,t,u,v,w,x,y,z,A,B,C,D,E,F,G,H,I] h=ob (M.aD (bin prog .add 3 e (.int .i64 1)) h) λaa h=>k .normal [a,b,c,d,aa,f,g,i,j,l,e,aa,o,p,q,r,s,t,u,v,w,x,y,z,A,B,C,D,E,F,G,H,I] h:=by kernel_rfl
theorem aBt:aK prog O L Qc k [a,b,c,d,e,f,g,i,j,l,m,n,o,p,q,r,s,t,u,v,w,x,y,z,A,B,C,D,E,F,G,H,I] h=ob (M.aD (bin prog .lss 3 f (.int .i64 8)) h) λaa h=>aL aa (ob (M.aD (bin prog .shl 37 d (.int .u64 1)) h) λab h=>ob (M.aD (bin prog .geq 37 ab (.int .u32 65536)) h) λac h=>aL ac (ob (M.aD (bin prog .sub 37 ab (.int .u32 65536)) h) λad h=>ob (M.aD (bin prog .xor 37 ad (.int .u32 4129)) h) λae h=>ob (M.aD (bin prog .add 3 f (.int .i64 1)) h) λaf h=>k .normal [a,b,c,ae,e,af,g,i,j,l,m,n,o,p,q,r,s,t,u,v,f,aa,f,af,d,ab,ab,ac,ab,ad,ae,H,I] h) (ob (M.aD (bin prog .add 3 f (.int .i64 1)) h) λag h=>k .normal [a,b,c,ab,e,ag,g,i,j,l,m,n,o,p,q,r,s,t,u,v,f,aa,f,ag,d,ab,ab,ac,E,F,G,H,I] h)) (k (.exit 2) [a,b,c,d,e,f,g,i,j,l,m,n,o,p,q,r,s,t,u,v,f,aa,y,z,A,B,C,D,E,F,G,H,I] h):=by kernel_rfl
def Qb:Code:=b9 [1,1,0,1,0,0] (cB prog 112)
def Qd:KV:=(dQ 0 (eD prog O L (b9 [1,1,1] (cB prog 112)) (fG prog Tryz.f112)))
theorem aN5:Qd O L (.exit 0) [a,b,c,d,e,f,g,i,j,l,m,n,o,p,q,r,s,t,u,v,w,x,y,z,A,B,C,D,E,F,G,H,I] h=ob (cI prog 37 23 d h) λaa h=>some (aJ [aa],h):=by kernel_rfl
theorem aBs:aK prog O L Qb k [a,b,c,d,e,f,g,i,j,l,m,n,o,p,q,r,s,t,u,v,w,x,y,z,A,B,C,D,E,F,G,H,I] h=ob (M.aD (bM a) h) λaa h=>ob (M.aD (bin prog .lss 3 e aa) h) λab h=>aL ab (ob (M.aD (aR 1 a e) h) λac h=>ob (ld1 ac h) λad h=>ob (cI prog 5 37 ad h) λae h=>ob (M.aD (bin prog .shl 37 ae (.int .u64 8)) h) λaf h=>ob (M.aD (bin prog .xor 37 d af) h) λag h=>L (aK prog O L Qc) (Qe O L k) [a,b,c,ag,e,(.int .i64 0),e,a,aa,ab,m,n,d,a,e,ac,ad,ae,af,ag,w,x,y,z,A,B,C,D,E,F,G,H,I] h) (k (.exit 0) [a,b,c,d,e,f,e,a,aa,ab,m,n,o,p,q,r,s,t,u,v,w,x,y,z,A,B,C,D,E,F,G,H,I] h):=by kernel_rfl
theorem aN7:cE prog O L 112 [N] h=L (aK prog O L Qb) (Qd O L) [N,undef,(.int .u16 0),(.int .u32 65535),(.int .i64 0),undef,undef,undef,undef,undef,undef,undef,undef,undef,undef,undef,undef,undef,undef,undef,undef,undef,undef,undef,undef,undef,undef,undef,undef,undef,undef,undef,undef] h:=by kernel_rfl
end Go.Proofs.YtkeilicinggjmaaGreatDoor
end
namespace Go.Proofs.YtkeilicinggjmaaGreatDoor
open Go.Proofs.Tryz
open Go.Abs
section
variable {H : aC} {m : Nat}
theorem aOb {u:Value}{j:Nat}(hj:j<4611686018427387904){O:aE}{L:aF (Value×aC)}{K:Ex->K (Value×aC)}{res:Option (Value×aC)}: ∀(q i n r:Nat),8-i=q->i<=8->q<n->r<65536->
  (∀x1 x2 x5 x6 x7 x8 x9 bK bN bC aO aP aM aS bI aN bG bJ bL bH bE aT aU aV aW aX aY aZ bA bB:Value,K .normal [u,x1,x2,(.int .u32 (u4 (8-i) r)),(.int .i64 ((j+1:Nat):Int)),x5,x6,x7,x8,x9,bK,bN,bC,aO,aP,aM,aS,bI,aN,bG,bJ,bL,bH,bE,aT,aU,aV,aW,aX,aY,aZ,bA,bB] H=res)->
  ∀x1 x2 x6 x7 x8 x9 bK bN bC aO aP aM aS bI aN bG bJ bL bH bE aT aU aV aW aX aY aZ bA bB:Value,aI n (aK prog O L Qc) (Qe O L K) [u,x1,x2,(.int .u32 r),(.int .i64 j),(.int .i64 i),x6,x7,x8,x9,bK,bN,bC,aO,aP,aM,aS,bI,aN,bG,bJ,bL,bH,bE,aT,aU,aV,aW,aX,aY,aZ,bA,bB] H=res:=by
 intro q;induction q with
 |zero=>
  intro i n r hq hi hn hr hK x1 x2 x6 x7 x8 x9 bK bN bC aO aP aM aS bI aN bG bJ bL bH bE aT aU aV aW aX aY aZ bA bB;obtain⟨n,rfl⟩: ∃k',n=k'+1:=⟨n-1,by omega⟩
  have hi8:i=8:=by omega
  subst hi8;have c1:decide (((8:Nat):Int)<8)=false:=by decide
  have e2:=aA (i:=j) (by omega)
  rw[aI,aBt];simp only[gsR,c1];rw[aN6];simp only[gsR,cC,e2];exact hK _ _ _ _ _ _ _ _ _ _ _ _ _ _ _ _ _ _ _ _ _ _ _ _ _ _ _ _ _ _
 |succ q ih=>
  intro i n r hq hi hn hr hK x1 x2 x6 x7 x8 x9 bK bN bC aO aP aM aS bI aN bG bJ bL bH bE aT aU aV aW aX aY aZ bA bB;obtain⟨n,rfl⟩: ∃k',n=k'+1:=⟨n-1,by omega⟩
  have c1:decide ((i:Int)<8)=true:=by rw[decide_eq_true_eq];omega
  have e1:bin prog .shl 37 (.int .u32 (r:Int)) (.int .u64 1)=some (.int .u32 ((r*2:Nat):Int)):=by
   have:=xW (P:=prog) .u32 .u64 rfl 37 r 1 (by decide)
   rw[show r*2 ^ 1%2 ^ IntKind.u32.bits=r*2 from by show r*2%4294967296=_;omega] at this
   exact this
  have e2:=aA (i:=i) (by omega)
  have h8:8-i=(8-(i+1))+1:=by omega
  have hK': ∀x1 x2 x5 x6 x7 x8 x9 bK bN bC aO aP aM aS bI aN bG bJ bL bH bE aT aU aV aW aX aY aZ bA bB:Value,K .normal [u,x1,x2,(.int .u32 (u4 (8-(i+1)) (rA r))),(.int .i64 ((j+1:Nat):Int)),x5,x6,x7,x8,x9,bK,bN,bC,aO,aP,aM,aS,bI,aN,bG,bJ,bL,bH,bE,aT,aU,aV,aW,aX,aY,aZ,bA,bB] H=res:=by
   rw[h8,u4] at hK;exact hK
  rw[aI,aBt];by_cases hc:r<32768
  ·have c2:decide ((65536:Int)<=((r*2:Nat):Int))=false:=by rw[decide_eq_false_iff_not];omega
   have hb:rA r=r*2:=by rw[rA,if_pos hc]
   simp only[gsR,c1,e1,c2,cC,e2];rw[hb] at hK';exact ih (i+1) n (r*2) (by omega) (by omega) (by omega) (by omega) hK' _ _ _ _ _ _ _ _ _ _ _ _ _ _ _ _ _ _ _ _ _ _ _ _ _ _ _ _ _
  ·have c2:decide ((65536:Int)<=((r*2:Nat):Int))=true:=by rw[decide_eq_true_eq];omega
   have hb:rA r=(r*2-65536)^^^4129:=by rw[rA,if_neg hc]
   have e3:IntKind.u32.wrap (((r*2:Nat):Int)-65536)=((r*2-65536:Nat):Int):=by rw[Jf (by omega) (by omega)];omega
   have e4:bin prog .xor 37 (.int .u32 ((r*2-65536:Nat):Int)) (.int .u32 4129)=some (.int .u32 (((r*2-65536)^^^4129:Nat):Int)):=D5 .u32 rfl _ (a:=r*2-65536) (b:=4129) (by show _<4294967296;omega) (by decide)
   simp only[gsR,c1,e1,c2,iM,e3,e4,cC,e2];rw[hb] at hK';exact ih (i+1) n ((r*2-65536)^^^4129) (by omega) (by omega) (by omega) (by rw[<-hb];exact N0 hr) hK' _ _ _ _ _ _ _ _ _ _ _ _ _ _ _ _ _ _ _ _ _ _ _ _ _ _ _ _ _
theorem aOa {u:Value}{bs:List UInt8}(hu:Br H u bs)(hl:bs.length<4611686018427387904)(hm:20<m): ∀(q i k:Nat),bs.length-i=q->i<=bs.length->q<k->
  ∀x1 x2 x5 x6 x7 x8 x9 bK bN bC aO aP aM aS bI aN bG bJ bL bH bE aT aU aV aW aX aY aZ bA bB:Value,aI k (aK prog (lvl prog pkN (m-1)) (aI (m-1)) Qb) (Qd (lvl prog pkN (m-1)) (aI (m-1))) [u,x1,x2,(.int .u32 (((bs.take i).foldl pF 65535:Nat):Int)),(.int .i64 i),x5,x6,x7,x8,x9,bK,bN,bC,aO,aP,aM,aS,bI,aN,bG,bJ,bL,bH,bE,aT,aU,aV,aW,aX,aY,aZ,bA,bB] H=some (.int .u16 (crc bs),H):=by
 intro q;induction q with
 |zero=>
  intro i k hq hi hk x1 x2 x5 x6 x7 x8 x9 bK bN bC aO aP aM aS bI aN bG bJ bL bH bE aT aU aV aW aX aY aZ bA bB;obtain⟨k,rfl⟩: ∃k',k=k'+1:=⟨k-1,by omega⟩
  have hi8:i=bs.length:=by omega
  subst hi8;have c1:decide ((bs.length:Int)<(bs.length:Int))=false:=by simp
  have hf:(bs.take bs.length).foldl pF 65535=crc bs:=by rw[List.take_length];unfold crc;rfl
  have e2:IntKind.u16.wrap (crc bs:Int)=(crc bs:Int):=wA (by omega) (by have:=yC bs;omega)
  rw[aI,aBs];simp only[gsR,hu.Jw,c1];rw[aN5];rw[hf];simp only[gsR,fF _ _ oE lV,e2]
 |succ q ih=>
  intro i k hq hi hk x1 x2 x5 x6 x7 x8 x9 bK bN bC aO aP aM aS bI aN bG bJ bL bH bE aT aU aV aW aX aY aZ bA bB;obtain⟨k,rfl⟩: ∃k',k=k'+1:=⟨k-1,by omega⟩
  have c1:decide ((i:Int)<(bs.length:Int))=true:=by rw[decide_eq_true_eq];omega
  have hx:bs[i]? =some bs[i]:=aOW (by omega)
  obtain⟨b,o,a1,a2⟩:=hu.Tz hx .i64;have hc:=bs[i].toNat_lt;obtain⟨r,hr⟩: ∃r,(bs.take i).foldl pF 65535=r:=⟨_,rfl⟩;have hrl:r<65536:=by rw[<-hr];exact N4 _ (by decide)
  have e1:cI prog 5 37 (iF bs[i]) H=some (.int .u32 (bs[i].toNat:Int),H):=by
   show cI prog 5 37 (.int .u8 bs[i].toNat) H=_
   rw[fF _ _ u8U oE,Fx _ (by omega)]
  have e2:bin prog .shl 37 (.int .u32 (bs[i].toNat:Int)) (.int .u64 8)=some (.int .u32 ((bs[i].toNat*256:Nat):Int)):=by
   have:=xW (P:=prog) .u32 .u64 rfl 37 bs[i].toNat 8 (by decide)
   rw[show bs[i].toNat*2 ^ 8%2 ^ IntKind.u32.bits=bs[i].toNat*256 from by show bs[i].toNat*256%4294967296=_;omega] at this
   exact this
  have e3:bin prog .xor 37 (.int .u32 (r:Int)) (.int .u32 ((bs[i].toNat*256:Nat):Int))=some (.int .u32 ((r^^^bs[i].toNat*256:Nat):Int)):=D5 .u32 rfl _ (a:=r) (b:=bs[i].toNat*256) (by show _<4294967296;omega) (by show _<4294967296;omega)
  rw[aI,aBs,hr];simp only[gsR,hu.Jw,c1,a1,a2,e1,e2,e3];refine aOb (by omega) 8 0 (m-1) (r^^^bs[i].toNat*256) rfl (by omega) (by omega) (N3 hrl _) (λx1 x2 x5 x6 x7 x8 x9 bK bN bC aO aP aM aS bI aN bG bJ bL bH bE aT aU aV aW aX aY aZ bA bB=> ?_) _ _ _ _ _ _ _ _ _ _ _ _ _ _ _ _ _ _ _ _ _ _ _ _ _ _ _ _ _
  have h1:u4 (8-0) (r^^^bs[i].toNat*256)=(bs.take (i+1)).foldl pF 65535:=by
   rw[List.take_add_one,hx,List.foldl_append,hr];show _=pF r bs[i]
   unfold pF;rfl
  rw[h1];exact ih (i+1) k (by omega) (by omega) (by omega) _ _ _ _ _ _ _ _ _ _ _ _ _ _ _ _ _ _ _ _ _ _ _ _ _ _ _ _ _ _
theorem aBu {u:Value}{bs:List UInt8}(hu:Br H u bs)(hm:20<m)(hl:bs.length+1<m)(hl2:bs.length<4611686018427387904):lvl prog pkN m (.func 112) [u] H=some (.int .u16 (crc bs),H):=by
 refine dF (cL rfl) (by omega) ?_
 rw[aN7];exact aOa hu hl2 hm bs.length 0 (m-1) (by omega) (by omega) (by omega) _ _ _ _ _ _ _ _ _ _ _ _ _ _ _ _ _ _ _ _ _ _ _ _ _ _ _ _ _ _
end
section
variable {H : aC} {m : Nat}
theorem aOc (hm:0<m)(f:Frm):lvl prog pkN m (.func 111) [frV f] H=some (.bool (dK f),H++[frB f]):=by
 refine dF (cL rfl) hm ?_;rw[aN4];have e0:(Blk.cells (Value.cells (frV f)).toList 39 .fix)=frB f:=rfl;obtain⟨l0,l1,l2,l3,l4,l5,l6⟩:=kQ (dJ H (frB f));have k1:((f.kind:Int)==1)=decide (f.kind=1):=pV f.kind 1;have k2:((f.kind:Int)==2)=decide (f.kind=2):=pV f.kind 2;have k3:((f.kind:Int)==3)=decide (f.kind=3):=pV f.kind 3;have k4:decide (2<(f.lane:Int))=decide (¬f.lane<=2):=by congr 1;exact propext (by omega)
 have k5:decide ((f.src:Int)<=5)=decide (f.src<=5):=by congr 1;exact propext (by omega)
 have k6:decide ((f.dst:Int)<=5)=decide (f.dst<=5):=by congr 1;exact propext (by omega)
 have k7:((f.src:Int)!=(f.dst:Int))=decide (f.src≠f.dst):=zZ _ _;have z1:((f.src:Int)==0)=decide (f.src=0):=pV f.src 0;have z2:((f.dst:Int)==0)=decide (f.dst=0):=pV f.dst 0;have z3:((f.body:Int)==0)=decide (f.body=0):=pV f.body 0;by_cases p0:f.lane<=2
 ·have p0':decide (¬f.lane<=2)=false:=by simp[p0]
  by_cases p1:f.kind=1
  ·by_cases p2:f.src<=5
   ·by_cases p3:f.dst<=5
    ·by_cases p4:f.src≠f.dst
     ·have hs:dK f=true:=by unfold dK;simp[p0,p1,p2,p3,p4]
      simp only[gsR,e0,l0,l1,l3,l4,k1,k4,p0',k5,k6,k7,aPD p1,aPD p2,aPD p3,aPD p4,hs]
     ·have hs:dK f=false:=by unfold dK;simp[p1,p4]
      simp only[gsR,e0,l0,l1,l3,l4,k1,k4,p0',k5,k6,k7,aPD p1,aPD p2,aPD p3,aPE p4,hs]
    ·have hs:dK f=false:=by unfold dK;simp[p1,p3]
     simp only[gsR,e0,l0,l1,l3,l4,k1,k4,p0',k5,k6,k7,aPD p1,aPD p2,aPE p3,hs]
   ·have hs:dK f=false:=by unfold dK;simp[p1,p2]
    simp only[gsR,e0,l0,l1,l3,l4,k1,k4,p0',k5,k6,k7,aPD p1,aPE p2,hs]
  ·have tail: ∀kk:Bool,(kk=true↔f.kind=2∨f.kind=3)->dK f=(kk&&decide (f.src=0)&&decide (f.dst=0)&&decide (f.body=0)):=λkk hk=>by
    unfold dK;rw[if_neg p1,aPD p0,aPh]
    congr 3
    rw[Bool.eq_iff_iff,hk];simp
   have fin: ∀kk:Bool,(kk=true↔f.kind=2∨f.kind=3)->kk=true->dK f=(decide (f.src=0)&&decide (f.dst=0)&&decide (f.body=0)):=λkk hk h=>by rw[tail kk hk,h,aPh]
   by_cases p2:f.kind=2
   ·have ht:=fin true (by simp[p2]) rfl
    by_cases q1:f.src=0
    ·by_cases q2:f.dst=0
     ·by_cases q3:f.body=0
      ·rw[aPD q1,aPD q2,aPD q3] at ht
       simp only[gsR,e0,l0,l1,l3,l4,l5,k1,k2,k4,p0',z1,z2,z3,aPE p1,aPD p2,aPD q1,aPD q2,aPD q3,ht]
      ·rw[aPD q1,aPD q2,aPE q3] at ht
       simp only[gsR,e0,l0,l1,l3,l4,l5,k1,k2,k4,p0',z1,z2,z3,aPE p1,aPD p2,aPD q1,aPD q2,aPE q3,ht,Bool.and_false]
     ·rw[aPD q1,aPE q2,Bool.and_false,Bool.false_and] at ht
      simp only[gsR,e0,l0,l1,l3,l4,l5,k1,k2,k4,p0',z1,z2,z3,aPE p1,aPD p2,aPD q1,aPE q2,ht]
    ·rw[aPE q1,Bool.false_and,Bool.false_and] at ht
     simp only[gsR,e0,l0,l1,l3,l4,l5,k1,k2,k4,p0',z1,z2,z3,aPE p1,aPD p2,aPE q1,ht]
   ·by_cases p2':f.kind=3
    ·have ht:=fin true (by simp[p2']) rfl
     by_cases q1:f.src=0
     ·by_cases q2:f.dst=0
      ·by_cases q3:f.body=0
       ·rw[aPD q1,aPD q2,aPD q3] at ht
        simp only[gsR,e0,l0,l1,l3,l4,l5,k1,k2,k3,k4,p0',z1,z2,z3,aPE p1,aPE p2,aPD p2',aPD q1,aPD q2,aPD q3,ht]
       ·rw[aPD q1,aPD q2,aPE q3] at ht
        simp only[gsR,e0,l0,l1,l3,l4,l5,k1,k2,k3,k4,p0',z1,z2,z3,aPE p1,aPE p2,aPD p2',aPD q1,aPD q2,aPE q3,ht,Bool.and_false]
      ·rw[aPD q1,aPE q2,Bool.and_false,Bool.false_and] at ht
       simp only[gsR,e0,l0,l1,l3,l4,l5,k1,k2,k3,k4,p0',z1,z2,z3,aPE p1,aPE p2,aPD p2',aPD q1,aPE q2,ht]
     ·rw[aPE q1,Bool.false_and,Bool.false_and] at ht
      simp only[gsR,e0,l0,l1,l3,l4,l5,k1,k2,k3,k4,p0',z1,z2,z3,aPE p1,aPE p2,aPD p2',aPE q1,ht]
    ·have hs:dK f=false:=by unfold dK;simp[p1,p2,p2']
     simp only[gsR,e0,l0,l1,l3,l4,l5,k1,k2,k3,k4,p0',z1,z2,z3,aPE p1,aPE p2,aPE p2',hs]
 ·have p0':decide (¬f.lane<=2)=true:=by simp[p0]
  have hs:dK f=false:=by unfold dK;simp[p0]
  simp only[gsR,e0,l0,l1,k4,p0',hs]
end
section
variable {H : aC} {m : Nat}
theorem Hn (n:Nat)(hn:n<65536):bin prog .quo 23 (.int .u16 n) (.int .u16 256)=some (.int .u16 ((n/256:Nat):Int)):=by
 rw[Dl _ _ _ _ (by decide),Int.tdiv_eq_ediv_of_nonneg (by omega),wA (by omega) (by omega)]
 congr 2
theorem aBw (n:Nat):bin prog .rem 23 (.int .u16 n) (.int .u16 256)=some (.int .u16 ((n%256:Nat):Int)):=by
 rw[Dm _ _ _ _ (by decide),Int.tmod_eq_emod_of_nonneg (by omega)]
 congr 2
theorem aOd (G:aC)(a b c d e f:Int):dL 5 1 6 [.int .u8 0] [(0,.int .u8 a),(1,.int .u8 b),(2,.int .u8 c),(3,.int .u8 d),(4,.int .u8 e),(5,.int .u8 f)] G=some (.slice (some ⟨G.length,0,none⟩) 6 6,G++[.cells [.int .u8 a,.int .u8 b,.int .u8 c,.int .u8 d,.int .u8 e,.int .u8 f] 5 .row]):=by kernel_rfl
theorem aBv (n:Nat):n%256%256=n%256:=Nat.mod_mod _ _
theorem aBx {H0:aC}{v:Value}{bs:List UInt8}(n:Nat)(h:By H v bs)(hv:New H0 v)(he:Ext H0 H)(hr:j7 (bs.length+2) 1=true):
  dL 5 1 2 [.int .u8 0] [(0,.int .u8 ((n/256%256:Nat):Int)),(1,.int .u8 ((n%256:Nat):Int))] H=some (.slice (some ⟨H.length,0,none⟩) 2 2,H++[.cells ((eV n).map byC).flatten 5 .row])/\
  ∃v' H',app 5 1 1 v (.slice (some ⟨H.length,0,none⟩) 2 2) (H++[.cells ((eV n).map byC).flatten 5 .row])=some (v',H')/\By H' v' (bs++eV n)/\New H0 v'/\Ext H0 H':=by
 refine⟨?_,?_⟩
 ·rw[rG]
  simp only[eV,aPp,List.map_nil,zX];rfl
 ·exact(h.sU [.cells ((eV n).map byC).flatten 5 .row]).vY zY Fz (by decide) (by':=1) (By.Ca H (eV n)).rs hv (he.tr (Fr.app _ _ _)) hr
set_option maxHeartbeats 1000000 in
theorem aOe (hm:100<m)(f:Frm)(hf:f.ok): ∃H' v,lvl prog pkN m (.func 54) [frV f] H=some (.tuple #[v,.int .i64 (if dK f=true then 0 else 1)],H')/\Ext H H'/\By H' v (jV f)/\New H v:=by
 have main: ∃H' r,lvl prog pkN m (.func 54) [frV f] H=some (r,H')/\ ∃v,r= .tuple #[v,.int .i64 (if dK f=true then 0 else 1)]/\Ext H H'/\By H' v (jV f)/\New H v:=by
  refine jJ (cL rfl) (by omega) ?_
  rw[aN9];have e0:(Blk.cells (Value.cells (frV f)).toList 39 .fix)=frB f:=rfl;obtain⟨l0,l1,l2,l3,l4,l5,l6⟩:=kQ (dJ H (frB f));have s1:=aOc (H:=H++[frB f]) (m:=m-1) (by omega) f
  have x0:Ext H (H++[frB f]):=Fr.app _ _ _;have x1:Ext H (H++[frB f]++[frB f]):=x0.tr (Fr.app _ _ _);by_cases hs:dK f=true
  ·rw[hs] at s1
   have hb2:=nF (dJ H (frB f)) (frB f);obtain⟨q0,q1,q2,q3,q4,q5,q6⟩:=kQ hb2;obtain⟨G2,hG2⟩: ∃G2,H++[frB f]++[frB f]=G2:=⟨_,rfl⟩;rw[hG2] at s1 x1 hb2 q0 q1 q2 q3 q4 q5 q6;have e2:dL 5 1 4 [.int .u8 0] [(0,.int .u8 (f.kind:Int)),(1,.int .u8 (f.lane:Int)),(2,.int .u8 ((f.seq/256%256:Nat):Int)),(3,.int .u8 ((f.seq%256:Nat):Int))] G2=some (.slice (some ⟨G2.length,0,none⟩) 4 4,G2++[.cells (((pG f).map byC).flatten) 5 .row]):=by
    rw[rG];simp only[pG,eV,aPp,List.map_nil,zX,aPs hf.kind,aPs hf.lane];rfl
   obtain⟨G3,hG3⟩: ∃G3,G2++[Blk.cells (((pG f).map byC).flatten) 5 .row]=G3:=⟨_,rfl⟩;have b3:By G3 (.slice (some ⟨G2.length,0,none⟩) 4 4) (pG f):=by rw[<-hG3];exact By.Ca G2 (pG f)
   have x3:Ext G2 G3:=by rw[<-hG3];exact Fr.app _ _ _
   have n3:New G2 (.slice (some ⟨G2.length,0,none⟩) 4 4):=Y9 G2 (Fr.nC _ _) 4 4;have hb3:G3[H.length]? =some (frB f):=by rw[x3.2 _ (dE hb2) id,hb2]
   obtain⟨p0,p1,p2,p3,p4,p5,p6⟩:=kQ hb3;have nk:((f.kind:Int)==1)=decide (f.kind=1):=pV f.kind 1;have hl3:(pG f).length=4:=rfl;by_cases hk:f.kind=1
   ·have h24:bin prog .shr 37 (.int .u32 (f.body:Int)) (.int .u64 24)=some (.int .u32 ((f.body/16777216:Nat):Int)):=by
     have:=xX (P:=prog) .u32 .u64 37 f.body 24 (by decide)
     rw[Nat.shiftRight_eq_div_pow] at this;exact this
    have h16:bin prog .shr 37 (.int .u32 (f.body:Int)) (.int .u64 16)=some (.int .u32 ((f.body/65536:Nat):Int)):=by
     have:=xX (P:=prog) .u32 .u64 37 f.body 16 (by decide)
     rw[Nat.shiftRight_eq_div_pow] at this;exact this
    have h8:bin prog .shr 37 (.int .u32 (f.body:Int)) (.int .u64 8)=some (.int .u32 ((f.body/256:Nat):Int)):=by
     have:=xX (P:=prog) .u32 .u64 37 f.body 8 (by decide)
     rw[Nat.shiftRight_eq_div_pow] at this;exact this
    have e5:dL 5 1 6 [.int .u8 0] [(0,.int .u8 (f.src:Int)),(1,.int .u8 (f.dst:Int)),(2,.int .u8 ((f.body/16777216%256:Nat):Int)),(3,.int .u8 ((f.body/65536%256:Nat):Int)),(4,.int .u8 ((f.body/256%256:Nat):Int)),(5,.int .u8 ((f.body%256:Nat):Int))] G3=
      some (.slice (some ⟨G3.length,0,none⟩) 6 6,G3++[.cells (((by8 f.src::by8 f.dst::(eV (f.body/65536)++eV f.body)).map byC).flatten) 5 .row]):=by
     rw[aOd,rG];simp only[eV,List.cons_append,List.nil_append,aPp,List.map_nil,zX,aPs hf.src,aPs hf.dst,Nat.div_div_eq_div_mul,Nat.reduceMul]
    have w5:=(By.Ca G3 (by8 f.src::by8 f.dst::(eV (f.body/65536)++eV f.body))).rs;obtain⟨v6,G6,g6,b6,n6,x6⟩:=(b3.sU [.cells (((by8 f.src::by8 f.dst::(eV (f.body/65536)++eV f.body)).map byC).flatten) 5 .row]).vY zY Fz (by decide) (by':=1) w5 n3 (x3.tr (Fr.app _ _ _)) (Aa (by simp[hl3,eV]))
    have g6':app 5 1 1 (.slice (some ⟨G2.length,0,none⟩) 4 4) (.slice (some ⟨G3.length,0,none⟩) 6 6) (G3++[.cells (((by8 f.src::by8 f.dst::(eV (f.body/65536)++eV f.body)).map byC).flatten) 5 .row])=some (v6,G6):=g6;have hbody:jQ f=pG f++(by8 f.src::by8 f.dst::(eV (f.body/65536)++eV f.body)):=by
     unfold jQ;rw[if_pos hk]
    rw[<-hbody] at b6;have hl7:(jQ f).length=10:=by rw[hbody];simp[eV,hl3]
    have s7:=aBu (H:=G6) (m:=m-1) (By.br (H:=G6) b6) (by omega) (by omega) (by omega)
    obtain⟨t1,v8,G8,g8,b8,n8,x8⟩:=aBx (crc (jQ f)) b6 n6 x6 (Aa (by omega))
    simp only[gsR,e0,l6,hG2,s1,q0,q1,q2,Hn _ hf.seq,aBw,fF _ _ lV u8U,fF _ _ oE u8U,Ny,aBv,e2,hG3,p0,nk,aPD hk,p3,p4,p5,h24,h16,h8,e5,g6',s7,Hn _ (yC _),t1,g8];refine⟨_,_,rfl,_,by simp[hs],x1.tr x8,?_,λb hb=>aPa x1.1 (n8 b hb)⟩
    unfold jV nH kP;rw[if_pos hs];exact b8
   ·have hbody:jQ f=pG f:=by
     unfold jQ;rw[if_neg hk,List.append_nil]
    rw[<-hbody] at b3;have hl7:(jQ f).length=4:=by rw[hbody];rfl
    have s7:=aBu (H:=G3) (m:=m-1) b3.br (by omega) (by omega) (by omega)
    obtain⟨t1,v8,G8,g8,b8,n8,x8⟩:=aBx (crc (jQ f)) b3 n3 x3 (Aa (by omega))
    simp only[gsR,e0,l6,hG2,s1,q0,q1,q2,Hn _ hf.seq,aBw,fF _ _ lV u8U,Ny,aBv,e2,hG3,p0,nk,aPE hk,s7,Hn _ (yC _),t1,g8];refine⟨_,_,rfl,_,by simp[hs],x1.tr x8,?_,λb hb=>aPa x1.1 (n8 b hb)⟩
    unfold jV nH kP;rw[if_pos hs];exact b8
  ·have hs':dK f=false:=by simpa using hs
   rw[hs'] at s1;simp only[gsR,e0,l6,s1];refine⟨_,_,rfl,_,by simp[hs],x1,?_,New.nP H⟩
   unfold jV nH;rw[if_neg hs];exact Rw.lQ
 obtain⟨H',r,h1,v,rfl,h2⟩:=main
 exact⟨H',v,h1,h2⟩
end
end Go.Proofs.YtkeilicinggjmaaGreatDoor
namespace Go.Proofs.YtkeilicinggjmaaGreatDoor
open Go.Proofs.Tryz
open Go.Abs
open Classical
theorem aOf {α:Type}{l:List α}{i:Nat}{x:α}(h:l[i]? =some x):l.take (i+1)=l.take i++[x]:=by
 rw[List.take_add_one,h];rfl
section
variable {m : Nat} {H0 H : aC} {F : Part → Nat → Prop} {y : Lay} {p : PlanD} {ev wv nv : Value} {c : Cfg}
end
end Go.Proofs.YtkeilicinggjmaaGreatDoor
namespace Go.Abs
theorem aBA {req:Nat->Nat->Bool}{n:Nat}(hr: ∀i o,i<n->req i o=false)(first:Bool)(s:Mat):rnd req n first s=s:=by
 have hg: ∀o,mA req s.m s.g n o=none:=λo=>by
  unfold mA;split
  ·rfl
  ·rw[D8]
   intro i hi;rw[hr i o hi,Bool.and_false]
 have ha: ∀(t:Mat)(i:Nat),acc (mA req s.m s.g n) n first t i=t:=λt i=>by
  unfold acc;split
  ·have:jY (λk=>mA req s.m s.g n k==some i) (t.a.getD i 0) n=none:=by
    rw[D8];intro k _;rw[hg k];rfl
   rw[this]
  ·rfl
 unfold rnd;have: ∀(l:List Nat)(t:Mat),l.foldl (acc (mA req s.m s.g n) n first) t=t:=λl=>by
  induction l with
  |nil=>exact λ_=>rfl
  |cons i l ih=>
   intro t;rw[List.foldl_cons,ha,ih]
 exact this _ _
theorem aBz {req:Nat->Nat->Bool}{n:Nat}(hr: ∀i o,i<n->req i o=false)(r:Nat)(g a:List Nat):oI req n r g a=⟨List.replicate n (-1),g,a⟩:=by
 unfold oI;rw[aBA hr];have: ∀k (s:Mat),uT req n k s=s:=λk=>by
  induction k with
  |zero=>exact λ_=>rfl
  |succ k ih=>
   intro s;unfold uT;rw[aBA hr,ih]
 exact this _ _
theorem aOi {c:Cfg}{s:NS}(h:s.hL=[]):o5 c s=s:=by
 have h1: ∀k,lA c s k=s:=λk=>by
  unfold lA;rw[h]
  split<;>rfl
 unfold o5;have: ∀l:List Nat,l.foldl (lA c) s=s:=λl=>by
  induction l with
  |nil=>rfl
  |cons k l ih=>rw[List.foldl_cons,h1,ih]
 exact this _
theorem aOg {c:Cfg}{s:NS}(h:s.rL=[])(i o:Nat):mD c s i o=false:=by
 have hm: ∀k,gM c s i o k=false:=λk=>by
  unfold gM nJ lU;rw[h];simp
 unfold mD;rw[show gM c s i o=λ_=>false from funext hm]
 simp
theorem Qh (c:Cfg)(n:Nat)(s:NS×k8): ∀l:List Nat,(∀i∈l,i<n)->rD c (List.replicate n (-1)) l s=s
 |[],_=>rfl
 |i::l,h=>by
  unfold rD;have e:(List.replicate n (-1:Int)).getD i 0= -1:=by
   rw[aOY,aPA,if_pos (h i (aO3 ..))];rfl
  rw[e,if_neg (by omega)]
  exact Qh c n s l λj hj=>h j (aPb _ hj)
theorem aOk {c:Cfg}{s:NS}(h1:s.hL=[])(h2:s.rL=[]):lB c s=({s with ticks:=s.ticks+1},if(s.ticks+1)%c.every=0 then oL c s else []):=by
 unfold lB;simp only;rw[aOi h1,aBz (λi o _=>aOg h2 i o)]
 simp only;rw[Qh c c.aH _ _ λi hi=>aPy.mp hi]
 rfl
def Qg (c:Cfg)(j:Nat):NS:={NS.jB c with ticks:=j}
theorem aOj (c:Cfg)(j:Nat):lB c (Qg c j)=(Qg c (j+1),if(j+1)%c.every=0 then oL c (NS.jB c) else []):=aOk rfl rfl
theorem Cu {α:Type}{f:Nat->List α}{L:Nat}: ∀{a:Nat},(∀i,i<a->(f i).length=L)->((List.range a).flatMap f).length=a*L
 |0,_=>by simp
 |a+1,h=>by
  rw[aPt,List.flatMap_append,aO6,Cu (a:=a) (λi hi=>h i (by omega))]
  simp[h a (by omega),Nat.add_mul]
theorem Qf {α:Type}{f:Nat->List α}{L:Nat}: ∀{a:Nat},(∀i,i<a->(f i).length=L)-> ∀{i:Nat},i<a*L->((List.range a).flatMap f)[i]? =(f (i/L))[i%L]?
 |0,_,i,hi=>by omega
 |a+1,h,i,hi=>by
  have hL:0<L:=by
   rcases Nat.eq_zero_or_pos L with h0|h0
   ·rw[h0] at hi;omega
   ·exact h0
  have hl:=Cu (a:=a) (f:=f) (L:=L) (λi hi=>h i (by omega))
  rw[aPt,List.flatMap_append];by_cases hia:i<a*L
  ·rw[aOX (by rw[hl];exact hia)]
   exact Qf (λi hi=>h i (by omega)) hia
  ·rw[aPe (by rw[hl];omega),hl]
   rw[Nat.add_mul,Nat.one_mul] at hi;have e1:i/L=a:=by
    apply Nat.le_antisymm
    ·exact Nat.le_of_lt_succ (Nat.div_lt_of_lt_mul (by rw[Nat.mul_comm,Nat.succ_mul];omega))
    ·rw[Nat.le_div_iff_mul_le hL];omega
   have e2:i%L=i-a*L:=by
    have:=Nat.div_add_mod i L;rw[e1,Nat.mul_comm] at this;omega
   rw[e1,e2];simp
def tI (c:Cfg)(s:NS)(i:Nat):Frm:=
 let j:=i/2/c.lanes+1
 let k:=i/2%c.lanes
 if i%2=0 then⟨3,k,(s.snd j k).s%65536,0,0,0⟩ else⟨2,k,(s.rcv j k).mC c.room%65536,0,0,0⟩
theorem aBy (c:Cfg)(s:NS):(oL c s).length=2*c.by'.length*c.lanes:=by
 unfold oL;rw[Cu (L:=c.lanes*2) λi _=>Cu (L:=2) λk _=>rfl]
 rw[Nat.mul_comm c.lanes 2,<-Nat.mul_assoc,Nat.mul_comm c.by'.length 2]
theorem aOh {c:Cfg}(s:NS)(hl:0<c.lanes){i:Nat}(hi:i<2*c.by'.length*c.lanes):(oL c s)[i]? =some (rF c (i/2/c.lanes+1) (tI c s i)):=by
 have hi2:i<c.by'.length*(c.lanes*2):=by
  rw[Nat.mul_comm c.lanes 2,<-Nat.mul_assoc,Nat.mul_comm c.by'.length 2];exact hi
 unfold oL;rw[Qf (L:=c.lanes*2) (λi _=>Cu (L:=2) λk _=>rfl) hi2]
 have e1:i/(c.lanes*2)=i/2/c.lanes:=by rw[Nat.mul_comm,Nat.div_div_eq_div_mul]
 have h2:i%(c.lanes*2)<c.lanes*2:=Nat.mod_lt _ (by omega)
 rw[Qf (L:=2) (λk _=>rfl) h2]
 have e2:i%(c.lanes*2)/2=i/2%c.lanes:=by rw[Nat.mul_comm,Nat.mod_mul_right_div_self]
 have e3:i%(c.lanes*2)%2=i%2:=Nat.mod_mod_of_dvd _ ⟨c.lanes,by rw[Nat.mul_comm]⟩
 rw[e1,e2,e3];unfold tI;simp only;rcases Nat.mod_two_eq_zero_or_one i with h|h
 ·rw[h,if_pos rfl];rfl
 ·rw[h,if_neg (by omega)];rfl
end Go.Abs
namespace Go.Proofs.YtkeilicinggjmaaGreatDoor
open Go.Proofs.Tryz
open Go.Abs
section
variable {H : aC} {m : Nat}
def qN (bs:List UInt8):Value:=match yD bs with
 |some f=> .tuple #[frV f,.int .i64 0]
 |none=> .tuple #[frV Frm.iI,.int .i64 30]
theorem aOo (bs:List UInt8):(eW bs).ok:=⟨UInt8.toNat_lt _,UInt8.toNat_lt _,Oc _ _,by show 0<256;decide,by show 0<256;decide,by show 0<4294967296;decide⟩
theorem aOq (a b c d:UInt8):fH [a,b,c,d]<4294967296:=F7 4 [a,b,c,d] rfl
theorem aOn (bs:List UInt8):(jL bs).ok:=⟨UInt8.toNat_lt _,UInt8.toNat_lt _,Oc _ _,UInt8.toNat_lt _,UInt8.toNat_lt _,aOq _ _ _ _⟩
theorem Ao:cI prog 22 9=λv=>nN v:=by
 funext v
 have h1:prog.underlying 22=some (.slice 5):=by kernel_rfl
 have h2:prog.underlying 9=some .string:=by kernel_rfl
 unfold cI;rw[h1,h2];simp only;rw[u8U]
theorem vG (a b:Value):ext 0 (.tuple #[a,b])=some a:=rfl
theorem vH (a b:Value):ext 1 (.tuple #[a,b])=some b:=rfl
theorem n01:((1:Int)!=0)=true:=rfl
theorem n00:((0:Int)!=0)=false:=rfl
theorem aBB (hm:100<m){u:Value}{bs:List UInt8}(hu:Bs H u bs){G:aC}{f:Frm}(hf:f.ok)(he:Ext H G)(h0:G[H.length]? =some zfB)(h1:G[H.length+1]? =some (frB f)):
  ldN 6 (.pointer (some ⟨H.length+1,0,none⟩)) G=some (frV f,G)/\ ∃G' v,lvl prog pkN m (.func 54) [frV f] G=some (.tuple #[v,.int .i64 (if dK f=true then 0 else 1)],G')/\nN v G'=some (.string ⟨(jV f).toArray⟩,G')/\nN u G'=some (.string ⟨bs.toArray⟩,G')/\
   ldN 6 (.pointer (some ⟨H.length+1,0,none⟩)) G'=some (frV f,G')/\
   ∀g,stN 6 (.pointer (some ⟨H.length,0,none⟩)) (frV g) G'=some (undef,G'.set H.length (frB g))/\ldN 6 (.pointer (some ⟨H.length,0,none⟩)) (G'.set H.length (frB g))=some (frV g,G'.set H.length (frB g))/\Ext H (G'.set H.length (frB g)):=by
 obtain⟨G',v,e1,e2,e3,e4⟩:=aOe (H:=G) hm f hf;have h0':G'[H.length]? =some (frB Frm.iI):=by rw[e2.2 _ (dE h0) id,h0];rfl
 have h1':G'[H.length+1]? =some (frB f):=by rw[e2.2 _ (dE h1) id,h1]
 exact⟨(kQ h1).2.2.2.2.2.2,G',v,e1,(By.br (H:=G') e3).T0,(Za (hu.ext (he.tr e2))).T0,(kQ h1').2.2.2.2.2.2,λg=>⟨yF g h0',(kQ (iE h0')).2.2.2.2.2.2,rY (he.tr e2) (aOZ _) _⟩⟩
theorem aOm {bs:List UInt8}(h6: ¬bs.length<6){f:Frm}(hf:f=if(bs.getD 0 0).toNat=1/\12<=bs.length then jL bs else eW bs):yD bs=if dK f=true/\jV f=bs then some f else none:=by
 unfold yD jV;rw[if_neg h6,<-hf];unfold nH;by_cases hs:dK f=true
 ·rw[if_pos hs]
  by_cases hb:kP f=bs
  ·simp[hb,hs]
  ·simp[hb]
 ·rw[if_neg hs]
  simp[hs]
theorem vI (c:UInt8)(H:aC):cI prog 5 23 (iF c) H=some (.int .u16 (c.toNat:Int),H):=by
 show cI prog 5 23 (.int .u8 c.toNat) H=_
 have:=c.toNat_lt;rw[fF _ _ u8U lV,wA (by omega) (by omega)]
theorem Qj (c:UInt8)(H:aC):cI prog 5 37 (iF c) H=some (.int .u32 (c.toNat:Int),H):=by
 show cI prog 5 37 (.int .u8 c.toNat) H=_
 have:=c.toNat_lt;rw[fF _ _ u8U oE,Fx _ (by omega)]
theorem aOr (a b:UInt8):IntKind.u16.wrap ((a.toNat:Int)*256)=((a.toNat*256:Nat):Int)/\IntKind.u16.wrap (((a.toNat*256:Nat):Int)+b.toNat)=(fH [a,b]:Int):=by
 have:=a.toNat_lt;have:=b.toNat_lt;rw[Fy]
 exact⟨by rw[wA (by omega) (by omega)];omega,by rw[wA (by omega) (by omega)];omega⟩
theorem Qi (c:UInt8)(k:Nat)(hk:k<=24):bin prog .shl 37 (.int .u32 (c.toNat:Int)) (.int .u64 k)=some (.int .u32 ((c.toNat*2 ^ k:Nat):Int)):=by
 have hc:=c.toNat_lt;rw[xW .u32 .u64 rfl _ c.toNat k (by show k<=32;omega)]
 have h1:2 ^ k<=2 ^ 24:=Nat.pow_le_pow_right (by omega) hk
 have h2:c.toNat*2 ^ k<2 ^ IntKind.u32.bits:=by
  show c.toNat*2 ^ k<4294967296
  calc c.toNat*2 ^ k<=255*2 ^ 24:=Nat.mul_le_mul (by omega) h1
   _<4294967296:=by decide
 rw[aPs h2]
theorem aOl (a b c d:UInt8):IntKind.u32.wrap (((a.toNat*2 ^ 24:Nat):Int)+((b.toNat*2 ^ 16:Nat):Int))=((a.toNat*2 ^ 24+b.toNat*2 ^ 16:Nat):Int)/\
  IntKind.u32.wrap (((a.toNat*2 ^ 24+b.toNat*2 ^ 16:Nat):Int)+((c.toNat*2 ^ 8:Nat):Int))=((a.toNat*2 ^ 24+b.toNat*2 ^ 16+c.toNat*2 ^ 8:Nat):Int)/\
  IntKind.u32.wrap (((a.toNat*2 ^ 24+b.toNat*2 ^ 16+c.toNat*2 ^ 8:Nat):Int)+(d.toNat:Int))=(fH [a,b,c,d]:Int):=by
 have:=a.toNat_lt;have:=b.toNat_lt;have:=c.toNat_lt;have:=d.toNat_lt;rw[N6];refine⟨?_,?_,?_⟩<;>rw[Jf (by omega) (by omega)]<;>omega
theorem aBC (hm:200<m){u:Value}{bs:List UInt8}(hu:Bs H u bs): ∃H',lvl prog pkN m (.func 14) [u] H=some (qN bs,H')/\Ext H H':=by
  refine lK (cL rfl) (by omega) ?_
  rw[aN8];have e0:(Blk.cells [.int .u8 0,.int .u8 0,.int .u16 0,.int .u8 0,.int .u8 0,.int .u32 0] 39 .fix)=zfB:=rfl;have hl2:(H++[zfB]).length=H.length+1:=by simp
  have bZ:bld prog 39 []=some (frV Frm.iI):=rfl;have x1:Ext H (H++[zfB]):=Fr.app _ _ _;have b1:(H++[zfB])[H.length]? =some zfB:=dJ _ _;by_cases h6:bs.length<6
  · have c1:decide ((bs.length:Int)<6)=true:=by rw[decide_eq_true_eq];omega
    have hd:qN bs= .tuple #[frV Frm.iI,.int .i64 30]:=by unfold qN yD;rw[if_pos h6]
    have st0:=yF Frm.iI b1;have ld0:=(kQ (iE (y:=frB Frm.iI) b1)).2.2.2.2.2.2;simp only[gsR,e0,hu.gO,c1,bZ,st0,ld0,hd]
    exact⟨_,rfl,rY x1 (aOZ _) _⟩
  · have c1:decide ((bs.length:Int)<6)=false:=by rw[decide_eq_false_iff_not];omega
    obtain⟨a0,i0,l0⟩:=pH hu (pW (bs:=bs) (i:=0) (by omega)) .i64
    obtain⟨a1,i1,l1⟩:=pH hu (pW (bs:=bs) (i:=1) (by omega)) .i64
    obtain⟨a2,i2,l2⟩:=pH hu (pW (bs:=bs) (i:=2) (by omega)) .i64
    obtain⟨a3,i3,l3⟩:=pH hu (pW (bs:=bs) (i:=3) (by omega)) .i64
    have i0':aR 1 u (.int .i64 0)=some a0:=i0;have i1':aR 1 u (.int .i64 1)=some a1:=i1;have i2':aR 1 u (.int .i64 2)=some a2:=i2;have i3':aR 1 u (.int .i64 3)=some a3:=i3;have l0':=l0 _ x1;have l1':=l1 _ x1;have l2':=l2 _ x1;have l3':=l3 _ x1;have w1:=aOr (bs.getD 2 0) (bs.getD 3 0);have bF:bld prog 39 [(0,iF (bs.getD 0 0)),(1,iF (bs.getD 1 0)),(2,.int .u16 (fH [bs.getD 2 0,bs.getD 3 0]))]=some (frV (eW bs)):=rfl;have st1:stN 6 (.pointer (some ⟨H.length+1,0,none⟩)) (frV (eW bs)) (H++[zfB]++[zfB])=some (undef,H++[zfB]++[frB (eW bs)]):=by
      have:=yF (H:=H++[zfB]++[zfB]) (b:=H.length+1) (f:=Frm.iI) (eW bs) (by rw[<-hl2];exact dJ _ _)
      rw[this,<-hl2,nG]
    obtain⟨G4,hG4⟩: ∃G4,H++[zfB]++[frB (eW bs)]=G4:=⟨_,rfl⟩;rw[hG4] at st1;have x4:Ext H G4:=by rw[<-hG4];exact x1.tr (Fr.app _ _ _)
    have b40:G4[H.length]? =some zfB:=by rw[<-hG4];exact nF b1 _
    have b41:G4[H.length+1]? =some (frB (eW bs)):=by rw[<-hG4,<-hl2];exact dJ _ _
    have k0:ld1 (.pointer (some ⟨H.length+1,0,none⟩)) G4=some (iF (bs.getD 0 0),G4):=(kQ b41).1;have kq:=Zg (bs.getD 0 0) 1 1 rfl;have ge12:decide ((12:Int)<=(bs.length:Int))=decide (12<=bs.length):=by congr 1;exact propext (by omega)
    -- what follows where the frame is f, in the heap G
    have done: ∀(f:Frm),(f=if(bs.getD 0 0).toNat=1/\12<=bs.length then jL bs else eW bs)-> ∀G':aC,(∀g,Ext H (G'.set H.length (frB g)))->
        (dK f=true->jV f=bs->qN bs= .tuple #[frV f,.int .i64 0])/\(¬(dK f=true/\jV f=bs)->qN bs= .tuple #[frV Frm.iI,.int .i64 30]):=λf hf G' hx=>by
      have hR:=aOm h6 hf;refine⟨λh1 h2=> ?_,λh=> ?_⟩
      · unfold qN;rw[hR,if_pos ⟨h1,h2⟩]
      · unfold qN;rw[hR,if_neg h]
    by_cases hk:(bs.getD 0 0).toNat=1/\12<=bs.length
    · obtain⟨a4,i4,l4⟩:=pH hu (pW (bs:=bs) (i:=4) (by omega)) .i64
      obtain⟨a5,i5,l5⟩:=pH hu (pW (bs:=bs) (i:=5) (by omega)) .i64
      obtain⟨a6,i6,l6⟩:=pH hu (pW (bs:=bs) (i:=6) (by omega)) .i64
      obtain⟨a7,i7,l7⟩:=pH hu (pW (bs:=bs) (i:=7) (by omega)) .i64
      obtain⟨a8,i8,l8⟩:=pH hu (pW (bs:=bs) (i:=8) (by omega)) .i64
      obtain⟨a9,i9,l9⟩:=pH hu (pW (bs:=bs) (i:=9) (by omega)) .i64
      have i4':aR 1 u (.int .i64 4)=some a4:=i4;have i5':aR 1 u (.int .i64 5)=some a5:=i5;have i6':aR 1 u (.int .i64 6)=some a6:=i6;have i7':aR 1 u (.int .i64 7)=some a7:=i7;have i8':aR 1 u (.int .i64 8)=some a8:=i8;have i9':aR 1 u (.int .i64 9)=some a9:=i9;have st3:stN 1 (.pointer (some ⟨H.length+1,3,none⟩)) (iF (bs.getD 4 0)) G4=some (undef,G4.set (H.length+1) (frB {eW bs with src:=(bs.getD 4 0).toNat})):=kZ b41 (by decide) (by simp[frC])
      obtain⟨G5,hG5⟩: ∃G5,G4.set (H.length+1) (frB {eW bs with src:=(bs.getD 4 0).toNat})=G5:=⟨_,rfl⟩;rw[hG5] at st3;have x5:Ext H G5:=by rw[<-hG5];exact rY x4 (by omega) _
      have b50:G5[H.length]? =some zfB:=by rw[<-hG5,aOV (by omega)];exact b40
      have b51:G5[H.length+1]? =some (frB {eW bs with src:=(bs.getD 4 0).toNat}):=by rw[<-hG5];exact iE b41
      have st4:stN 1 (.pointer (some ⟨H.length+1,4,none⟩)) (iF (bs.getD 5 0)) G5=some (undef,G5.set (H.length+1) (frB {eW bs with src:=(bs.getD 4 0).toNat,dst:=(bs.getD 5 0).toNat})):=kZ b51 (by decide) (by simp[frC])
      obtain⟨G6,hG6⟩: ∃G6,G5.set (H.length+1) (frB {eW bs with src:=(bs.getD 4 0).toNat,dst:=(bs.getD 5 0).toNat})=G6:=⟨_,rfl⟩;rw[hG6] at st4;have x6:Ext H G6:=by rw[<-hG6];exact rY x5 (by omega) _
      have b60:G6[H.length]? =some zfB:=by rw[<-hG6,aOV (by omega)];exact b50
      have b61:G6[H.length+1]? =some (frB {eW bs with src:=(bs.getD 4 0).toNat,dst:=(bs.getD 5 0).toNat}):=by rw[<-hG6];exact iE b51
      have st5:stN 1 (.pointer (some ⟨H.length+1,5,none⟩)) (.int .u32 (fH [bs.getD 6 0,bs.getD 7 0,bs.getD 8 0,bs.getD 9 0]:Int)) G6=some (undef,G6.set (H.length+1) (frB (jL bs))):=kZ b61 (by decide) (by simp[frC])
      obtain⟨G7,hG7⟩: ∃G7,G6.set (H.length+1) (frB (jL bs))=G7:=⟨_,rfl⟩;rw[hG7] at st5;have x7:Ext H G7:=by rw[<-hG7];exact rY x6 (by omega) _
      have b70:G7[H.length]? =some zfB:=by rw[<-hG7,aOV (by omega)];exact b60
      have b71:G7[H.length+1]? =some (frB (jL bs)):=by rw[<-hG7];exact iE b61
      obtain⟨t1,G',v,t2,t3,t4,t5,t6⟩:=aBB (m:=m-1) (by omega) hu (aOn bs) x7 b70 b71
      have hdone:=done (jL bs) (by rw[if_pos hk]) G' (λg=>(t6 g).2.2)
      have s24:bin prog .shl 37 (.int .u32 ((bs.getD 6 0).toNat:Int)) (.int .u64 24)=_:=Qi (bs.getD 6 0) 24 (by omega)
      have s16:bin prog .shl 37 (.int .u32 ((bs.getD 7 0).toNat:Int)) (.int .u64 16)=_:=Qi (bs.getD 7 0) 16 (by omega)
      have s8:bin prog .shl 37 (.int .u32 ((bs.getD 8 0).toNat:Int)) (.int .u64 8)=_:=Qi (bs.getD 8 0) 8 (by omega)
      obtain⟨y1,y2,y3⟩:=aOl (bs.getD 6 0) (bs.getD 7 0) (bs.getD 8 0) (bs.getD 9 0);by_cases hs:dK (jL bs)=true
      · rw[if_pos hs] at t2
        by_cases hb:jV (jL bs)=bs
        · have hne:(jV (jL bs)!=bs)=false:=by simp[hb]
          obtain⟨u1,u2,u3⟩:=t6 (jL bs);simp only[gsR,e0,hl2,hu.gO,c1,i0',i1',i2',i3',l0',l1',l2',l3',vI,qC,w1.1,cC,w1.2,bF,st1,k0,kq,aPD hk.1,ge12,aPD hk.2,i4',i5',i6',i7',i8',i9',l4 G4 x4,l5 G5 x5,l6 G6 x6,l7 G6 x6,l8 G6 x6,l9 G6 x6,st3,st4,Qj,s24,s16,s8,y1,y2,y3,st5,t1,t2,vG,vH,n00,Ao,t3,t4,zJ,hne,t5,u1,u2,hdone.1 hs hb]
          exact⟨_,rfl,u3⟩
        · have hne:(jV (jL bs)!=bs)=true:=by simp[hb]
          obtain⟨u1,u2,u3⟩:=t6 Frm.iI;simp only[gsR,e0,hl2,hu.gO,c1,i0',i1',i2',i3',l0',l1',l2',l3',vI,qC,w1.1,cC,w1.2,bF,st1,k0,kq,aPD hk.1,ge12,aPD hk.2,i4',i5',i6',i7',i8',i9',l4 G4 x4,l5 G5 x5,l6 G6 x6,l7 G6 x6,l8 G6 x6,l9 G6 x6,st3,st4,Qj,s24,s16,s8,y1,y2,y3,st5,t1,t2,vG,vH,n00,Ao,t3,t4,zJ,hne,bZ,u1,u2,hdone.2 (λh=>hb h.2)]
          exact⟨_,rfl,u3⟩
      · rw[if_neg hs] at t2
        obtain⟨u1,u2,u3⟩:=t6 Frm.iI;simp only[gsR,e0,hl2,hu.gO,c1,i0',i1',i2',i3',l0',l1',l2',l3',vI,qC,w1.1,cC,w1.2,bF,st1,k0,kq,aPD hk.1,ge12,aPD hk.2,i4',i5',i6',i7',i8',i9',l4 G4 x4,l5 G5 x5,l6 G6 x6,l7 G6 x6,l8 G6 x6,l9 G6 x6,st3,st4,Qj,s24,s16,s8,y1,y2,y3,st5,t1,t2,vG,vH,n01,bZ,u1,u2,hdone.2 (λh=>hs h.1)]
        exact⟨_,rfl,u3⟩
    · obtain⟨t1,G',v,t2,t3,t4,t5,t6⟩:=aBB (m:=m-1) (by omega) hu (aOo bs) x4 b40 b41
      have hdone:=done (eW bs) (by rw[if_neg hk]) G' (λg=>(t6 g).2.2)
      have main: ∀r,(∃H',(r=some (qN bs,H'))/\Ext H H')-> ∃H',r=some (qN bs,H')/\Ext H H':=λr h=>h
      by_cases hk1:(bs.getD 0 0).toNat=1
      · have hk2:decide (12<=bs.length)=false:=by simp;omega
        by_cases hs:dK (eW bs)=true
        · rw[if_pos hs] at t2
          by_cases hb:jV (eW bs)=bs
          · have hne:(jV (eW bs)!=bs)=false:=by simp[hb]
            obtain⟨u1,u2,u3⟩:=t6 (eW bs);simp only[gsR,e0,hl2,hu.gO,c1,i0',i1',i2',i3',l0',l1',l2',l3',vI,qC,w1.1,cC,w1.2,bF,st1,k0,kq,aPD hk1,ge12,hk2,t1,t2,vG,vH,n00,Ao,t3,t4,zJ,hne,t5,u1,u2,hdone.1 hs hb]
            exact⟨_,rfl,u3⟩
          · have hne:(jV (eW bs)!=bs)=true:=by simp[hb]
            obtain⟨u1,u2,u3⟩:=t6 Frm.iI;simp only[gsR,e0,hl2,hu.gO,c1,i0',i1',i2',i3',l0',l1',l2',l3',vI,qC,w1.1,cC,w1.2,bF,st1,k0,kq,aPD hk1,ge12,hk2,t1,t2,vG,vH,n00,Ao,t3,t4,zJ,hne,bZ,u1,u2,hdone.2 (λh=>hb h.2)]
            exact⟨_,rfl,u3⟩
        · rw[if_neg hs] at t2
          obtain⟨u1,u2,u3⟩:=t6 Frm.iI;simp only[gsR,e0,hl2,hu.gO,c1,i0',i1',i2',i3',l0',l1',l2',l3',vI,qC,w1.1,cC,w1.2,bF,st1,k0,kq,aPD hk1,ge12,hk2,t1,t2,vG,vH,n01,bZ,u1,u2,hdone.2 (λh=>hs h.1)]
          exact⟨_,rfl,u3⟩
      · by_cases hs:dK (eW bs)=true
        · rw[if_pos hs] at t2
          by_cases hb:jV (eW bs)=bs
          · have hne:(jV (eW bs)!=bs)=false:=by simp[hb]
            obtain⟨u1,u2,u3⟩:=t6 (eW bs);simp only[gsR,e0,hl2,hu.gO,c1,i0',i1',i2',i3',l0',l1',l2',l3',vI,qC,w1.1,cC,w1.2,bF,st1,k0,kq,aPE hk1,t1,t2,vG,vH,n00,Ao,t3,t4,zJ,hne,t5,u1,u2,hdone.1 hs hb]
            exact⟨_,rfl,u3⟩
          · have hne:(jV (eW bs)!=bs)=true:=by simp[hb]
            obtain⟨u1,u2,u3⟩:=t6 Frm.iI;simp only[gsR,e0,hl2,hu.gO,c1,i0',i1',i2',i3',l0',l1',l2',l3',vI,qC,w1.1,cC,w1.2,bF,st1,k0,kq,aPE hk1,t1,t2,vG,vH,n00,Ao,t3,t4,zJ,hne,bZ,u1,u2,hdone.2 (λh=>hb h.2)]
            exact⟨_,rfl,u3⟩
        · rw[if_neg hs] at t2
          obtain⟨u1,u2,u3⟩:=t6 Frm.iI;simp only[gsR,e0,hl2,hu.gO,c1,i0',i1',i2',i3',l0',l1',l2',l3',vI,qC,w1.1,cC,w1.2,bF,st1,k0,kq,aPE hk1,t1,t2,vG,vH,n01,bZ,u1,u2,hdone.2 (λh=>hs h.1)]
          exact⟨_,rfl,u3⟩
end
end Go.Proofs.YtkeilicinggjmaaGreatDoor
namespace Go.Proofs.YtkeilicinggjmaaGreatDoor
open Go.Proofs.Tryz
open Go.Abs
open Classical
theorem aOt {c:Cfg}(hl:0<c.lanes)(h3:c.lanes<=3)(s:NS)(i:Nat):(tI c s i).ok/\dK (tI c s i)=true:=by
 have hm:i/2%c.lanes<c.lanes:=Nat.mod_lt _ hl;unfold tI;simp only;split
 ·refine⟨⟨by show 3<256;omega,by show _%_<256;omega,by show _%65536<65536;omega,by show 0<256;omega,by show 0<256;omega,by show 0<4294967296;omega⟩,?_⟩
  unfold dK;simp;omega
 ·refine⟨⟨by show 2<256;omega,by show _%_<256;omega,by show _%65536<65536;omega,by show 0<256;omega,by show 0<256;omega,by show 0<4294967296;omega⟩,?_⟩
  unfold dK;simp;omega
theorem aBD (f:Frm)(H:aC):stN 6 (.pointer (some ⟨H.length,0,none⟩)) (frV f) (H++[frB Frm.iI])=some (undef,H++[frB f]):=by
 have e:(Value.cells (frV f)).toList=frC f:=rfl;rw[mS 6 _ _ _ rfl,gZ,show frB Frm.iI= .cells [.int .u8 0,.int .u8 0,.int .u16 0,.int .u8 0,.int .u8 0,.int .u32 0] 39 .fix from rfl,e,n9 _ _ _ _ _ _ (by decide) (by simp[frC]) rfl]
 simp[eT,frB,frC]
section
variable {m : Nat} {H0 Hb H : aC} {y : Lay} {p : PlanD} {ev wv nv : Value} {c : Cfg}
theorem aOv {pb start tk t:Nat}{bs:Value}{K:Ex->K (Value×aC)}{v:Value}{us:List (Nat×Value)}{A:Nat->Prop}(ho:OutR Hb A v us (oL c (NS.jB c)))(hok:c.ok)(bp:Hb[pb]? =some (plB p ev wv nv))(hst:c.start=start)(hs:start<65536)
  (hroom:p.room=(c.room:Int))(hlan:p.lanes=(c.lanes:Int))(hm:1000<m)
  (hK: ∀H,Ext Hb H-> ∀(x0 x1 x2 x4 x6 x7 x8 x9 bK bN aS aN bG bJ bL bH bE aT aU aV aW aX aY aZ bA bB bO bP bQ bR bS bT bU bV bX bY cD cG cH cK cQ cS cT cM cN cO cP cW cU cV cY dA dC dB dD dN dO dR dS dT dU dV dW dX eG eH eI eJ eK eL eM eN eO eP eQ eS eX eY eZ fA fB fC fD fE fJ fK fL fM fN fO fP fQ fR fS fT fU fV fW fX fY fZ gA gB gC gD gE gF gG gH gR gS gT gU gV gW gX gY iN iO iP iQ iR iS iT iV iW iX iY lE lF lG lH tJ tK tL tM tN tO tP tQ tR tS tT tU tV tW tX tY tZ uA uB uC uD uE uF uG uH:Value),∃H2,K .normal [x0,x1,x2,(.int .u16 start),x4,(.int .u8 tk),x6,x7,x8,x9,bK,bN,(.bool false),(.pointer (some ⟨pb,0,none⟩)),(pt y.nb),bs,aS,(.int .i64 (t+1:Nat)),aN,bG,bJ,bL,bH,bE,aT,aU,aV,aW,aX,aY,aZ,bA,bB,bO,bP,bQ,bR,bS,bT,bU,bV,bX,bY,cD,cG,cH,cK,cQ,cS,cT,cM,cN,cO,cP,cW,cU,cV,cY,dA,dC,dB,dD,dN,dO,dR,dS,dT,dU,dV,dW,dX,eG,eH,eI,eJ,eK,eL,eM,eN,eO,eP,eQ,eS,eX,eY,eZ,fA,fB,fC,fD,fE,fJ,fK,fL,fM,fN,fO,fP,fQ,fR,fS,fT,fU,fV,fW,fX,fY,fZ,gA,gB,gC,gD,gE,gF,gG,gH,gR,gS,gT,gU,gV,gW,gX,gY,iN,iO,iP,iQ,iR,iS,iT,iV,iW,iX,iY,lE,lF,lG,lH,tJ,tK,tL,tM,tN,tO,tP,tQ,tR,tS,tT,tU,tV,tW,tX,tY,tZ,uA,uB,uC,uD,uE,uF,uG,uH] H=some (.bool true,H2))(ht:t<1000):
  ∀(q i l:Nat)(H:aC),us.length-i=q->i<=us.length->q<l->Ext Hb H-> ∀(x0 x1 x2 x4 x6 x7 x8 x9 bK bN aS bJ bL bH bE aT aU aV aW aX aY aZ bA bB bO bP bQ bR bS bT bU bV bX bY cD cG cH cK cQ cS cT cM cN cO cP cW cU cV cY dA dC dB dD dN dO dR dS dT dU dV dW dX eG eH eI eJ eK eL eM eN eO eP eQ eS eX eY eZ fA fB fC fD fE fJ fK fL fM fN fO fP fQ fR fS fT fU fV fW fX fY fZ gA gB gC gD gE gF gG gH gR gS gT gU gV gW gX gY iN iO iP iQ iR iS iT iV iW iX iY lE lF lG lH tJ tK tL tM tN tO tP tQ tR tS tT tU tV tW tX tY tZ uA uB uC uD uE uF uG uH:Value),
  ∃H2,aI l (aK prog (lvl prog pkN m) (aI m) P3) (P5 (lvl prog pkN m) (aI m) K) [x0,x1,x2,(.int .u16 start),x4,(.int .u8 tk),x6,x7,x8,x9,bK,bN,(.bool false),(.pointer (some ⟨pb,0,none⟩)),(pt y.nb),bs,aS,(.int .i64 (t:Nat)),v,(.int .i64 (i:Nat)),bJ,bL,bH,bE,aT,aU,aV,aW,aX,aY,aZ,bA,bB,bO,bP,bQ,bR,bS,bT,bU,bV,bX,bY,cD,cG,cH,cK,cQ,cS,cT,cM,cN,cO,cP,cW,cU,cV,cY,dA,dC,dB,dD,dN,dO,dR,dS,dT,dU,dV,dW,dX,eG,eH,eI,eJ,eK,eL,eM,eN,eO,eP,eQ,eS,eX,eY,eZ,fA,fB,fC,fD,fE,fJ,fK,fL,fM,fN,fO,fP,fQ,fR,fS,fT,fU,fV,fW,fX,fY,fZ,gA,gB,gC,gD,gE,gF,gG,gH,gR,gS,gT,gU,gV,gW,gX,gY,iN,iO,iP,iQ,iR,iS,iT,iV,iW,iX,iY,lE,lF,lG,lH,tJ,tK,tL,tM,tN,tO,tP,tQ,tR,tS,tT,tU,tV,tW,tX,tY,tZ,uA,uB,uC,uD,uE,uF,uG,uH] H=some (.bool true,H2):=by
 have h1:=hok.lanes;have hR:=hok.room;have hL6:=hok.by';have hlen:us.length=2*c.by'.length*c.lanes:=by rw[ho.len,aBy]
 have hl2:us.length<=100:=by
  rw[hlen];exact aPa (Nat.mul_le_mul (Nat.mul_le_mul_left 2 hL6) h1.2) (by decide)
 have hlv:bM v=some (.int .i64 us.length):=ho.rw_.rs.gO;intro q;induction q with
 |zero=>
  intro i l H hr hi hl he;intros;obtain⟨l,rfl⟩:=aB l (by omega)
  obtain rfl:i=us.length:=by omega
  have e:decide ((us.length:Int)<us.length)=false:=by simp
  have e3:=aA (i:=t) (by omega)
  rw[dY,aBj];simp -implicitDefEqProofs only[gsR,hlv,e];rw[aNU];simp -implicitDefEqProofs only[gsR,cC,e3];exact hK H he ..
 |succ q ih=>
  intro i l H hr hi hl he;intros;obtain⟨l,rfl⟩:=aB l (by omega)
  have e:decide ((i:Int)<us.length)=true:=by simp;omega
  have e3:=aA (i:=i) (by omega)
  obtain⟨u,hu⟩: ∃u,us[i]? =some u:=⟨_,aOW (by omega)⟩
  have hx:=aOh (NS.jB c) (by omega:0<c.lanes) (i:=i) (by omega)
  obtain⟨w1,w2,w3⟩:=ho.at_ i u _ hu hx;obtain⟨hfo,hfs⟩:=aOt (by omega) h1.2 (NS.jB c) i
  obtain⟨f,hf⟩: ∃f,f=tI c (NS.jB c) i:=⟨_,rfl⟩;have hby:(rF c (i/2/c.lanes+1) (tI c (NS.jB c) i)).2=kP f:=by rw[hf];exact aBp hfs
  rw[<-hf] at hfo hfs;rw[hby] at w2;obtain⟨bo,oo,i1,i2,i3⟩:=(ho.rw_.rs.ext he).iG Gy (i:=i) (x:=u) hu .i64;obtain⟨j1,j2,j3⟩:=i3 H rfl;have t1:=j2 1 _ rfl;rw[(Pm w2).1] at t1;obtain⟨H1,g1,x1⟩:=aBC (m:=m) (by omega) (w2.rs.ext he)
  have hd:qN (kP f)= .tuple #[frV f,.int .i64 0]:=by
   unfold qN;rw[<-N5,aBo hfo hfs]
  rw[hd] at g1;have st:=aBD f H1;obtain⟨H2,hH2⟩: ∃H2,H2=H1++[frB f]:=⟨_,rfl⟩;rw[<-hH2] at st;have x2:Ext H1 H2:=by rw[hH2];exact Fr.app _ _ _
  have b2:H2[H1.length]? =some (frB f):=by rw[hH2];exact gZ _ _
  have zf:Blk.cells [Value.int .u8 0,.int .u8 0,.int .u16 0,.int .u8 0,.int .u8 0,.int .u32 0] 39 .fix=frB Frm.iI:=rfl;have f0:ld1 (.pointer (some ⟨H1.length,0,none⟩)) H2=some (.int .u8 f.kind,H2):=cZ b2 rfl;have f1:ld1 (.pointer (some ⟨H1.length,1,none⟩)) H2=some (.int .u8 f.lane,H2):=cZ b2 rfl;have f2:ld1 (.pointer (some ⟨H1.length,2,none⟩)) H2=some (.int .u16 f.seq,H2):=cZ b2 rfl;have bp2:=hZ bp ((he.tr x1).tr x2);have l2:ld1 (.pointer (some ⟨pb,2,none⟩)) H2=some (.int .i64 (c.lanes:Nat),H2):=by rw[eU bp2 2 (.int .i64 p.lanes) rfl,hlan]
  have l3:ld1 (.pointer (some ⟨pb,3,none⟩)) H2=some (.int .i64 (c.room:Nat),H2):=by rw[eU bp2 3 (.int .i64 p.room) rfl,hroom]
  have hr2:=q9 i 2 ((2:Nat):Int) rfl (by omega)
  have hrl:=q9 (i/2) c.lanes (c.lanes:Nat) rfl (by omega)
  have hq2:bin prog .quo 3 (.int .i64 (i:Nat)) (.int .i64 2)=some (.int .i64 (i/2:Nat)):=by
   rw[Dl _ _ _ _ (by omega)]
   congr 2
   rw[Int.tdiv_eq_ediv_of_nonneg (by omega),dG (by omega) (by omega)]
   omega
  have hcl:=λG=>cvU G f.lane hfo.lane
  have hfl:f.lane=i/2%c.lanes:=by rw[hf];unfold tI;simp only;split<;>rfl
  have z7:((f.lane:Int)!=((i/2%c.lanes:Nat):Int))=false:=by rw[hfl];exact bne_self_eq_false' _
  have z0:((0:Int)!=0)=false:=rfl;simp only[show((2:Nat):Int)=2 from rfl] at hr2
  rw[dY,aBj];rcases Nat.mod_two_eq_zero_or_one i with h2|h2
  ·obtain⟨k1,k2⟩:f.kind=3/\f.seq=start:=by
    rw[hf];unfold tI;simp only;rw[if_pos h2]
    exact⟨rfl,by show c.start%65536=start;omega⟩
   rw[k1] at f0;rw[k2] at f2;simp only[show((3:Nat):Int)=3 from rfl] at f0
   have d0:(((i%2:Nat):Int)==0)=true:=by rw[h2];rfl
   have d1:(((i%2:Nat):Int)==1)=false:=by rw[h2];rfl
   have zk:((3:Int)!=3)=false:=rfl;have zs:((start:Int)!=(start:Int))=false:=by simp
   simp -implicitDefEqProofs only[gsR,hlv,e,i1,t1,g1,zf,st,z0,hr2,d0,d1,f0,zk,f2,zs,f1,hcl,hq2,l2,hrl,z7,cC,e3];exact ih (i+1) l H2 (by omega) (by omega) (by omega) ((he.tr x1).tr x2) ..
  ·obtain⟨k1,k2⟩:f.kind=2/\f.seq=(start+c.room)%65536:=by
    rw[hf];unfold tI;simp only;rw[if_neg (by omega)]
    exact⟨rfl,by show(c.start+(c.room-0))%65536=_;rw[hst];rfl⟩
   rw[k1] at f0;rw[k2] at f2;simp only[show((2:Nat):Int)=2 from rfl] at f0
   have d0:(((i%2:Nat):Int)==0)=false:=by rw[h2];rfl
   have d1:(((i%2:Nat):Int)==1)=true:=by rw[h2];rfl
   have zk:((2:Int)!=2)=false:=rfl;have hu1:prog.underlying 3=some (.int .i64):=by kernel_rfl
   have hu2:prog.underlying 23=some (.int .u16):=by kernel_rfl
   have cr: ∀G,cI prog 3 23 (.int .i64 (c.room:Nat)) G=some (.int .u16 (c.room:Nat),G):=λG=>by
    rw[fF _ _ hu1 hu2,Lb (by omega)]
   have ha:bin prog .add 23 (.int .u16 (start:Nat)) (.int .u16 (c.room:Nat))=some (.int .u16 ((start+c.room)%65536:Nat)):=by
    rw[cC]
    congr 2
    all_goals simp[IntKind.wrap,IntKind.bits,IntKind.signed]
   have zs:((((start+c.room)%65536:Nat):Int)!=(((start+c.room)%65536:Nat):Int))=false:=by simp
   simp -implicitDefEqProofs only[gsR,hlv,e,i1,t1,g1,zf,st,z0,hr2,d0,d1,f0,zk,f2,l3,cr,ha,zs,f1,hcl,hq2,l2,hrl,z7,cC,e3];exact ih (i+1) l H2 (by omega) (by omega) (by omega) ((he.tr x1).tr x2) ..
theorem aOw {pb start tk:Nat}(bp:H0[pb]? =some (plB p ev wv nv))(hst:c.start=start)(hs:start<65536)(hroom:p.room=(c.room:Int))(hlan:p.lanes=(c.lanes:Int))(hev:p.every=(c.every:Int))(htk:tk<256)(hm:1000<m):
  ∀(q j l t0:Nat)(H:aC)(F:Part->Nat->Prop),tk%30-j=q->j<=tk%30->q<l->t0<=7*j->NodeAt H0 H F y p ev wv nv c t0 (Qg c j)-> ∀(x0 x1 x2 x4 x6 x7 x8 x9 bK bN aS aN bG bJ bL bH bE aT aU aV aW aX aY aZ bA bB bO bP bQ bR bS bT bU bV bX bY cD cG cH cK cQ cS cT cM cN cO cP cW cU cV cY dA dC dB dD dN dO dR dS dT dU dV dW dX eG eH eI eJ eK eL eM eN eO eP eQ eS eX eY eZ fA fB fC fD fE fJ fK fL fM fN fO fP fQ fR fS fT fU fV fW fX fY fZ gA gB gC gD gE gF gG gH gR gS gT gU gV gW gX gY iN iO iP iQ iR iS iT iV iW iX iY lE lF lG lH tJ tK tL tM tN tO tP tQ tR tS tT tU tV tW tX tY tZ uA uB uC uD uE uF uG uH:Value),
  ∃H2,aI l (aK prog (lvl prog pkN m) (aI m) Hl) (Hm (lvl prog pkN m) (aI m)) [x0,x1,x2,(.int .u16 start),x4,(.int .u8 tk),x6,x7,x8,x9,bK,bN,(.bool false),(.pointer (some ⟨pb,0,none⟩)),(pt y.nb),(.int .i64 c.by'.length),aS,(.int .i64 (j+1:Nat)),aN,bG,bJ,bL,bH,bE,aT,aU,aV,aW,aX,aY,aZ,bA,bB,bO,bP,bQ,bR,bS,bT,bU,bV,bX,bY,cD,cG,cH,cK,cQ,cS,cT,cM,cN,cO,cP,cW,cU,cV,cY,dA,dC,dB,dD,dN,dO,dR,dS,dT,dU,dV,dW,dX,eG,eH,eI,eJ,eK,eL,eM,eN,eO,eP,eQ,eS,eX,eY,eZ,fA,fB,fC,fD,fE,fJ,fK,fL,fM,fN,fO,fP,fQ,fR,fS,fT,fU,fV,fW,fX,fY,fZ,gA,gB,gC,gD,gE,gF,gG,gH,gR,gS,gT,gU,gV,gW,gX,gY,iN,iO,iP,iQ,iR,iS,iT,iV,iW,iX,iY,lE,lF,lG,lH,tJ,tK,tL,tM,tN,tO,tP,tQ,tR,tS,tT,tU,tV,tW,tX,tY,tZ,uA,uB,uC,uD,uE,uF,uG,uH] H=some (.bool true,H2):=by
 have r1:=uX tk 30 30 rfl (by omega)
 have r2:=λG=>cvU G (tk%30) (by omega)
 intro q;induction q with
 |zero=>
  intro j l t0 H F hr hj hl ht h;intros;obtain⟨l,rfl⟩:=aB l (by omega)
  have e:decide (((j+1:Nat):Int)<=((tk%30:Nat):Int))=false:=aPE (by omega)
  refine⟨H,?_⟩;rw[dY,aBi];simp -implicitDefEqProofs only[gsR,r1,r2,e];rw[aNT];rfl
 |succ q ih=>
  intro j l t0 H F hr hj hl ht h;intros;obtain⟨l,rfl⟩:=aB l (by omega)
  have h1:=h.ok.lanes;have hE:=h.ok.every;have hL6:=h.ok.by';have e:decide (((j+1:Nat):Int)<=((tk%30:Nat):Int))=true:=aPD (by omega)
  have e3:IntKind.i64.wrap (((j+1:Nat):Int)+1)=((j+1+1:Nat):Int):=by rw[dG (by omega) (by omega)];omega
  obtain⟨H1,F1,v,us,g1,h1',m1,o1⟩:=G9 h (by omega) (m:=m) (by omega)
  rw[aOj] at h1' o1;have l6:ld1 (.pointer (some ⟨pb,6,none⟩)) H1=some (.int .i64 (c.every:Nat),H1):=by rw[eU (hZ bp h1'.ext) 6 (.int .i64 p.every) rfl,hev]
  have l2:ld1 (.pointer (some ⟨pb,2,none⟩)) H1=some (.int .i64 (c.lanes:Nat),H1):=by rw[eU (hZ bp h1'.ext) 2 (.int .i64 p.lanes) rfl,hlan]
  have hre:=q9 (j+1) c.every (c.every:Nat) rfl (by omega)
  have hlv:bM v=some (.int .i64 us.length):=o1.rw_.rs.gO;rw[dY,aBi];by_cases hx:(j+1)%c.every=0
  ·rw[if_pos hx] at o1
   have d0:((((j+1)%c.every:Nat):Int)!=0)=false:=by rw[hx];rfl
   have hul:us.length=2*c.by'.length*c.lanes:=by rw[o1.len];exact aBy c _
   have hb2:2*c.by'.length*c.lanes<=100:=aPa (Nat.mul_le_mul (Nat.mul_le_mul_left 2 hL6) h1.2) (by decide)
   have mu1:bin prog .mul 3 (.int .i64 2) (.int .i64 (c.by'.length:Nat))=some (.int .i64 (2*c.by'.length:Nat)):=by
    rw[qC,dG (by omega) (by omega)]
    congr 2
    all_goals omega
   have mu2:bin prog .mul 3 (.int .i64 (2*c.by'.length:Nat)) (.int .i64 (c.lanes:Nat))=some (.int .i64 (us.length:Nat)):=by
    have e9:(((2*c.by'.length:Nat):Int)*((c.lanes:Nat):Int))=((us.length:Nat):Int):=by rw[hul,Int.natCast_mul (2*c.by'.length) c.lanes]
    rw[qC,e9,dG (by omega) (by omega)]
   have d1:((us.length:Int)!=(us.length:Int))=false:=by simp
   simp -implicitDefEqProofs only[gsR,r1,r2,e,g1,l6,hre,d0,hlv,mu1,l2,mu2,d1];refine aOv (Hb:=H1) o1 h1'.ok (hZ bp h1'.ext) hst hs hroom hlan hm ?_ (by omega) us.length 0 m H1 (by omega) (by omega) (by omega) (Fr.nC _ _) ..
   intro H3 hx3;intros;rw[again_normal];exact ih (j+1) l (t0+7) H3 F1 (by omega) (by omega) (by omega) (by omega) (h1'.hP hx3) ..
  ·rw[if_neg hx] at o1
   have hul:us.length=0:=o1.len;rw[hul] at hlv;have d0:((((j+1)%c.every:Nat):Int)!=0)=true:=by rw[bne_iff_ne];omega
   have d1:decide ((0:Int)<((0:Nat):Int))=false:=rfl;simp -implicitDefEqProofs only[gsR,r1,r2,e,g1,l6,hre,d0,hlv,d1,cC,e3];exact ih (j+1) l (t0+7) H1 F1 (by omega) (by omega) (by omega) (by omega) h1' ..
theorem aOu {pb n v tk:Nat}{start:Value}{k:Nat}(hes:Es H ev p.edges)(hve: ∀e∈p.edges,e.1≠e.2)(bp:H[pb]? =some (plB p ev wv nv))(hnod:p.nodes=(n:Int))(hn0:0<n)(hv:v<256)(hL:p.edges.length<=15)(hk:k=v%n)
  (hK: ∀(x0 x1 x2 x4 x6 x7 x8 x9 bK bN aS aN bG bJ bL bH bE aT aU aV aW aX aY aZ bA bB bO bP bQ bR bS bT bU bV bX bY cD cG cH cK cQ cS cT cM cN cO cP cW cU cV cY dA dC dB dD dN dO dR dS dT dU dV dW dX eG eH eI eJ eK eL eM eN eO eP eQ eS eX eY eZ fA fB fC fD fE fJ fK fL fM fN fO fP fQ fR fS fT fU fV fW fX fY fZ gA gB gC gD gE gF gG gH gR gS gT gU gV gW gX gY iN iO iP iQ iR iS iT iV iW iX iY lE lF lG lH tJ tK tL tM tN tO tP tQ tR tS tT tU tV tW tX tY tZ uA uB uC uD uE uF uG uH:Value),∃H2,aI m (aK prog (lvl prog pkN m) (aI m) Hl) (Hm (lvl prog pkN m) (aI m)) [x0,x1,x2,start,x4,(.int .u8 tk),x6,x7,x8,x9,bK,bN,(.bool false),(.pointer (some ⟨pb,0,none⟩)),(pt y.nb),(.int .i64 (kH p.edges (k:Int)).length),aS,(.int .i64 1),aN,bG,bJ,bL,bH,bE,aT,aU,aV,aW,aX,aY,aZ,bA,bB,bO,bP,bQ,bR,bS,bT,bU,bV,bX,bY,cD,cG,cH,cK,cQ,cS,cT,cM,cN,cO,cP,cW,cU,cV,cY,dA,dC,dB,dD,dN,dO,dR,dS,dT,dU,dV,dW,dX,eG,eH,eI,eJ,eK,eL,eM,eN,eO,eP,eQ,eS,eX,eY,eZ,fA,fB,fC,fD,fE,fJ,fK,fL,fM,fN,fO,fP,fQ,fR,fS,fT,fU,fV,fW,fX,fY,fZ,gA,gB,gC,gD,gE,gF,gG,gH,gR,gS,gT,gU,gV,gW,gX,gY,iN,iO,iP,iQ,iR,iS,iT,iV,iW,iX,iY,lE,lF,lG,lH,tJ,tK,tL,tM,tN,tO,tP,tQ,tR,tS,tT,tU,tV,tW,tX,tY,tZ,uA,uB,uC,uD,uE,uF,uG,uH] H=some (.bool true,H2)):
  ∀(q i l:Nat),p.edges.length-i=q->i<=p.edges.length->q<l-> ∀(x0 x1 x2 x6 x7 x8 x9 bK bN bI aN bG bJ bL bH bE aT aU aV aW aX aY aZ bA bB bO bP bQ bR bS bT bU bV bX bY cD cG cH cK cQ cS cT cM cN cO cP cW cU cV cY dA dC dB dD dN dO dR dS dT dU dV dW dX eG eH eI eJ eK eL eM eN eO eP eQ eS eX eY eZ fA fB fC fD fE fJ fK fL fM fN fO fP fQ fR fS fT fU fV fW fX fY fZ gA gB gC gD gE gF gG gH gR gS gT gU gV gW gX gY iN iO iP iQ iR iS iT iV iW iX iY lE lF lG lH tJ tK tL tM tN tO tP tQ tR tS tT tU tV tW tX tY tZ uA uB uC uD uE uF uG uH:Value),
  ∃H2,aI l (aK prog (lvl prog pkN m) (aI m) P2) (P4 (lvl prog pkN m) (aI m)) [x0,x1,x2,start,(.int .u8 v),(.int .u8 tk),x6,x7,x8,x9,bK,bN,(.bool false),(.pointer (some ⟨pb,0,none⟩)),(pt y.nb),(.int .i64 (kH (p.edges.take i) (k:Int)).length),(.int .i64 (i:Nat)),bI,aN,bG,bJ,bL,bH,bE,aT,aU,aV,aW,aX,aY,aZ,bA,bB,bO,bP,bQ,bR,bS,bT,bU,bV,bX,bY,cD,cG,cH,cK,cQ,cS,cT,cM,cN,cO,cP,cW,cU,cV,cY,dA,dC,dB,dD,dN,dO,dR,dS,dT,dU,dV,dW,dX,eG,eH,eI,eJ,eK,eL,eM,eN,eO,eP,eQ,eS,eX,eY,eZ,fA,fB,fC,fD,fE,fJ,fK,fL,fM,fN,fO,fP,fQ,fR,fS,fT,fU,fV,fW,fX,fY,fZ,gA,gB,gC,gD,gE,gF,gG,gH,gR,gS,gT,gU,gV,gW,gX,gY,iN,iO,iP,iQ,iR,iS,iT,iV,iW,iX,iY,lE,lF,lG,lH,tJ,tK,tL,tM,tN,tO,tP,tQ,tR,tS,tT,tU,tV,tW,tX,tY,tZ,uA,uB,uC,uD,uE,uF,uG,uH] H=some (.bool true,H2):=by
 have l0:ld1 (.pointer (some ⟨pb,0,none⟩)) H=some (.int .i64 (n:Nat),H):=by rw[eU bp 0 (.int .i64 p.nodes) rfl,hnod]
 have l1:ld1 (.pointer (some ⟨pb,1,none⟩)) H=some (ev,H):=eU bp 1 ev rfl;have hcv:=λG=>cvU G v hv
 have hrem:=q9 v n (n:Nat) rfl hn0;have hlen:=hes.gO;rw[<-hk] at hrem;intro q;induction q with
 |zero=>
  intro i l hr hi hl;intros;obtain⟨l,rfl⟩:=aB l (by omega)
  obtain rfl:i=p.edges.length:=by omega
  have e:decide ((p.edges.length:Int)<p.edges.length)=false:=by simp
  rw[List.take_of_length_le (aOZ _)];rw[dY,aBh];simp -implicitDefEqProofs only[gsR,l1,hlen,e];rw[aNS];exact hK ..
 |succ q ih=>
  intro i l hr hi hl;intros;obtain⟨l,rfl⟩:=aB l (by omega)
  have e:decide ((i:Int)<p.edges.length)=true:=by simp;omega
  have e3:=aA (i:=i) (by omega)
  obtain⟨z,hz⟩: ∃z,z=p.edges[i]:=⟨_,rfl⟩;have hxi:p.edges[i]? =some z:=by rw[hz];exact aOW (by omega)
  obtain⟨b,o,g1,g2,g3⟩:=hes.iG sZ hxi .i64;obtain⟨j1,j2,j3⟩:=g3 H rfl;have t0:=j2 0 (.int .i64 z.1) rfl;have t1:=j2 1 (.int .i64 z.2) rfl;have hct:=Vx (k:Int) hxi;have hne:=hve z (aO4 hxi);have hcl:=Bn (k:Int) (p.edges.take i);rw[List.length_take] at hcl;have e4:IntKind.i64.wrap (((kH (p.edges.take i) (k:Int)).length:Int)+1)=(((kH (p.edges.take i) (k:Int)).length+1:Nat):Int):=by rw[dG (by omega) (by omega)];omega
  have nx:=ih (i+1) l (by omega) (by omega) (by omega)
  rw[hct,aO6] at nx;rw[dY,aBh];by_cases c1:z.1=(k:Int)
  ·have d1:(z.1==(k:Int))=true:=by simpa using c1
   have hc:(mU (k:Int) z).length=1:=by unfold mU;rw[if_neg hne,if_pos c1];rfl
   rw[hc] at nx;simp -implicitDefEqProofs only[gsR,l1,hlen,e,g1,t0,hcv,l0,hrem,d1,cC,e3,e4];exact nx ..
  ·have d1:(z.1==(k:Int))=false:=by simpa using c1
   by_cases c2:z.2=(k:Int)
   ·have d2:(z.2==(k:Int))=true:=by simpa using c2
    have hc:(mU (k:Int) z).length=1:=by unfold mU;rw[if_neg hne,if_neg c1,if_pos c2];rfl
    rw[hc] at nx;simp -implicitDefEqProofs only[gsR,l1,hlen,e,g1,t0,t1,hcv,l0,hrem,d1,d2,cC,e3,e4];exact nx ..
   ·have d2:(z.2==(k:Int))=false:=by simpa using c2
    have hc:(mU (k:Int) z).length=0:=by unfold mU;rw[if_neg hne,if_neg c1,if_neg c2];rfl
    rw[hc,Nat.add_zero] at nx;simp -implicitDefEqProofs only[gsR,l1,hlen,e,g1,t0,t1,hcv,l0,hrem,d1,d2,cC,e3];exact nx ..
theorem aOs {cv:Value}{cc:List Nat}(hc:Us H cv cc)(hu8: ∀x∈cc,x<256)(hl:cc.length<=72057594037927936)(room more start v tk:Nat)(h2:room<256)(h3:more<256)(h6:start<65536)(h4:v<256)(h5:tk<256):
  ∃H',lvl prog cF 18014398509481984 (.func 3) [cv,.int .u8 room,.int .u8 more,.int .u16 start,.int .u8 v,.int .u8 tk] H=some (.bool true,H')/\True:=by
 obtain⟨H2,ev,wv,nv,g2,x2,hp⟩:=P1 hc hu8 hl room more start h2 h3 h6 (m:=18014398509481984-1) (by omega) (by omega)
 have hpk:=aNO cc room more start;have hst:(tH cc room more start).start=(start:Int):=rfl;obtain⟨q,hq⟩: ∃q,q=tH cc room more start:=⟨_,rfl⟩;have hqn:q.nodes=(((ofT cc).length+1:Nat):Int):=by rw[hq];rfl
 rw[<-hq] at g2 hp hpk hst;have cp:=E3 hp H2;obtain⟨H3,hH3⟩: ∃H3,H3=H2++[plB q ev wv nv]:=⟨_,rfl⟩;rw[<-hH3] at cp;have b3:H3[H2.length]? =some (plB q ev wv nv):=by rw[hH3];exact gZ _ _
 have x3:Ext H2 H3:=by rw[hH3];exact Fr.app _ _ _
 have l3:=kX b3;obtain⟨n,hn⟩: ∃n,n=(ofT cc).length+1:=⟨_,rfl⟩;rw[<-hn] at hqn;have l30:ld1 (.pointer (some ⟨H2.length,0,none⟩)) H3=some (.int .i64 (n:Nat),H3):=by rw[eU b3 0 (.int .i64 q.nodes) rfl,hqn]
 have hcv:=λG=>cvU G v h4
 have hrem:=q9 v n (n:Nat) rfl (by omega)
 have hkn:v%n<n:=Nat.mod_lt _ (by omega)
 obtain⟨H4,F,y,g4,ha⟩:=Hg (hp.ext x3) hpk (by omega) (m:=18014398509481984-1) (by omega) (by omega) (v%n) (by rw[hqn];omega)
 obtain⟨c0,hc0⟩: ∃c0,c0=iJ q (v%n):=⟨_,rfl⟩;have hcm:c0.me=v%n:=by rw[hc0];rfl
 have hcs:c0.start=start:=by rw[hc0];show q.start.toNat=start;rw[hst];rfl
 rw[<-hc0] at ha;obtain⟨nn,hqok⟩:=ha.hp;have hlan:q.lanes=(c0.lanes:Int):=by
  rw[hc0];show q.lanes=(q.lanes.toNat:Int)
  have:=ha.ok.lanes;rw[hc0] at this;have h9:1<=q.lanes.toNat:=this.1;omega
 have hroo:q.room=(c0.room:Int):=by
  rw[hc0];show q.room=(q.room.toNat:Int)
  have:=ha.ok.room;rw[hc0] at this;have h9:1<=q.room.toNat:=this.1;omega
 have heve:q.every=(c0.every:Int):=by
  rw[hc0];show q.every=(q.every.toNat:Int)
  have:=ha.ok.every;rw[hc0] at this;have h9:1<=q.every.toNat:=this.1;omega
 have hby:(kH q.edges ((v%n:Nat):Int)).length=c0.by'.length:=by
  rw[hc0,<-aG6 hqok.ve]
  exact(aO8 _).symm
 have n1:=λa=>(vF 30 a (by kernel_rfl)).1
 obtain⟨H5,g5,x5⟩:=aBm (H:=H4) (18014398509481984-1) (by omega) (by omega)
 have ha5:=ha.hP x5;have hE15:=hqok.e15;have b35:H5[H2.length]? =some (plB q ev wv nv):=hZ b3 (ha.ext.tr x5);refine lK (cL rfl) (by omega) ?_
 rw[aNV];simp -implicitDefEqProofs only[gsR,g2,Bu,cp,hcv,l30,hrem,l3,g4,n1,g5,aBn];obtain⟨H6,g6⟩:=(aOu (m:=18014398509481984-1) (H:=H5) (y:=y) (start:= .int .u16 start) (tk:=tk) ((hp.ext (x3.tr (ha.ext.tr x5))).e) (λe he=>by have:=hqok.ve.ok e he;unfold okE at this;omega) b35 hqn (by omega) h4 (by omega) rfl (by
  rw[hby];exact aOw (m:=18014398509481984-1) b3 hcs h6 hroo hlan heve h5 (by omega) (tk%30) 0 (18014398509481984-1) 0 H5 F (by omega) (by omega) (by omega) (by omega) ha5) q.edges.length 0 (18014398509481984-1) (by omega) (by omega) (by omega) ..)
 exact⟨H6,g6,trivial⟩
end
end Go.Proofs.YtkeilicinggjmaaGreatDoor
