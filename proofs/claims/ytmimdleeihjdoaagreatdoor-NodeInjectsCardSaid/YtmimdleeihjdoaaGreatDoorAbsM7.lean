/-
  PARTS OF THIS CLAIM'S PROOF, laid together by a program of mine.
-/
import Derived.Test.YtmimdleeihjdoaaGreatDoorAbsM6
import Derived.Test.YtmimdleeihjdoaaGreatDoorAbsM5
import Derived.Test.YtmimdleeihjdoaaGreatDoorAbsM4
import Derived.Test.YtmimdleeihjdoaaGreatDoorAbsM3
import Derived.Test.YtmimdleeihjdoaaGreatDoorAbsM2
import Derived.Test.YtmimdleeihjdoaaGreatDoorAbsM1
import Derived.Calls
import Derived.LoopN
import Derived.Orders
import Derived.Laws.Sem
import Derived.Laws.Tables
import Derived.Laws.Cells
import Derived.Laws.StructEq
import Derived.Laws.Append
import Derived.Laws.MakeOwn
import Derived.Laws.Slices
import Derived.Lib.UnsafeStr
import Derived.Laws.BytesString
import Derived.Laws.BytesArg
import Derived.Laws.Pointers
import Derived.Lib.SliceRun
import Derived.Laws.Cover3
import Derived.MapKept
import Derived.WideKeyRuns
import Derived.Scope
import Derived.Test.YtmimdleeihjdoaaGreatDoorProg
import Derived.KernelRfl
import Derived.ProofKit
import Derived.RowKit
import Derived.RowKit3
import Derived.ChangeSame
import Derived.Sort.Grow
import Derived.Ground.NamesProg
import Derived.Shelf.Sort.Plain
import Derived.Shelf.Slices.In.SortNone
import Derived.OpenShut
import Derived.Deep.Slices
import Derived.SizedLaws
set_option linter.unusedVariables false
set_option linter.unusedSimpArgs false
set_option maxRecDepth 100000
namespace Go.Proofs.YtmimdleeihjdoaaGreatDoor
open Go.Proofs.Tryz
open Go.Abs
open Classical
theorem yN (H:aA):H++[Blk.cells [Value.int .i64 0,.int .i64 0,.int .i64 0,.int .u32 0] 31 .fix]=H++[dM pk0]:=rfl
theorem Nj (H:aA)(x:Pkt):stN 4 (.pointer (some ⟨H.length,0,none⟩)) x.dB (H++[dM pk0])=some (undef,H++[dM x]):=by rw[Ee x (dF _ _),mR]
theorem aLw {c:Cfg}{t:Nat}{s:NS}(h:NInv c t s)(k:Int):NInv c t {s with hL:=qL s.hL k}:=by
 refine {h with hL:=λx hx=>h.hL x (We hx),hQ:=λj=> ?_}
 have e:=D4 s.hL k j
 show(fA (qL s.hL k) j).length<=c.queue
 rw[e];by_cases hj:j=k
 ·rw[if_pos hj,List.length_tail]
  have:=h.hQ k;omega
 ·rw[if_neg hj]
  exact h.hQ j
section
variable {H0 H : aA} {F : Part → Nat → Prop} {y : Lay} {p : PlanD} {ev wv nv : Value} {c : Cfg} {t : Nat} {s : NS} {m : Nat}
theorem aLu {K:Ex->K (Value×aA)}{Q:aA->Value->Prop}{k:Nat}(hk:k<c.lanes)(hm:200<m)(h:NodeAt H0 H F y p ev wv nv c t s)
  (hK: ∀H' F',NodeAt H0 H' F' y p ev wv nv c t (nR c s k)->Mv (Un F) (Un F') H H'-> ∀(x1 x2 x3 x4 x5 x6 x7 x8 x9 bI aN aL aM aR aS aO bC bH bV bG bE aT aU aV aW aX aY aZ bA bB bK bL bM bN bO bP bQ bR bS bT cC cD cE cI cP cR cS cM cN cO cQ cV cT cU cY dD dG dE dH:Value),∃H2 r,K .normal [(pt y.nb),x1,x2,x3,x4,x5,x6,x7,x8,x9,bI,(.int .i64 c.lanes),(.int .i64 (k+1:Nat)),aN,aL,aM,aR,aS,aO,bC,bH,bV,bG,bE,aT,aU,aV,aW,aX,aY,aZ,bA,bB,bK,bL,bM,bN,bO,bP,bQ,bR,bS,bT,cC,cD,cE,cI,cP,cR,cS,cM,cN,cO,cQ,cV,cT,cU,cY,dD,dG,dE,dH] H'=some (r,H2)/\Q H2 r):
  ∀(x1 x4 x5 x6 x7 x8 x9 bI aN aL aM aR aS aO bC bH bV bG bE aT aU aV aW aX aY aZ bA bB bK bL bM bN bO bP bQ bR bS bT cC cD cE cI cP cR cS cM cN cO cQ cV cT cU cY dD dG dE dH:Value),∃H2 r,Dq (lvl prog pkN m) (aH m) K (pt y.nb) x1 (.int .i64 (k:Nat)) (.int .i64 (yA c s.rL k:Nat)) x4 x5 x6 x7 x8 x9 bI (.int .i64 c.lanes) (.int .i64 (k:Nat)) aN aL aM aR aS aO bC bH bV bG bE aT aU aV aW aX aY aZ bA bB bK bL bM bN bO bP bQ bR bS bT cC cD cE cI cP cR cS cM cN cO cQ cV cT cU cY dD dG dE dH H=some (r,H2)/\Q H2 r:=by
 intros;have h3:=h.ok.lanes.2;have e9:=nU k (by omega)
 have l4:=h.ld 4 (.int .i64 c.room) rfl;unfold Dq;by_cases c1:c.room<=yA c s.rL k
 ·have c1':decide ((c.room:Int)<=(yA c s.rL k:Nat))=true:=by rw[decide_eq_true_eq];omega
  have hr:nR c s k=s:=by unfold nR;rw[if_pos c1]
  rw[hr] at hK;simp -implicitDefEqProofs only[gsR,l4,c1',cH,e9];exact hK H F h (Mv.Q9 _ _) ..
 ·have c1':decide ((c.room:Int)<=(yA c s.rL k:Nat))=false:=by rw[decide_eq_false_iff_not];omega
  have l14:=h.ld 14 (pt y.hb) rfl;obtain⟨r,H1,F1,n1,n2,n3⟩:=(h.sep.own .host).xM rA (n:=m) (λD hD=>aLr (m:=m) (by omega) hk hD)
  obtain⟨hrv,_⟩:=n2.at_;rw[hrv] at n1;cases hw:fA s.hL k with
  |nil=>
   have hr:nR c s k=s:=by unfold nR;rw[if_neg c1,hw]
   rw[hr] at hK;have hnl:wM s.hL k=s.hL:=by unfold wM;rw[if_pos hw]
   obtain⟨g1,mv1⟩:=h.Ez (L:=s.hL) (G:=s.hG) (Has.uT n2 λD hD=>by rw[<-hnl];exact hD.2) n3 h.inv
   rw[hw] at n1;have n1:lvl prog pkN m (.func 176) [pt y.hb,.int .i64 k] H=some (.tuple #[pk0.dB,.bool false],H1):=n1;have x2:Ext H1 (H1++[dM pk0]):=Fr.app _ _ _;simp -implicitDefEqProofs only[gsR,l4,c1',l14,n1,oT,yN,Nj,cH,e9];exact hK (H1++[dM pk0]) _ (g1.fS x2) (mv1.o5 (Mv.oZ x2 _)) ..
  |cons x xs=>
   have hr:nR c s k={s with hL:=qL s.hL k,rL:=sK c s.rL (0,(c.port x.dst.toNat:Int),k) x}:=by unfold nR;rw[if_neg c1,hw]
   have hinv:=h.inv.aI1 h.ok k;rw[hr] at hK hinv;have hnl:wM s.hL k=qL s.hL k:=by unfold wM;rw[if_neg (by rw[hw];simp)]
   obtain⟨g1,mv1⟩:=h.Ez (L:=qL s.hL k) (G:=s.hG) (Has.uT n2 λD hD=>by rw[<-hnl];exact hD.2) n3 (aLw h.inv k)
   rw[hw] at n1;have n1:lvl prog pkN m (.func 176) [pt y.hb,.int .i64 k] H=some (.tuple #[x.dB,.bool true],H1):=n1;obtain⟨H2,hH2⟩: ∃H2,H2=H1++[dM x]:=⟨_,rfl⟩;have x2:Ext H1 H2:=by rw[hH2];exact Fr.app _ _ _
   have g2:=g1.fS x2;have b2:H2[H1.length]? =some (dM x):=by rw[hH2];exact dF _ _
   have hxm:x∈s.hL:=by
    have:x∈fA s.hL k:=by rw[hw];exact aMI ..
    exact(List.mem_filter.mp this).1
   have hxd:=(h.inv.hL x hxm).dst;obtain⟨d,hd⟩: ∃d:Nat,x.dst=d:=⟨x.dst.toNat,by omega⟩
   have hdt:x.dst.toNat=d:=by omega
   rw[hdt] at hK hinv;have q1:ld1 (.pointer (some ⟨H1.length,1,none⟩)) H2=some (.int .i64 d,H2):=cK b2 (by rw[<-hd];rfl)
   have l15:=g2.ld 15 (pt y.rg) rfl;obtain⟨H3,t1,x3⟩:=Yc g2 (m:=m) (by omega) d (by omega)
   have g3:=g2.fS x3;have l15':=g3.ld 15 (pt y.rg) rfl;have b3:H3[H1.length]? =some (dM x):=by rw[x3.2 _ (dA b2) id,b2]
   have q3:=(pC b3).2;have q3':=(pC b2).2;obtain⟨r',H4,F4,p1,p2,p3⟩:=(g3.sep.own .rings).xM rA (n:=m) (λD hD=>Xe (m:=m) hD (by omega) (0,(c.port d:Int),(k:Int)) x)
   obtain⟨g4,mv4⟩:=g3.Nh (L:=sK c s.rL (0,(c.port d:Int),k) x) p2 p3 hinv;have p1:lvl prog pkN m (.func 177) [pt y.rg,.int .i64 0,.int .i64 (c.port d:Nat),.int .i64 k,x.dB] H3=some (r',H4):=p1;simp -implicitDefEqProofs only[gsR,l4,c1',l14,n1,oT,yN,Nj,<-hH2,l15,q1,t1,l15',uU,q3,q3',Yf,p1,cH,e9];exact hK H4 _ g4 ((mv1.o5 (Mv.oZ (x2.tr x3) _)).o5 mv4) ..
theorem aLv {Hs:aA}{Fs:Part->Nat->Prop}{s0:NS}(h3:c.lanes<=3)(hm:300<m)(h6:c.aF<=6):
  ∀(q k l:Nat)(H:aA)(F:Part->Nat->Prop),c.lanes-k=q->k<=c.lanes->q<l->NodeAt H0 H F y p ev wv nv c t ((List.range k).foldl (nR c) s0)->Mv (Un Fs) (Un F) Hs H-> ∀(x1 x2 x3 x4 x5 x6 x7 x8 x9 bI aN aL aM aR aS aO bC bH bV bG bE aT aU aV aW aX aY aZ bA bB bK bL bM bN bO bP bQ bR bS bT cC cD cE cI cP cR cS cM cN cO cQ cV cT cU cY dD dG dE dH:Value),
  ∃H2 r,aH l (aI prog (lvl prog pkN m) (aH m) Lu) (Lw (lvl prog pkN m) (aH m)) [(pt y.nb),x1,x2,x3,x4,x5,x6,x7,x8,x9,bI,(.int .i64 c.lanes),(.int .i64 (k:Nat)),aN,aL,aM,aR,aS,aO,bC,bH,bV,bG,bE,aT,aU,aV,aW,aX,aY,aZ,bA,bB,bK,bL,bM,bN,bO,bP,bQ,bR,bS,bT,cC,cD,cE,cI,cP,cR,cS,cM,cN,cO,cQ,cV,cT,cU,cY,dD,dG,dE,dH] H=some (r,H2)/\(r=aG []/\ ∃F2,NodeAt H0 H2 F2 y p ev wv nv c t (vY c s0)/\Mv (Un Fs) (Un F2) Hs H2):=by
 intro q;induction q with
 |zero=>
  intro k l H F hq hk hl h hmv;intros;obtain⟨l,rfl⟩: ∃l',l=l'+1:=⟨l-1,by omega⟩
  have hke:k=c.lanes:=by omega
  have c1:decide ((k:Int)<(c.lanes:Int))=false:=by rw[decide_eq_false_iff_not];omega
  rw[aH,Vh];simp -implicitDefEqProofs only[gsR,c1];rw[aIb];rw[hke] at h
  exact⟨_,_,rfl,rfl,F,h,hmv⟩
 |succ q ih=>
  intro k l H F hq hk hl h hmv;intros;obtain⟨l,rfl⟩: ∃l',l=l'+1:=⟨l-1,by omega⟩
  have hkl:k<c.lanes:=by omega
  have c1:decide ((k:Int)<(c.lanes:Int))=true:=by rw[decide_eq_true_eq];omega
  have l13:=h.ld 13 (gL y c) rfl;have e1:bJ (gL y c)=some (.int .i64 c.aF):=rfl;rw[aH,Vh];simp -implicitDefEqProofs only[gsR,c1,l13,e1];refine aLq (kk:=k) (by omega) h ?_ c.aF 0 m (by omega) (by omega) (by omega) ..
  refine aLu hkl (by omega) h ?_
  intro H' F' h' hmv';intros;have hn:(List.range (k+1)).foldl (nR c) s0=nR c ((List.range k).foldl (nR c) s0) k:=by rw[aM8,List.foldl_append];rfl
  rw[<-hn] at h';exact ih (k+1) l H' F' (by omega) (by omega) (by omega) h' (hmv.o5 hmv') ..
theorem aLt (h:NodeAt H0 H F y p ev wv nv c t s)(hm:400<m): ∃H2 F2,lvl prog pkN m (.func 98) [pt y.nb] H=some (aG [],H2)/\NodeAt H0 H2 F2 y p ev wv nv c t (vY c s)/\Mv (Un F) (Un F2) H H2:=by
 have h6:c.aF<=6:=by have:=h.ok.by';unfold Cfg.aF;omega
 have main: ∃H2 r,lvl prog pkN m (.func 98) [pt y.nb] H=some (r,H2)/\(r=aG []/\ ∃F2,NodeAt H0 H2 F2 y p ev wv nv c t (vY c s)/\Mv (Un F) (Un F2) H H2):=by
  refine iK (cF rfl) (by omega) ?_
  rw[aId];have l3:=h.ld 3 (.int .i64 c.lanes) rfl;simp -implicitDefEqProofs only[gsR,l3];exact aLv h.ok.lanes.2 (by omega) h6 c.lanes 0 (m-1) H F (by omega) (by omega) (by have:=h.ok.lanes;omega) h (Mv.Q9 _ _) ..
 obtain⟨H2,r,g1,rfl,F2,g2,g3⟩:=main
 exact⟨H2,F2,g1,g2,g3⟩
end
def slV (v:Value):Value:=if dK [v]=true then v else .slice none 0 0
theorem aLF (v:Value):dK [slV v]=true:=by
 unfold slV;split
 ·assumption
 ·rfl
def sL (u:Nat×Value):List Value:=[.int .i64 u.1,slV u.2]
theorem Yo (u:Nat×Value):(sL u).length=2:=rfl
theorem aLC (u:Nat×Value):dK (sL u)=true:=by
 have:=aLF u.2;unfold dK sL at*;simp only[List.all_cons,List.all_nil,Bool.and_true] at*;rw[this];rfl
theorem aLB {H:aA}{v:Value}{bs:List UInt8}(h:By H v bs):slV v=v/\dL 75 2 1 [.int .i64 0,.slice none 0 0] [(0,.agg #[.int .i64 0,v])] []=some (.slice (some ⟨0,0,none⟩) 1 1,[Blk.cells [.int .i64 0,v] 75 .row]):=by
 obtain⟨_,⟨rfl,_⟩|⟨c,cap,rest,rfl,_⟩⟩:=h<;>exact⟨rfl,rfl⟩
theorem aLz {H:aA}{v:Value}{bs:List UInt8}(h:By H v bs)(to:Nat)(G:aA):dL 75 2 1 [.int .i64 0,.slice none 0 0] [(0,.agg #[.int .i64 to,v])] G=some (.slice (some ⟨G.length,0,none⟩) 1 1,G++[.cells (sL (to,v)) 75 .row]):=by
 obtain⟨_,⟨rfl,_⟩|⟨c,cap,rest,rfl,_⟩⟩:=h<;>rfl
theorem aLA {H:aA}{v:Value}{bs:List UInt8}(h:By H v bs)(to:Nat):bld prog 75 [(0,.int .i64 to),(1,v)]=some (.agg #[.int .i64 to,v]):=by
 obtain⟨_,⟨rfl,_⟩|⟨c,cap,rest,rfl,_⟩⟩:=h<;>rfl
theorem E0 {α:Type}{el:α->List Value}{e:TypeId}{sz:Nat}{H:aA}{v:Value}{xs:List α}(h:Rw el e sz H v xs):v.cells.toList=[v]/\dK [v]=true:=by
 obtain⟨_,⟨rfl,_⟩|⟨c,cap,rest,rfl,_⟩⟩:=h<;>exact⟨rfl,rfl⟩
theorem aLE {α:Type}{el:α->List Value}{e:TypeId}{sz:Nat}{H:aA}{v:Value}{xs:List α}(h:Rw el e sz H v xs)(H':aA):chk (some (v,H')) v=true:=by
 obtain⟨_,⟨rfl,_⟩|⟨c,cap,rest,rfl,_⟩⟩:=h<;>simp[chk,veq]
def uV (v:Value):Blk:= .cells [v] 68 .fix
def pnB (nb:Nat):Blk:= .cells [pt nb] 58 .fix
def rE (vb cb:Nat):Value:= .func (.func 96) #[] #[pt vb,pt cb]
structure OutR (H:aA)(A:Nat->Prop)(v:Value)(us:List (Nat×Value))(outs:kN):Prop where
 rw_:Rw sL 75 2 H v us
 home: ∀b,cG v b->A b
 len:us.length=outs.length
 at_: ∀(i:Nat)(u:Nat×Value)(o:Nat×List UInt8),us[i]? =some u->outs[i]? =some o->u.1=o.1/\By H u.2 o.2/\ ∀b,Go.Abs.cG u.2 b->A b
structure TickS (H0 Hs H:aA)(Fs F:Part->Nat->Prop)(y:Lay)(p:PlanD)(ev wv nv:Value)(c:Cfg)(t:Nat)(s:NS)(vb cb:Nat)(outs:kN):Prop where
 node:NodeAt H0 H F y p ev wv nv c t s
 mv:Mv (Un Fs) (Un F) Hs H
 h0:H0.length<=Hs.length
 cell:H[cb]? =some (pnB y.nb)
 cbF: ¬Un F cb
 vbF: ¬Un F vb
 vb0:Hs.length<=vb
 rows: ∃v us,H[vb]? =some (uV v)/\OutR H (λb=>Hs.length<=b/\ ¬Un F b) v us outs
theorem OutR.aLy {H H':aA}{A A':Nat->Prop}{v:Value}{us:List (Nat×Value)}{outs:kN}(h:OutR H A v us outs)(hk: ∀b,b<H.length->A b->H'[b]? =H[b]? /\A' b):OutR H' A' v us outs where
 rw_:=h.rw_.fP λb hb=>(hk b (h.rw_.iT hb) (h.home b hb)).1
 home:=λb hb=>(hk b (h.rw_.iT hb) (h.home b hb)).2
 len:=h.len
 at_:=λi u o hu ho=>by
  obtain⟨g1,g2,g3⟩:=h.at_ i u o hu ho
  exact⟨g1,g2.fP λb hb=>(hk b (g2.iT hb) (g3 b hb)).1,λb hb=>(hk b (g2.iT hb) (g3 b hb)).2⟩
section
variable {H0 Hs H : aA} {Fs F : Part → Nat → Prop} {y : Lay} {p : PlanD} {ev wv nv : Value} {c : Cfg} {t : Nat} {s : NS} {m : Nat} {vb cb : Nat} {outs : kN}
theorem TickS.tJ {H':aA}{F':Part->Nat->Prop}{t':Nat}{s':NS}(h:TickS H0 Hs H Fs F y p ev wv nv c t s vb cb outs)(hn:NodeAt H0 H' F' y p ev wv nv c t' s')(hm:Mv (Un F) (Un F') H H'):TickS H0 Hs H' Fs F' y p ev wv nv c t' s' vb cb outs:=by
 have key: ∀b,b<H.length-> ¬Un F b->H'[b]? =H[b]? /\ ¬Un F' b:=λb hb hF=>⟨hm.keep b hb hF,λhF'=>(hm.own b hF').elim hF λhl=>by omega⟩
 obtain⟨v,us,r1,r2⟩:=h.rows
 exact⟨hn,h.mv.o5 hm,h.h0,by rw[(key cb (dA h.cell) h.cbF).1,h.cell],(key cb (dA h.cell) h.cbF).2,(key vb (dA r1) h.vbF).2,h.vb0,v,us,by rw[(key vb (dA r1) h.vbF).1,r1],
  r2.aLy λb hb hA=>⟨(key b hb hA.2).1,hA.1,(key b hb hA.2).2⟩⟩
theorem TickS.ext {H':aA}(h:TickS H0 Hs H Fs F y p ev wv nv c t s vb cb outs)(he:Ext H H'):TickS H0 Hs H' Fs F y p ev wv nv c t s vb cb outs:=h.tJ (h.node.fS he) (Mv.oZ he _)
theorem NodeAt.aLx {H':aA}{N:Nat->Prop}(h:NodeAt H0 H F y p ev wv nv c t s)(hf:Fr N H H')(hN: ∀b,N b-> ¬Un F b/\H0.length<=b):NodeAt H0 H' F y p ev wv nv c t s:=by
 have hm:Mv N N H H':=⟨hf.1,λ_ h=> .inl h,λb hb hn=>hf.2 b hb hn⟩
 refine {h with ext:=⟨aMP h.ext.1 hf.1,λa ha _=> ?_⟩,sep:=h.sep.vQ (yL _ _ _ _ _ _ _) hm λa ha hh=>(hN a hh).1 ha}
 rw[hf.2 a (aMO ha h.ext.1) (λhh=>by have:=(hN a hh).2;omega),h.ext.2 a ha id]
theorem aLD {n:Nat}(h:n<3000):iZ n 32=true:=jI (n:=3000) (by decide) (by omega)
theorem Nk (h:TickS H0 Hs H Fs F y p ev wv nv c t s vb cb outs)(hm:200<m){o:Nat}(ho:o<c.aF){f:Frm}(hf:f.ok)(hl:outs.length<1000):
  ∃H',nJ (lvl prog pkN m) (rE vb cb) [.int .i64 o,frV f] H=some (aG [],H')/\TickS H0 Hs H' Fs F y p ev wv nv c t s vb cb (outs++[(jM c o,sH f)])/\
   ∀(b:Nat)(cs:List Value)(e:TypeId)(k:Kind),H[b]? =some (.cells cs e k)->e≠75->b≠vb->H'[b]? =some (.cells cs e k):=by
 show∃H',lvl prog pkN m (.func 96) [.int .i64 o,frV f,pt vb,pt cb] H=_/\_
 obtain⟨H1,hH1⟩: ∃H1,H1=H++[frB f]:=⟨_,rfl⟩;have x1:Ext H H1:=by rw[hH1];exact Fr.app _ _ _
 have e0:H++[Blk.cells (Value.cells (frV f)).toList 71 .fix]=H1:=by rw[hH1];rfl
 have b1:H1[H.length]? =some (frB f):=by rw[hH1];exact dF _ _
 have l6:=(nT b1).2.2.2.2.2.2;obtain⟨H2,w,n1,x2,n2,n3⟩:=aIF (H:=H1) (m:=m-1) (by omega) f hf
 have h2:=(h.ext x1).ext x2;obtain⟨v,us,r1,r2⟩:=h2.rows;have lv:ld1 (pt vb) H2=some (v,H2):=cK r1 rfl;have lc:ld1 (pt cb) H2=some (pt y.nb,H2):=cK h2.cell rfl;have l13:=h2.node.ld 13 (gL y c) rfl;obtain⟨b,oo,a1,a2⟩:=h2.node.wH ho;obtain⟨_,a3,_,_⟩:=a2 _ (.inl h2.node);have eb:=aLA n2 (jM c o);have es:=aLz n2 (jM c o) H2;have hw:Rr sL 75 (H2++[.cells (sL (jM c o,w)) 75 .row]) (.slice (some ⟨H2.length,0,none⟩) 1 1) [(jM c o,w)]:=vN (el:=sL) _ H2;obtain⟨H3,hH3⟩: ∃H3,H3=H2++[Blk.cells (sL (jM c o,w)) 75 .row]:=⟨_,rfl⟩;have hul:us.length<1000:=by have:=r2.len;omega
 obtain⟨v',H4,k1,k2,k3,k4,k5⟩:=(r2.rw_.tX [Blk.cells (sL (jM c o,w)) 75 .row]).vO Yo aLC (by decide) (by':=32) hw.rs (aLD (by show us.length+1<3000;omega))
 rw[<-hH3] at k1 k3 k4 k5 es;have h3l:H3.length=H2.length+1:=by rw[hH3];simp
 have hvb:vb<H2.length:=dA r1;have hvh: ¬cG v vb:=λhh=>by
  obtain⟨cs,hc⟩:=r2.rw_.blk hh;rw[r1] at hc;injection hc with hc;injection hc with _ h2 _
  revert h2
  decide
 have r4:H4[vb]? =some (uV v):=by
  rw[k4 vb (by omega) hvh,hH3,aMC hvb,r1]
 have sh:=E0 k2;have st:stN 1 (pt vb) v' H4=some (undef,H4.set vb (uV v')):=sG r4 (by decide) (by simp) sh.1 sh.2
 refine kJ (cF rfl) (by omega) ⟨H4.set vb (uV v'),?_,?_,?_⟩
 ·rw[aH9]
  simp -implicitDefEqProofs only[gsR,Nat.add_zero,e0,l6,n1,oT,lv,lc,l13,a1,a3,eb,es,k1,st]
 ·have hfr:Fr (λb=>b=vb∨cG v b) H2 (H4.set vb (uV v')):=⟨by simp;omega,λb hb hn=>by
   rw[aMA (λhh=>hn (.inl hh.symm)),k4 b (by omega) (λhh=>hn (.inr hh)),hH3,aMC hb]⟩
  have hN: ∀b,(b=vb∨cG v b)-> ¬Un F b/\Hs.length<=b:=λb hb=>by
   rcases hb with rfl|hb
   ·exact⟨h2.vbF,h2.vb0⟩
   ·exact⟨(r2.home b hb).2,(r2.home b hb).1⟩
  have hnF: ∀b,H2.length<=b-> ¬Un F b:=λb hb hu=>by have:=h2.node.sep.pN b hu;omega
  have hs2:=h2.mv.le;refine⟨h2.node.aLx hfr λb hb=>⟨(hN b hb).1,aMP h2.h0 (hN b hb).2⟩,⟨aMP hs2 hfr.1,h2.mv.own,λb hb hF=> ?_⟩,h2.h0,?_,h2.cbF,h2.vbF,h2.vb0,v',us++[(jM c o,w)],iM r4,?_⟩
  ·rw[hfr.2 b (aMO hb hs2) (λhh=>by have:=(hN b hh).2;omega),h2.mv.keep b hb hF]
  ·rw[hfr.2 cb (dA h2.cell) (λhh=> ?_),h2.cell]
   rcases hh with hh|hh
   ·have:=h2.cell
    rw[hh,r1] at this;injection this with this;injection this with _ h2 _
    revert h2
    decide
   ·obtain⟨cs,hc⟩:=r2.rw_.blk hh
    rw[h2.cell] at hc;injection hc with hc;injection hc with _ h2 _
    revert h2
    decide
  ·have hv'vb: ¬cG v' vb:=λhh=>by
    rcases k5 vb hh with hh|hh
    ·exact hvh hh
    ·omega
   have keepB: ∀(bv:Value)(bs:List UInt8),By H2 bv bs->By (H4.set vb (uV v')) bv bs:=λbv bs hb=>hb.fP λb hhb=>hfr.2 b (hb.iT hhb) λhh=>by
    obtain⟨cs,hc⟩:=hb.blk hhb;rcases hh with rfl|hh
    ·rw[r1] at hc
     injection hc with hc;injection hc with _ h2 _
     revert h2
     decide
    ·obtain⟨cs',hc'⟩:=r2.rw_.blk hh
     rw[hc] at hc';injection hc' with hc';injection hc' with _ h2 _
     revert h2
     decide
   refine⟨k2.fP λb hb=>aMA λhh=>hv'vb (by rw[hh];exact hb),λb hb=> ?_,by simp[r2.len],λi u oo hu hoo=> ?_⟩
   ·rcases k5 b hb with hh|hh
    ·exact r2.home b hh
    ·exact⟨by omega,hnF b (by omega)⟩
   ·by_cases hi:i<us.length
    ·rw[aMC hi] at hu
     rw[aMC (by rw[<-r2.len];exact hi)] at hoo
     obtain⟨g1,g2,g3⟩:=r2.at_ i u oo hu hoo
     exact⟨g1,keepB _ _ g2,g3⟩
    ·have hi2:i=us.length:=by
      have:=(aMz.mp hu).1;simp at this;omega
     subst hi2;rw[aMT (aME _),Nat.sub_self] at hu;rw[aMT (by rw[r2.len];exact aME _),r2.len,Nat.sub_self] at hoo
     simp only[List.getElem?_cons_zero,aM0] at hu hoo;subst hu hoo;refine⟨rfl,keepB _ _ n2,λb hb=> ?_⟩
     have hbn:=n3 b hb;have hsb:Hs.length<=b:=by
      have:=h.mv.le;have:=x1.1;omega
     refine⟨hsb,λhu=> ?_⟩
     have:=h.node.sep.pN b hu;have:=x1.1;omega
 ·intro b cs e k hb hne hbv
  have hb2:H2[b]? =some (.cells cs e k):=by rw[(x1.tr x2).2 _ (dA hb) id,hb]
  rw[aMA (λhh=>hbv hh.symm),k4 b (by rw[h3l];have:=dA hb2;omega) (λhh=> ?_),hH3,aMC (dA hb2),hb2]
  obtain⟨cs',hc'⟩:=r2.rw_.blk hh;rw[hb2] at hc';injection hc' with hc';injection hc' with _ h2 _;exact hne h2
end
theorem aLK {W:List Int}{x w:Whl}{may:Nat->Bool}(h:j9 W x may=(none,w)):w=x:=by
 unfold j9 at h
 split at h
 ·split at h
  ·cases h
  ·cases h;rfl
 ·cases h;rfl
theorem aLJ {α:Type}(f:Nat->α)(i:Nat):up1 f i (f i)=f:=by
 funext j
 unfold up1;split
 ·rename_i h
  rw[h]
 ·rfl
theorem Az (y:Lay)(c:Cfg)(H':aA):chk (some (gL y c,H')) (gL y c)=true:=by simp[chk,veq,gL]
section
variable {H0 Hs H : aA} {Fs F : Part → Nat → Prop} {y : Lay} {p : PlanD} {ev wv nv : Value} {c : Cfg} {t : Nat} {s : NS} {m : Nat} {vb cb : Nat} {outs : kN}
theorem NodeAt.aLG {H':aA}{t' o:Nat}{x':Whl}(h:NodeAt H0 H F y p ev wv nv c t s)(ho:o<c.aF)(hf:Fr (λb=>b=y.wh o∨b=y.wl o) H H')(hB:Blks (kP (y.wh o) (y.ww o) (y.wl o) (y.wc o) (y.lc o) (y.wr o) (y.lr o) c.weights x') H')(hi:NInv c t' {s with whl:=up1 s.whl o x'}):
  NodeAt H0 H' F y p ev wv nv c t' {s with whl:=up1 s.whl o x'}/\Mv (Un F) (Un F) H H':=by
 refine h.Ar (.whl o) (l:=kP (y.wh o) (y.ww o) (y.wl o) (y.wc o) (y.lc o) (y.wr o) (y.lr o) c.weights (s.whl o)) (l':=kP (y.wh o) (y.ww o) (y.wl o) (y.wc o) (y.lc o) (y.wr o) (y.lr o) c.weights x') (by simp only[kQ];rw[if_pos ho]) X6 ?_ ?_ hB hi ?_ ?_
 ·intro q hq
  simp only[kP,aMS,aMZ,or_false] at hq;rcases hq with rfl|rfl|rfl
  ·exact⟨_,aMI ..,rfl⟩
  ·exact⟨_,aMQ _ (aMI ..),rfl⟩
  ·exact⟨_,aMQ _ (aMQ _ (aMI ..)),rfl⟩
 ·refine hf.zF λb hb=> ?_
  rcases hb with rfl|rfl
  ·exact⟨_,aMI ..,rfl⟩
  ·exact⟨_,aMQ _ (aMQ _ (aMI ..)),rfl⟩
 ·have e:up1 s.whl o x' o=x':=if_pos rfl
  simp only[kQ];rw[if_pos ho,e]
 ·intro j hj
  cases j with
  |whl i'=>
   have e:up1 s.whl o x' i'=s.whl i':=if_neg λhh=>hj (by rw[hh])
   simp only[kQ];rw[e]
  |_=>rfl
theorem aLL (h:NodeAt H0 H F y p ev wv nv c t s)(hm:30<m){i o:Nat}(ho:o<c.aF)(hi:NInv c (t+1) {s with whl:=up1 s.whl o (j9 c.weights (s.whl o) (iN c s i o)).2}):
  ∃H',lvl prog pkN m (.func 184) [pt (y.wh o),.int .u16 (cW (iN c s i o) c.lanes:Nat)] H=some (oS (j9 c.weights (s.whl o) (iN c s i o)).1,H')/\NodeAt H0 H' F y p ev wv nv c (t+1) {s with whl:=up1 s.whl o (j9 c.weights (s.whl o) (iN c s i o)).2}/\Mv (Un F) (Un F) H H':=by
 have hw:=h.ok.wlen;have hl:=h.ok.lanes;have hx:=h.inv.whl o;rw[<-hw] at hx;obtain⟨H',g1,g2,g3⟩:=aKD (m:=m) (by omega) (h.aKP ho) (h.lay.ww o ho) hx (λy hy=>by have:=h.ok.wts y hy;omega) (by omega) (by omega) (cW (iN c s i o) c.lanes) (qN _ (by omega))
 have hc:j9 c.weights (s.whl o) (λj=>(cW (iN c s i o) c.lanes).testBit j)=j9 c.weights (s.whl o) (iN c s i o):=aKz λj hj=>by
  rw[kC,decide_eq_true (by omega),aMW]
 rw[hc] at g1 g3;obtain⟨k1,k2⟩:=h.aLG ho g2 g3 hi
 exact⟨H',g1,k1,k2⟩
theorem aLI (h:NodeAt H0 H F y p ev wv nv c t s)(hm:100<m)(i o k:Nat)(hi:NInv c t {s with rL:=oF s.rL ((i:Int),(o:Int),(k:Int))}):
  ∃H' F',lvl prog pkN m (.func 185) [pt y.rg,.int .i64 i,.int .i64 o,.int .i64 k] H=some (Rg.tD (oR s.rL ((i:Int),(o:Int),(k:Int))),H')/\NodeAt H0 H' F' y p ev wv nv c t {s with rL:=oF s.rL ((i:Int),(o:Int),(k:Int))}/\Mv (Un F) (Un F') H H':=by
 obtain⟨r,H',F',p1,p2,p3⟩:=(h.sep.own .rings).xM rA (n:=m) (B:=λr D'=>r=Rg.tD (oR s.rL ((i:Int),(o:Int),(k:Int)))/\RingsN D' y.rg (oF s.rL ((i:Int),(o:Int),(k:Int))) (c.aF*c.lanes*c.room) c.aF c.lanes) (λD hD=>by
  obtain⟨D',g1,g2⟩:=aJ2 (m:=m) hD (by omega) i o k
  exact⟨_,D',g1,rfl,g2⟩)
 obtain⟨hr,_⟩:=p2.at_;rw[hr] at p1;obtain⟨g4,mv4⟩:=h.Nh (Has.uT p2 λD hD=>hD.2) p3 hi
 exact⟨H',_,p1,g4,mv4⟩
theorem aLH (h:NodeAt H0 H F y p ev wv nv c t s)(hm:10<m)(x:Pkt)(hl:s.hG.length<1000000000)(hi:NInv c t {s with hG:=s.hG++[x]}):
  ∃H' F',lvl prog pkN m (.func 187) [pt y.hb,x.dB] H=some (aG [],H')/\NodeAt H0 H' F' y p ev wv nv c t {s with hG:=s.hG++[x]}/\Mv (Un F) (Un F') H H':=by
 obtain⟨r,H',F',p1,p2,p3⟩:=(h.sep.own .host).xM rA (n:=m) (B:=λr D'=>r=aG []/\HostAt D' y.hb s.hL (s.hG++[x]) c.lanes c.queue) (λD hD=>by
  obtain⟨w0,w1,w2,cv,hI⟩:=hD;obtain⟨D',g1,g2⟩:=aIY hI (m:=m) (by omega) x (jI (n:=1000000001) (by decide) (by omega))
  exact⟨_,D',g1,rfl,g2⟩)
 obtain⟨hr,_⟩:=p2.at_;rw[hr] at p1;obtain⟨g4,mv4⟩:=h.Ez (L:=s.hL) (Has.uT p2 λD hD=>hD.2) p3 hi
 exact⟨H',_,p1,g4,mv4⟩
end
section
variable {H0 Hs H : aA} {Fs F : Part → Nat → Prop} {y : Lay} {p : PlanD} {ev wv nv : Value} {c : Cfg} {t : Nat} {s : NS} {m : Nat} {vb cb : Nat} {outs : kN}
def Nl (s:NS)(o k:Nat)(x:Pkt):Frm:=⟨1,k,(s.snd o k).nP.1%65536,(x.src%256).toNat,(x.dst%256).toNat,x.body.toNat⟩
theorem aLO (s:NS)(o k:Nat)(x:Pkt)(hk:k<3)(hb:0<=x.body/\x.body<4294967296):(Nl s o k x).ok where
 kind:=by show 1<256;decide
 lane:=by show k<256;omega
 seq:=Nat.mod_lt _ (by decide)
 src:=by show(x.src%256).toNat<256;omega
 dst:=by show(x.dst%256).toNat<256;omega
 body:=by show x.body.toNat<4294967296;omega
theorem aLN (s:NS)(o k:Nat)(x:Pkt)(hb:0<=x.body)(hk:k<3):
  bld prog 71 [(0,.int .u8 1),(1,.int .u8 k),(2,.int .u16 ((s.snd o k).nP.1%65536:Nat)),(3,.int .u8 (x.src%256)),(4,.int .u8 (x.dst%256)),(5,.int .u32 x.body)]=some (frV (Nl s o k x)):=by
 have e1:(((x.src%256).toNat:Nat):Int)=x.src%256:=Int.toNat_of_nonneg (Int.emod_nonneg _ (by decide))
 have e2:(((x.dst%256).toNat:Nat):Int)=x.dst%256:=Int.toNat_of_nonneg (Int.emod_nonneg _ (by decide))
 have e3:((x.body.toNat:Nat):Int)=x.body:=Int.toNat_of_nonneg hb;rw[<-e1,<-e2,<-e3];rfl
theorem TickS.b15 {H':aA}{F':Part->Nat->Prop}{b:Nat}{x:Blk}(hm:Mv (Un F) (Un F') H H')(hb:H[b]? =some x)(hF: ¬Un F b):H'[b]? =some x/\ ¬Un F' b:=
 ⟨by rw[hm.keep b (dA hb) hF,hb],λhF'=>(hm.own b hF').elim hF λhl=>by have:=dA hb;omega⟩
def aLM (H0 Hs:aA)(Fs:Part->Nat->Prop)(y:Lay)(p:PlanD)(ev wv nv:Value)(c:Cfg)(t:Nat)(vb cb:Nat)(outs:kN)(r:NS×kN)(mb:Nat)(X:Blk)(H':aA)(v:Value):Prop:=
 v=aG []/\H'[mb]? =some X/\ ∃F',TickS H0 Hs H' Fs F' y p ev wv nv c (t+1) r.1 vb cb (outs++r.2)/\ ¬Un F' mb
theorem aLP (h:TickS H0 Hs H Fs F y p ev wv nv c t s vb cb outs)(ht:t<100000000)(hm:300<m){i o:Nat}(hi:i<c.aF)(ho:o<c.aF)(hl:outs.length<1000){mb:Nat}{zs:List Int}(hmb:H[mb]? =some (eU zs []))(hmF: ¬Un F mb)(hmv:mb≠vb):
    ∃H' v,lvl prog pkN m (.func 101) [pt y.nb,.int .i64 i,.int .i64 o,rE vb cb] H=some (v,H')/\aLM H0 Hs Fs y p ev wv nv c t vb cb outs (pS c s i o) mb (eU zs []) H' v:=by
  have hm0:0<m:=by omega
  have hn:=h.node;have hlanes:=hn.ok.lanes;have hmono:=hn.inv.rB (Nat.le_succ t);have l13:=hn.ld 13 (gL y c) rfl;obtain⟨b,oo,a1,a2⟩:=hn.wH ho;obtain⟨_,_,_,a3⟩:=a2 _ (.inl hn);obtain⟨H1,m1,x1⟩:=Yi hn (by omega) (m:=m-1) (by omega) hi ho
  have h1:=h.ext x1;obtain⟨_,_,_,a4⟩:=a2 _ (.inl h1.node);have l13':=h1.node.ld 13 (gL y c) rfl;have hwi:NInv c (t+1) {s with whl:=up1 s.whl o (j9 c.weights (s.whl o) (iN c s i o)).2}:={hmono with whl:=aJf hmono.whl (aJh hn.ok (hmono.whl o) _)};obtain⟨H2,w1,g2,mv2⟩:=aLL h1.node (m:=m-1) (by omega) ho hwi
  have h2:=h1.tJ g2 mv2;have hb2:=TickS.b15 ((Mv.oZ x1 (Un F)).o5 mv2) hmb hmF;cases hpk:(j9 c.weights (s.whl o) (iN c s i o)).1 with
  |none=>
    obtain⟨w',hw'⟩: ∃w',j9 c.weights (s.whl o) (iN c s i o)=(none,w'):=⟨_,Prod.ext hpk rfl⟩;have hr:pS c s i o=(s,[]):=by unfold pS;rw[hw']
    have hww:=aLK hw';rw[hw'] at h2 w1;simp only at h2 w1;rw[hww,aLJ] at h2;have c1:decide ((-1:Int)<0)=true:=rfl;refine⟨H2,_,cX (cF rfl) hm0 ?_,rfl,hb2.1,F,?_,hb2.2⟩
    · rw[Ky]
      simp -implicitDefEqProofs only[gsR,l13,a1,a3,m1,a4,uU,l13',Az,w1,oS,c1]
    · rw[hr]
      rw[List.append_nil];exact h2
  |some k=>
    obtain⟨w',hw'⟩: ∃w',j9 c.weights (s.whl o) (iN c s i o)=(some k,w'):=⟨_,Prod.ext hpk rfl⟩;rw[hw'] at h2 w1 hwi;simp only at h2 w1 hwi;obtain⟨hkl,hmk⟩:=aJg hw';rw[hn.ok.wlen] at hkl;have c1:decide ((k:Int)<0)=false:=by rw[decide_eq_false_iff_not];omega
    -- the queue has one
    have hq0:0<pA s.rL i o k:=by
      unfold iN at hmk;rw[aMH,aMH,decide_eq_true_eq,decide_eq_true_eq] at hmk;exact hmk.1.2
    obtain⟨x,xs,hq⟩: ∃x xs,oR s.rL ((i:Int),(o:Int),(k:Int))=x::xs:=by
      unfold pA at hq0;cases hh:oR s.rL ((i:Int),(o:Int),(k:Int)) with
      |nil=>rw[hh] at hq0;simp at hq0
      |cons x xs=>exact⟨x,xs,rfl⟩
    have hxm:x∈oR s.rL ((i:Int),(o:Int),(k:Int)):=by rw[hq];exact aMI ..
    obtain⟨e,he1,he2,_⟩:=aJe hxm;have hpk0:=hn.inv.rL e he1;rw[he2] at hpk0;have hr:pS c s i o=if o=0 then({s with whl:=up1 s.whl o w',rL:=oF s.rL ((i:Int),(o:Int),(k:Int)),rcv:=sJ s i k,hG:=s.hG++[x]},[])
        else({s with whl:=up1 s.whl o w',rL:=oF s.rL ((i:Int),(o:Int),(k:Int)),rcv:=sJ s i k,snd:=up2 s.snd o k (s.snd o k).nP.2},[(jM c o,sH (Nl s o k x))]):=by
      unfold pS;rw[hw'];simp only;rw[hq];by_cases h0:o=0
      · rw[if_pos h0,if_pos h0]
        rfl
      · rw[if_neg h0,if_neg h0]
        unfold vZ jM;rw[if_neg h0];rfl
    have hi3:NInv c (t+1) {s with whl:=up1 s.whl o w',rL:=oF s.rL ((i:Int),(o:Int),(k:Int))}:={hwi with rL:=λe he=>hwi.rL e (aJd he),rN:=aMP (aJc _ _) hwi.rN}
    obtain⟨H3,F3,p1,g3,mv3⟩:=aLI h2.node (m:=m-1) (by omega) i o k hi3
    have h3:=h2.tJ g3 mv3;have hb3:=TickS.b15 mv3 hb2.1 hb2.2;have p1:lvl prog pkN (m-1) (.func 185) [pt y.rg,.int .i64 i,.int .i64 o,.int .i64 k] H2=some (.tuple #[x.dB,.bool true],H3):=by
      rw[p1];show some (Rg.tD (oR s.rL ((i:Int),(o:Int),(k:Int))),H3)=_
      rw[hq];rfl
    obtain⟨H4,hH4⟩: ∃H4,H4=H3++[dM x]:=⟨_,rfl⟩;have x4:Ext H3 H4:=by rw[hH4];exact Fr.app _ _ _
    have h4:=h3.ext x4;have q4:H4[H3.length]? =some (dM x):=by rw[hH4];exact dF _ _
    have qF4: ¬Un F3 H3.length:=λhu=>by have:=h3.node.sep.pN _ hu;omega
    have hb4:=TickS.b15 (Mv.oZ x4 (Un F3)) hb3.1 hb3.2;have l15:=h2.node.ld 15 (pt y.rg) rfl
    -- behind the pop: the lane of the input is free
    have free: ∃H5,TickS H0 Hs H5 Fs F3 y p ev wv nv c (t+1) {s with whl:=up1 s.whl o w',rL:=oF s.rL ((i:Int),(o:Int),(k:Int)),rcv:=sJ s i k} vb cb outs/\H5[H3.length]? =some (dM x)/\H5[mb]? =some (eU zs [])/\
        ((i=0/\H5=H4)∨(0<i/\ ∃u,lvl prog pkN (m-1) (.func 186) [pt (y.rb i k)] H4=some (u,H5))):=by
      by_cases hi0:i=0
      · refine⟨H4,?_,q4,hb4.1,.inl ⟨hi0,rfl⟩⟩
        have:sJ s i k=s.rcv:=by unfold sJ;rw[if_pos hi0]
        rw[this];exact h4
      · obtain⟨H5,u,r1,r2⟩:=aIv (m:=m-1) (by omega) (h4.node.Eo (by omega) hi hkl) (h4.node.Ep (by omega) i k)
        have hfr:sJ s i k=up2 s.rcv i k (s.rcv i k).tA:=by unfold sJ;rw[if_neg hi0]
        have hi5:NInv c (t+1) {s with whl:=up1 s.whl o w',rL:=oF s.rL ((i:Int),(o:Int),(k:Int)),rcv:=up2 s.rcv i k (s.rcv i k).tA}:={hi3 with rcv:=yF hi3.rcv (hi3.rcv i k).aI5};obtain⟨g5,mv5⟩:=h4.node.Nc (by omega) hi hkl r2 hi5
        refine⟨H5,?_,(TickS.b15 mv5 q4 qF4).1,(TickS.b15 mv5 hb4.1 hb4.2).1,.inr ⟨by omega,u,r1⟩⟩
        rw[hfr];exact h4.tJ g5 mv5
    obtain⟨H5,h5,q5,hb5,hfree⟩:=free
    -- behind that: it is at the host, or on its way
    have hi5:=h5.node.inv;obtain⟨l0,l1,l2,l3,l4⟩:ld1 (.pointer (some ⟨H3.length,0,none⟩)) H5=some (.int .i64 x.src,H5)/\ld1 (.pointer (some ⟨H3.length,1,none⟩)) H5=some (.int .i64 x.dst,H5)/\ld1 (.pointer (some ⟨H3.length,2,none⟩)) H5=some (.int .i64 x.lane,H5)/\ld1 (.pointer (some ⟨H3.length,3,none⟩)) H5=some (.int .u32 x.body,H5)/\ldN 4 (.pointer (some ⟨H3.length,0,none⟩)) H5=some (x.dB,H5):=⟨cK q5 rfl,cK q5 rfl,cK q5 rfl,cK q5 rfl,(pC q5).2⟩;have hst:=Nj H3 x;rw[<-hH4] at hst;have ifree:0<i-> ∃bi oi bj oj,aQ 3 (gL y c) (.int .i64 (i:Int))=some (.pointer (some ⟨bi,oi,none⟩))/\ld1 (.pointer (some ⟨bi,oi+1,none⟩)) H4=some (lZ y c i,H4)/\aQ 2 (lZ y c i) (.int .i64 (k:Int))=some (.pointer (some ⟨bj,oj,none⟩))/\ld1 (.pointer (some ⟨bj,oj+1,none⟩)) H4=some (pt (y.rb i k),H4):=λhpos=>by
      obtain⟨bi,oi,j1,j2⟩:=h4.node.wH hi;obtain⟨_,_,j3,_⟩:=j2 _ (.inl h4.node);obtain⟨bj,oj,j4,_,_,j5⟩:=h4.node.As (by omega) hi hkl
      exact⟨bi,oi,bj,oj,j1,j3,j4,j5⟩
    have l13'':=h4.node.ld 13 (gL y c) rfl;by_cases ho0:o=0
    · rw[if_pos ho0] at hr
      have c3:((o:Int)==0)=true:=by rw[ho0];rfl
      have hgl:s.hG.length<=t:=hn.inv.hG;have hi6:NInv c (t+1) {s with whl:=up1 s.whl o w',rL:=oF s.rL ((i:Int),(o:Int),(k:Int)),rcv:=sJ s i k,hG:=s.hG++[x]}:={hi5 with hG:=by simp;omega}
      obtain⟨H6,F6,k1,g6,mv6⟩:=aLH h5.node (m:=m-1) (by omega) x (by show s.hG.length<_;omega) hi6
      have h6:=h5.tJ g6 mv6;have hb6:=TickS.b15 mv6 hb5 hb4.2;have l14:=h5.node.ld 14 (pt y.hb) rfl;refine⟨H6,aG [],cX (cF rfl) hm0 ?_,rfl,hb6.1,F6,by rw[hr,List.append_nil];exact h6,hb6.2⟩
      rw[Ky];rcases hfree with⟨hi0,hH5⟩|⟨hpos,u,r1⟩
      · have c2:decide ((0:Int)<(i:Int))=false:=by rw[decide_eq_false_iff_not];omega
        rw[hH5] at l14 l4 k1;simp -implicitDefEqProofs only[gsR,l13,a1,a3,m1,a4,uU,l13',Az,w1,oS,c1,l15,p1,oT,yN,hst,<-hH4,c2,c3,l14,l4,k1]
      · have c2:decide ((0:Int)<(i:Int))=true:=by rw[decide_eq_true_eq];omega
        obtain⟨bi,oi,bj,oj,j1,j2,j3,j4⟩:=ifree hpos;simp -implicitDefEqProofs only[gsR,l13,a1,a3,m1,a4,uU,l13',Az,w1,oS,c1,l15,p1,oT,yN,hst,<-hH4,c2,l13'',j1,j2,j3,j4,r1,c3,l14,l4,k1]
    · rw[if_neg ho0] at hr
      have c3:((o:Int)==0)=false:=by rw[beq_eq_false_iff_ne];omega
      obtain⟨H6,r6,p6⟩:=aIB (m:=m-1) (by omega) (h5.node.Er (by omega) ho hkl) (h5.node.Nd (by omega) o k)
      have hi6:NInv c (t+1) {s with whl:=up1 s.whl o w',rL:=oF s.rL ((i:Int),(o:Int),(k:Int)),rcv:=sJ s i k,snd:=up2 s.snd o k (s.snd o k).nP.2}:={hi5 with snd:=yF hi5.snd (hn.inv.snd o k).aI8};obtain⟨g6,mv6⟩:=h5.node.X3 (by omega) ho hkl p6 hi6
      have h6:=h5.tJ g6 mv6;have q6:=(TickS.b15 mv6 q5 qF4).1;have hb6:=TickS.b15 mv6 hb5 hb4.2;obtain⟨n0,n1,n3⟩:ld1 (.pointer (some ⟨H3.length,0,none⟩)) H6=some (.int .i64 x.src,H6)/\ld1 (.pointer (some ⟨H3.length,1,none⟩)) H6=some (.int .i64 x.dst,H6)/\ld1 (.pointer (some ⟨H3.length,3,none⟩)) H6=some (.int .u32 x.body,H6):=⟨cK q6 rfl,cK q6 rfl,cK q6 rfl⟩;obtain⟨H7,s7,h7,hk7⟩:=Nk h6 (m:=m-1) (by omega) ho (aLO s o k x (by omega) hpk0.body) hl
      have hb7:=hk7 mb _ _ _ hb6.1 (by decide) hmv
      obtain⟨bi',oi',i1,i2⟩:=h5.node.wH ho;obtain⟨_,_,i3,_⟩:=i2 _ (.inl h5.node);obtain⟨rfl,rfl⟩:bi'=b/\oi'=oo:=by
        have:=i1.symm.trans a1;simpa using this
      obtain⟨bj',oj',i4,_,i5,_⟩:=h5.node.As (by omega) ho hkl
      have l13c:=h5.node.ld 13 (gL y c) rfl;have ek:IntKind.u8.wrap (k:Int)=(k:Int):=by rw[zJ];omega
      have eq:IntKind.u16.wrap ((s.snd o k).nP.1:Int)=(((s.snd o k).nP.1%65536:Nat):Int):=Ac _;have ebl:=aLN s o k x hpk0.body.1 (by omega)
      have r6:lvl prog pkN (m-1) (.func 188) [pt (y.sb o k)] H5=some (.tuple #[.int .u64 (s.snd o k).nP.1,.bool (decide ((s.snd o k).l≠(s.snd o k).s))],H6):=r6;refine⟨H7,aG [],cX (cF rfl) hm0 ?_,rfl,hb7,F3,by rw[hr];exact h7,hb6.2⟩
      rw[Ky];rcases hfree with⟨hi0,hH5⟩|⟨hpos,u,r1⟩
      · have c2:decide ((0:Int)<(i:Int))=false:=by rw[decide_eq_false_iff_not];omega
        rw[hH5] at l13c i3 i5 r6;simp -implicitDefEqProofs only[gsR,Nat.add_zero,l13,a1,a3,m1,a4,uU,l13',Az,w1,oS,c1,l15,p1,oT,yN,hst,<-hH4,c2,c3,l13c,i1,i3,i4,i5,r6,eZ _ _ iU u8U,eZ _ _ pU mJ,ek,eq,n0,n1,n3,zJ,ebl,s7]
      · have c2:decide ((0:Int)<(i:Int))=true:=by rw[decide_eq_true_eq];omega
        obtain⟨bi,oi,bj,oj,j1,j2,j3,j4⟩:=ifree hpos;simp -implicitDefEqProofs only[gsR,Nat.add_zero,l13,a1,a3,m1,a4,uU,l13',Az,w1,oS,c1,l15,p1,oT,yN,hst,<-hH4,c2,l13'',j1,j2,j3,j4,r1,c3,l13c,i1,i3,i4,i5,r6,eZ _ _ iU u8U,eZ _ _ pU mJ,ek,eq,n0,n1,n3,zJ,ebl,s7]
end
def exF (s:NS)(c:Cfg)(i k:Nat):kN:=[vZ c i ⟨3,k,(s.snd i k).s%65536,0,0,0⟩,vZ c i ⟨2,k,(s.rcv i k).lM c.room%65536,0,0,0⟩]
def rF (s:NS)(c:Cfg)(i k:Nat):kN:=(List.range k).flatMap (exF s c i)
def exP (s:NS)(c:Cfg)(i:Nat):kN:=if i=0 then [] else rF s c i c.lanes
def pD (s:NS)(c:Cfg)(i:Nat):kN:=(List.range i).flatMap (exP s c)
theorem Yp (s:NS)(c:Cfg)(i k:Nat):rF s c i (k+1)=rF s c i k++exF s c i k:=by
 unfold rF;rw[aM8,List.flatMap_append];simp
theorem Nn (s:NS)(c:Cfg)(i:Nat):pD s c (i+1)=pD s c i++exP s c i:=by
 unfold pD;rw[aM8,List.flatMap_append];simp
theorem Nm (s:NS)(c:Cfg)(i:Nat): ∀k,(rF s c i k).length=2*k
 |0=>rfl
 |k+1=>by
  rw[Yp,aML,Nm s c i k];simp[exF];omega
theorem Yq (s:NS)(c:Cfg)(h3:c.lanes<=3): ∀i,(pD s c i).length<=6*i
 |0=>by simp[pD]
 |i+1=>by
  rw[Nn,aML];have:=Yq s c h3 i;have:(exP s c i).length<=6:=by
   unfold exP;split
   ·simp
   ·rw[Nm]
    omega
  omega
theorem aLS (s:NS)(c:Cfg):sI c s=pD s c c.aF:=by
 unfold sI pD Cfg.aF;rw[List.range_succ_eq_map,List.flatMap_cons,List.flatMap_map];have:exP s c 0=[]:=rfl;rw[this,List.nil_append];rfl
section
variable {H0 Hs H : aA} {Fs F : Part → Nat → Prop} {y : Lay} {p : PlanD} {ev wv nv : Value} {c : Cfg} {t : Nat} {s : NS} {m : Nat} {vb cb : Nat} {outs : kN}
theorem aLR (k q:Nat):bld prog 71 [(0,.int .u8 3),(1,.int .u8 k),(2,.int .u16 q)]=some (frV ⟨3,k,q,0,0,0⟩):=rfl
theorem aLQ (k q:Nat):bld prog 71 [(0,.int .u8 2),(1,.int .u8 k),(2,.int .u16 q)]=some (frV ⟨2,k,q,0,0,0⟩):=rfl
theorem Yr (a k q:Nat)(ha:a<256)(hk:k<256):(⟨a,k,q%65536,0,0,0⟩:Frm).ok:=⟨ha,hk,Nat.mod_lt _ (by decide),by show 0<256;decide,by show 0<256;decide,by show 0<4294967296;decide⟩
theorem aLT {i:Nat}(h1:1<=i)(hi:i<c.aF)(h3:c.lanes<=3)(ht:t<100000000)(hol:outs.length<900)(hm:220<m){K:Ex->K (Value×aA)}{Q:aA->Value->Prop}
  (hK: ∀H',TickS H0 Hs H' Fs F y p ev wv nv c t s vb cb (outs++rF s c i c.lanes)-> ∀(x2 x3 x4 x5 x6 x7 x8 x9 bI aL aM aR aS aO bC bH bV bG bE aT aU aV aW aX aY aZ bA bB bK bL bM bN bO bP bQ bR bS bT cC cD cE cI cP:Value),∃H2 r,Dm (lvl prog pkN m) (aH m) K (pt y.nb) (rE vb cb) x2 x3 x4 x5 x6 x7 x8 x9 bI (gL y c) (.int .i64 c.aF) (.int .i64 (i:Nat)) aL aM aR aS aO bC bH bV bG bE aT aU aV aW aX aY aZ bA bB bK bL bM bN bO bP bQ bR bS bT cC cD cE cI cP H'=some (r,H2)/\Q H2 r):
  ∀(q k l:Nat)(H:aA),c.lanes-k=q->k<=c.lanes->q<l->TickS H0 Hs H Fs F y p ev wv nv c t s vb cb (outs++rF s c i k)-> ∀(x2 x3 x5 x6 x7 x8 x9 bI aL aM aR aS aO bG bE aT aU aV aW aX aY aZ bA bB bK bL bM bN bO bP bQ bR bS bT cC cD cE cI cP:Value),
  ∃H2 r,aH l (aI prog (lvl prog pkN m) (aH m) K1) (K3 (lvl prog pkN m) (aH m) K) [(pt y.nb),(rE vb cb),x2,x3,(.int .i64 (i:Nat)),x5,x6,x7,x8,x9,bI,(gL y c),(.int .i64 c.aF),(.int .i64 (i:Nat)),aL,aM,aR,aS,aO,(lZ y c i),(.int .i64 c.lanes),(.int .i64 (k:Nat)),bG,bE,aT,aU,aV,aW,aX,aY,aZ,bA,bB,bK,bL,bM,bN,bO,bP,bQ,bR,bS,bT,cC,cD,cE,cI,cP] H=some (r,H2)/\Q H2 r:=by
 intro q;induction q with
 |zero=>
  intro k l H hq hk hl h;intros;obtain⟨l,rfl⟩: ∃l',l=l'+1:=⟨l-1,by omega⟩
  have hke:k=c.lanes:=by omega
  subst hke;have c1:decide ((c.lanes:Int)<(c.lanes:Int))=false:=by simp
  rw[aH,Kz];simp -implicitDefEqProofs only[gsR,c1];rw[Uz];exact hK H h ..
 |succ q ih=>
  intro k l H hq hk hl h;intros;obtain⟨l,rfl⟩: ∃l',l=l'+1:=⟨l-1,by omega⟩
  have hkl:k<c.lanes:=by omega
  have c1:decide ((k:Int)<(c.lanes:Int))=true:=by rw[decide_eq_true_eq];omega
  have hil:=Nm s c i k;obtain⟨b,o,a1,a2,_,_⟩:=h.node.As h1 hi hkl;have a2:ldN 2 (.pointer (some ⟨b,o,none⟩)) H=some (.agg #[pt (y.sb i k),pt (y.rb i k)],H):=a2;obtain⟨H1,hH1⟩: ∃H1,H1=H++[eY (pt (y.sb i k)) (pt (y.rb i k))]:=⟨_,rfl⟩;have x1:Ext H H1:=by rw[hH1];exact Fr.app _ _ _
  have g1:=h.ext x1;have st:=Ni H (pt (y.sb i k)) (pt (y.rb i k)) rfl;rw[<-hH1] at st;have b1:H1[H.length]? =some (eY (pt (y.sb i k)) (pt (y.rb i k))):=by rw[hH1];exact dF _ _
  have l0:=(tG b1).2.1;have s1:=aIC (m:=m) (by omega) (g1.node.Er h1 hi hkl)
  have ek:IntKind.u8.wrap (k:Int)=(k:Int):=by rw[zJ];omega
  have e1:IntKind.u16.wrap ((s.snd i k).s:Int)=(((s.snd i k).s%65536:Nat):Int):=Ac _;obtain⟨H2,r1,g2,k2⟩:=Nk g1 (m:=m) (by omega) hi (Yr 3 k (s.snd i k).s (by decide) (by omega)) (by rw[aML];omega)
  have hvb:H.length≠vb:=λhh=>by
   obtain⟨v,us,r,_⟩:=h.rows;have:=dA r;omega
  have b2:H2[H.length]? =some (eY (pt (y.sb i k)) (pt (y.rb i k))):=k2 _ _ _ _ b1 (by decide) hvb
  have l1:=(tG b2).2.2;have s2:=aIx (m:=m) (by omega) (g2.node.Eo h1 hi hkl) (g2.node.Ep (by omega) i k)
  have e2:IntKind.u16.wrap (((s.rcv i k).lM c.room:Nat):Int)=(((s.rcv i k).lM c.room%65536:Nat):Int):=Ac _;obtain⟨H3,r2,g3,_⟩:=Nk g2 (m:=m) (by omega) hi (Yr 2 k ((s.rcv i k).lM c.room) (by decide) (by omega)) (by simp only[aML,aMV,List.length_nil];omega)
  have e9:=nU k (by omega)
  have hto:jM c i=c.by'.getD (i-1) 0:=by unfold jM;rw[if_neg (by omega)]
  have hnext:outs++rF s c i k++[(jM c i,sH ⟨3,k,(s.snd i k).s%65536,0,0,0⟩)]++[(jM c i,sH ⟨2,k,(s.rcv i k).lM c.room%65536,0,0,0⟩)]=outs++rF s c i (k+1):=by
   rw[Yp,hto];simp[exF,vZ]
  rw[hnext] at g3;rw[aH,Kz];simp -implicitDefEqProofs only[gsR,c1,a1,a2,Ax,st,eZ _ _ iU u8U,ek,l0,s1,eZ _ _ pU mJ,e1,aLR,r1,l1,s2,e2,aLQ,r2,cH,e9];exact ih (k+1) l H3 (by omega) (by omega) (by omega) g3 ..
theorem aLV (h3:c.lanes<=3)(h6:c.aF<=6)(ht:t<100000000)(hol:outs.length<800)(hm:300<m):
  ∀(q i l:Nat)(H:aA),c.aF-i=q->i<=c.aF->q<l->TickS H0 Hs H Fs F y p ev wv nv c t s vb cb (outs++pD s c i)-> ∀(x2 x3 x4 x5 x6 x7 x8 x9 bI aL aM aR aS aO bC bH bV bG bE aT aU aV aW aX aY aZ bA bB bK bL bM bN bO bP bQ bR bS bT cC cD cE cI cP:Value),
  ∃H2 r,aH l (aI prog (lvl prog pkN m) (aH m) K0) (K2 (lvl prog pkN m) (aH m)) [(pt y.nb),(rE vb cb),x2,x3,x4,x5,x6,x7,x8,x9,bI,(gL y c),(.int .i64 c.aF),(.int .i64 (i:Nat)),aL,aM,aR,aS,aO,bC,bH,bV,bG,bE,aT,aU,aV,aW,aX,aY,aZ,bA,bB,bK,bL,bM,bN,bO,bP,bQ,bR,bS,bT,cC,cD,cE,cI,cP] H=some (r,H2)/\(r=aG []/\TickS H0 Hs H2 Fs F y p ev wv nv c t s vb cb (outs++sI c s)):=by
 intro q;induction q with
 |zero=>
  intro i l H hq hi hl h;intros;obtain⟨l,rfl⟩: ∃l',l=l'+1:=⟨l-1,by omega⟩
  have hie:i=c.aF:=by omega
  subst hie;have c1:decide ((c.aF:Int)<(c.aF:Int))=false:=by simp
  rw[aH,Uy];simp -implicitDefEqProofs only[gsR,c1];rw[aG7];rw[aLS]
  exact⟨_,_,rfl,rfl,h⟩
 |succ q ih=>
  intro i l H hq hi hl h;intros;obtain⟨l,rfl⟩: ∃l',l=l'+1:=⟨l-1,by omega⟩
  have hil:i<c.aF:=by omega
  have c1:decide ((i:Int)<(c.aF:Int))=true:=by rw[decide_eq_true_eq];omega
  have hul:=Yq s c h3 i;obtain⟨b,o,a1,a2⟩:=h.node.wH hil;obtain⟨a3,_,_,_⟩:=a2 _ (.inl h.node);obtain⟨H1,hH1⟩: ∃H1,H1=H++[mU y c i]:=⟨_,rfl⟩;have x1:Ext H H1:=by rw[hH1];exact Fr.app _ _ _
  have g1:=h.ext x1;have hlv:dK [lZ y c i]=true:=by unfold lZ;split<;>rfl
  have st:stN 3 (.pointer (some ⟨H.length,0,none⟩)) (.agg ⟨fB y c i⟩) (H++[Blk.cells [Value.int .i64 0,.slice none 0 0,.pointer none] 167 .fix])=some (undef,H1):=by
   rw[xY (n:=3) (vs:=fB y c i) (dF H _) (by decide) rfl rfl (aME 3) (by unfold fB lZ;split<;>rfl),mR,hH1]
   rfl
  have b1:H1[H.length]? =some (mU y c i):=by rw[hH1];exact dF _ _
  have l1:ld1 (.pointer (some ⟨H.length,1,none⟩)) H1=some (lZ y c i,H1):=cK b1 rfl;have e9:=nU i (by omega)
  rw[aH,Uy];by_cases hi0:i=0
  ·have e1:bJ (lZ y c i)=some (.int .i64 0):=by unfold lZ;rw[if_pos hi0];rfl
   simp -implicitDefEqProofs only[gsR,c1,a1,a3,st,l1,e1];have hx:outs++pD s c (i+1)=outs++pD s c i:=by rw[Nn];unfold exP;rw[if_pos hi0,List.append_nil]
   obtain⟨m',hm'⟩: ∃m',m=m'+1:=⟨m-1,by omega⟩
   have c2:decide ((0:Int)<0)=false:=rfl;rw[show aH m=aH (m'+1) by rw[hm'],aH,<-hm',Kz]
   simp -implicitDefEqProofs only[gsR,c2];rw[Uz];unfold Dm;simp -implicitDefEqProofs only[gsR,cH,e9];exact ih (i+1) l H1 (by omega) (by omega) (by omega) (by rw[hx];exact g1) ..
  ·have e1:bJ (lZ y c i)=some (.int .i64 c.lanes):=by unfold lZ;rw[if_neg hi0];rfl
   simp -implicitDefEqProofs only[gsR,c1,a1,a3,st,l1,e1];refine aLT (outs:=outs++pD s c i) (by omega) hil h3 ht (by rw[aML];omega) (by omega) ?_ c.lanes 0 m H1 (by omega) (by omega) (by omega) (by unfold rF;simpa using g1) ..
   intro H' h';intros;unfold Dm;simp -implicitDefEqProofs only[gsR,cH,e9];have hx:outs++pD s c (i+1)=outs++pD s c i++rF s c i c.lanes:=by rw[Nn];unfold exP;rw[if_neg hi0,aMG]
   exact ih (i+1) l H' (by omega) (by omega) (by omega) (by rw[hx];exact h') ..
theorem aLU (h:TickS H0 Hs H Fs F y p ev wv nv c t s vb cb outs)(ht:t<100000000)(hol:outs.length<800)(hm:400<m):
  ∃H2,lvl prog pkN m (.func 102) [pt y.nb,rE vb cb] H=some (aG [],H2)/\TickS H0 Hs H2 Fs F y p ev wv nv c t s vb cb (outs++sI c s):=by
 have h6:c.aF<=6:=by have:=h.node.ok.by';unfold Cfg.aF;omega
 have main: ∃H2 r,lvl prog pkN m (.func 102) [pt y.nb,rE vb cb] H=some (r,H2)/\(r=aG []/\TickS H0 Hs H2 Fs F y p ev wv nv c t s vb cb (outs++sI c s)):=by
  refine iK (cF rfl) (by omega) ?_
  rw[aG8];have l13:=h.node.ld 13 (gL y c) rfl;have e1:bJ (gL y c)=some (.int .i64 c.aF):=rfl;simp -implicitDefEqProofs only[gsR,l13,e1];exact aLV h.node.ok.lanes.2 h6 ht hol (by omega) c.aF 0 (m-1) H (by omega) (by omega) (by omega) (by unfold pD;simpa using h) ..
 obtain⟨H2,r,g1,rfl,g2⟩:=main
 exact⟨H2,g1,g2⟩
end
theorem Ys (c:Cfg)(m:List Int): ∀(l1 l2:List Nat)(s:NS×kN),tB c m (l1++l2) s=tB c m l2 (tB c m l1 s)
 |[],_,_=>rfl
 |i::l1,l2,s=>by rw[List.cons_append,tB,tB,Ys c m l1 l2]
def fT (c:Cfg)(m:List Int)(s:NS)(i:Nat):NS×kN:=tB c m (List.range i) (s,[])
theorem Nq (c:Cfg)(m:List Int)(s:NS)(i:Nat):fT c m s (i+1)=if 0<=m.getD i 0 then((pS c (fT c m s i).1 i (m.getD i 0).toNat).1,(fT c m s i).2++(pS c (fT c m s i).1 i (m.getD i 0).toNat).2) else fT c m s i:=by
 unfold fT;rw[aM8,Ys];rfl
theorem aL0 (c:Cfg)(s:NS)(i o:Nat):(pS c s i o).2.length<=1:=by
 unfold pS;split
 ·simp
 ·simp only
  split<;>simp
theorem aL1 (c:Cfg)(s:NS)(i o:Nat):(pS c s i o).1.ticks=s.ticks:=by
 unfold pS;split
 ·rfl
 ·simp only
  split<;>rfl
theorem Np (c:Cfg)(m:List Int)(s:NS): ∀i,(fT c m s i).2.length<=i
 |0=>by simp[fT,tB]
 |i+1=>by
  have:=Np c m s i;have:=aL0 c (fT c m s i).1 i (m.getD i 0).toNat;rw[Nq];split
  ·simp only[aML]
   omega
  ·omega
theorem Nr (c:Cfg)(m:List Int)(s:NS): ∀i,(fT c m s i).1.ticks=s.ticks
 |0=>rfl
 |i+1=>by
  rw[Nq];split
  ·simp only
   rw[aL1,Nr c m s i]
  ·exact Nr c m s i
theorem aLY (c:Cfg)(s:NS)(k:Nat):(nR c s k).ticks=s.ticks:=by
 unfold nR;split
 ·rfl
 ·split<;>rfl
theorem aLZ (c:Cfg)(s:NS):(vY c s).ticks=s.ticks:=by
 unfold vY;have: ∀(l:List Nat)(s:NS),(l.foldl (nR c) s).ticks=s.ticks:=by
  intro l;induction l with
  |nil=>intro s;rfl
  |cons k l ih=>intro s;rw[List.foldl_cons,ih,aLY]
 exact this _ _
theorem aLX (i:Nat)(hi:i<1000000000):IntKind.i64.wrap ((i:Int)+1)=((i+1:Nat):Int):=by rw[dJ (by omega) (by omega)];omega
section
variable {H0 Hs H : aA} {Fs F : Part → Nat → Prop} {y : Lay} {p : PlanD} {ev wv nv : Value} {c : Cfg} {t : Nat} {s : NS} {m : Nat} {vb cb : Nat} {outs : kN}
def No (H0 Hs:aA)(Fs:Part->Nat->Prop)(y:Lay)(p:PlanD)(ev wv nv:Value)(c:Cfg)(t:Nat)(s':NS)(vb cb:Nat)(outs:kN)(H':aA)(v:Value):Prop:=
 ∃F' us,TickS H0 Hs H' Fs F' y p ev wv nv c t s' vb cb outs/\OutR H' (λb=>Hs.length<=b/\ ¬Un F' b) v us outs
theorem NodeAt.aLW (h:NodeAt H0 H F y p ev wv nv c t s)(hi:NInv c t {s with ticks:=s.ticks+1}):
  NodeAt H0 (H.set y.nb (uR p.bag ev wv nv y c (s.ticks+1))) F y p ev wv nv c t {s with ticks:=s.ticks+1}/\Mv (Un F) (Un F) H (H.set y.nb (uR p.bag ev wv nv y c (s.ticks+1))):=by
 have hB:=h.sep.see .node rfl wI;refine h.Ar .node (l:=lQ p.bag ev wv nv y c s.ticks) (l':=lQ p.bag ev wv nv y c (s.ticks+1)) rfl wI ?_ ?_ ?_ hi rfl ?_
 ·intro q hq
  simp only[lQ,aMS,aNc] at hq;rcases hq with rfl|rfl|⟨j,hj,rfl⟩
  ·exact⟨_,aMI ..,rfl⟩
  ·exact⟨_,aMQ _ (aMI ..),rfl⟩
  ·exact⟨(y.lb (j+1),nW y c (j+1)),by simp only[lQ,aMS,aNc];exact .inr (.inr ⟨j,hj,rfl⟩),rfl⟩
 ·exact⟨by simp,λb hb hn=>aMA λhh=>hn ⟨_,aMI ..,hh⟩⟩
 ·intro q hq
  have hnb:=h.nbB;simp only[lQ,aMS,aNc] at hq;rcases hq with rfl|rfl|⟨j,hj,rfl⟩
  ·exact iM hnb
  ·have h2:H[y.pb]? =some (wJ y c):=hB (y.pb,wJ y c) (by simp[lQ])
   simp only;rw[aMA (λhh=> ?_),h2]
   rw[<-hh,hnb] at h2;injection h2 with h2;injection h2 with _ h2 _
   revert h2
   decide
  ·have h2:H[y.lb (j+1)]? =some (nW y c (j+1)):=hB (y.lb (j+1),nW y c (j+1)) (by simp only[lQ,aMS,aNc];exact .inr (.inr ⟨j,hj,rfl⟩))
   simp only;rw[aMA (λhh=> ?_),h2]
   rw[<-hh,hnb] at h2;injection h2 with h2;injection h2 with _ h2 _
   revert h2
   decide
 ·intro j hj
  cases j with
  |node=>exact absurd rfl hj
  |_=>rfl
theorem aL2 (h:TickS H0 Hs H Fs F y p ev wv nv c t s vb cb outs)(ht:t<10000000)(hol:outs.length<700)(hm:500<m)(htk:s.ticks+1<=t+1):
  ∀(x0 x2 x5 x6 x7 x8 x9 bI cA aP aN aL aM aR aS aO bC bH bV bG bE aT aU aV aW aX aY aZ bA bB bK bL bM bN bO bP bQ bR bS bT cC cD cE cI cP cR cS cM cN cO cQ cV cT cU cY:Value),∃H2 r,Dp (lvl prog pkN m) (aH m) x0 (pt cb) x2 (pt vb) (rE vb cb) x5 x6 x7 x8 x9 bI cA aP aN aL aM aR aS aO bC bH bV bG bE aT aU aV aW aX aY aZ bA bB bK bL bM bN bO bP bQ bR bS bT cC cD cE cI cP cR cS cM cN cO cQ cV cT cU cY H=some (r,H2)/\
   No H0 Hs Fs y p ev wv nv c (t+1) {s with ticks:=s.ticks+1} vb cb (if(s.ticks+1)%c.every=0 then outs++sI c s else outs) H2 r:=by
 intros;have lc:ld1 (pt cb) H=some (pt y.nb,H):=cK h.cell rfl;have l16:=h.node.ld 16 (.int .i64 s.ticks) rfl;have e1:=aLX s.ticks (by omega)
 have hi:NInv c (t+1) {s with ticks:=s.ticks+1}:={h.node.inv.rB (Nat.le_succ t) with ticks:=htk};have hn:NodeAt H0 H F y p ev wv nv c (t+1) s:={h.node with inv:=h.node.inv.rB (Nat.le_succ t)};obtain⟨H1,hH1⟩: ∃H1,H1=H.set y.nb (uR p.bag ev wv nv y c (s.ticks+1)):=⟨_,rfl⟩;have st:stN 1 (.pointer (some ⟨y.nb,16,none⟩)) (.int .i64 ((s.ticks+1:Nat):Int)) H=some (undef,H1):=by rw[hH1];exact lG h.node.nbB (by decide) (by simp[Nf])
 obtain⟨g1,mv1⟩:=hn.aLW hi;rw[<-hH1] at g1 mv1;have h1:=h.tJ g1 mv1;have lc1:ld1 (pt cb) H1=some (pt y.nb,H1):=cK h1.cell rfl;have l16':=h1.node.ld 16 (.int .i64 (s.ticks+1:Nat)) rfl;have l7:=h1.node.ld 7 (.int .i64 c.every) rfl;have hev:=h.node.ok.every;have r1:bin prog .rem 3 (.int .i64 ((s.ticks+1:Nat):Int)) (.int .i64 c.every)=some (.int .i64 (((s.ticks+1)%c.every:Nat):Int)):=uF (s.ticks+1) c.every _ rfl (by omega)
 unfold Dp;by_cases hz:(s.ticks+1)%c.every=0
 ·have c1:((((s.ticks+1)%c.every:Nat):Int)==0)=true:=by rw[hz];rfl
  obtain⟨H2,x1,h2⟩:=aLU h1 (m:=m) (by omega) (by omega) (by omega)
  obtain⟨v,us,r,hr⟩:=h2.rows;have lv:ld1 (pt vb) H2=some (v,H2):=cK r rfl;simp -implicitDefEqProofs only[gsR,lc,l16,cH,e1,st,lc1,l16',l7,r1,c1,x1,lv];refine⟨_,_,rfl,F,us,?_,?_⟩
  ·rw[if_pos hz]
   exact h2
  ·rw[if_pos hz]
   exact hr
 ·have c1:((((s.ticks+1)%c.every:Nat):Int)==0)=false:=by rw[beq_eq_false_iff_ne];omega
  obtain⟨v,us,r,hr⟩:=h1.rows;have lv:ld1 (pt vb) H1=some (v,H1):=cK r rfl;simp -implicitDefEqProofs only[gsR,lc,l16,cH,e1,st,lc1,l16',l7,r1,c1,lv];refine⟨_,_,rfl,F,us,?_,?_⟩
  ·rw[if_neg hz]
   exact h1
  ·rw[if_neg hz]
   exact hr
theorem aL3 {mt:List Int}{mb:Nat}{Q:aA->Value->Prop}(hml:mt.length=c.aF)(hmr: ∀z∈mt,z= -1∨0<=z/\z<(c.aF:Int))(ht:t<9000000)(h6:c.aF<=6)(hmv:mb≠vb)(hm:500<m)
  (hK: ∀(H':aA)(F':Part->Nat->Prop),TickS H0 Hs H' Fs F' y p ev wv nv c (t+c.aF) (fT c mt s c.aF).1 vb cb (fT c mt s c.aF).2-> ∀(x0 x2 x5 x6 x7 x8 x9 bI cA aP aN aL aM aR aS aO bC bH bV bG bE aT aU aV aW aX aY aZ bA bB bK bL bM bN bO bP bQ bR bS bT cC cD cE cI cP cR cS cM cN cO cQ cV cT cU cY:Value),∃H2 r,Dp (lvl prog pkN m) (aH m) x0 (pt cb) x2 (pt vb) (rE vb cb) x5 x6 x7 x8 x9 bI cA aP aN aL aM aR aS aO bC bH bV bG bE aT aU aV aW aX aY aZ bA bB bK bL bM bN bO bP bQ bR bS bT cC cD cE cI cP cR cS cM cN cO cQ cV cT cU cY H'=some (r,H2)/\Q H2 r):
  ∀(q i l:Nat)(H:aA)(F:Part->Nat->Prop),c.aF-i=q->i<=c.aF->q<l->TickS H0 Hs H Fs F y p ev wv nv c (t+i) (fT c mt s i).1 vb cb (fT c mt s i).2->H[mb]? =some (eU mt [])-> ¬Un F mb-> ∀(x0 x2 x5 x6 x7 x8 x9 bI cA aP aN aL aM aR aS aO bC bH aT aU aV aW aX aY aZ bA bB bK bL bM bN bO bP bQ bR bS bT cC cD cE cI cP cR cS cM cN cO cQ cV cT cU cY:Value),
  ∃H2 r,aH l (aI prog (lvl prog pkN m) (aH m) Lr) (Ls (lvl prog pkN m) (aH m)) [x0,(pt cb),x2,(pt vb),(rE vb cb),x5,x6,x7,x8,x9,bI,cA,aP,aN,aL,aM,aR,aS,aO,bC,bH,(dT mb c.aF),(.int .i64 c.aF),(.int .i64 (i:Nat)),aT,aU,aV,aW,aX,aY,aZ,bA,bB,bK,bL,bM,bN,bO,bP,bQ,bR,bS,bT,cC,cD,cE,cI,cP,cR,cS,cM,cN,cO,cQ,cV,cT,cU,cY] H=some (r,H2)/\Q H2 r:=by
 intro q;induction q with
 |zero=>
  intro i l H F hq hi hl h hmb hmF;intros;obtain⟨l,rfl⟩: ∃l',l=l'+1:=⟨l-1,by omega⟩
  have hie:i=c.aF:=by omega
  subst hie;have c1:decide ((c.aF:Int)<(c.aF:Int))=false:=by simp
  rw[aH,Vf];simp -implicitDefEqProofs only[gsR,c1];rw[aHX];exact hK H F h ..
 |succ q ih=>
  intro i l H F hq hi hl h hmb hmF;intros;obtain⟨l,rfl⟩: ∃l',l=l'+1:=⟨l-1,by omega⟩
  have hil:i<c.aF:=by omega
  have c1:decide ((i:Int)<(c.aF:Int))=true:=by rw[decide_eq_true_eq];omega
  obtain⟨a1,a2⟩:=yJ (c:=c.aF) hmb hml hil;have a1:aQ 1 (dT mb c.aF) (.int .i64 (i:Int))=some (.pointer (some ⟨mb,i,none⟩)):=a1;have lc:ld1 (pt cb) H=some (pt y.nb,H):=cK h.cell rfl;have e9:=nU i (by omega)
  have hup:=Nq c mt s i;have hul:=Np c mt s i;have hz:mt.getD i 0= -1∨0<=mt.getD i 0/\mt.getD i 0<(c.aF:Int):=by
   rw[aMD,aMB (by omega),aM2]
   exact hmr _ (List.getElem_mem _)
  rw[aH,Vf];by_cases hneg:0<=mt.getD i 0
  ·obtain⟨o,ho⟩: ∃o:Nat,mt.getD i 0=o:=⟨(mt.getD i 0).toNat,by omega⟩
   have c2:decide ((0:Int)<=(o:Int))=true:=by rw[decide_eq_true_eq];omega
   rw[if_pos hneg,ho,aM1] at hup;rw[ho] at a2 hz;obtain⟨H1,v,g1,rfl,g2,F1,g3,g4⟩:=aLP h (m:=m) (i:=i) (o:=o) (by omega) (by omega) hil (by omega) (by omega) hmb hmF hmv
   simp -implicitDefEqProofs only[gsR,c1,a1,a2,c2,lc,g1,cH,e9];refine ih (i+1) l H1 F1 (by omega) (by omega) (by omega) ?_ g2 g4 ..
   rw[hup];exact g3
  ·have c2:decide ((0:Int)<=mt.getD i 0)=false:=decide_eq_false hneg
   rw[if_neg hneg] at hup;simp -implicitDefEqProofs only[gsR,c1,a1,a2,c2,cH,e9];refine ih (i+1) l H F (by omega) (by omega) (by omega) ?_ hmb hmF ..
   rw[hup];exact {h with node:={h.node with inv:=h.node.inv.rB (by omega)}}
end
section
variable {H0 Hs H : aA} {Fs F : Part → Nat → Prop} {y : Lay} {p : PlanD} {ev wv nv : Value} {c : Cfg} {t : Nat} {s : NS} {m : Nat}
theorem NodeAt.aL4 {H':aA}{g' a':List Nat}(h:NodeAt H0 H F y p ev wv nv c t s)(hg:g'.length=s.g.length)(hf:Fr (λb=>b=y.ga∨b=y.aa) H H')(hB:Blks (iO y.ab y.ga y.aa g' a') H')(hi:NInv c t {s with g:=g',a:=a'}):
  NodeAt H0 H' F y p ev wv nv c t {s with g:=g',a:=a'}/\Mv (Un F) (Un F) H H':=by
 refine h.Ar .arb (l:=iO y.ab y.ga y.aa s.g s.a) (l':=iO y.ab y.ga y.aa g' a') rfl X5 ?_ ?_ hB hi rfl ?_
 ·intro q hq
  simp only[iO,aMS,aMZ,or_false] at hq;rcases hq with rfl|rfl|rfl
  ·exact⟨_,aMI ..,rfl⟩
  ·exact⟨_,aMQ _ (aMI ..),rfl⟩
  ·exact⟨_,aMQ _ (aMQ _ (aMI ..)),rfl⟩
 ·refine hf.zF λb hb=> ?_
  rcases hb with rfl|rfl
  ·exact⟨_,aMQ _ (aMI ..),rfl⟩
  ·exact⟨_,aMQ _ (aMQ _ (aMI ..)),rfl⟩
 ·intro j hj
  cases j with
  |arb=>exact absurd rfl hj
  |_=>rfl
theorem Yt (h:NodeAt H0 H F y p ev wv nv c t s)(ht:t<8000000)(hm:600<m):
  ∃H' F' v us,lvl prog pkN m (.func 41) [pt y.nb] H=some (v,H')/\NodeAt H0 H' F' y p ev wv nv c (t+7) (uJ c s).1/\Mv (Un F) (Un F') H H'/\OutR H' (λb=>H.length<=b/\ ¬Un F' b) v us (uJ c s).2:=by
 have h6:c.aF<=6:=by have:=h.ok.by';unfold Cfg.aF;omega
 have hp1:1<=c.aF:=by unfold Cfg.aF;omega
 obtain⟨H1,hH1⟩: ∃H1,H1=H++[pnB y.nb]:=⟨_,rfl⟩;obtain⟨H2,hH2⟩: ∃H2,H2=H1++[uV (.slice none 0 0)]:=⟨_,rfl⟩;have e1:H++[Blk.cells (Value.cells (pt y.nb)).toList 58 .fix]=H1:=by rw[hH1];rfl
 have e2:H1++[Blk.cells [Value.slice none 0 0] 68 .fix]=H2:=by rw[hH2];rfl
 have x1:Ext H H1:=by rw[hH1];exact Fr.app _ _ _
 have x2:Ext H1 H2:=by rw[hH2];exact Fr.app _ _ _
 have h1l:H1.length=H.length+1:=by rw[hH1];simp
 have bc:H2[H.length]? =some (pnB y.nb):=by
  have:H1[H.length]? =some (pnB y.nb):=by rw[hH1];exact dF _ _
  rw[x2.2 _ (dA this) id,this]
 have bv:H2[H1.length]? =some (uV (.slice none 0 0)):=by rw[hH2];exact dF _ _
 have hnew: ∀b,H.length<=b-> ¬Un F b:=λb hb hu=>by have:=h.sep.pN b hu;omega
 have g2:=(h.fS x1).fS x2;have T2:TickS H0 H H2 F F y p ev wv nv c t s H1.length H.length []:=
  ⟨g2,Mv.oZ (x1.tr x2) _,h.ext.1,bc,hnew _ (aME _),hnew _ (by omega),by omega,.slice none 0 0,[],bv,⟨Rw.lD,λb ⟨_,_,_,hh⟩=>(by cases hh),rfl,λi u o hu _=>(by cases hu)⟩⟩
 have lc2:ld1 (pt H.length) H2=some (pt y.nb,H2):=cK T2.cell rfl;obtain⟨H3,F3,f1,f2,f3⟩:=aLt g2 (m:=m-1) (by omega)
 have T3:=T2.tJ f2 f3;obtain⟨s1,hs1⟩: ∃s1,s1=vY c s:=⟨_,rfl⟩;rw[<-hs1] at T3;have lc3:ld1 (pt H.length) H3=some (pt y.nb,H3):=cK T3.cell rfl;have n0:=T3.node.ld 0 (pt y.ab) rfl;obtain⟨H4,k1,k2,x4⟩:=aLo T3.node (m:=m-1) (by omega) (by omega)
 have T4:=T3.ext x4;have lc4:ld1 (pt H.length) H4=some (pt y.nb,H4):=cK T4.cell rfl;have n0':=T4.node.ld 0 (pt y.ab) rfl;have n6:=T4.node.ld 6 (.int .i64 c.rounds) rfl;have n6':=T3.node.ld 6 (.int .i64 c.rounds) rfl;have hI:=T4.node.inv;have hr:=T4.node.ok.rounds;obtain⟨H5,mb,r1,r2,r3,r4,r5⟩:=aKM (m:=m-1) (H:=H4) (ab:=y.ab) (ga:=y.ga) (aa:=y.aa) (g:=s1.g) (a:=s1.a) (n:=c.aF) (rows:=jZ c s1 c.aF 0) (qb:=H3.length) (rounds:=c.rounds)
  (T4.node.sep.see .arb rfl X5) h.lay.ga hI.gl hI.al hI.g hI.a hp1 (by omega) k2 (tH _ _ _ _) (aLl (by omega)) hr.1 (by omega) (by omega)
 rw[aLm] at r2 r5;obtain⟨mt,hmt⟩: ∃mt,mt=q9 (nQ c s1) c.aF c.rounds s1.g s1.a:=⟨_,rfl⟩;rw[<-hmt] at r2 r5;have hM:MatI c.aF mt:=by rw[hmt];exact MatI.aIZ (by omega) hI.gl hI.al hI.g hI.a
 have hi5:NInv c t {s1 with g:=mt.g,a:=mt.a}:={hI with gl:=hM.gl,al:=hM.al,g:=hM.g,a:=hM.a};obtain⟨g5,mv5⟩:=T4.node.aL4 (hM.gl.trans hI.gl.symm) r4 r5 hi5;have T5:=T4.tJ g5 mv5;obtain⟨s2,hs2⟩: ∃s2:NS,s2={s1 with g:=mt.g,a:=mt.a}:=⟨_,rfl⟩;rw[<-hs2] at T5;have hmbF: ¬Un F3 mb:=λhu=>by have:=T4.node.sep.pN mb hu;omega
 have hmbv:mb≠H1.length:=λhh=>by
  obtain⟨v,us,r,_⟩:=T4.rows;have:=dA r;omega
 have e5:bJ (dT mb c.aF)=some (.int .i64 c.aF):=rfl;have hut:=Nr c mt.m s2 c.aF;have hst:s2.ticks=s.ticks:=by rw[hs2];show s1.ticks=_;rw[hs1,aLZ]
 have hres:uJ c s=({(fT c mt.m s2 c.aF).1 with ticks:=(fT c mt.m s2 c.aF).1.ticks+1},if((fT c mt.m s2 c.aF).1.ticks+1)%c.every=0 then(fT c mt.m s2 c.aF).2++sI c (fT c mt.m s2 c.aF).1 else(fT c mt.m s2 c.aF).2):=by
  rw[hut,hst];unfold uJ fT;simp only;rw[hs2,hmt,hs1]
 have main: ∃H' v,lvl prog pkN m (.func 41) [pt y.nb] H=some (v,H')/\
   No H0 H F y p ev wv nv c (t+c.aF+1) {(fT c mt.m s2 c.aF).1 with ticks:=(fT c mt.m s2 c.aF).1.ticks+1} H1.length H.length (if((fT c mt.m s2 c.aF).1.ticks+1)%c.every=0 then(fT c mt.m s2 c.aF).2++sI c (fT c mt.m s2 c.aF).1 else(fT c mt.m s2 c.aF).2) H' v:=by
  refine iK (cF rfl) (by omega) ?_
  rw[aHY];have e4:(Value.func (.func _) #[] #[pt H1.length,pt H.length])=rE H1.length H.length:=rfl;simp -implicitDefEqProofs only[gsR,e1,e2,lc2,f1,lc3,n0,k1,n0',uU,lc4,n6,n6',Aq,r1,e5];have T5':TickS H0 H H5 F F3 y p ev wv nv c (t+0) (fT c mt.m s2 0).1 H1.length H.length (fT c mt.m s2 0).2:=T5;refine aL3 (Q:=λH' v=>No H0 H F y p ev wv nv c (t+c.aF+1) {(fT c mt.m s2 c.aF).1 with ticks:=(fT c mt.m s2 c.aF).1.ticks+1} H1.length H.length (if((fT c mt.m s2 c.aF).1.ticks+1)%c.every=0 then(fT c mt.m s2 c.aF).2++sI c (fT c mt.m s2 c.aF).1 else(fT c mt.m s2 c.aF).2) H' v)
   hM.ml hM.m (by omega) h6 hmbv (by omega) ?_ c.aF 0 (m-1) H5 F3 (by omega) (by omega) (by omega) T5' r2 hmbF ..
  intro H' F' h';intros;have hul:=Np c mt.m s2 c.aF;refine aL2 h' (by omega) (by omega) (by omega) ?_ ..
  rw[hut,hst];have:=h.inv.ticks;omega
 obtain⟨H',v,q1,F',us,q2,q3⟩:=main;rw[hres];refine⟨H',F',v,us,q1,{q2.node with inv:=q2.node.inv.rB (by omega)},q2.mv,q3⟩
end
theorem Yu: ∀zs:List Int,(zs.map inC).flatten=zs.map λz:Int=>Value.int .i64 z
 |[]=>rfl
 |z::zs=>by
  rw[aM4,aM9,Yu zs];rfl
theorem Yv {H:aA}{u:Value}{zs:List Int}(h:Iw H u zs)(hne:zs≠[]): ∃b cap rest,u=jE b zs.length cap/\H[b]? =some (eU zs rest):=by
 obtain⟨_,⟨rfl,h0⟩|⟨c,cap,rest,rfl,h1,h2,h3⟩⟩:=h
 ·exact absurd (aMR.mp h0) hne
 ·refine⟨c,cap,rest,rfl,?_⟩
  rw[h3,Yu];rfl
section
variable {H : aA} {m : Nat}
theorem Yw {v:Value}{ws:List Int}(hw:Is H v ws)(hok:wOk ws=true)(hm:ws.length+100<m)(hm2:m<=72057594037927936):
  ∃H' wh ww wl wc lc wr lr,lvl prog pkN m (.func 87) [v] H=some (pt wh,H')/\Ext H H'/\Blks (kP wh ww wl wc lc wr lr ws ⟨ws,0⟩) H'/\ww≠wl/\H.length<=wh/\H.length<=ww/\H.length<=wl:=by
 have hlen:=hw.jQ;have hcf:lvl prog pkN (m-1) (.func 167) [v,.func (.func 166) #[] #[]] H=some (.bool (ws.any qF),H):=by
  have:=Sp (H:=H) (m:=m-1) (v:=v) (fv:= .func (.func 166) #[] #[]) (n:=ws.length) (λi=>(ws[i]?.map qF).getD false) hlen (by omega) (by omega) (λi hi=>by
   have hx:ws[i]? =some ws[i]:=aMB hi;obtain⟨b,o,g1,g2,g3⟩:=hw.iQ gQ hx .i64;have l1:=(g3 H rfl).2.1 0 _ rfl;refine⟨_,_,g1,l1,?_⟩;have:=St (m:=m-1-1-1) (by omega) ws[i] H
   rw[hx];exact this)
  rw[this,zQ ws qF _ λi x h=>by rw[h];rfl]
 unfold wOk at hok;simp only[Bool.not_eq_true',Bool.or_eq_false_iff,decide_eq_false_iff_not] at hok;obtain⟨c1,c2,c3⟩:=hok;have e1:((ws.length:Int)==0)=false:=by simpa using c1
 rw[c3] at hcf;have hne:ws≠[]:=λh=>c1 (by rw[h];rfl)
 obtain⟨H1,u1,g1,g2,g3,g4⟩:=Cr (m:=m-1) hw hne (by omega) (by omega)
 obtain⟨H2,u2,q1,q2,q3,q4⟩:=Cr (m:=m-1) (hw.ext g2) hne (by omega) (by omega)
 obtain⟨ww,wc,wr,rfl,b1⟩:=Yv g3 hne;obtain⟨wl,lc,lr,rfl,b2⟩:=Yv q3 hne;have n1:=g4 ww ⟨_,_,_,rfl⟩;have n2:=q4 wl ⟨_,_,_,rfl⟩;have hb:bld prog 266 [(0,jE ww ws.length wc),(1,jE wl ws.length lc)]=some (.agg #[jE ww ws.length wc,jE wl ws.length lc,.int .i64 0]):=rfl;have e6:H2++[Blk.cells (Value.cells (.agg #[jE ww ws.length wc,jE wl ws.length lc,.int .i64 0])).toList 266 .fix]=H2++[qO ww wl wc lc ws.length 0]:=rfl;have x3:Ext H2 (H2++[qO ww wl wc lc ws.length 0]):=Fr.app _ _ _;have l1:=dA b1;have l2:=g2.1;have l3:=q2.1;refine⟨H2++[qO ww wl wc lc ws.length 0],H2.length,ww,wl,wc,lc,wr,lr,cX (cF rfl) (by omega) ?_,(g2.tr q2).tr x3,λq hq=> ?_,by omega,by omega,n1,by omega⟩
 ·rw[zP]
  simp -implicitDefEqProofs only[gsR,hlen,e1,c2,decide_false,hcf,g1,q1,hb,e6]
 ·simp only[kP,aMS,aMZ,or_false] at hq
  rcases hq with rfl|rfl|rfl
  ·exact dF _ _
  ·simp only
   rw[x3.2 _ (by omega) id,q2.2 _ l1 id,b1]
  ·simp only
   rw[x3.2 _ (dA b2) id,b2]
end
theorem Yy (y:Lay)(c:Cfg)(i:Nat):dK (fB y c i)=true:=by unfold fB lZ;split<;>rfl
theorem aL5 (y:Lay)(i k:Nat):dK (lP y i k)=true:=rfl
def DnB (c:Cfg)(n x i k:Nat):Prop:=(1<=i/\i<n/\k<c.lanes)∨(i=n/\k<x)
def lR (y:Lay)(c:Cfg)(n nw cs cr:Nat):Part->aA->Prop
 | .host=>λD=>HostAt D y.hb [] [] c.lanes c.queue
 | .whl i=>Blks (if i<nw then kP (y.wh i) (y.ww i) (y.wl i) (y.wc i) (y.lc i) (y.wr i) (y.lr i) c.weights ⟨c.weights,0⟩ else [])
 | .snd i k=>Blks (if DnB c n cs i k then [(y.sb i k,lO ⟨c.start,c.start+c.room⟩)] else [])
 | .rcv i k=>Blks (if DnB c n cr i k then [(y.rb i k,iR ⟨c.start,0⟩ c.room)] else [])
 |_=>Blks []
def qP (bag:Int)(ev wv nv:Value)(y:Lay)(c:Cfg)(pv:Value):Blk:=
 .cells [.pointer none,.int .i64 c.nodes,ev,.int .i64 c.lanes,.int .i64 c.room,.int .i64 c.queue,.int .i64 c.rounds,.int .i64 c.every,.int .i64 bag,wv,.int .u16 c.start,nv,.int .i64 c.me,pv,pt y.hb,.pointer none,.int .i64 0] 162 .fix
structure BN (Hs H:aA)(F:Part->Nat->Prop)(bag:Int)(ev wv nv:Value)(y:Lay)(c:Cfg)(n nw cs cr:Nat)(pv:Value):Prop where
 ext:Ext Hs H
 sep:Sep (lR y c n nw cs cr) F H
 new: ∀b,Un F b->Hs.length<=b
 nb:H[y.nb]? =some (qP bag ev wv nv y c pv)
 nbF: ¬Un F y.nb
 nb0:Hs.length<=y.nb
 ports:Rw (fB y c) 167 3 H pv (List.range n)
 pvF: ∀b,cG pv b->Hs.length<=b/\ ¬Un F b
 lanes: ∀i,1<=i->i<n->H[y.lb i]? =some (nW y c i)/\Hs.length<=y.lb i/\ ¬Un F (y.lb i)/\c.lanes<=y.lcap i
 lne: ∀i j,1<=i->i<n->1<=j->j<n->y.lb i=y.lb j->i=j
 ww: ∀i,i<nw->y.ww i≠y.wl i
theorem A0 (y:Lay)(c:Cfg)(n nw cs cr:Nat)(i:Part):DX (lR y c n nw cs cr i):=by
 cases i with
 |host=>exact λD D' h he=>h.ext he
 |_=>exact Blks.dx _
theorem sM {F:Part->Nat->Prop}{i:Part}{G:Nat->Prop}{b:Nat}(h:Un (updI F i G) b):Un F b∨G b:=by
 obtain⟨j,hj⟩:=h;by_cases hji:j=i
 ·rw[hji,mO] at hj
  exact .inr hj
 ·rw[eX _ _ hji] at hj
  exact .inl ⟨j,hj⟩
section
variable {Hs H : aA} {F : Part → Nat → Prop} {bag : Int} {ev wv nv : Value} {y : Lay} {c : Cfg} {n nw cs cr : Nat} {pv : Value}
theorem BN.Yx {H':aA}(h:BN Hs H F bag ev wv nv y c n nw cs cr pv)(he:Ext H H'):BN Hs H' F bag ev wv nv y c n nw cs cr pv:=by
 refine {h with ext:=h.ext.tr he,sep:=h.sep.ext (A0 _ _ _ _ _ _) he,nb:=by rw[he.2 _ (dA h.nb) id,h.nb],ports:=h.ports.fP λb hb=>he.2 b (h.ports.iT hb) id,lanes:=λi h1 h2=> ?_}
 obtain⟨q1,q2⟩:=h.lanes i h1 h2
 exact⟨by rw[he.2 _ (dA q1) id,q1],q2⟩
theorem BN.Nt {H':aA}{y':Lay}{nw' cs' cr':Nat}(h:BN Hs H F bag ev wv nv y c n nw cs cr pv)(i:Part){l:List (Nat×Blk)}(hB:Blks l H')(he:Ext H H')(hn: ∀q∈l,H.length<=q.1)(hi: ∀b,¬F i b)
  (hcon: ∀j D,updI (lR y c n nw cs cr) i (Blks l) j D->lR y' c n nw' cs' cr' j D)(e1:y'.nb=y.nb)(e2:y'.hb=y.hb)(e3: ∀i,i<n->fB y' c i=fB y c i)(e4:y'.lb=y.lb)(e5:y'.lcap=y.lcap)(e6: ∀i,1<=i->i<n->nW y' c i=nW y c i)(e7: ∀i,i<nw'->y'.ww i≠y'.wl i):
  BN Hs H' (updI F i (InB l)) bag ev wv nv y' c n nw' cs' cr' pv:=by
 have hlt: ∀b,InB l b->b<H'.length:=λb hb=>by
  obtain⟨q,hq,rfl⟩:=hb;exact dA (hB q hq)
 have hge: ∀b,InB l b->H.length<=b:=λb hb=>by
  obtain⟨q,hq,rfl⟩:=hb;exact hn q hq
 have hhas:Has (Blks l) (InB l) H':=Has.Eh hB (λq hq=>⟨q,hq,rfl⟩) hlt
 have hs:=h.sep.Ei i (A0 _ _ _ _ _ _) hi hhas he hge;have hun: ∀b,b<H.length-> ¬Un F b-> ¬Un (updI F i (InB l)) b:=λb hb hF hu=>(sM hu).elim hF λhg=>by have:=hge b hg;omega
 refine⟨h.ext.tr he,hs.vP hcon,λb hb=> ?_,?_,?_,by rw[e1];exact h.nb0,?_,λb hb=>⟨(h.pvF b hb).1,hun b (h.ports.iT hb) (h.pvF b hb).2⟩,λj h1 h2=> ?_,λi j=>by rw[e4];exact h.lne i j,e7⟩
 ·rcases sM hb with hb|hb
  ·exact h.new b hb
  ·exact aMP h.ext.1 (hge b hb)
 ·rw[e1,he.2 _ (dA h.nb) id,h.nb]
  unfold qP;rw[e2]
 ·rw[e1]
  exact hun _ (dA h.nb) h.nbF
 ·have hk:=h.ports.fP (H':=H') λb hb=>he.2 b (h.ports.iT hb) id
  have em:(List.range n).map (fB y' c)=(List.range n).map (fB y c):=List.map_congr_left λi hi=>e3 i (aNd.mp hi)
  unfold Rw at hk⊢;rw[em];exact hk
 ·obtain⟨q1,q2,q3,q4⟩:=h.lanes j h1 h2
  rw[e4,e5,e6 j h1 h2]
  exact⟨by rw[he.2 _ (dA q1) id,q1],q2,hun _ (dA q1) q3,q4⟩
theorem nI {α:Type}(f:Nat->α)(i:Nat)(x:α):up1 f i x i=x:=if_pos rfl
theorem mV {α:Type}(f:Nat->α){i j:Nat}(x:α)(h:j≠i):up1 f i x j=f j:=if_neg h
theorem E1 {α:Type}(f:Nat->Nat->α)(i k:Nat)(x:α):up2 f i k x i k=x:=if_pos ⟨rfl,rfl⟩
theorem yO {α:Type}(f:Nat->Nat->α){i k j l:Nat}(x:α)(h: ¬(j=i/\l=k)):up2 f i k x j l=f j l:=if_neg h
theorem BN.whl {H':aA}(h:BN Hs H F bag ev wv nv y c n n 0 0 pv)(hF: ∀i,n<=i-> ∀b,¬F (.whl i) b){wh ww wl wc lc:Nat}{wr lr:List Value}(hB:Blks (kP wh ww wl wc lc wr lr c.weights ⟨c.weights,0⟩) H')(he:Ext H H')(hne:ww≠wl)(h1:H.length<=wh)(h2:H.length<=ww)(h3:H.length<=wl):
  BN Hs H' (updI F (.whl n) (InB (kP wh ww wl wc lc wr lr c.weights ⟨c.weights,0⟩))) bag ev wv nv {y with wh:=up1 y.wh n wh,ww:=up1 y.ww n ww,wl:=up1 y.wl n wl,wc:=up1 y.wc n wc,lc:=up1 y.lc n lc,wr:=up1 y.wr n wr,lr:=up1 y.lr n lr} c n (n+1) 0 0 pv:=by
 refine h.Nt (.whl n) hB he (λq hq=> ?_) (hF n (aME _)) (λj D hD=> ?_) rfl rfl (λi hi=> ?_) rfl rfl (λ_ _ _=>rfl) λi hi=> ?_
 ·simp only[kP,aMS,aMZ,or_false] at hq
  rcases hq with rfl|rfl|rfl
  ·exact h1
  ·exact h2
  ·exact h3
 ·cases j with
  |whl i=>
   by_cases hi:i=n
   ·subst hi
    rw[mO] at hD;simp only[lR];rw[if_pos (Nat.lt_succ_self _),nI,nI,nI,nI,nI,nI,nI];exact hD
   ·rw[eX _ _ (λhh=>hi (by injection hh))] at hD
    simp only[lR] at hD⊢;rw[mV _ _ hi,mV _ _ hi,mV _ _ hi,mV _ _ hi,mV _ _ hi,mV _ _ hi,mV _ _ hi];by_cases hin:i<n
    ·rw[if_pos hin] at hD
     rw[if_pos (by omega)]
     exact hD
    ·rw[if_neg hin] at hD
     rw[if_neg (by omega)]
     exact hD
  |_=>
   rw[eX _ _ (λhh=>by cases hh)] at hD
   exact hD
 ·unfold fB lZ
  simp only;rw[mV _ _ (by omega)]
 ·simp only
  by_cases hin:i=n
  ·subst hin
   rw[nI,nI];exact hne
  ·rw[mV _ _ hin,mV _ _ hin]
   exact h.ww i (by omega)
theorem BN.snd {k b:Nat}(h:BN Hs H F bag ev wv nv y c n (n+1) k k pv)(hF: ∀b,¬F (.snd n k) b)(hb:b=H.length):
  BN Hs (H++[lO ⟨c.start,c.start+c.room⟩]) (updI F (.snd n k) (InB [(b,lO ⟨c.start,c.start+c.room⟩)])) bag ev wv nv {y with sb:=up2 y.sb n k b} c n (n+1) (k+1) k pv:=by
 subst hb;refine h.Nt (.snd n k) (λq hq=> ?_) (Fr.app _ _ _) (λq hq=> ?_) hF (λj D hD=> ?_) rfl rfl (λi hi=>rfl) rfl rfl (λi h1 h2=> ?_) h.ww
 ·simp only[aMS,aMZ,or_false] at hq
  subst hq;exact dF _ _
 ·simp only[aMS,aMZ,or_false] at hq
  subst hq;exact aME _
 ·cases j with
  |snd i k'=>
   by_cases hi:i=n/\k'=k
   ·obtain⟨rfl,rfl⟩:=hi
    rw[mO] at hD;simp only[lR];rw[if_pos (.inr ⟨rfl,Nat.lt_succ_self _⟩),E1];exact hD
   ·rw[eX _ _ (λhh=>hi (by injection hh with h1 h2;exact⟨h1,h2⟩))] at hD
    simp only[lR] at hD⊢;rw[yO _ _ hi];by_cases hd:DnB c n k i k'
    ·rw[if_pos hd] at hD
     rw[if_pos (by unfold DnB at hd ⊢; omega)]
     exact hD
    ·rw[if_neg hd] at hD
     rw[if_neg (by unfold DnB at hd ⊢; omega)]
     exact hD
  |_=>
   rw[eX _ _ (λhh=>by cases hh)] at hD
   exact hD
 ·have: ∀k',lP {y with sb:=up2 y.sb n k H.length} i k'=lP y i k':=λk'=>by
   unfold lP;simp only;rw[yO _ _ (by omega)]
  unfold nW;rw[List.map_congr_left λk' _=>this k']
theorem BN.rcv {k b:Nat}(h:BN Hs H F bag ev wv nv y c n (n+1) (k+1) k pv)(hF: ∀b,¬F (.rcv n k) b)(hb:b=H.length):
  BN Hs (H++[iR ⟨c.start,0⟩ c.room]) (updI F (.rcv n k) (InB [(b,iR ⟨c.start,0⟩ c.room)])) bag ev wv nv {y with rb:=up2 y.rb n k b} c n (n+1) (k+1) (k+1) pv:=by
 subst hb;refine h.Nt (.rcv n k) (λq hq=> ?_) (Fr.app _ _ _) (λq hq=> ?_) hF (λj D hD=> ?_) rfl rfl (λi hi=>rfl) rfl rfl (λi h1 h2=> ?_) h.ww
 ·simp only[aMS,aMZ,or_false] at hq
  subst hq;exact dF _ _
 ·simp only[aMS,aMZ,or_false] at hq
  subst hq;exact aME _
 ·cases j with
  |rcv i k'=>
   by_cases hi:i=n/\k'=k
   ·obtain⟨rfl,rfl⟩:=hi
    rw[mO] at hD;simp only[lR];rw[if_pos (.inr ⟨rfl,Nat.lt_succ_self _⟩),E1];exact hD
   ·rw[eX _ _ (λhh=>hi (by injection hh with h1 h2;exact⟨h1,h2⟩))] at hD
    simp only[lR] at hD⊢;rw[yO _ _ hi];by_cases hd:DnB c n k i k'
    ·rw[if_pos hd] at hD
     rw[if_pos (by unfold DnB at hd ⊢; omega)]
     exact hD
    ·rw[if_neg hd] at hD
     rw[if_neg (by unfold DnB at hd ⊢; omega)]
     exact hD
  |_=>
   rw[eX _ _ (λhh=>by cases hh)] at hD
   exact hD
 ·have: ∀k',lP {y with rb:=up2 y.rb n k H.length} i k'=lP y i k':=λk'=>by
   unfold lP;simp only;rw[yO _ _ (by omega)]
  unfold nW;rw[List.map_congr_left λk' _=>this k']
theorem BN.Ns {H':aA}{N:Nat->Prop}{pv':Value}{n':Nat}(h:BN Hs H F bag ev wv nv y c n nw cs cr pv)(hf:Fr N H H')(hN: ∀b,N b-> ¬Un F b/\Hs.length<=b):
  Ext Hs H'/\Sep (lR y c n nw cs cr) F H':=by
 have hm:Mv N N H H':=⟨hf.1,λ_ h=> .inl h,λb hb hn=>hf.2 b hb hn⟩
 refine⟨⟨aMP h.ext.1 hf.1,λa ha _=> ?_⟩,h.sep.vQ (A0 _ _ _ _ _ _) hm λa ha hh=>(hN a hh).1 ha⟩
 rw[hf.2 a (aMO ha h.ext.1) (λhh=>by have:=(hN a hh).2;omega),h.ext.2 a ha id]
end
theorem Yz {α:Type}(f:α->Bool): ∀l:List α,l.length=(l.filter f).length+(l.filter λx=> !f x).length
 |[]=>rfl
 |x::l=>by
  have:=Yz f l;rw[List.filter_cons,List.filter_cons];cases f x
  ·simp
   omega
  ·simp
   omega
theorem aL6 {p:PlanD}{me:Nat}(h:lF p=true)(hm:(me:Int)<p.nodes)(hs:0<=p.start/\p.start<65536):(iP p me).ok/\p.nodes=((iP p me).nodes:Int)/\p.lanes=((iP p me).lanes:Int)/\p.room=((iP p me).room:Int)/\p.queue=((iP p me).queue:Int)/\p.rounds=((iP p me).rounds:Int)/\p.every=((iP p me).every:Int)/\p.start=((iP p me).start:Int)/\
  (∀i,i<(bes p.edges me).length->(bes p.edges me)[i]? =some (((iP p me).by'.getD i 0:Nat):Int))/\wOk p.weights=true:=by
 obtain⟨n,hok⟩:=Db h;have h':=h;unfold lF uB vT uD wi at h;simp only[aMH,decide_eq_true_eq,Bool.not_eq_true'] at h;obtain⟨⟨⟨a1,a2⟩,⟨b1,b2⟩,⟨c1,c2⟩,⟨d1,d2⟩,⟨e1,e2⟩,⟨f1,f2⟩,g1,g2⟩,⟨h3,h4⟩,hwl,hwo,h5,h6⟩:=h;have hw:=hwo;unfold wOk at hwo;simp only[Bool.not_eq_true',Bool.or_eq_false_iff,decide_eq_false_iff_not] at hwo;obtain⟨w1,w2,w3⟩:=hwo;rw[List.any_eq_false] at w3;have hmem: ∀w∈bes p.edges me,0<=w/\w<(n:Int)/\w≠me:=λw hw=>by
  rw[S8] at hw;obtain⟨q1,q2⟩:=hw;rcases q2 with q2|q2
  ·have:=hok.ve.ok _ q2
   unfold okE at this;simp only at this;omega
  ·have:=hok.ve.ok _ q2
   unfold okE at this;simp only at this;omega
 have hn:=hok.hn;have hpw:=Ct p.edges me;have hlen:(bes p.edges me).length<=5:=by
  have k1:=Cv ((bes p.edges me).filter λw=>decide (w<me)) 0 ((me:Int)-1) (hpw.sublist List.filter_sublist) (λx hx=>by
   obtain⟨y1,y2⟩:=List.mem_filter.mp hx;have:=hmem x y1;rw[decide_eq_true_eq] at y2;omega) (by omega)
  have k2:=Cv ((bes p.edges me).filter λw=> !decide (w<me)) ((me:Int)+1) ((n:Int)-1) (hpw.sublist List.filter_sublist) (λx hx=>by
   obtain⟨y1,y2⟩:=List.mem_filter.mp hx;have:=hmem x y1;simp only[Bool.not_eq_true',decide_eq_false_iff_not] at y2;omega) (by omega)
  have k3:=Yz (λw=>decide (w<(me:Int))) (bes p.edges me)
  have:=hok.h6;omega
 have hget: ∀i,i<(bes p.edges me).length->(bes p.edges me)[i]? =some (((iP p me).by'.getD i 0:Nat):Int):=λi hi=>by
  have hx:=hmem _ (List.getElem_mem hi);show _=some (((((bes p.edges me).map Int.toNat).getD i 0:Nat)):Int)
  rw[aMD,aMM,aMB hi,Option.map_some,aM2,Int.toNat_of_nonneg hx.1]
 have hbl:(iP p me).by'.length=(bes p.edges me).length:=by show((bes p.edges me).map Int.toNat).length=_;simp
 refine⟨⟨?_,?_,?_,?_,?_,?_,?_,?_,?_,?_,?_,?_,?_,?_⟩,?_,?_,?_,?_,?_,?_,?_,hget,hw⟩
 ·show 2<=p.nodes.toNat/\p.nodes.toNat<=6
  omega
 ·show 1<=p.lanes.toNat/\p.lanes.toNat<=3
  omega
 ·show 1<=p.room.toNat/\p.room.toNat<=8
  omega
 ·show 1<=p.queue.toNat/\p.queue.toNat<=8
  omega
 ·show 1<=p.rounds.toNat/\p.rounds.toNat<=4
  omega
 ·show 1<=p.every.toNat/\p.every.toNat<=8
  omega
 ·show p.weights.length=p.lanes.toNat
  omega
 ·intro x hx
  have:=w3 x hx;unfold qF at this;simp only[Bool.or_eq_true,decide_eq_true_eq,not_or] at this;omega
 ·show p.start.toNat<65536
  omega
 ·show me<p.nodes.toNat
  omega
 ·rw[hbl]
  exact hlen
 ·intro w hw
  obtain⟨z,hz,rfl⟩:=aNc.mp hw;have:=hmem z hz;show z.toNat<p.nodes.toNat/\z.toNat≠me
  omega
 ·show((bes p.edges me).map Int.toNat).Nodup
  unfold List.Nodup;rw[List.pairwise_map];refine List.Pairwise.imp_of_mem (λ{a b} ha hb hab=> ?_) hpw
  have h1:=hmem a ha;have h2:=hmem b hb;omega
 ·intro d hd
  show(if d=me then 0 else _)<(iP p me).by'.length+1
  split
  ·omega
  ·split
   ·rename_i j hj
    have:=(List.findIdx?_eq_some_iff_getElem.mp hj).1;show j+1<((bes p.edges me).map Int.toNat).length+1
    omega
   ·omega
 ·show p.nodes=(p.nodes.toNat:Int)
  omega
 ·show p.lanes=(p.lanes.toNat:Int)
  omega
 ·show p.room=(p.room.toNat:Int)
  omega
 ·show p.queue=(p.queue.toNat:Int)
  omega
 ·show p.rounds=(p.rounds.toNat:Int)
  omega
 ·show p.every=(p.every.toNat:Int)
  omega
 ·show p.start=(p.start.toNat:Int)
  omega
def qQ (c:Cfg)(n nw cs cr:Nat):Part->Prop
 | .host=>True
 | .whl i=>i<nw
 | .snd i k=>DnB c n cs i k
 | .rcv i k=>DnB c n cr i k
 |_=>False
def FE (F:Part->Nat->Prop)(c:Cfg)(n nw cs cr:Nat):Prop:= ∀j,¬qQ c n nw cs cr j-> ∀b,¬F j b
theorem FE.E2 {F:Part->Nat->Prop}{c:Cfg}{n nw cs cr n' nw' cs' cr':Nat}{i:Part}{G:Nat->Prop}(h:FE F c n nw cs cr)(hi:qQ c n' nw' cs' cr' i)(hm: ∀j,qQ c n nw cs cr j->qQ c n' nw' cs' cr' j):FE (updI F i G) c n' nw' cs' cr':=λj hj b hb=>by
 by_cases hji:j=i
 ·exact hj (by rw[hji];exact hi)
 ·rw[eX _ _ hji] at hb
  exact h j (λhd=>hj (hm j hd)) b hb
def Krow (H H':aA):Prop:= ∀(b:Nat)(cs:List Value),H[b]? =some (.cells cs 3 .row)->H'[b]? =some (.cells cs 3 .row)
theorem Krow.ext {H0 H H':aA}(h:Krow H0 H)(he:Ext H H'):Krow H0 H':=λb cs hb=>by
 have:=h b cs hb;rw[he.2 _ (dA this) id,this]
theorem Krow.iw {H H':aA}{v:Value}{zs:List Int}(h:Krow H H')(hv:Iw H v zs):Iw H' v zs:=hv.fP λb hb=>by
 obtain⟨cs,hc⟩:=hv.blk hb;rw[hc,h b cs hc]
section
variable {Hs H : aA} {F : Part → Nat → Prop} {bag : Int} {ev wv nv : Value} {y : Lay} {c : Cfg} {n nw cs cr : Nat} {pv : Value} {m : Nat}
theorem BN.aL7 {H':aA}{N:Nat->Prop}(h:BN Hs H F bag ev wv nv y c n nw cs cr pv)(hf:Fr N H H')(hN: ∀b,N b->b<H.length-> ¬Un F b/\Hs.length<=b/\b≠y.nb/\ ¬cG pv b/\ ∀i,1<=i->i<n->b≠y.lb i):BN Hs H' F bag ev wv nv y c n nw cs cr pv:=by
 have hf':Fr (λb=>N b/\b<H.length) H H':=⟨hf.1,λb hb hn=>hf.2 b hb λhh=>hn ⟨hh,hb⟩⟩
 obtain⟨x1,x2⟩:=h.Ns (pv':=pv) (n':=n) hf' λb hb=>⟨(hN b hb.1 hb.2).1,(hN b hb.1 hb.2).2.1⟩
 have hnb:=dA h.nb;refine {h with ext:=x1,sep:=x2,nb:= ?_,ports:=h.ports.fP λb hb=>hf.2 b (h.ports.iT hb) λhh=>(hN b hh (h.ports.iT hb)).2.2.2.1 hb,lanes:=λi h1 h2=> ?_}
 ·rw[hf.2 _ hnb (λhh=>(hN _ hh hnb).2.2.1 rfl),h.nb]
 ·obtain⟨q1,q2⟩:=h.lanes i h1 h2
  have hl:=dA q1
  exact⟨by rw[hf.2 _ hl (λhh=>(hN _ hh hl).2.2.2.2 i h1 h2 rfl),q1],q2⟩
structure XN (Hs H:aA)(F:Part->Nat->Prop)(y:Lay)(n k xb:Nat)(w:Nat)(lv:Value):Prop where
 blk:H[xb]? =some (.cells [.int .i64 w,lv,pt (y.wh n)] 167 .fix)
 xF: ¬Un F xb
 x0:Hs.length<=xb
 rows:Rw (lP y n) 172 2 H lv (List.range k)
 lvF: ∀b,cG lv b->Hs.length<=b/\ ¬Un F b/\ ∀i,1<=i->i<n->b≠y.lb i
theorem aL8 {b:Nat}{a1 a2:Nat}(H:aA):bld prog 172 [(0,pt a1),(1,pt a2)]=some (.agg #[pt a1,pt a2])/\dL 172 2 1 [.pointer none,.pointer none] [(0,.agg #[pt a1,pt a2])] H=some (.slice (some ⟨H.length,0,none⟩) 1 1,H++[.cells [pt a1,pt a2] 172 .row]):=⟨rfl,rfl⟩
theorem aL9 {p:PlanD}{pl i w xb len:Nat}{bv:Value}(hok:c.ok)(hpl:Hs[pl]? =some (plB p ev wv nv))(h1:1<=n)(e3:p.room=(c.room:Int))(e9:p.start=(c.start:Int))(hm:50<m){nb:Nat}{Hb:aA}{K:Ex->K (Value×aA)}{Q:aA->Value->Prop}
    (hK: ∀H' F' y' lv,y'.nb=nb->BN Hs H' F' bag ev wv nv y' c n (n+1) c.lanes c.lanes pv->FE F' c n (n+1) c.lanes c.lanes->XN Hs H' F' y' n c.lanes xb w lv->Krow Hb H'-> ∀(x0 x1 x3 x4 x6 x7 x9 bI cA aP aN aL aM aR aS aO bC bH bV bG bE aT aU aV aW aX aY aZ bA bB bK bL bM bN bO bP bQ bR bS bT cC cD cE cI cM cN cO cQ cV cT cU cY dD dG dE dH dQ dR dU dV dW dX dY dZ eA eH eI eJ eK eL eM eN eO eP eQ eS eT fD fE fF fG fH fI fJ fK fW fX fY fZ gA gB gC gD gE gF gG gH gI gR gS gT gU gV gW gX gY gZ hP hZ iA iB iC iD iE iF iG iH iI:Value),∃H2 r,Lo (lvl prog pkN m) (aH m) K x0 x1 (pt pl) x3 x4 (pt nb) x6 x7 (pt xb) x9 bI cA aP aN aL aM aR aS aO bC bH bV bG bE aT aU aV aW aX aY aZ bA bB bK bL bM bN bO bP bQ bR bS bT cC cD cE cI bv (.int .i64 len) (.int .i64 (i:Nat)) cM cN cO cQ cV cT cU cY dD dG dE dH dQ dR dU dV dW dX dY dZ eA eH eI eJ eK eL eM eN eO eP eQ eS eT fD fE fF fG fH fI fJ fK fW fX fY fZ gA gB gC gD gE gF gG gH gI gR gS gT gU gV gW gX gY gZ hP hZ iA iB iC iD iE iF iG iH iI H'=some (r,H2)/\Q H2 r):
    ∀(q k l:Nat)(H:aA)(F:Part->Nat->Prop)(y:Lay)(lv:Value),c.lanes-k=q->k<=c.lanes->q<l->y.nb=nb->BN Hs H F bag ev wv nv y c n (n+1) k k pv->FE F c n (n+1) k k->XN Hs H F y n k xb w lv->Krow Hb H-> ∀(x0 x1 x3 x4 x6 x7 x9 bI cA aP aN aL aM aR aS aO bC bH bV bG bE aT aU aV aW aX aY aZ bA bB bK bL bM bN bO bP bQ bR bS bT cC cD cE cI cM cN cO cQ cV cT cU cY dD dH dQ dR dU dV dW dX dY dZ eA eH eI eJ eK eL eM eN eO eP eQ eS eT fD fE fF fG fH fI fJ fK fW fX fY fZ gA gB gC gD gE gF gG gH gI gR gS gT gU gV gW gX gY gZ hP hZ iA iB iC iD iE iF iG iH iI:Value),
    ∃H2 r,aH l (aI prog (lvl prog pkN m) (aH m) Lm) (Lq (lvl prog pkN m) (aH m) K) [x0,x1,(pt pl),x3,x4,(pt nb),x6,x7,(pt xb),x9,bI,cA,aP,aN,aL,aM,aR,aS,aO,bC,bH,bV,bG,bE,aT,aU,aV,aW,aX,aY,aZ,bA,bB,bK,bL,bM,bN,bO,bP,bQ,bR,bS,bT,cC,cD,cE,cI,bv,(.int .i64 len),(.int .i64 (i:Nat)),cM,cN,cO,cQ,cV,cT,cU,cY,dD,(.int .i64 c.lanes),(.int .i64 (k:Nat)),dH,dQ,dR,dU,dV,dW,dX,dY,dZ,eA,eH,eI,eJ,eK,eL,eM,eN,eO,eP,eQ,eS,eT,fD,fE,fF,fG,fH,fI,fJ,fK,fW,fX,fY,fZ,gA,gB,gC,gD,gE,gF,gG,gH,gI,gR,gS,gT,gU,gV,gW,gX,gY,gZ,hP,hZ,iA,iB,iC,iD,iE,iF,iG,iH,iI] H=some (r,H2)/\Q H2 r:=by
  intro q;induction q with
  |zero=>
    intro k l H F y lv hq hk hl hnb h hfe hx hkr;intros;obtain⟨l,rfl⟩: ∃l',l=l'+1:=⟨l-1,by omega⟩
    have hke:k=c.lanes:=by omega
    subst hke;have c1:decide ((c.lanes:Int)<(c.lanes:Int))=false:=by simp
    rw[aH,Vc];simp -implicitDefEqProofs only[gsR,c1];rw[aHU];exact hK H F y lv hnb h hfe hx hkr ..
  |succ q ih=>
    intro k l H F y lv hq hk hl hnb h hfe hx hkr;intros;obtain⟨l,rfl⟩: ∃l',l=l'+1:=⟨l-1,by omega⟩
    have h3:=hok.lanes.2;have hst:=hok.start;have hrm:=hok.room;have hkl:k<c.lanes:=by omega
    have c1:decide ((k:Int)<(c.lanes:Int))=true:=by rw[decide_eq_true_eq];omega
    have hpH: ∀G:aA,Ext Hs G->G[pl]? =some (plB p ev wv nv):=λG hG=>by rw[hG.2 _ (dA hpl) id,hpl]
    -- the ends
    obtain⟨H1,hH1⟩: ∃H1,H1=H++[lO ⟨c.start,c.start+c.room⟩]:=⟨_,rfl⟩;obtain⟨H2,hH2⟩: ∃H2,H2=H1++[iR ⟨c.start,0⟩ c.room]:=⟨_,rfl⟩;have x1:Ext H H1:=by rw[hH1];exact Fr.app _ _ _
    have x2:Ext H1 H2:=by rw[hH2];exact Fr.app _ _ _
    have h1l:H1.length=H.length+1:=by rw[hH1];simp
    have h2l:H2.length=H.length+2:=by rw[hH2];simp;omega
    have g1:=h.snd (hfe (.snd n k) (by unfold qQ DnB;omega)) (b:=H.length) rfl
    rw[<-hH1] at g1;have fe1:FE _ c n (n+1) (k+1) k:=hfe.E2 (i:= .snd n k) (G:=InB [(H.length,lO ⟨c.start,c.start+c.room⟩)]) (n':=n) (nw':=n+1) (cs':=k+1) (cr':=k) (show DnB c n (k+1) n k from .inr ⟨rfl,by omega⟩) (λj hj=>by
      cases j<;>simp only[qQ] at hj⊢ <;>(try exact hj)<;>(unfold DnB at hj ⊢; omega))
    have g2:=g1.rcv (fe1 (.rcv n k) (by unfold qQ DnB;omega)) (b:=H1.length) rfl
    rw[<-hH2] at g2;have fe2:FE _ c n (n+1) (k+1) (k+1):=fe1.E2 (i:= .rcv n k) (G:=InB [(H1.length,iR ⟨c.start,0⟩ c.room)]) (n':=n) (nw':=n+1) (cs':=k+1) (cr':=k+1) (show DnB c n (k+1) n k from .inr ⟨rfl,by omega⟩) (λj hj=>by
      cases j<;>simp only[qQ] at hj⊢ <;>(try exact hj)<;>(unfold DnB at hj ⊢; omega))
    obtain⟨F2,hF2⟩: ∃F2,F2=updI (updI F (.snd n k) (InB [(H.length,lO ⟨c.start,c.start+c.room⟩)])) (.rcv n k) (InB [(H1.length,iR ⟨c.start,0⟩ c.room)]):=⟨_,rfl⟩;obtain⟨y2,hy2⟩: ∃y2:Lay,y2={y with sb:=up2 y.sb n k H.length,rb:=up2 y.rb n k H1.length}:=⟨_,rfl⟩;rw[<-hF2] at g2 fe2;have g2:BN Hs H2 F2 bag ev wv nv y2 c n (n+1) (k+1) (k+1) pv:=by rw[hy2];exact g2
    have hun2: ∀b,b<H.length-> ¬Un F b-> ¬Un F2 b:=λb hb hF hu=>by
      rw[hF2] at hu;rcases sM hu with hu|⟨q,hq,rfl⟩
      · rcases sM hu with hu|⟨q,hq,rfl⟩
        · exact hF hu
        · simp only[aMS,aMZ,or_false] at hq
          subst hq;simp at hb
      · simp only[aMS,aMZ,or_false] at hq
        subst hq;simp only at hb;omega
    -- the row of one
    obtain⟨eb,es⟩:=aL8 (b:=0) (a1:=H.length) (a2:=H1.length) H2;have hl2:lP y2 n k=[pt H.length,pt H1.length]:=by
      rw[hy2];unfold lP;simp only;rw[E1,E1]
    have hrow:Rw (lP y2 n) 172 2 H2 lv (List.range k):=by
      have hk0:=hx.rows.fP (H':=H2) λb hb=>(x1.tr x2).2 b (hx.rows.iT hb) id
      have em:(List.range k).map (lP y2 n)=(List.range k).map (lP y n):=List.map_congr_left λj hj=>by
        have hj:=aNd.mp hj;rw[hy2];unfold lP;simp only;rw[yO _ _ (by omega),yO _ _ (by omega)]
      unfold Rw at hk0⊢;rw[em];exact hk0
    have hw1:Rr (lP y2 n) 172 (H2++[.cells [pt H.length,pt H1.length] 172 .row]) (.slice (some ⟨H2.length,0,none⟩) 1 1) [k]:=by
      have:=vN (el:=lP y2 n) (e:=172) k H2;rw[hl2] at this;exact this
    obtain⟨H3,hH3⟩: ∃H3,H3=H2++[Blk.cells [pt H.length,pt H1.length] 172 .row]:=⟨_,rfl⟩;have h3l:H3.length=H2.length+1:=by rw[hH3];simp
    obtain⟨lv',H4,k1,k2,k3,k4,k5⟩:=(hrow.tX [Blk.cells [pt H.length,pt H1.length] 172 .row]).vO (X7 y2 n) (aL5 y2 n) (by decide) (by':=16) hw1.rs (jI (n:=1000) (by decide) (by simp;omega))
    rw[<-hH3] at k1 k3 k4 k5 es;rw[<-aM8] at k2
    -- stored
    have hxl:=dA hx.blk;have hlvx: ¬cG lv xb:=λhh=>by
      obtain⟨cs',hc'⟩:=hx.rows.blk hh;rw[hx.blk] at hc';injection hc' with hc';injection hc' with _ _ h3;cases h3
    have bx2:H2[xb]? =some (.cells [.int .i64 w,lv,pt (y.wh n)] 167 .fix):=by rw[(x1.tr x2).2 _ hxl id,hx.blk]
    have bx1:H1[xb]? =some (.cells [.int .i64 w,lv,pt (y.wh n)] 167 .fix):=by rw[x1.2 _ hxl id,hx.blk]
    have bx4:H4[xb]? =some (.cells [.int .i64 w,lv,pt (y.wh n)] 167 .fix):=by rw[k4 xb (by omega) hlvx,hH3,aMC (by omega),bx2]
    have sh:=E0 k2;obtain⟨H5,hH5⟩: ∃H5,H5=H4.set xb (.cells [.int .i64 w,lv',pt (y.wh n)] 167 .fix):=⟨_,rfl⟩;have st:stN 1 (.pointer (some ⟨xb,1,none⟩)) lv' H4=some (undef,H5):=by rw[hH5];exact sG bx4 (by decide) (by simp) sh.1 sh.2
    have hfr:Fr (λb=>b=xb∨cG lv b) H2 H5:=⟨by rw[hH5];simp;omega,λb hb hn=>by
      rw[hH5,aMA (λhh=>hn (.inl hh.symm)),k4 b (by omega) (λhh=>hn (.inr hh)),hH3,aMC hb]⟩
    have hnbx:xb≠y.nb:=λhh=>by
      have:=h.nb;rw[<-hh,hx.blk] at this;injection this with this;injection this with _ h2 _
      revert h2
      decide
    have hpvx: ¬cG pv xb:=λhh=>by
      obtain⟨cs',hc'⟩:=h.ports.blk hh;rw[hx.blk] at hc';injection hc' with hc';injection hc' with _ _ h3;cases h3
    have hlbx: ∀i,1<=i->i<n->xb≠y.lb i:=λi a b hh=>by
      have:=(h.lanes i a b).1;rw[<-hh,hx.blk] at this;injection this with this;injection this with _ _ h3;cases h3
    have g5:BN Hs H5 F2 bag ev wv nv y2 c n (n+1) (k+1) (k+1) pv:=by
      refine g2.aL7 hfr λb hb hbl=> ?_
      have e1:y2.nb=y.nb:=by rw[hy2]
      have e2:y2.lb=y.lb:=by rw[hy2]
      rw[e1,e2];rcases hb with rfl|hb
      · exact⟨hun2 _ hxl hx.xF,hx.x0,hnbx,hpvx,hlbx⟩
      · obtain⟨q1,q2,q3⟩:=hx.lvF b hb
        have hbH:=hx.rows.iT hb;refine⟨hun2 _ hbH q2,q1,λhh=> ?_,λhh=> ?_,q3⟩
        · obtain⟨cs',hc'⟩:=hx.rows.blk hb
          rw[hh,h.nb] at hc';injection hc' with hc';injection hc' with _ _ h3;cases h3
        · obtain⟨cs',hc'⟩:=hx.rows.blk hb
          obtain⟨cs2,hc2⟩:=h.ports.blk hh;rw[hc'] at hc2;injection hc2 with hc2;injection hc2 with _ h2 _
          revert h2
          decide
    have hwh:y2.wh=y.wh:=by rw[hy2]
    have hlv'x: ¬cG lv' xb:=λhh=>by
      rcases k5 xb hh with hh|hh
      · exact hlvx hh
      · omega
    have hx5:XN Hs H5 F2 y2 n (k+1) xb w lv':=by
      refine⟨by rw[hwh,hH5];exact iM bx4,hun2 _ hxl hx.xF,hx.x0,k2.fP λb hb=>by rw[hH5];exact aMA λhh=>hlv'x (by rw[hh];exact hb),λb hb=> ?_⟩
      have e2:y2.lb=y.lb:=by rw[hy2]
      rw[e2];have hsl:=h.ext.1;rcases k5 b hb with hb|hb
      · obtain⟨q1,q2,q3⟩:=hx.lvF b hb
        exact⟨q1,hun2 _ (hx.rows.iT hb) q2,q3⟩
      · refine⟨by omega,λhu=>by have:=g2.sep.pN b hu;omega,λi a b' hh=> ?_⟩
        have:=dA (h.lanes i a b').1;omega
    -- the walk
    have hp0:=hpH H h.ext;have hp1:=hpH H1 (h.ext.tr x1);have l9:ld1 (.pointer (some ⟨pl,9,none⟩)) H=some (.int .u16 c.start,H):=by rw[eE hp0 9 (.int .u16 p.start) rfl,e9]
    have l3:ld1 (.pointer (some ⟨pl,3,none⟩)) H=some (.int .i64 c.room,H):=by rw[eE hp0 3 (.int .i64 p.room) rfl,e3]
    have l9':ld1 (.pointer (some ⟨pl,9,none⟩)) H1=some (.int .u16 c.start,H1):=by rw[eE hp1 9 (.int .u16 p.start) rfl,e9]
    have l3':ld1 (.pointer (some ⟨pl,3,none⟩)) H1=some (.int .i64 c.room,H1):=by rw[eE hp1 3 (.int .i64 p.room) rfl,e3]
    have ecs:IntKind.u64.wrap (c.start:Int)=(c.start:Int):=xV _ (by omega)
    have s1:=aIA (H:=H) (m:=m) (by omega) c.start c.room hst hrm
    have s2:=aIy (H:=H1) (m:=m) (by omega) c.start c.room hst hrm
    rw[<-hH1] at s1;rw[<-hH2] at s2;have lx:ld1 (.pointer (some ⟨xb,1,none⟩)) H=some (lv,H):=cK hx.blk rfl;have lx1:ld1 (.pointer (some ⟨xb,1,none⟩)) H1=some (lv,H1):=cK bx1 rfl;have lx2:ld1 (.pointer (some ⟨xb,1,none⟩)) H2=some (lv,H2):=cK bx2 rfl;have lvc:=λG=>aLE hx.rows G
    have ek:=nU k (by omega)
    rw[aH,Vc];simp -implicitDefEqProofs only[gsR,c1,lx,l9,l3,eZ _ _ mJ pU,ecs,s1,lx1,lvc,l9',Aq,l3',s2,lx2,eb,es,k1,st,cH,ek];refine ih (k+1) l H5 F2 y2 lv' (by omega) (by omega) (by omega) (by rw[hy2];exact hnb) g5 fe2 hx5 (λb cs hb=> ?_) ..
    have hb2:=(hkr.ext (x1.tr x2)) b cs hb;rw[hfr.2 b (dA hb2) (λhh=> ?_),hb2]
    rcases hh with rfl|hh
    · rw[bx2] at hb2
      injection hb2 with hb2;injection hb2 with _ _ h3;cases h3
    · obtain⟨cs',hc'⟩:=hrow.blk hh
      rw[hb2] at hc';injection hc' with hc';injection hc' with _ h2 _
      revert h2
      decide
end
theorem Sep.aMb {ι:Type}{A:ι->aA->Prop}{F:ι->Nat->Prop}{H:aA}(h:Sep A F H)(i:ι)(hi: ∀b,¬F i b){B:aA->Prop}{G:Nat->Prop}(hB:Has B G H)(hd: ∀b,G b-> ¬Un F b):Sep (updI A i B) (updI F i G) H:=by
 refine⟨λj=> ?_,λj k b hj hk=> ?_⟩
 ·by_cases hji:j=i
  ·rw[hji,mO,mO]
   exact hB
  ·rw[eX _ _ hji,eX _ _ hji]
   exact h.own j
 ·by_cases hji:j=i
  ·by_cases hki:k=i
   ·rw[hji,hki]
   ·rw[hji,mO] at hj
    rw[eX _ _ hki] at hk;exact absurd ⟨k,hk⟩ (hd b hj)
  ·rw[eX _ _ hji] at hj
   by_cases hki:k=i
   ·rw[hki,mO] at hk
    exact absurd ⟨j,hj⟩ (hd b hk)
   ·rw[eX _ _ hki] at hk
    exact h.sep j k b hj hk
section
variable {Hs H : aA} {F : Part → Nat → Prop} {bag : Int} {ev wv nv : Value} {y : Lay} {c : Cfg} {n nw cs cr : Nat} {pv : Value} {m : Nat}
theorem A2 (hn:1<=n)(i k:Nat):DnB c n c.lanes i k↔DnB c (n+1) 0 i k:=by
 unfold DnB
 constructor<;>intro h<;>omega
theorem BN.aMa {w xb:Nat}{lv:Value}(h:BN Hs H F bag ev wv nv y c n (n+1) c.lanes c.lanes pv)(hfe:FE F c n (n+1) c.lanes c.lanes)(hx:XN Hs H F y n c.lanes xb w lv)(hn:1<=n)(hn6:n<=6)(hl:1<=c.lanes)(hw:w=jM c n):
  ∃y' pv' H3 H4 H',y'.nb=y.nb/\dL 167 3 1 [.int .i64 0,.slice none 0 0,.pointer none] [(0,.agg #[.int .i64 w,lv,pt (y.wh n)])] H=some (.slice (some ⟨H.length,0,none⟩) 1 1,H3)/\Go.Abs.app 167 3 40 pv (.slice (some ⟨H.length,0,none⟩) 1 1) H3=some (pv',H4)/\
   stN 1 (.pointer (some ⟨y.nb,13,none⟩)) pv' H4=some (undef,H')/\BN Hs H' F bag ev wv nv y' c (n+1) (n+1) 0 0 pv'/\FE F c (n+1) (n+1) 0 0/\Krow H H':=by
 obtain⟨b,cap,rest,hlv,hcap,hlb⟩: ∃b cap rest,lv= .slice (some ⟨b,0,none⟩) c.lanes cap/\c.lanes<=cap/\H[b]? =some (.cells (((List.range c.lanes).map (lP y n)).flatten++rest) 172 .row):=by
  obtain⟨_,⟨_,h0⟩|⟨c',cap,rest,h1,h2,_,h3⟩⟩:=hx.rows
  ·rw[aM3] at h0
   omega
  ·rw[aM3] at h1 h2
   exact⟨c',cap,rest,h1,h2,h3⟩
 obtain⟨y',hy'⟩: ∃y':Lay,y'={y with lb:=up1 y.lb n b,lcap:=up1 y.lcap n cap,lrest:=up1 y.lrest n rest}:=⟨_,rfl⟩;have hbF:=hx.lvF b (by rw[hlv];exact⟨_,_,_,rfl⟩)
 have hpo: ∀i,i<n->fB y' c i=fB y c i:=λi hi=>by
  rw[hy'];unfold fB lZ;simp only;rw[mV _ _ (by omega),mV _ _ (by omega)]
 have hpn:fB y' c n=[.int .i64 w,lv,pt (y.wh n)]:=by
  rw[hy',hw,hlv];unfold fB lZ;simp only;rw[if_neg (by omega),nI,nI]
 have hrw:Rw (fB y' c) 167 3 H pv (List.range n):=by
  have:=h.ports;unfold Rw at this⊢;rw[List.map_congr_left λi hi=>hpo i (aNd.mp hi)]
  exact this
 have eb:dL 167 3 1 [.int .i64 0,.slice none 0 0,.pointer none] [(0,.agg #[.int .i64 w,lv,pt (y.wh n)])] H=some (.slice (some ⟨H.length,0,none⟩) 1 1,H++[.cells [.int .i64 w,lv,pt (y.wh n)] 167 .row]):=by
  rw[hlv];rfl
 have hw1:Rr (fB y' c) 167 (H++[.cells [.int .i64 w,lv,pt (y.wh n)] 167 .row]) (.slice (some ⟨H.length,0,none⟩) 1 1) [n]:=by
  have:=vN (el:=fB y' c) (e:=167) n H;rw[hpn] at this;exact this
 obtain⟨pv',H4,k1,k2,k3,k4,k5⟩:=(hrw.tX [Blk.cells [.int .i64 w,lv,pt (y.wh n)] 167 .row]).vO (Au y' c) (Yy y' c) (by decide) (by':=40) hw1.rs (jI (n:=1000) (by decide) (by simp;omega))
 rw[<-aM8] at k2;have hlen:(H++[Blk.cells [.int .i64 w,lv,pt (y.wh n)] 167 .row]).length=H.length+1:=by simp
 rw[hlen] at k3 k4 k5;have hnl:=dA h.nb;have hnpv: ¬cG pv y.nb:=λhh=>by
  obtain⟨cs',hc'⟩:=h.ports.blk hh;rw[h.nb] at hc';injection hc' with hc';injection hc' with _ _ h3;cases h3
 have bn4:H4[y.nb]? =some (qP bag ev wv nv y c pv):=by rw[k4 _ (by omega) hnpv,aMC hnl,h.nb]
 have sh:=E0 k2;have st:stN 1 (.pointer (some ⟨y.nb,13,none⟩)) pv' H4=some (undef,H4.set y.nb (qP bag ev wv nv y c pv')):=sG bn4 (by decide) (by simp) sh.1 sh.2
 have hfr:Fr (λb=>b=y.nb∨cG pv b) H (H4.set y.nb (qP bag ev wv nv y c pv')):=⟨by simp;omega,λb hb hn=>by
  rw[aMA (λhh=>hn (.inl hh.symm)),k4 b (by omega) (λhh=>hn (.inr hh)),aMC hb]⟩
 have hNF: ∀b,(b=y.nb∨cG pv b)-> ¬Un F b/\Hs.length<=b:=λb hb=>by
  rcases hb with rfl|hb
  ·exact⟨h.nbF,h.nb0⟩
  ·exact⟨(h.pvF b hb).2,(h.pvF b hb).1⟩
 obtain⟨x1,x2⟩:=h.Ns (pv':=pv) (n':=n) hfr hNF;have hlkeep: ∀(a:Nat)(cs':List Value),H[a]? =some (.cells cs' 172 .row)->(H4.set y.nb (qP bag ev wv nv y c pv'))[a]? =some (.cells cs' 172 .row):=λa cs' ha=>by
  rw[hfr.2 a (dA ha) (λhh=> ?_),ha]
  rcases hh with rfl|hh
  ·rw[h.nb] at ha
   injection ha with ha;injection ha with _ _ h3;cases h3
  ·obtain⟨cs2,hc2⟩:=h.ports.blk hh
   rw[ha] at hc2;injection hc2 with hc2;injection hc2 with _ h2 _
   revert h2
   decide
 have hpvn: ¬cG pv' y.nb:=λhh=>by
  rcases k5 _ hh with hh|hh
  ·exact hnpv hh
  ·omega
 have hsl:=h.ext.1;refine⟨y',pv',_,H4,_,by rw[hy'],eb,k1,st,?_,λj hj=>hfe j λhd=>hj ?_,λb cs hb=> ?_⟩
 ·refine⟨x1,x2.vP λj D hD=> ?_,h.new,?_,by rw[hy'];exact h.nbF,by rw[hy'];exact h.nb0,k2.fP λb hb=>aMA λhh=>hpvn (by rw[hh];exact hb),λb hb=> ?_,λi h1 h2=> ?_,λi j a1 a2 a3 a4 he=> ?_,by rw[hy'];exact h.ww⟩
  ·rw[hy']
   cases j with
   |snd i k=>
    simp only[lR] at hD⊢;by_cases hd:DnB c n c.lanes i k
    ·rw[if_pos hd] at hD
     rw[if_pos ((A2 hn i k).mp hd)];exact hD
    ·rw[if_neg hd] at hD
     rw[if_neg (λhh=>hd ((A2 hn i k).mpr hh))]
     exact hD
   |rcv i k=>
    simp only[lR] at hD⊢;by_cases hd:DnB c n c.lanes i k
    ·rw[if_pos hd] at hD
     rw[if_pos ((A2 hn i k).mp hd)];exact hD
    ·rw[if_neg hd] at hD
     rw[if_neg (λhh=>hd ((A2 hn i k).mpr hh))]
     exact hD
   |_=>exact hD
  ·rw[hy']
   exact iM bn4
  ·rcases k5 b hb with hb|hb
   ·exact h.pvF b hb
   ·exact⟨by omega,λhu=>by have:=h.sep.pN b hu;omega⟩
  ·by_cases hin:i=n
   ·subst hin
    have e1:y'.lb i=b:=by rw[hy'];exact nI _ _ _
    have e2:y'.lcap i=cap:=by rw[hy'];exact nI _ _ _
    have e3:nW y' c i= .cells (((List.range c.lanes).map (lP y i)).flatten++rest) 172 .row:=by
     rw[hy'];unfold nW;simp only;rw[nI];rfl
    rw[e1,e2,e3]
    exact⟨hlkeep _ _ hlb,hbF.1,hbF.2.1,hcap⟩
   ·obtain⟨q1,q2,q3,q4⟩:=h.lanes i h1 (by omega)
    have e1:y'.lb i=y.lb i:=by rw[hy'];exact mV _ _ hin
    have e2:y'.lcap i=y.lcap i:=by rw[hy'];exact mV _ _ hin
    have e3:nW y' c i=nW y c i:=by
     rw[hy'];unfold nW;simp only;rw[mV _ _ hin];rfl
    rw[e1,e2,e3]
    exact⟨hlkeep _ _ q1,q2,q3,q4⟩
  ·have e1: ∀i,y'.lb i=up1 y.lb n b i:=λi=>by rw[hy']
   rw[e1,e1] at he;by_cases hi:i=n
   ·by_cases hj:j=n
    ·rw[hi,hj]
    ·rw[hi,nI,mV _ _ hj] at he
     exact absurd he (hbF.2.2 j a3 (by omega))
   ·by_cases hj:j=n
    ·rw[hj,nI,mV _ _ hi] at he
     exact absurd he.symm (hbF.2.2 i a1 (by omega))
    ·rw[mV _ _ hi,mV _ _ hj] at he
     exact h.lne i j a1 (by omega) a3 (by omega) he
 ·cases j<;>simp only[qQ] at hd⊢ <;>(try exact hd)<;>exact(A2 hn _ _).mp hd
 ·rw[hfr.2 b (dA hb) (λhh=> ?_),hb]
  rcases hh with rfl|hh
  ·rw[h.nb] at hb
   injection hb with hb;injection hb with _ _ h3;cases h3
  ·obtain⟨cs2,hc2⟩:=h.ports.blk hh
   rw[hb] at hc2;injection hc2 with hc2;injection hc2 with _ h2 _
   revert h2
   decide
end
section
variable {Hs H : aA} {F : Part → Nat → Prop} {ev wv nv : Value} {y : Lay} {c : Cfg} {p : PlanD} {m : Nat}
def Nu (Hs:aA)(p:PlanD)(ev wv nv:Value)(c:Cfg)(H':aA)(r:Value):Prop:= ∃F y,r=pt y.nb/\NodeAt Hs H' F y p ev wv nv c 0 (NS.jK c)
theorem Y0 (a b:Nat)(h:a*b<100000):IntKind.i64.wrap ((a:Int)*b)=((a*b:Nat):Int):=by
 have e:(a:Int)*b=((a*b:Nat):Int):=by push_cast;rfl
 rw[e];exact dJ (by omega) (by omega)
theorem aMc {pl:Nat}{pv:Value}(hok:c.ok)(hc:c=iP p c.me)(hop: ∃n,OkP p n)(hPV:PV Hs p ev wv nv)(hpl:Hs[pl]? =some (plB p ev wv nv))(e2:p.lanes=(c.lanes:Int))(e3:p.room=(c.room:Int))(hm:400<m)
    (h:BN Hs H F p.bag ev wv nv y c c.aF c.aF 0 0 pv)(hfe:FE F c c.aF c.aF 0 0): ∀(x0 x1 x3 x4 x6 x7 x8 x9 bI cA aP aN aL aM aR aS aO bC bH bV bG bE aT aU aV aW aX aY aZ bA bB bK bL bM bN bO bP bQ bR bS bT cC cD cE cI cP cR cS cM cN cO cQ cV cT cU cY dD dG dE dH dQ dR dU dV dW dX dY dZ eA eH eI eJ eK eL eM eN eO eP eQ eS eT fD fE fF fG fH fI fJ fK fW fX fY fZ gA gB gC gD gE gF gG gH gI gR gS gT gU gV gW gX gY gZ hP hZ iA iB iC iD iE iF iG iH iI:Value),
    ∃H2 r,Ln (lvl prog pkN m) (aH m) x0 x1 (pt pl) x3 x4 (pt y.nb) x6 x7 x8 x9 bI cA aP aN aL aM aR aS aO bC bH bV bG bE aT aU aV aW aX aY aZ bA bB bK bL bM bN bO bP bQ bR bS bT cC cD cE cI cP cR cS cM cN cO cQ cV cT cU cY dD dG dE dH dQ dR dU dV dW dX dY dZ eA eH eI eJ eK eL eM eN eO eP eQ eS eT fD fE fF fG fH fI fJ fK fW fX fY fZ gA gB gC gD gE gF gG gH gI gR gS gT gU gV gW gX gY gZ hP hZ iA iB iC iD iE iF iG iH iI H=some (r,H2)/\Nu Hs p ev wv nv c H2 r:=by
  intros;have h6:c.aF<=6:=by have:=hok.by';unfold Cfg.aF;omega
  have hp1:1<=c.aF:=by unfold Cfg.aF;omega
  have hlanes:=hok.lanes;have hroom:=hok.room
  -- the ports' slice
  obtain⟨pb,pcap,prest,hpv,hpc,hpb⟩: ∃b cap rest,pv= .slice (some ⟨b,0,none⟩) c.aF cap/\c.aF<=cap/\H[b]? =some (.cells (((List.range c.aF).map (fB y c)).flatten++rest) 167 .row):=by
    obtain⟨_,⟨_,h0⟩|⟨c',cap,rest,h1,h2,_,h3⟩⟩:=h.ports
    · rw[aM3] at h0
      omega
    · rw[aM3] at h1 h2
      exact⟨c',cap,rest,h1,h2,h3⟩
  have hpbF:=h.pvF pb (by rw[hpv];exact⟨_,_,_,rfl⟩)
  have n13:ld1 (.pointer (some ⟨y.nb,13,none⟩)) H=some (pv,H):=cK h.nb rfl;have lpv:bJ pv=some (.int .i64 c.aF):=by rw[hpv];rfl
  -- the arbiter
  obtain⟨ab,ga,aa,H1,a1,a2,a3,x1,a4,a5,a6⟩:=aKL (H:=H) (m:=m) (n:=c.aF) hp1 (by omega) (by omega)
  have hA1:Has (Blks (iO ab ga aa (List.replicate c.aF 0) (List.replicate c.aF 0))) (InB (iO ab ga aa (List.replicate c.aF 0) (List.replicate c.aF 0))) H1:=
    Has.Eh a2 (λq hq=>⟨q,hq,rfl⟩) λb ⟨q,hq,hb⟩=>by rw[<-hb];exact dA (a2 q hq)
  have hge1: ∀b,InB (iO ab ga aa (List.replicate c.aF 0) (List.replicate c.aF 0)) b->H.length<=b:=λb ⟨q,hq,hb⟩=>by
    rw[<-hb];simp only[iO,aMS,aMZ,or_false] at hq;rcases hq with rfl|rfl|rfl
    · exact a4
    · exact a5
    · exact a6
  have sep1:=h.sep.Ei .arb (A0 _ _ _ _ _ _) (hfe .arb id) hA1 x1 hge1;obtain⟨F1,hF1⟩: ∃F1,F1=updI F .arb (InB (iO ab ga aa (List.replicate c.aF 0) (List.replicate c.aF 0))):=⟨_,rfl⟩;obtain⟨A1,hA1'⟩: ∃A1,A1=updI (lR y c c.aF c.aF 0 0) .arb (Blks (iO ab ga aa (List.replicate c.aF 0) (List.replicate c.aF 0))):=⟨_,rfl⟩;rw[<-hF1,<-hA1'] at sep1;have dx1: ∀j,DX (A1 j):=λj=>by
    rw[hA1'];unfold updI;split
    · exact Blks.dx _
    · exact A0 _ _ _ _ _ _ j
  have hun1: ∀b,b<H.length-> ¬Un F b-> ¬Un F1 b:=λb hb hF hu=>by
    rw[hF1] at hu
    exact(sM hu).elim hF λhg=>by have:=hge1 b hg;omega
  have bn1:H1[y.nb]? =some (qP p.bag ev wv nv y c pv):=by rw[x1.2 _ (dA h.nb) id,h.nb]
  -- stored
  obtain⟨H2,hH2⟩: ∃H2,H2=H1.set y.nb (.cells [pt ab,.int .i64 c.nodes,ev,.int .i64 c.lanes,.int .i64 c.room,.int .i64 c.queue,.int .i64 c.rounds,.int .i64 c.every,.int .i64 p.bag,wv,.int .u16 c.start,nv,.int .i64 c.me,pv,pt y.hb,.pointer none,.int .i64 0] 162 .fix):=⟨_,rfl⟩;have st1:stN 1 (.pointer (some ⟨y.nb,0,none⟩)) (pt ab) H1=some (undef,H2):=by rw[hH2];exact sG bn1 (by decide) (by simp) rfl rfl
  have bn2:H2[y.nb]? =some (.cells [pt ab,.int .i64 c.nodes,ev,.int .i64 c.lanes,.int .i64 c.room,.int .i64 c.queue,.int .i64 c.rounds,.int .i64 c.every,.int .i64 p.bag,wv,.int .u16 c.start,nv,.int .i64 c.me,pv,pt y.hb,.pointer none,.int .i64 0] 162 .fix):=by rw[hH2];exact iM bn1
  have fr2:Fr (λb=>b=y.nb) H1 H2:=⟨by rw[hH2];simp,λb hb hn=>by rw[hH2,aMA (λhh=>hn hh.symm)]⟩
  have nbl:=dA h.nb;have nbF1:=hun1 _ nbl h.nbF;have mv2:Mv (λb=>b=y.nb) (λb=>b=y.nb) H1 H2:=⟨fr2.1,λ_ h=> .inl h,λb hb hn=>fr2.2 b hb hn⟩
  have sep2:=sep1.vQ dx1 mv2 λb hb hh=>nbF1 (by rw[<-hh];exact hb)
  -- the rings
  have hroom2:=Yn hok;have hpos:1<=c.aF*c.lanes*c.room:=Nat.mul_pos (Nat.mul_pos (by omega) (by omega)) (by omega)
  obtain⟨r,H3,G3,r1,r2,x3,r3⟩:=Has.Xh (A:=λ_=>True) (H:=H2) rA (n:=m) (B:=λr D'=> ∃a,r=pt a/\RingsN D' a [] (c.aF*c.lanes*c.room) c.aF c.lanes) (λD _ _=>by
    obtain⟨a,D',g1,g2,_,_⟩:=aJ1 (D:=D) (m:=m) (by omega) c.aF c.lanes (c.aF*c.lanes*c.room) ⟨hp1,by omega,hlanes.1,hlanes.2,hpos,by omega⟩
    exact⟨_,D',g1,a,rfl,g2⟩)
  obtain⟨rg,hrg,_⟩:=r2.at_;have r2':Has (λD=>RingsN D rg [] (c.aF*c.lanes*c.room) c.aF c.lanes) G3 H3:=Has.uT r2 λD ⟨a,ha,hD⟩=>by
    rw[hrg] at ha;injection ha with ha;injection ha with ha;injection ha with ha;rw[ha];exact hD
  have fr1: ∀b,¬F1 .rings b:=λb hb=>by
    rw[hF1,eX _ _ (λhh=>by cases hh)] at hb
    exact hfe .rings id b hb
  have sep3:=sep2.Ei .rings dx1 fr1 r2' x3 r3;obtain⟨F3,hF3⟩: ∃F3,F3=updI F1 .rings G3:=⟨_,rfl⟩;obtain⟨A3,hA3⟩: ∃A3,A3=updI A1 .rings (λD=>RingsN D rg [] (c.aF*c.lanes*c.room) c.aF c.lanes):=⟨_,rfl⟩
  rw[<-hF3,<-hA3] at sep3;have dx3: ∀j,DX (A3 j):=λj=>by
    rw[hA3];unfold updI;split
    · exact λD D' h he=>h.ext he
    · exact dx1 j
  have hl12:=fr2.1;have hl01:=x1.1;have hun3: ∀b,b<H.length-> ¬Un F b-> ¬Un F3 b:=λb hb hF hu=>by
    rw[hF3] at hu
    exact(sM hu).elim (hun1 b hb hF) λhg=>by have:=r3 b hg;omega
  have bn3:H3[y.nb]? =some (.cells [pt ab,.int .i64 c.nodes,ev,.int .i64 c.lanes,.int .i64 c.room,.int .i64 c.queue,.int .i64 c.rounds,.int .i64 c.every,.int .i64 p.bag,wv,.int .u16 c.start,nv,.int .i64 c.me,pv,pt y.hb,.pointer none,.int .i64 0] 162 .fix):=by rw[x3.2 _ (dA bn2) id,bn2]
  -- stored
  obtain⟨y',hy'⟩: ∃y':Lay,y'={y with pb:=pb,pcap:=pcap,prest:=prest,ab:=ab,ga:=ga,aa:=aa,rg:=rg}:=⟨_,rfl⟩;have hnc:Blk.cells [pt ab,.int .i64 c.nodes,ev,.int .i64 c.lanes,.int .i64 c.room,.int .i64 c.queue,.int .i64 c.rounds,.int .i64 c.every,.int .i64 p.bag,wv,.int .u16 c.start,nv,.int .i64 c.me,pv,pt y.hb,pt rg,.int .i64 0] 162 .fix=uR p.bag ev wv nv y' c 0:=by
    rw[hy',hpv];rfl
  obtain⟨H4,hH4⟩: ∃H4,H4=H3.set y.nb (uR p.bag ev wv nv y' c 0):=⟨_,rfl⟩;have st2:stN 1 (.pointer (some ⟨y.nb,15,none⟩)) (pt rg) H3=some (undef,H4):=by rw[hH4,<-hnc];exact sG bn3 (by decide) (by simp) rfl rfl
  have fr4:Fr (λb=>b=y.nb) H3 H4:=⟨by rw[hH4];simp,λb hb hn=>by rw[hH4,aMA (λhh=>hn hh.symm)]⟩
  have mv4:Mv (λb=>b=y.nb) (λb=>b=y.nb) H3 H4:=⟨fr4.1,λ_ h=> .inl h,λb hb hn=>fr4.2 b hb hn⟩
  have nbF3:=hun3 _ nbl h.nbF;have sep4:=sep3.vQ dx3 mv4 λb hb hh=>nbF3 (by rw[<-hh];exact hb)
  have keep: ∀b,b<H.length->b≠y.nb->H4[b]? =H[b]? :=λb hb hn=>by
    have hl23:=x3.1;rw[fr4.2 b (by omega) hn,x3.2 b (by omega) id,fr2.2 b (by omega) hn,x1.2 b hb id]
  have bn4:H4[y.nb]? =some (uR p.bag ev wv nv y' c 0):=by rw[hH4];exact iM bn3
  -- the node's own blocks
  have enb:y'.nb=y.nb:=by rw[hy']
  have hpbn:pb≠y.nb:=λhh=>by
    have:=h.nb;rw[<-hh,hpb] at this;injection this with this;injection this with _ _ h3;cases h3
  have hlbn: ∀i,1<=i->i<c.aF->y.lb i≠y.nb:=λi a b hh=>by
    have:=(h.lanes i a b).1;rw[hh,h.nb] at this;injection this with this;injection this with _ _ h3;cases h3
  have hnl:Blks (lQ p.bag ev wv nv y' c 0) H4/\ ∀b,InB (lQ p.bag ev wv nv y' c 0) b->b<H.length/\ ¬Un F b/\Hs.length<=b:=by
    have q0: ∀q∈lQ p.bag ev wv nv y' c 0,H4[q.1]? =some q.2/\q.1<H.length/\ ¬Un F q.1/\Hs.length<=q.1:=λq hq=>by
      simp only[lQ,aMS,aNc,aNd] at hq;rcases hq with rfl|rfl|⟨j,hj,rfl⟩
      · simp only
        rw[enb]
        exact⟨bn4,nbl,h.nbF,h.nb0⟩
      · have e:y'.pb=pb:=by rw[hy']
        have e2:wJ y' c= .cells (((List.range c.aF).map (fB y c)).flatten++prest) 167 .row:=by rw[hy'];rfl
        simp only;rw[e,e2]
        exact⟨by rw[keep _ (dA hpb) hpbn,hpb],dA hpb,hpbF.2,hpbF.1⟩
      · have hjp:j+1<c.aF:=by unfold Cfg.aF;omega
        obtain⟨q1,q2,q3,q4⟩:=h.lanes (j+1) (by omega) hjp
        have e:y'.lb (j+1)=y.lb (j+1):=by rw[hy']
        have e2:nW y' c (j+1)=nW y c (j+1):=by rw[hy'];rfl
        simp only;rw[e,e2]
        exact⟨by rw[keep _ (dA q1) (hlbn _ (by omega) hjp),q1],dA q1,q3,q2⟩
    exact⟨λq hq=>(q0 q hq).1,λb ⟨q,hq,hb⟩=>by rw[<-hb];exact(q0 q hq).2⟩
  have hl4:H.length<=H4.length:=by
    have:=x3.1;have:=fr4.1;omega
  have fn3: ∀b,¬F3 .node b:=λb hb=>by
    rw[hF3,eX _ _ (λhh=>by cases hh),hF1,eX _ _ (λhh=>by cases hh)] at hb
    exact hfe .node id b hb
  have sep5:=Sep.aMb sep4 .node fn3 (B:=Blks (lQ p.bag ev wv nv y' c 0)) (G:=InB (lQ p.bag ev wv nv y' c 0)) (Has.Eh hnl.1 (λq hq=>⟨q,hq,rfl⟩) λb hb=>by have:=(hnl.2 b hb).1;omega) λb hb=>hun3 b (hnl.2 b hb).1 (hnl.2 b hb).2.1
  -- all of it
  have hx4:Ext Hs H4:=by
    have hsl:=h.ext.1;have hnb0:=h.nb0
    exact⟨by omega,λb hb _=>by rw[keep b (by omega) (by omega),h.ext.2 b hb id]⟩
  have hnode:NodeAt Hs H4 (updI F3 .node (InB (lQ p.bag ev wv nv y' c 0))) y' p ev wv nv c 0 (NS.jK c):=by
    refine⟨hok,hc,hop,⟨?_,?_,?_,?_⟩,hx4,λb hb=> ?_,hPV,NInv.aI3 hok,sep5.vP λj D hD=> ?_⟩
    · rw[hy'];exact hpc
    · rw[hy'];exact λi h1 h2=>(h.lanes i h1 h2).2.2.2
    · rw[hy'];exact a3
    · rw[hy'];exact h.ww
    · have hsl:=h.ext.1
      rcases sM hb with hb|hb
      · rw[hF3] at hb
        rcases sM hb with hb|hb
        · rw[hF1] at hb
          rcases sM hb with hb|hb
          · exact h.new b hb
          · have:=hge1 b hb;omega
        · have:=r3 b hb;omega
      · exact(hnl.2 b hb).2.2
    · cases j with
      |node=>
        rw[mO] at hD;exact hD
      |rings=>
        rw[eX _ _ (λhh=>by cases hh),hA3,mO] at hD
        rw[hy'];exact hD
      |arb=>
        rw[eX _ _ (λhh=>by cases hh),hA3,eX _ _ (λhh=>by cases hh),hA1',mO] at hD
        rw[hy'];exact hD
      |host=>
        rw[eX _ _ (λhh=>by cases hh),hA3,eX _ _ (λhh=>by cases hh),hA1',eX _ _ (λhh=>by cases hh)] at hD
        rw[hy'];exact hD
      |whl i=>
        rw[eX _ _ (λhh=>by cases hh),hA3,eX _ _ (λhh=>by cases hh),hA1',eX _ _ (λhh=>by cases hh)] at hD
        rw[hy'];exact hD
      |snd i k=>
        rw[eX _ _ (λhh=>by cases hh),hA3,eX _ _ (λhh=>by cases hh),hA1',eX _ _ (λhh=>by cases hh)] at hD
        rw[hy'];simp only[lR,kQ] at hD⊢;by_cases hd:1<=i/\i<c.aF/\k<c.lanes
        · rw[if_pos (.inl hd)] at hD
          rw[if_pos hd];exact hD
        · rw[if_neg (by unfold DnB;omega)] at hD
          rw[if_neg hd];exact hD
      |rcv i k=>
        rw[eX _ _ (λhh=>by cases hh),hA3,eX _ _ (λhh=>by cases hh),hA1',eX _ _ (λhh=>by cases hh)] at hD
        rw[hy'];simp only[lR,kQ] at hD⊢;by_cases hd:1<=i/\i<c.aF/\k<c.lanes
        · rw[if_pos (.inl hd)] at hD
          rw[if_pos hd];exact hD
        · rw[if_neg (by unfold DnB;omega)] at hD
          rw[if_neg hd];exact hD
  -- the walk
  have hp: ∀G:aA,Ext Hs G->G[pl]? =some (plB p ev wv nv):=λG hG=>by rw[hG.2 _ (dA hpl) id,hpl]
  have hx2:Ext Hs H2:=by
    have hsl:=h.ext.1;have hnb0:=h.nb0
    exact⟨by omega,λb hb _=>by rw[fr2.2 b (by omega) (by omega),x1.2 b (by omega) id,h.ext.2 b hb id]⟩
  have l2:ld1 (.pointer (some ⟨pl,2,none⟩)) H2=some (.int .i64 c.lanes,H2):=by rw[eE (hp H2 hx2) 2 (.int .i64 p.lanes) rfl,e2]
  have l3:ld1 (.pointer (some ⟨pl,3,none⟩)) H2=some (.int .i64 c.room,H2):=by rw[eE (hp H2 hx2) 3 (.int .i64 p.room) rfl,e3]
  have n13':ld1 (.pointer (some ⟨y.nb,13,none⟩)) H2=some (pv,H2):=cK bn2 rfl;have hpl18:c.aF*c.lanes<=18:=Nat.mul_le_mul h6 hlanes.2;have m1:=Y0 c.aF c.lanes (by omega)
  have m2:=Y0 (c.aF*c.lanes) c.room (by omega)
  rw[hrg] at r1;refine⟨H4,pt y.nb,?_,updI F3 .node (InB (lQ p.bag ev wv nv y' c 0)),y',by rw[enb],hnode⟩
  unfold Ln;simp -implicitDefEqProofs only[gsR,n13,lpv,a1,st1,n13',l2,Pu,m1,l3,m2,r1,st2]
end
theorem aMd (a b d e f g h i:Int)(ev wv nv:Value)(me:Int)(q:Nat):bld prog 162 [(1,.agg ⟨[.int .i64 a,ev,.int .i64 b,.int .i64 d,.int .i64 e,.int .i64 f,.int .i64 g,.int .i64 h,wv,.int .u16 i,nv]⟩),(2,.int .i64 me),(4,pt q)]=
  some (.agg ⟨[.pointer none]++[.int .i64 a,ev,.int .i64 b,.int .i64 d,.int .i64 e,.int .i64 f,.int .i64 g,.int .i64 h,wv,.int .u16 i,nv]++[.int .i64 me,.slice none 0 0,pt q,.pointer none,.int .i64 0]⟩):=by kernel_rfl
section
variable {Hs H : aA} {F : Part → Nat → Prop} {ev wv nv : Value} {y : Lay} {c : Cfg} {p : PlanD} {m : Nat}
theorem aMe {pl:Nat}{bv:Value}(hok:c.ok)(hc:c=iP p c.me)(hop: ∃n,OkP p n)(hPV:PV Hs p ev wv nv)(hpl:Hs[pl]? =some (plB p ev wv nv))(e2:p.lanes=(c.lanes:Int))(e3:p.room=(c.room:Int))(e9:p.start=(c.start:Int))(hwo:wOk p.weights=true)
  {Hb:aA}(hbv:Iw Hb bv (bes p.edges c.me))(hbl:(bes p.edges c.me).length=c.by'.length)(hbg: ∀i,i<c.by'.length->(bes p.edges c.me)[i]? =some ((c.by'.getD i 0:Nat):Int))(hm:500<m)(hm2:m<=72057594037927936){nb:Nat}:
  ∀(q i l:Nat)(H:aA)(F:Part->Nat->Prop)(y:Lay)(pv:Value),c.by'.length-i=q->i<=c.by'.length->q<l->y.nb=nb->BN Hs H F p.bag ev wv nv y c (i+1) (i+1) 0 0 pv->FE F c (i+1) (i+1) 0 0->Krow Hb H-> ∀(x0 x1 x3 x4 x6 x7 x8 x9 bI cA aP aN aL aM aR aS aO bC bH bV bG bE aT aU aV aW aX aY aZ bA bB bK bL bM bN bO bP bQ bR bS bT cC cD cE cI cM cN cO cQ cV cT cU cY dD dG dE dH dQ dR dU dV dW dX dY dZ eA eH eI eJ eK eL eM eN eO eP eQ eS eT fD fE fF fG fH fI fJ fK fW fX fY fZ gA gB gC gD gE gF gG gH gI gR gS gT gU gV gW gX gY gZ hP hZ iA iB iC iD iE iF iG iH iI:Value),
  ∃H2 r,aH l (aI prog (lvl prog pkN m) (aH m) Ll) (Lp (lvl prog pkN m) (aH m)) [x0,x1,(pt pl),x3,x4,(pt nb),x6,x7,x8,x9,bI,cA,aP,aN,aL,aM,aR,aS,aO,bC,bH,bV,bG,bE,aT,aU,aV,aW,aX,aY,aZ,bA,bB,bK,bL,bM,bN,bO,bP,bQ,bR,bS,bT,cC,cD,cE,cI,bv,(.int .i64 c.by'.length),(.int .i64 (i:Nat)),cM,cN,cO,cQ,cV,cT,cU,cY,dD,dG,dE,dH,dQ,dR,dU,dV,dW,dX,dY,dZ,eA,eH,eI,eJ,eK,eL,eM,eN,eO,eP,eQ,eS,eT,fD,fE,fF,fG,fH,fI,fJ,fK,fW,fX,fY,fZ,gA,gB,gC,gD,gE,gF,gG,gH,gI,gR,gS,gT,gU,gV,gW,gX,gY,gZ,hP,hZ,iA,iB,iC,iD,iE,iF,iG,iH,iI] H=some (r,H2)/\Nu Hs p ev wv nv c H2 r:=by
 intro q;induction q with
 |zero=>
  intro i l H F y pv hq hi hl hnb h hfe hkr;intros;obtain⟨l,rfl⟩: ∃l',l=l'+1:=⟨l-1,by omega⟩
  have hie:i+1=c.aF:=by unfold Cfg.aF;omega
  have c1:decide ((i:Int)<(c.by'.length:Int))=false:=by rw[decide_eq_false_iff_not];omega
  rw[aH,Vb];simp -implicitDefEqProofs only[gsR,c1];rw[aHT];rw[hie] at h hfe;rw[<-hnb];exact aMc hok hc hop hPV hpl e2 e3 (by omega) h hfe ..
 |succ q ih=>
  intro i l H F y pv hq hi hl hnb h hfe hkr;intros;obtain⟨l,rfl⟩: ∃l',l=l'+1:=⟨l-1,by omega⟩
  have h5:=hok.by';have hil:i<c.by'.length:=by omega
  have c1:decide ((i:Int)<(c.by'.length:Int))=true:=by rw[decide_eq_true_eq];omega
  have hpH: ∀G:aA,Ext Hs G->G[pl]? =some (plB p ev wv nv):=λG hG=>by rw[hG.2 _ (dA hpl) id,hpl]
  obtain⟨b,o,a1,_,a3⟩:=(hkr.iw hbv).rs.iQ gQ (hbg i hil) .i64;have a3:ld1 (.pointer (some ⟨b,o,none⟩)) H=some (.int .i64 (c.by'.getD i 0:Nat),H):=(a3 H rfl).2.1 0 _ rfl;have l8:ld1 (.pointer (some ⟨pl,8,none⟩)) H=some (wv,H):=eE (hpH H h.ext) 8 wv rfl;have hcw:c.weights=p.weights:=by have:=congrArg Cfg.weights hc;rw[this];rfl
  have hwl:=hok.wlen;rw[hcw] at hwl;have hlanes:=hok.lanes;obtain⟨H1,wh,ww,wl,wc,lc,wr,lr,w1,x1,w2,w3,w4,w5,w6⟩:=Yw (m:=m) (hPV.w.ext h.ext) hwo (by omega) hm2
  rw[<-hcw] at w2;have g1:=h.whl (λj hj b hb=>hfe (.whl j) (by show¬j<i+1;omega) b hb) w2 x1 w3 w4 w5 w6
  have fe1:=hfe.E2 (i:= .whl (i+1)) (G:=InB (kP wh ww wl wc lc wr lr c.weights ⟨c.weights,0⟩)) (n':=i+1) (nw':=i+1+1) (cs':=0) (cr':=0) (show i+1<i+1+1 by omega) (λj hj=>by
   cases j<;>simp only[qQ] at hj⊢ <;>(try exact hj);omega)
  obtain⟨y1,hy1⟩: ∃y1:Lay,y1={y with wh:=up1 y.wh (i+1) wh,ww:=up1 y.ww (i+1) ww,wl:=up1 y.wl (i+1) wl,wc:=up1 y.wc (i+1) wc,lc:=up1 y.lc (i+1) lc,wr:=up1 y.wr (i+1) wr,lr:=up1 y.lr (i+1) lr}:=⟨_,rfl⟩;obtain⟨F1,hF1⟩: ∃F1,F1=updI F (.whl (i+1)) (InB (kP wh ww wl wc lc wr lr c.weights ⟨c.weights,0⟩)):=⟨_,rfl⟩;rw[<-hF1] at g1 fe1;have g1:BN Hs H1 F1 p.bag ev wv nv y1 c (i+1) (i+1+1) 0 0 pv:=by rw[hy1];exact g1
  have hwh:y1.wh (i+1)=wh:=by rw[hy1];exact nI _ _ _
  have eb:bld prog 167 [(0,.int .i64 (c.by'.getD i 0:Nat)),(2,pt wh)]=some (.agg #[.int .i64 (c.by'.getD i 0:Nat),.slice none 0 0,pt wh]):=rfl;obtain⟨H2,hH2⟩: ∃H2,H2=H1++[Blk.cells [.int .i64 (c.by'.getD i 0:Nat),.slice none 0 0,pt wh] 167 .fix]:=⟨_,rfl⟩;have x2:Ext H1 H2:=by rw[hH2];exact Fr.app _ _ _
  have st:stN 3 (.pointer (some ⟨H1.length,0,none⟩)) (.agg #[.int .i64 (c.by'.getD i 0:Nat),.slice none 0 0,pt wh]) (H1++[Blk.cells [Value.int .i64 0,.slice none 0 0,.pointer none] 167 .fix])=some (undef,H2):=by
   rw[xY (n:=3) (vs:=[.int .i64 (c.by'.getD i 0:Nat),.slice none 0 0,pt wh]) (dF H1 _) (by decide) rfl rfl (aME 3) rfl,mR,hH2]
   rfl
  have g2:=g1.Yx x2;have hx2:XN Hs H2 F1 y1 (i+1) 0 H1.length (c.by'.getD i 0) (.slice none 0 0):=by
   have hs1:=g1.ext.1;refine⟨by rw[hwh,hH2];exact dF _ _,λhu=>by have:=g1.sep.pN _ hu;omega,hs1,Rw.lD,λb ⟨_,_,_,hh⟩=>(by cases hh)⟩
  have l2:ld1 (.pointer (some ⟨pl,2,none⟩)) H2=some (.int .i64 c.lanes,H2):=by rw[eE (hpH H2 g2.ext) 2 (.int .i64 p.lanes) rfl,e2]
  rw[aH,Vb];simp -implicitDefEqProofs only[gsR,c1,a1,a3,l8,w1,eb,st,l2];refine aL9 (nb:=nb) (Hb:=Hb) (p:=p) (pl:=pl) (i:=i) (w:=c.by'.getD i 0) (xb:=H1.length) hok hpl (by omega) e3 e9 (by omega) ?_ c.lanes 0 m H2 F1 y1 (.slice none 0 0) (by omega) (by omega) (by omega) (by rw[hy1];exact hnb) g2 fe1 hx2 (hkr.ext (x1.tr x2)) ..
  intro H3 F3 y3 lv hnb3 g3 fe3 hx3 hkr3;intros;obtain⟨y',pv',H4,H5,H6,q1,q2,q3,q4,q5,q6,q7⟩:=g3.aMa fe3 hx3 (by omega) (by omega) hlanes.1 (by unfold jM;rw[if_neg (by omega)];rfl)
  have n13:ld1 (.pointer (some ⟨nb,13,none⟩)) H3=some (pv,H3):=by rw[<-hnb3];exact cK g3.nb rfl
  have lx:ldN 3 (.pointer (some ⟨H1.length,0,none⟩)) H3=some (.agg #[.int .i64 (c.by'.getD i 0:Nat),lv,pt (y3.wh (i+1))],H3):=xX hx3.blk (aME 3);have e1:=nU i (by omega)
  rw[hnb3] at q4;unfold Lo;simp -implicitDefEqProofs only[gsR,n13,lx,q2,q3,q4,cH,e1];exact ih (i+1) l H6 F3 y' pv' (by omega) (by omega) (by omega) (by rw[q1,hnb3]) q5 q6 (λb cs hb=>q7 b cs (hkr3 b cs hb)) ..
theorem Nv (hp:PV H p ev wv nv)(hck:lX p=0)(hst:0<=p.start/\p.start<65536)(hm:17592186045500<m)(hm2:m<=72057594037927936)(me:Nat)(hme:(me:Int)<p.nodes):
    ∃H' F y,lvl prog pkN m (.func 36) [plV p ev wv nv,.int .i64 me] H=some (pt y.nb,H')/\NodeAt H H' F y p ev wv nv (iP p me) 0 (NS.jK (iP p me)):=by
  have hcheck:lF p=true:=by
    unfold lX at hck
    split at hck
    · assumption
    · omega
  obtain⟨hok,k1,k2,k3,k4,k5,k6,k7,hbg,hwo⟩:=aL6 hcheck hme hst;obtain⟨c,hc⟩: ∃c,c=iP p me:=⟨_,rfl⟩;rw[<-hc] at hok k1 k2 k3 k4 k5 k6 k7 hbg⊢;have hcme:c.me=me:=by rw[hc];rfl
  have hc':c=iP p c.me:=by rw[hcme];exact hc
  have hlanes:=hok.lanes;have hqueue:=hok.queue;have hbl:(bes p.edges me).length=c.by'.length:=by rw[hc];show _=((bes p.edges me).map Int.toNat).length;simp
  have hop:=Db hcheck;have hel:p.edges.length<=15:=by
    obtain⟨n,hn⟩:=hop;exact hn.e15
  -- the plan in a block
  obtain⟨H1,hH1⟩: ∃H1,H1=H++[plB p ev wv nv]:=⟨_,rfl⟩;have x1:Ext H H1:=by rw[hH1];exact Fr.app _ _ _
  have b1:H1[H.length]? =some (plB p ev wv nv):=by rw[hH1];exact fQ _ _
  have p1:=hp.ext x1;have l11:=kD b1;obtain⟨H2,g1,x2⟩:=Um p1 (m:=m-1) (by omega) (by omega)
  rw[hck] at g1;have aP:=x1.tr x2;have b2:H2[H.length]? =some (plB p ev wv nv):=by rw[x2.2 _ (dA b1) id,b1]
  have l0:ld1 (.pointer (some ⟨H.length,0,none⟩)) H2=some (.int .i64 c.nodes,H2):=by rw[eE b2 0 (.int .i64 p.nodes) rfl,k1]
  have l2:ld1 (.pointer (some ⟨H.length,2,none⟩)) H2=some (.int .i64 c.lanes,H2):=by rw[eE b2 2 (.int .i64 p.lanes) rfl,k2]
  have l4:ld1 (.pointer (some ⟨H.length,4,none⟩)) H2=some (.int .i64 c.queue,H2):=by rw[eE b2 4 (.int .i64 p.queue) rfl,k4]
  have l11':=kD b2;have hmn:=hok.me;rw[hcme] at hmn;have c1:decide ((me:Int)<0)=false:=by rw[decide_eq_false_iff_not];omega
  have c2:decide ((c.nodes:Int)<=(me:Int))=false:=by rw[decide_eq_false_iff_not];omega
  -- the host
  obtain⟨r,H3,G3,r1,r2,x3,r3⟩:=Has.Xh (A:=λ_=>True) (H:=H2) rA (n:=m-1) (B:=λr D'=> ∃a,r=pt a/\HostAt D' a [] [] c.lanes c.queue) (λD _ _=>by
    obtain⟨a,D',q1,q2,_,_⟩:=aIT (D:=D) (m:=m-1) (by omega) c.lanes c.queue hlanes hqueue
    exact⟨_,D',q1,a,rfl,q2⟩)
  obtain⟨hb,hrb,_⟩:=r2.at_;have r2':Has (λD=>HostAt D hb [] [] c.lanes c.queue) G3 H3:=Has.uT r2 λD ⟨a,ha,hD⟩=>by
    rw[hrb] at ha;injection ha with ha;injection ha with ha;injection ha with ha;rw[ha];exact hD
  rw[hrb] at r1;have b3:H3[H.length]? =some (plB p ev wv nv):=by rw[x3.2 _ (dA b2) id,b2]
  have l11c:=kD b3
  -- the node's block
  have eplc:plC p ev wv nv=[.int .i64 c.nodes,ev,.int .i64 c.lanes,.int .i64 c.room,.int .i64 c.queue,.int .i64 c.rounds,.int .i64 c.every,.int .i64 p.bag,wv,.int .u16 c.start,nv]:=by
    unfold plC;rw[k1,k2,k3,k4,k5,k6,k7]
  have ebn:bld prog 162 [(1,plV p ev wv nv),(2,.int .i64 me),(4,pt hb)]=some (.agg ⟨[.pointer none]++plC p ev wv nv++[.int .i64 me,.slice none 0 0,pt hb,.pointer none,.int .i64 0]⟩):=by
    exact aMd ..
  obtain⟨y0,hy0⟩: ∃y0:Lay,y0=⟨H3.length,0,0,[],λ_=>0,λ_=>0,λ_=>[],λ_=>0,λ_=>0,λ_=>0,λ_=>0,λ_=>0,λ_=>[],λ_=>[],λ_ _=>0,λ_ _=>0,0,0,0,hb,0⟩:=⟨_,rfl⟩
  have y0n:y0.nb=H3.length:=by rw[hy0]
  have y0h:y0.hb=hb:=by rw[hy0]
  obtain⟨H4,hH4⟩: ∃H4,H4=H3++[qP p.bag ev wv nv y0 c (.slice none 0 0)]:=⟨_,rfl⟩;have e4:H3++[Blk.cells (Value.cells (.agg ⟨[.pointer none]++plC p ev wv nv++[.int .i64 me,.slice none 0 0,pt hb,.pointer none,.int .i64 0]⟩)).toList 162 .fix]=H4:=by
    rw[hH4,eplc];unfold qP;rw[hcme,y0h];rfl
  have x4:Ext H3 H4:=by rw[hH4];exact Fr.app _ _ _
  have bn4:H4[y0.nb]? =some (qP p.bag ev wv nv y0 c (.slice none 0 0)):=by rw[y0n,hH4];exact dF _ _
  obtain⟨F0,hF0⟩: ∃F0:Part->Nat->Prop,F0=updI (λ_ _=>False) .host G3:=⟨_,rfl⟩
  have sep0:Sep (lR y0 c 0 0 0 0) F0 H4:=by
    have s0:Sep (λ_:Part=>Blks []) (λ_ _=>False) H2:=⟨λi=>⟨λq hq=>(by cases hq),λb hb=>hb.elim⟩,λi j b hb=>hb.elim⟩
    have s1:=s0.Ei .host (λ_=>Blks.dx _) (λb hb=>hb) r2' x3 r3
    rw[<-hF0] at s1;have s2:=s1.ext (λj=>by
      unfold updI;split
      · exact λD D' h he=>h.ext he
      · exact Blks.dx _) x4
    refine s2.vP λj D hD=> ?_
    cases j with
    |host=>
      rw[mO] at hD;show HostAt D y0.hb [] [] c.lanes c.queue
      rw[y0h];exact hD
    |whl i=>
      rw[eX _ _ (λhh=>by cases hh)] at hD
      simp only[lR];rw[if_neg (by omega)]
      exact hD
    |snd i k=>
      rw[eX _ _ (λhh=>by cases hh)] at hD
      simp only[lR];rw[if_neg (by unfold DnB;omega)]
      exact hD
    |rcv i k=>
      rw[eX _ _ (λhh=>by cases hh)] at hD
      simp only[lR];rw[if_neg (by unfold DnB;omega)]
      exact hD
    |_=>
      rw[eX _ _ (λhh=>by cases hh)] at hD
      exact hD
  have unF0: ∀b,Un F0 b->G3 b:=λb hb=>by
    rw[hF0] at hb;rcases sM hb with⟨_,hb⟩|hb
    · exact hb.elim
    · exact hb
  have hg3l: ∀b,G3 b->b<H3.length:=λb hb=>r2'.lt b hb
  have bnN:BN H2 H4 F0 p.bag ev wv nv y0 c 0 0 0 0 (.slice none 0 0):=
    ⟨x3.tr x4,sep0,λb hb=>r3 b (unF0 b hb),bn4,λhu=>by have:=hg3l _ (unF0 _ hu);omega,by rw[y0n];exact x3.1,Rw.lD,λb ⟨_,_,_,hh⟩=>(by cases hh),λi a b=>by omega,λi j a b=>by omega,λi hi=>by omega⟩
  have fe0:FE F0 c 0 0 0 0:=λj hj b hb=>by
    rw[hF0] at hb;cases j with
    |host=>exact hj trivial
    |_=>
      rw[eX _ _ (λhh=>by cases hh)] at hb
      exact hb
  -- the first wheel
  have hpH: ∀G:aA,Ext H2 G->G[H.length]? =some (plB p ev wv nv):=λG hG=>by rw[hG.2 _ (dA b2) id,b2]
  have n13:ld1 (.pointer (some ⟨H3.length,13,none⟩)) H4=some (.slice none 0 0,H4):=by rw[<-y0n];exact cK bn4 rfl
  have l8:ld1 (.pointer (some ⟨H.length,8,none⟩)) H4=some (wv,H4):=eE (hpH H4 bnN.ext) 8 wv rfl;have hcw:c.weights=p.weights:=by rw[hc];rfl
  have hwl:=hok.wlen;rw[hcw] at hwl;obtain⟨H5,wh,ww,wl,wc,lc,wr,lr,w1,x5,w2,w3,w4,w5,w6⟩:=Yw (m:=m-1) (hp.w.ext (aP.tr bnN.ext)) hwo (by omega) (by omega)
  rw[<-hcw] at w2;have g5:=bnN.whl (λj hj b hb=>fe0 (.whl j) (by show¬j<0;omega) b hb) w2 x5 w3 w4 w5 w6
  have fe5:=fe0.E2 (i:= .whl 0) (G:=InB (kP wh ww wl wc lc wr lr c.weights ⟨c.weights,0⟩)) (n':=0) (nw':=1) (cs':=0) (cr':=0) (show 0<1 by omega) (λj hj=>by
    cases j<;>simp only[qQ] at hj⊢ <;>(try exact hj);omega)
  obtain⟨y1,hy1⟩: ∃y1:Lay,y1={y0 with wh:=up1 y0.wh 0 wh,ww:=up1 y0.ww 0 ww,wl:=up1 y0.wl 0 wl,wc:=up1 y0.wc 0 wc,lc:=up1 y0.lc 0 lc,wr:=up1 y0.wr 0 wr,lr:=up1 y0.lr 0 lr}:=⟨_,rfl⟩;obtain⟨F1,hF1⟩: ∃F1,F1=updI F0 (.whl 0) (InB (kP wh ww wl wc lc wr lr c.weights ⟨c.weights,0⟩)):=⟨_,rfl⟩;rw[<-hF1] at g5 fe5;have g5:BN H2 H5 F1 p.bag ev wv nv y1 c 0 1 0 0 (.slice none 0 0):=by rw[hy1];exact g5
  have y1n:y1.nb=H3.length:=by rw[hy1];exact y0n
  have n13':ld1 (.pointer (some ⟨H3.length,13,none⟩)) H5=some (.slice none 0 0,H5):=by rw[<-y1n];exact cK g5.nb rfl
  have hpc0:fB y1 c 0=[.int .i64 me,.slice none 0 0,pt wh]:=by
    unfold fB jM lZ;rw[if_pos rfl,if_pos rfl,hcme,hy1];simp only;rw[nI]
  have eb:bld prog 167 [(0,.int .i64 me),(2,pt wh)]=some (.agg #[.int .i64 me,.slice none 0 0,pt wh]):=rfl;obtain⟨H6,hH6⟩: ∃H6,H6=H5++[Blk.cells [.int .i64 me,.slice none 0 0,pt wh] 167 .row]:=⟨_,rfl⟩;have es:dL 167 3 1 [.int .i64 0,.slice none 0 0,.pointer none] [(0,.agg #[.int .i64 me,.slice none 0 0,pt wh])] H5=some (.slice (some ⟨H5.length,0,none⟩) 1 1,H6):=by rw[hH6];rfl
  have hw1:Rr (fB y1 c) 167 H6 (.slice (some ⟨H5.length,0,none⟩) 1 1) [0]:=by
    have:=vN (el:=fB y1 c) (e:=167) 0 H5;rw[hpc0] at this;rw[hH6];exact this
  have hrw0:Rw (fB y1 c) 167 3 H6 (.slice none 0 0) []:=Rw.lD;obtain⟨pv,H7,k1',k2',k3',k4',k5'⟩:=hrw0.vO (Au y1 c) (Yy y1 c) (by decide) (by':=40) hw1.rs (by decide)
  have hnh: ∀b,¬cG (.slice none 0 0) b:=λb ⟨_,_,_,hh⟩=>by cases hh
  have h6l:H6.length=H5.length+1:=by rw[hH6];simp
  have nbl:=dA g5.nb;have bn7:H7[y1.nb]? =some (qP p.bag ev wv nv y1 c (.slice none 0 0)):=by rw[k4' _ (by omega) (hnh _),hH6,aMC nbl,g5.nb]
  have sh:=E0 k2';obtain⟨H8,hH8⟩: ∃H8,H8=H7.set y1.nb (qP p.bag ev wv nv y1 c pv):=⟨_,rfl⟩;have st:stN 1 (.pointer (some ⟨H3.length,13,none⟩)) pv H7=some (undef,H8):=by rw[<-y1n,hH8];exact sG bn7 (by decide) (by simp) sh.1 sh.2
  have hfr:Fr (λb=>b=y1.nb) H5 H8:=⟨by rw[hH8];simp;omega,λb hb hn=>by
    rw[hH8,aMA (λhh=>hn hh.symm),k4' b (by omega) (hnh _),hH6,aMC hb]⟩
  obtain⟨x8,s8⟩:=g5.Ns (pv':=pv) (n':=0) hfr λb hb=>by rw[hb];exact⟨g5.nbF,g5.nb0⟩
  have hpvn: ¬cG pv y1.nb:=λhh=>by
    rcases k5' _ hh with hh|hh
    · exact hnh _ hh
    · omega
  have hsl:=g5.ext.1;have g8:BN H2 H8 F1 p.bag ev wv nv y1 c 1 1 0 0 pv:=by
    refine⟨x8,s8.vP λj D hD=> ?_,g5.new,by rw[hH8];exact iM bn7,g5.nbF,g5.nb0,?_,λb hb=> ?_,λi a b=>by omega,λi j a b=>by omega,g5.ww⟩
    · cases j with
      |snd i k=>
        simp only[lR] at hD⊢;rw[if_neg (by unfold DnB;omega)] at hD⊢
        exact hD
      |rcv i k=>
        simp only[lR] at hD⊢;rw[if_neg (by unfold DnB;omega)] at hD⊢
        exact hD
      |_=>exact hD
    · refine(show Rw (fB y1 c) 167 3 H7 pv (List.range 1) from k2').fP λb hb=> ?_
      rw[hH8];exact aMA λhh=>hpvn (by rw[hh];exact hb)
    · rcases k5' b hb with hb|hb
      · exact absurd hb (hnh b)
      · exact⟨by omega,λhu=>by have:=g5.sep.pN b hu;omega⟩
  have fe8:FE F1 c 1 1 0 0:=λj hj=>fe5 j λhd=>hj (by
    cases j<;>simp only[qQ] at hd⊢ <;>(try exact hd)<;>(unfold DnB at hd ⊢; omega))
  -- who is beside
  have b8:=hpH H8 g8.ext;have l11d:=kD b8;obtain⟨H9,bv,q1,x9,q3,q4⟩:=I9 (hp.ext (aP.tr g8.ext)) (m:=m-1) (by omega) (by omega) (me:Int)
  have g9:=g8.Yx x9;have lbv:=q3.xJ;rw[hbl] at lbv;have main: ∃H' r,lvl prog pkN m (.func 36) [plV p ev wv nv,.int .i64 me] H=some (r,H')/\Nu H2 p ev wv nv c H' r:=by
    refine iK (cF rfl) (by omega) ?_
    rw[Vd];have e1:H++[Blk.cells (Value.cells (plV p ev wv nv)).toList 40 .fix]=H1:=by rw[hH1];rfl
    have c3:((0:Int)!=0)=false:=rfl;have pchk:=λG=>(hp.chk G)
    have nchk: ∀G:aA,chk (some (Value.slice none 0 0,G)) (.slice none 0 0)=true:=λ_=>by simp[chk,veq]
    simp -implicitDefEqProofs only[gsR,e1,l11,g1,c3,c1,l0,c2,l11',l2,l4,r1,l11c,pchk,ebn,e4,n13,l8,w1,n13',nchk,eb,es,k1',st,l11d,q1,lbv];have y1n':y1.nb=H3.length:=y1n;exact aMe (pl:=H.length) (Hs:=H2) (Hb:=H9) hok hc' hop (hp.ext aP) b2 k2 k3 k7 hwo (by rw[hcme];exact q3) (by rw[hcme];exact hbl) (λi hi=>by rw[hcme];exact hbg i (by rw[hbl];exact hi)) (by omega) (by omega) c.by'.length 0 (m-1) H9 F1 y1 pv (by omega) (by omega) (by have:=hok.by';omega) y1n' g9 fe8 (λb cs hb=>hb) ..
  obtain⟨H',r,z1,F,y,rfl,z2⟩:=main;refine⟨H',F,y,z1,{z2 with ext:=aP.tr z2.ext,old:=λb hb=>aMP aP.1 (z2.old b hb),plan:=hp}⟩
end
end Go.Proofs.YtmimdleeihjdoaaGreatDoor
namespace Go.Proofs.YtmimdleeihjdoaaGreatDoor
open Go.Proofs.Tryz
open Go.Abs
section
variable {H : aA} {m : Nat}
theorem Y1 (c:List Nat):iL (ofT c)=true/\1<=(ofT c).length:=by
 unfold ofT;split
 ·exact⟨by decide+kernel,by simp⟩
 ·rename_i h
  have hl:(ofL c (min c.length 5)).length=min c.length 5:=by simp[ofL]
  refine⟨?_,by rw[hl];omega⟩
  unfold iL;rw[hl,aMH,aNe];refine⟨λi hi=> ?_,decide_eq_true (by omega)⟩
  have hi':=aNd.mp hi;have e:(ofL c (min c.length 5)).getD i 0=((c.getD i 0%(i+1):Nat):Int):=by
   unfold ofL;rw[aMD,aMM,aNh hi'];rfl
  have hm:c.getD i 0%(i+1)<i+1:=Nat.mod_lt _ (by omega)
  rw[e,aMH]
  exact⟨decide_eq_true (by omega),decide_eq_true (by omega)⟩
def uW (c:List Nat)(room more start:Nat):PlanD:=qG (mkP 0 room more start []) (ofT c)
theorem aMf (c:List Nat)(room more start:Nat):lX (uW c room more start)=0:=by
 obtain⟨hr,ht1⟩:=Y1 c
 exact(aGY (Tc 0 room more start []) (Uv hr ht1)).1
theorem Nx {D H D' H':aA}(hs:Sub D H)(hf:Fs D H D' H')(he:Ext D D'):Ext H H':=by
 refine⟨by have:=hf.sub.1;have:=hs.1;have:=he.1;omega,λb hb _=> ?_⟩
 have hbD:b<D.length:=by rw[hs.1];exact hb
 by_cases hd:D[b]? =some .dead
 ·exact hf.keep b hd
 ·have hx:D[b]? =some D[b]:=aMB hbD
  have hn:D[b]≠ .dead:=λh=>hd (by rw[hx,h])
  rw[hs.2 b _ hx hn,hf.sub.2 b _ ((he.2 b hbD id).trans hx) hn]
theorem E3 {α:Type}{el:α->List Value}{e:TypeId}{D H:aA}{v:Value}{xs:List α}(h:Rs el e D v xs)(hk: ∀(b:Nat)(x:Blk),D[b]? =some x->x≠ .dead->H[b]? =some x):Rs el e H v xs:=by
 rcases h with h|⟨b,o,cap,h1,h2,h3⟩
 ·exact .inl h
 ·refine .inr ⟨b,o,cap,h1,h2,λhne=> ?_⟩
  obtain⟨e',k,pre,post,q1,q2,q3⟩:=h3 hne
  exact⟨e',k,pre,post,q1,q2,hk b _ q3 (λh=>by cases h)⟩
theorem Y3 {D H:aA}{p:PlanD}{ev wv nv:Value}(h:PV D p ev wv nv)(hk: ∀(b:Nat)(x:Blk),D[b]? =some x->x≠ .dead->H[b]? =some x):PV H p ev wv nv:=by
 obtain⟨h1,h2,⟨us,h3,h4,h5⟩,h6,h7,h8⟩:=h
 exact⟨E3 h1 hk,E3 h2 hk,⟨us,E3 h3 hk,h4,λi u xs hu hx=>E3 (h5 i u xs hu hx) hk⟩,h6,h7,h8⟩
theorem Y2 {cv:Value}{c:List Nat}(hc:Us H cv c)(hu8: ∀x∈c,x<256)(hl:c.length<=72057594037927936)(room more start:Nat)(h2:room<256)(h3:more<256)(h4:start<65536)(hm:700<m)(hm2:m<=72057594037927936):
  ∃H' ev wv nv,lvl prog bY m (.func 35) [cv,.int .u8 room,.int .u8 more,.int .u16 start] H=some (plV (uW c room more start) ev wv nv,H')/\Ext H H'/\PV H' (uW c room more start) ev wv nv:=by
 obtain⟨Ha,hHa⟩: ∃Ha,Ha=H++[plZ]:=⟨_,rfl⟩;obtain⟨Da,hDa⟩: ∃Da,Da=H++[Blk.dead]:=⟨_,rfl⟩;have xa:Ext H Ha:=by rw[hHa];exact Fr.app _ _ _
 have xd:Ext H Da:=by rw[hDa];exact Fr.app _ _ _
 have ba:Ha[H.length]? =some plZ:=by rw[hHa];exact fQ _ _
 have bd:Da[H.length]? =some .dead:=by rw[hDa];exact fQ _ _
 have sa:Sub Da Ha:=by
  rw[hHa,hDa];refine⟨by simp,λb x hb hx=> ?_⟩
  by_cases hlt:b<H.length
  ·rw[aMC hlt] at hb⊢
   exact hb
  ·have h9:=dA hb
   simp at h9;have:b=H.length:=by omega
   subst this;rw[fQ] at hb;cases hb;exact absurd rfl hx
 obtain⟨D2,u,d2,hmd⟩:=aFh (H:=Da) (m:=m-1) 0 room more start (by omega) h2 h3 h4 (aFv Da) (by simp) (by simp) (by omega)
 obtain⟨H2,g2,f2⟩:=zE _ rA _ _ _ Da Ha sa _ _ d2;obtain⟨ev,wv,nv,rfl,y2,hp⟩:=hmd.pv;have x2:=Nx sa f2 y2;have hok:=Tc 0 room more start [];have hwl:(mkP 0 room more start []).weights.length<=1000:=by simp[mkP];omega
 obtain⟨p,hpp⟩: ∃p,p=mkP 0 room more start []:=⟨_,rfl⟩;have hq0:uW c room more start=qG p (ofT c):=by rw[hpp];rfl
 rw[hq0];rw[<-hpp] at hp g2 hok hwl;have z0:((0:Nat):Int)=0:=rfl;simp only[z0] at g2;obtain⟨D1,tv,d1,y1,qt,_⟩:=aGI (hc.ext (xd.tr y2)) hu8 hl (m:=m-1) (by omega)
 obtain⟨H1,g1,f1⟩:=zE _ rA _ _ _ D2 H2 f2.sub _ _ d1;have x1:=Nx f2.sub f1 y1;obtain⟨hr,ht1⟩:=Y1 c;obtain⟨D3,_,d3,ev3,wv3,nv3,rfl,y3,hp3⟩:=aGX (hp.ext y1) hwl qt.rs hr ht1 (m:=m-1) (by omega) (by omega)
 obtain⟨H3,g3,f3⟩:=zE _ rA _ _ _ D1 H1 f1.sub _ _ d3;have x3:=Nx f1.sub f3 y3;have bD:D3[H.length]? =some .dead:=fC bd ((y2.tr y1).tr y3);obtain⟨q,hq⟩: ∃q,q=qG p (ofT c):=⟨_,rfl⟩;rw[<-hq] at hp3 g3⊢;have hp3H:PV H3 q ev3 wv3 nv3:=Y3 hp3 f3.sub.2;have cp:=Jo hp3H H3;obtain⟨H4,hH4⟩: ∃H4,H4=H3++[plB q ev3 wv3 nv3]:=⟨_,rfl⟩;rw[<-hH4] at cp;have x4:Ext H3 H4:=by rw[hH4];exact Fr.app _ _ _
 have b4:H4[H3.length]? =some (plB q ev3 wv3 nv3):=by rw[hH4];exact fQ _ _
 have l4:=kD b4;have xx:=((x2.tr x1).tr x3).tr x4;have bz:H4[H.length]? =some plZ:=fC ba xx;have e1:(plV q ev3 wv3 nv3).cells.toList=plC q ev3 wv3 nv3:=rfl;have st:stN 11 (.pointer (some ⟨H.length,0,none⟩)) (plV q ev3 wv3 nv3) H4=some (undef,H4.set H.length (plB q ev3 wv3 nv3)):=by
  rw[mE 11 _ _ _ rfl,bz,e1];unfold plZ;rw[nK _ _ _ _ _ _ (by decide) (by simp[plC]) hp3H.Jn]
  simp[eD,plC,plB]
 have hlt:H.length<H4.length:=dA bz;have x5:Ext H (H4.set H.length (plB q ev3 wv3 nv3)):=s5 (xa.tr xx) (aME _);have l5:ldN 11 (.pointer (some ⟨H.length,0,none⟩)) (H4.set H.length (plB q ev3 wv3 nv3))=some (plV q ev3 wv3 nv3,H4.set H.length (plB q ev3 wv3 nv3)):=kD (by rw[aMF (by omega)])
 refine⟨H4.set H.length (plB q ev3 wv3 nv3),ev3,wv3,nv3,cX (cF rfl) (by omega) ?_,x5,?_⟩
 ·rw[aFP]
  simp -implicitDefEqProofs only[gsR,sB,<-hHa,g2,g1,g3,cp,l4,st,l5]
  done
 ·refine Y3 hp3 λb x hb hx=> ?_
  have hne:b≠H.length:=λh=>by rw[h,bD] at hb;cases hb;exact hx rfl
  rw[aMA (Ne.symm hne),x4.2 b (dA (f3.sub.2 b x hb hx)) id];exact f3.sub.2 b x hb hx
end
end Go.Proofs.YtmimdleeihjdoaaGreatDoor
namespace Go.Proofs.YtmimdleeihjdoaaGreatDoor
open Go.Proofs.Tryz
open Go.Abs
open Classical
theorem uX (t:TypeId)(a:Addr)(h:mX prog t (.pointer none)=true):bin prog .eql t (.pointer (some a)) (.pointer none)=some (.bool false)/\bin prog .eql t (.pointer none) (.pointer none)=some (.bool true):=by
 have h2:mX prog t (.pointer (some a))=true:=by
  rw[<-h];unfold mX;cases prog.underlying t with
  |none=>rfl
  |some d=>cases d<;>rfl
 constructor<;>simp[bin,dP,oL,h,h2,eqV]
section
variable {H00 H0 H H' : aA} {F : Part → Nat → Prop} {y : Lay} {p : PlanD} {ev wv nv : Value} {c : Cfg} {t : Nat} {s : NS} {N N' : Nat → Prop}
theorem NodeAt.aMg (h:NodeAt H0 H F y p ev wv nv c t s)(he:Ext H00 H0)(hp:PV H00 p ev wv nv):NodeAt H00 H F y p ev wv nv c t s:=
 {h with ext:=he.tr h.ext,old:=λb hb=>aMP he.1 (h.old b hb),plan:=hp}
theorem NodeAt.E4 (h:NodeAt H0 H F y p ev wv nv c t s)(he:Ext H0 H')(hm:Mv N N' H H')(hd: ∀b,Un F b-> ¬N b):NodeAt H0 H' F y p ev wv nv c t s/\ ∀b,Un F b-> ¬N' b:=
 ⟨{h with ext:=he,sep:=h.sep.vQ (yL _ _ _ _ _ _ _) hm hd},λb hb hn=>(hm.own b hn).elim (hd b hb) λhl=>by have:=h.sep.pN b hb;omega⟩
end
end Go.Proofs.YtmimdleeihjdoaaGreatDoor
namespace Go.Proofs.YtmimdleeihjdoaaGreatDoor
open Go.Proofs.Tryz
open Go.Abs
def kp:PlanD:={uW [0] 1 0 0 with every:=8}
def kx:Pkt:=⟨0,1,0,7⟩
def kA:NS:=(nF (iP kp 0) kx (NS.jK (iP kp 0))).2
def kT:NS×kN:=uJ (iP kp 0) kA
def kB:Nat×NS:=nS (iP kp 1) 0 (kT.2.getD 0 (0,[])).2 (NS.jK (iP kp 1))
def kU:NS×kN:=uJ (iP kp 1) kB.2
theorem Y4:lX kp=0:=by decide+kernel
theorem aMh:(nF (iP kp 0) kx (NS.jK (iP kp 0))).1=0/\kT.2.map (·.1)=[1]/\kB.1=0/\kU.1.hG=[kx]/\(nF (iP kp 0) ⟨1,0,0,0⟩ kT.1).1=1:=by decide+kernel
end Go.Proofs.YtmimdleeihjdoaaGreatDoor
noncomputable section
namespace Go.Proofs.YtmimdleeihjdoaaGreatDoor
open Go.Proofs.Tryz
open Go.Abs
variable (O:aC)(L:LV)(k:KV)(N P Q R S T U V W X Y Z a b c d e f g i j l m n o p q r s t u v w x y z A B C D E F G H I J zz zy zx zw zv zu zt zs zr zq zp zo zn zm zl zk zj zi zh zg zf ze zd zc zb za yz yy yx yw yv yu yt ys yr yq yp yo yn ym yl yk yj yi yh yg yf ye yd yc yb ya xz xy xx xw xv xu xt xs xr xq xp xo xn xm xl xk xj xi xh xg xf xe xd xc xb xa wz wy wx ww wv wu wt ws wr wq wp wo wn wm wl wk wj wi wh wg wf we wd wc wb wa vz:Value)(h:aA)
def Ny:Code:=bU [1,1,1,1,1,1,1,1,0,1,0,0] (b9 prog 6)
def Nz:KV:=(dO 0 (eC prog O L (bU [1,1,1,1,1,1,1,1,1] (b9 prog 6)) (eG prog Tryz.f6)))
theorem aMk:Nz O L (.exit 0) [a,b,c,d,e,f,g,i,j,l,m,n,o,p,q,r,s,t,u,v,w,x,y,z,A,B,C,D,E,F,G,H,I,J,zz,zy,zx,zw,zv,zu,zt,zs,zr,zq,zp,zo,zn,zm,zl,zk,zj,zi,zh,zg,zf,ze,zd,zc,zb,za,yz,yy,yx,yw,yv,yu,yt,ys,yr,yq,yp,yo,yn,ym,yl,yk,yj,yi,yh,yg,yf,ye,yd,yc,yb,ya,xz,xy,xx,xw,xv,xu,xt,xs,xr,xq,xp,xo,xn,xm,xl,xk,xj,xi] h=ob (ldN 4 l h) λaa h57=>ifB (true) (ob (O (.func 38) [p,aa] h57) λab h58=>ifB (true) (ob (M.aB (bin prog .eql 60 ab (.int .u16 150)) h58) λac h59=>ob (gd ac true (M.cB p) h59) λad h60=>ob (gd ac true (O (.func 39) [ad]) h60) λae h61=>ifB (true) (ob (gd ac true (M.aB (aE 2 l)) h61) λaf h62=>ob (gd ac true (ld1 af) h62) λag h63=>ifB (chk ((gd ac true (ld1 af)) h60) ag&&(true)) (ob (gd ac true (O (.func 40) [ae,ag]) h63) λah h64=>ifB (true) (ob (gd ac true (M.aB (aE 4 n)) h64) λai h65=>ob (gd ac true (ld1 ai) h65) λaj h66=>ifB (chk ((gd ac true (ld1 ai)) h63) aj&&(chk ((gd ac true (ld1 ai)) h60) aj&&(true))) (ob (gd ac true (M.aB (bin prog .eql 3 ah aj)) h66) λak h67=>ob (M.aB (cJ ac ak (.bool false)) h67) λal h68=>some (aG [al],h68))))))):=by kernel_rfl
theorem aMj:aI prog O L Ny k [a,b,c,d,e,f,g,i,j,l,m,n,o,p,q,r,s,t,u,v,w,x,y,z,A,B,C,D,E,F,G,H,I,J,zz,zy,zx,zw,zv,zu,zt,zs,zr,zq,zp,zo,zn,zm,zl,zk,zj,zi,zh,zg,zf,ze,zd,zc,zb,za,yz,yy,yx,yw,yv,yu,yt,ys,yr,yq,yp,yo,yn,ym,yl,yk,yj,yi,yh,yg,yf,ye,yd,yc,yb,ya,xz,xy,xx,xw,xv,xu,xt,xs,xr,xq,xp,xo,xn,xm,xl,xk,xj,xi] h=ob (M.aB (aE 4 n) h) λaa h=>ob (ld1 aa h) λab h=>ob (M.aB (bin prog .lss 3 r ab) h) λac h=>aJ ac (ob (ldN 4 l h) λad h=>ob (O (.func 38) [p,ad] h) λae h=>ob (M.aB (bin prog .neq 60 ae (.int .u16 0)) h) λaf h=>aJ af (k .ret [a,b,c,d,e,f,g,i,j,l,(.bool false),n,o,p,q,r,s,t,u,v,w,x,y,z,A,B,C,D,E,F,G,H,I,J,zz,zy,zx,zw,zv,zu,zt,zs,zr,zq,zp,zo,zn,zm,zl,zk,zj,zi,zh,zg,zf,ze,zd,zc,zb,za,yz,yy,yx,yw,yv,yu,yt,ys,yr,yq,yp,yo,yn,ym,yl,yk,yj,yi,yh,yg,r,aa,ab,ac,yb,ya,p,ad,ae,af,xv,xu,xt,xs,xr,xq,xp,xo,xn,xm,xl,xk,xj,xi] h) (ob (M.aB (bin prog .add 3 r (.int .i64 1)) h) λag h=>k .normal [a,b,c,d,e,f,g,i,j,l,m,n,o,p,q,ag,s,t,u,v,w,x,y,z,A,B,C,D,E,F,G,H,I,J,zz,zy,zx,zw,zv,zu,zt,zs,zr,zq,zp,zo,zn,zm,zl,zk,zj,zi,zh,zg,zf,ze,zd,zc,zb,za,yz,yy,yx,yw,yv,yu,yt,ys,yr,yq,yp,yo,yn,ym,yl,yk,yj,yi,yh,yg,r,aa,ab,ac,r,ag,p,ad,ae,af,xv,xu,xt,xs,xr,xq,xp,xo,xn,xm,xl,xk,xj,xi] h)) (k (.exit 0) [a,b,c,d,e,f,g,i,j,l,m,n,o,p,q,r,s,t,u,v,w,x,y,z,A,B,C,D,E,F,G,H,I,J,zz,zy,zx,zw,zv,zu,zt,zs,zr,zq,zp,zo,zn,zm,zl,zk,zj,zi,zh,zg,zf,ze,zd,zc,zb,za,yz,yy,yx,yw,yv,yu,yt,ys,yr,yq,yp,yo,yn,ym,yl,yk,yj,yi,yh,yg,r,aa,ab,ac,yb,ya,xz,xy,xx,xw,xv,xu,xt,xs,xr,xq,xp,xo,xn,xm,xl,xk,xj,xi] h):=by kernel_rfl
theorem Y5:bX prog O L 6 [N,P,Q,R,S] h=ob (cL 31 (Value.cells S).toList .fix h) λaa h=>ob (O (.func 35) [N,P,Q,(.int .u16 0)] h) λab h=>ob (cL 40 [(.int .i64 0),(.slice none 0 0),(.int .i64 0),(.int .i64 0),(.int .i64 0),(.int .i64 0),(.int .i64 0),(.int .i64 0),(.slice none 0 0),(.int .u16 0),(.slice none 0 0)] .fix h) λac h=>ob (stN 11 ac ab h) λad h=>ob (dI prog 5 3 R h) λae h=>ob (M.aB (aE 0 ac) h) λaf h=>ob (ld1 af h) λag h=>ob (M.aB (bin prog .rem 3 ae ag) h) λah h=>ob (ldN 11 ac h) λai h=>ob (O (.func 36) [ai,ah] h) λaj h=>ob (M.aB (bin prog .eql 58 aj (.pointer none)) h) λak h=>ob (gd ak false (O (.func 37) []) h) λal h=>ob (gd ak false (M.aB (un prog .not al)) h) λam h=>ob (M.aB (cJ ak (.bool true) am) h) λan h=>aJ an (some (aG [(.bool false)],h)) (ob (M.aB (aE 0 aa) h) λao h=>ob (ld1 ao h) λap h=>ob (M.aB (bin prog .eql 3 ap ah) h) λaq h=>ob (gd aq true (M.aB (aE 1 aa)) h) λar h=>ob (gd aq true (ld1 ar) h) λau h=>ob (gd aq true (M.cB ah) h) λav h=>ob (gd aq true (M.aB (bin prog .neq 3 au av)) h) λaw h=>ob (M.aB (cJ aq aw (.bool false)) h) λax h=>ob (gd ax true (M.aB (aE 1 aa)) h) λay h=>ob (gd ax true (ld1 ay) h) λaz h=>ob (gd ax true (M.aB (bin prog .geq 3 az (.int .i64 0))) h) λba h=>ob (M.aB (cJ ax ba (.bool false)) h) λbb h=>ob (gd bb true (M.aB (aE 1 aa)) h) λbc h=>ob (gd bb true (ld1 bc) h) λbd h=>ob (gd bb true (M.aB (aE 0 ac)) h) λbe h=>ob (gd bb true (ld1 be) h) λbf h=>ob (gd bb true (M.aB (bin prog .lss 3 bd bf)) h) λbg h=>ob (M.aB (cJ bb bg (.bool false)) h) λbh h=>ob (gd bh true (M.aB (aE 2 aa)) h) λbi h=>ob (gd bh true (ld1 bi) h) λbj h=>ob (gd bh true (M.aB (bin prog .geq 3 bj (.int .i64 0))) h) λbk h=>ob (M.aB (cJ bh bk (.bool false)) h) λbl h=>ob (gd bl true (M.aB (aE 2 aa)) h) λbm h=>ob (gd bl true (ld1 bm) h) λbn h=>ob (gd bl true (M.aB (aE 2 ac)) h) λbo h=>ob (gd bl true (ld1 bo) h) λbp h=>ob (gd bl true (M.aB (bin prog .lss 3 bn bp)) h) λbq h=>ob (M.aB (cJ bl bq (.bool false)) h) λbr h=>ob (ldN 4 aa h) λbs h=>ob (O (.func 38) [aj,bs] h) λbt h=>ob (M.aB (bin prog .eql 60 bt (.int .u16 0)) h) λbu h=>ob (M.aB (bin prog .neq 4 bu br) h) λbv h=>aJ bv (some (aG [(.bool false)],h)) (ob (M.aB (un prog .not br) h) λbw h=>aJ bw (ob (ldN 4 aa h) λbx h=>ob (O (.func 38) [aj,bx] h) λbz h=>ob (M.aB (bin prog .eql 60 bz (.int .u16 1)) h) λca h=>some (aG [ca],h)) (L (aI prog O L Ny) (Nz O L) [N,P,Q,R,S,undef,undef,undef,undef,aa,(.bool false),ac,ah,aj,br,(.int .i64 1),N,P,Q,ab,R,ae,af,ag,ah,ai,ah,aj,aj,ak,ak,al,am,an,ao,ap,ah,aq,aq,ar,au,av,aw,ax,ax,ay,az,ba,bb,bb,bc,bd,be,bf,bg,bh,bh,bi,bj,bk,bl,bl,bm,bn,bo,bp,bq,br,aj,bs,bt,bu,br,bv,br,bw,undef,undef,undef,undef,undef,undef,undef,undef,undef,undef,undef,undef,undef,undef,undef,undef,undef,undef,undef,undef,undef,undef,undef,undef,undef,undef,undef,undef] h))):=by kernel_rfl
theorem aMi:bX prog O L 37 [] h=ob (dL 5 1 1 [(.int .u8 0)] [(0,(.int .u8 0))] h) λaa h=>ob (O (.func 35) [aa,(.int .u8 1),(.int .u8 0),(.int .u16 0)] h) λab h=>ob (cL 40 [(.int .i64 0),(.slice none 0 0),(.int .i64 0),(.int .i64 0),(.int .i64 0),(.int .i64 0),(.int .i64 0),(.int .i64 0),(.slice none 0 0),(.int .u16 0),(.slice none 0 0)] .fix h) λac h=>ob (stN 11 ac ab h) λad h=>ob (M.aB (aE 6 ac) h) λae h=>ob (stN 1 ae (.int .i64 8) h) λaf h=>ob (ldN 11 ac h) λag h=>ob (O (.func 36) [ag,(.int .i64 0)] h) λah h=>ob (ldN 11 ac h) λai h=>ob (O (.func 36) [ai,(.int .i64 1)] h) λaj h=>ob (M.aB (bin prog .eql 58 ah (.pointer none)) h) λak h=>ob (gd ak false (M.cB aj) h) λal h=>ob (gd ak false (M.aB (bin prog .eql 58 al (.pointer none))) h) λam h=>ob (M.aB (cJ ak (.bool true) am) h) λan h=>ob (gd an false (M.cB ah) h) λao h=>ob (gd an false (O (.func 39) [ao]) h) λap h=>ob (gd an false (M.aB (bin prog .eql 62 ap (.pointer none))) h) λaq h=>ob (M.aB (cJ an (.bool true) aq) h) λar h=>ob (gd ar false (M.cB aj) h) λau h=>ob (gd ar false (O (.func 39) [au]) h) λav h=>ob (gd ar false (M.aB (bin prog .eql 62 av (.pointer none))) h) λaw h=>ob (M.aB (cJ ar (.bool true) aw) h) λax h=>ob (gd ax false (M.cB ah) h) λay h=>ob (gd ax false (O (.func 93) [ay]) h) λaz h=>ob (gd ax false (M.aB (bin prog .eql 160 az (.pointer none))) h) λba h=>ob (M.aB (cJ ax (.bool true) ba) h) λbb h=>ob (gd bb false (M.cB ah) h) λbc h=>ob (gd bb false (O (.func 46) [bc,(.int .i64 1),(.int .i64 0)]) h) λbd h=>ob (gd bb false (M.aB (bin prog .eql 84 bd (.pointer none))) h) λbe h=>ob (M.aB (cJ bb (.bool true) be) h) λbf h=>ob (gd bf false (M.cB ah) h) λbg h=>ob (gd bf false (O (.func 55) [bg,(.int .i64 1),(.int .i64 0)]) h) λbh h=>ob (gd bf false (M.aB (bin prog .eql 108 bh (.pointer none))) h) λbi h=>ob (M.aB (cJ bf (.bool true) bi) h) λbj h=>aJ bj (some (aG [(.bool false)],h)) (ob (M.aB (bld prog 31 [(0,(.int .i64 0)),(1,(.int .i64 1)),(3,(.int .u32 7))]) h) λbk h=>ob (O (.func 38) [ah,bk] h) λbl h=>ob (O (.func 41) [ah] h) λbm h=>ob (M.aB (bJ bm) h) λbn h=>ob (M.aB (bin prog .neq 3 bn (.int .i64 1)) h) λbo h=>ob (gd bo false (M.cB bm) h) λbp h=>ob (gd bo false (M.aB (aQ 2 bp (.int .i64 0))) h) λbq h=>ob (gd bo false (M.aB (aE 0 bq)) h) λbr h=>ob (gd bo false (ld1 br) h) λbs h=>ob (gd bo false (M.aB (bin prog .neq 3 bs (.int .i64 1))) h) λbt h=>ob (M.aB (cJ bo (.bool true) bt) h) λbu h=>aJ bu (some (aG [(.bool false)],h)) (ob (M.aB (aQ 2 bm (.int .i64 0)) h) λbv h=>ob (M.aB (aE 1 bv) h) λbw h=>ob (ld1 bw h) λbx h=>ob (O (.func 49) [aj,(.int .i64 0),bx] h) λbz h=>ob (O (.func 41) [aj] h) λca h=>ob (O (.func 39) [aj] h) λcb h=>ob (O (.func 52) [cb] h) λcc h=>ob (M.aB (bin prog .eql 60 bl (.int .u16 0)) h) λcd h=>ob (gd cd true (M.cB bz) h) λce h=>ob (gd cd true (M.aB (bin prog .eql 60 ce (.int .u16 0))) h) λcf h=>ob (M.aB (cJ cd cf (.bool false)) h) λcg h=>ob (gd cg true (M.cB cc) h) λch h=>ob (gd cg true (M.aB (bJ ch)) h) λci h=>ob (gd cg true (M.aB (bin prog .eql 3 ci (.int .i64 1))) h) λcj h=>ob (M.aB (cJ cg cj (.bool false)) h) λck h=>ob (gd ck true (M.cB cc) h) λcl h=>ob (gd ck true (M.aB (aQ 4 cl (.int .i64 0))) h) λcm h=>ob (gd ck true (M.aB (aE 3 cm)) h) λcn h=>ob (gd ck true (ld1 cn) h) λco h=>ob (gd ck true (M.aB (bin prog .eql 29 co (.int .u32 7))) h) λcp h=>ob (M.aB (cJ ck cp (.bool false)) h) λcq h=>ob (gd cq true (ldN 11 ac) h) λcr h=>ob (gd cq true (O (.func 36) [cr,(.int .i64 2)]) h) λcs h=>ob (gd cq true (M.aB (bin prog .eql 58 cs (.pointer none))) h) λct h=>ob (M.aB (cJ cq ct (.bool false)) h) λcu h=>ob (gd cu true (M.cB ah) h) λcv h=>ob (gd cu true (M.aB (bld prog 31 [(0,(.int .i64 1))])) h) λcw h=>ob (gd cu true (O (.func 38) [cv,cw]) h) λcx h=>ob (gd cu true (M.aB (bin prog .eql 60 cx (.int .u16 1))) h) λcy h=>ob (M.aB (cJ cu cy (.bool false)) h) λcz h=>ob (gd cz true (M.cB ah) h) λda h=>ob (gd cz true (O (.func 46) [da,(.int .i64 0),(.int .i64 0)]) h) λdb h=>ob (gd cz true (M.aB (bin prog .eql 84 db (.pointer none))) h) λdc h=>ob (M.aB (cJ cz dc (.bool false)) h) λdd h=>some (aG [dd],h))):=by kernel_rfl
end Go.Proofs.YtmimdleeihjdoaaGreatDoor
end
namespace Go.Proofs.YtmimdleeihjdoaaGreatDoor
open Go.Proofs.Tryz
open Go.Abs
open Classical
section
variable {H : aA} {m : Nat} {p : PlanD} {ev wv nv : Value}
theorem aMm (hp:PV H p ev wv nv)(hm:17592186045500<m)(hm2:m<=72057594037927936)(v:Int)(hno:lX p≠0∨v<0∨p.nodes<=v):
  ∃H',lvl prog pkN m (.func 36) [plV p ev wv nv,.int .i64 v] H=some (.pointer none,H')/\Ext H H':=by
 obtain⟨H1,hH1⟩: ∃H1,H1=H++[plB p ev wv nv]:=⟨_,rfl⟩;have x1:Ext H H1:=by rw[hH1];exact Fr.app _ _ _
 have b1:H1[H.length]? =some (plB p ev wv nv):=by rw[hH1];exact fQ _ _
 have p1:=hp.ext x1;have l11:=kD b1;obtain⟨H2,g1,x2⟩:=Um p1 (m:=m-1) (by omega) (by omega)
 have b2:H2[H.length]? =some (plB p ev wv nv):=by rw[x2.2 _ (dA b1) id,b1]
 have l0:ld1 (.pointer (some ⟨H.length,0,none⟩)) H2=some (.int .i64 p.nodes,H2):=eE b2 0 (.int .i64 p.nodes) rfl;have e1:H++[Blk.cells (plV p ev wv nv).cells.toList 40 .fix]=H1:=by rw[hH1];rfl
 refine kJ (cF rfl) (by omega) ⟨H2,?_,x1.tr x2⟩
 rw[Vd];by_cases c0:lX p=0
 ·have d0:((lX p:Int)!=0)=false:=by rw[c0];rfl
  by_cases c1:v<0
  ·have d1:decide (v<0)=true:=decide_eq_true c1
   simp -implicitDefEqProofs only[gsR,e1,l11,g1,d0,d1]
  ·have d1:decide (v<0)=false:=decide_eq_false c1
   have d2:decide (p.nodes<=v)=true:=decide_eq_true (by omega)
   simp -implicitDefEqProofs only[gsR,e1,l11,g1,d0,d1,l0,d2]
 ·have d0:((lX p:Int)!=0)=true:=by rw[bne_iff_ne];exact c0
  simp -implicitDefEqProofs only[gsR,e1,l11,g1,d0]
theorem aMl (m:Nat)(hm:17592186045600<m)(hm2:m<=72057594037927936): ∃H',lvl prog pkN m (.func 37) [] H=some (.bool true,H')/\Ext H H':=by
  obtain⟨H1,hH1⟩: ∃H1,H1=H++[Blk.cells [Value.int .u8 0] 5 .row]:=⟨_,rfl⟩;have x1:Ext H H1:=by rw[hH1];exact Fr.app _ _ _
  have e1:dL 5 1 1 [.int .u8 0] [(0,.int .u8 0)] H=some (.slice (some ⟨H.length,0,none⟩) 1 1,H1):=by rw[hH1];rfl
  have hu:Us H1 (.slice (some ⟨H.length,0,none⟩) 1 1) [0]:= .inr ⟨H.length,0,1,rfl,aME _,λ_=>⟨5,.row,[],[],rfl,λ_=>rfl,by rw[hH1,dF];rfl⟩⟩
  obtain⟨H2,ev,wv,nv,g2,x2,hp⟩:=Y2 hu (by simp) (by simp) 1 0 0 (by omega) (by omega) (by omega) (m:=m-1) (by omega) (by omega)
  simp only[show((1:Nat):Int)=1 from rfl,show((0:Nat):Int)=0 from rfl] at g2
  obtain⟨q,hq⟩: ∃q,q=uW [0] 1 0 0:=⟨_,rfl⟩;have hqk:kp={q with every:=8}:=by rw[hq];rfl
  rw[<-hq] at g2 hp;have cp:=Jo hp H2;obtain⟨H3,hH3⟩: ∃H3,H3=H2++[plB q ev wv nv]:=⟨_,rfl⟩;rw[<-hH3] at cp;have b3:H3[H2.length]? =some (plB q ev wv nv):=by rw[hH3];exact fQ _ _
  have x3:Ext H2 H3:=by rw[hH3];exact Fr.app _ _ _
  have st:stN 1 (.pointer (some ⟨H2.length,6,none⟩)) (.int .i64 8) H3=some (undef,H3.set H2.length (plB kp ev wv nv)):=C0 (q':=kp) (ev':=ev) (wv':=wv) (nv':=nv) b3 rfl rfl (by decide) (by rw[hqk];rfl)
  obtain⟨H4,hH4⟩: ∃H4,H4=H3.set H2.length (plB kp ev wv nv):=⟨_,rfl⟩;rw[<-hH4] at st;have x4:Ext H2 H4:=by rw[hH4];exact s5 x3 (aME _)
  have b4:H4[H2.length]? =some (plB kp ev wv nv):=by rw[hH4,aMF (dA b3)]
  have p4:PV H4 kp ev wv nv:=by
    have:=hp.ext x4;rw[hqk]
    exact⟨this.e,this.w,this.n,this.be,this.bw,this.bn⟩
  have l4:=kD b4;have hnn:kp.nodes=2:=by decide+kernel
  -- both nodes
  obtain⟨H5,Fa,ya,g5,ha⟩:=Nv p4 Y4 (by decide+kernel) (m:=m-1) (by omega) (by omega) 0 (by rw[hnn];decide)
  have b5:=fC b4 ha.ext;have l5:=kD b5;obtain⟨H6,Fb,yb,g6,hb⟩:=Nv (p4.ext ha.ext) Y4 (by decide+kernel) (m:=m-1) (by omega) (by omega) 1 (by rw[hnn];decide)
  simp only[show((1:Nat):Int)=1 from rfl,show((0:Nat):Int)=0 from rfl] at g5 g6
  have dis: ∀b,Un Fb b-> ¬Un Fa b:=λb h1 h2=>by have:=hb.old b h1;have:=ha.sep.pN b h2;omega
  have ha6:=ha.fS hb.ext;have hb6:=hb.aMg ha.ext p4;obtain⟨ca,hca⟩: ∃ca,ca=iP kp 0:=⟨_,rfl⟩;obtain⟨cb,hcb⟩: ∃cb,cb=iP kp 1:=⟨_,rfl⟩;have hpa:ca.aF=2/\ca.lanes=1:=by rw[hca];decide+kernel
  rw[<-hca] at ha ha6;rw[<-hcb] at hb hb6;obtain⟨r1,r2,r3,r4,r5⟩:=aMh
  -- they are there
  have k1:=Ey ha6 (m:=m-1) (by omega)
  have k2:=Ey hb6 (m:=m-1) (by omega)
  have k3:=aKV ha6 (m:=m-1) (by omega)
  obtain⟨H7,k4,x7⟩:=aKW ha6 (m:=m-1) (by omega) (i:=1) (k:=0) (by omega) (by omega) (by omega)
  have ha7:=ha6.fS x7;have hb7:=hb6.fS x7;obtain⟨H8,k5,x8⟩:=aKU ha7 (m:=m-1) (by omega) (i:=1) (k:=0) (by omega) (by omega) (by omega)
  have ha8:=ha7.fS x8;have hb8:=hb7.fS x8;simp only[show((1:Nat):Int)=1 from rfl,show((0:Nat):Int)=0 from rfl] at k4 k5
  have n1:=λa=>(uX 58 a (by kernel_rfl)).1
  have n1':=(uX 58 ⟨0,0,none⟩ (by kernel_rfl)).2
  have n2:=λa=>(uX 62 a (by kernel_rfl)).1
  have n3:=λa=>(uX 160 a (by kernel_rfl)).1
  have n4:=λa=>(uX 84 a (by kernel_rfl)).1
  have n4':=(uX 84 ⟨0,0,none⟩ (by kernel_rfl)).2
  have n5:=λa=>(uX 108 a (by kernel_rfl)).1
  have bp:bld prog 31 [(0,.int .i64 0),(1,.int .i64 1),(3,.int .u32 7)]=some kx.dB:=rfl;have bp2:bld prog 31 [(0,.int .i64 1)]=some (Pkt.dB ⟨1,0,0,0⟩):=rfl
  -- what is injected goes out
  obtain⟨H9,Fa9,g9,ha9,m9⟩:=Av ha8 (m:=m-1) (by omega) kx (by decide)
  have hr1:(nF ca kx (NS.jK ca)).1=0:=by rw[hca];exact r1
  have hs9:(nF ca kx (NS.jK ca)).2=kA:=by rw[hca];rfl
  rw[hr1] at g9;rw[hs9] at ha9;obtain⟨hb9,dis9⟩:=hb8.E4 ha9.ext m9 dis;obtain⟨H10,Fa10,v10,us10,g10,ha10,m10,o10⟩:=Yt ha9 (by omega) (m:=m-1) (by omega)
  obtain⟨hb10,dis10⟩:=hb9.E4 ha10.ext m10 dis9;have hT:uJ ca kA=kT:=by rw[hca];rfl
  rw[hT] at ha10 o10;have hlen:us10.length=1:=by
    rw[o10.len];have:=congrArg List.length r2;simpa using this
  obtain⟨u0,hu0⟩: ∃u0,us10=[u0]:=List.length_eq_one_iff.mp hlen;obtain⟨o0,ho0⟩: ∃o0,kT.2=[o0]:=List.length_eq_one_iff.mp (by rw[<-o10.len,hlen])
  obtain⟨w1,w2,w3⟩:=o10.at_ 0 u0 o0 (by rw[hu0];rfl) (by rw[ho0];rfl)
  have ho1:o0.1=1:=by rw[ho0] at r2;simpa using r2
  have len10:bJ v10=some (.int .i64 1):=by rw[o10.rw_.rs.jQ,hlen];rfl
  obtain⟨bo,oo,i1,i2,i3⟩:=o10.rw_.rs.iQ Yo (i:=0) (x:=u0) (by rw[hu0];rfl) .i64
  obtain⟨j1,j2,j3⟩:=i3 H10 rfl;have t0:=j2 0 _ rfl;have t1:=j2 1 _ rfl;rw[w1,ho1] at t0;rw[(aLB w2).1] at t1
  -- and comes
  obtain⟨H11,Fb11,g11,hb11,m11⟩:=aLb hb10 (by omega) (m:=m-1) (by omega) 0 w2.rs
  have hba:(kT.2.getD 0 (0,[])).2=o0.2:=by rw[ho0];rfl
  have hr3:(nS cb 0 o0.2 (NS.jK cb)).1=0:=by rw[hcb,<-hba];exact r3
  have hs11:(nS cb 0 o0.2 (NS.jK cb)).2=kB.2:=by rw[hcb,<-hba];rfl
  rw[hr3] at g11;rw[hs11] at hb11;have dis10': ∀b,Un Fa10 b-> ¬Un Fb b:=λb h1 h2=>dis10 b h2 h1
  obtain⟨ha11,dis11⟩:=ha10.E4 hb11.ext m11 dis10';obtain⟨H12,Fb12,v12,us12,g12,hb12,m12,o12⟩:=Yt hb11 (by omega) (m:=m-1) (by omega)
  obtain⟨ha12,dis12⟩:=ha11.E4 hb12.ext m12 dis11;have hU:uJ cb kB.2=kU:=by rw[hcb];rfl
  rw[hU] at hb12;have k6:=Ey hb12 (m:=m-1) (by omega)
  obtain⟨c0,c1,c2,cv,hh⟩:=hb12.Yg;rw[r4] at hh;obtain⟨H13,gv,g13,aN,q13,_⟩:=aJ6 hh (m:=m-1) (by omega) (by decide)
  have ha13:=ha12.fS aN;have len13:bJ gv=some (.int .i64 1):=q13.rs.jQ;obtain⟨bg,og,i4,i5,i6⟩:=q13.rs.iQ yE (i:=0) (x:=kx) rfl .i64;obtain⟨j4,j5,j6⟩:=i6 H13 rfl;have t3:=j5 3 (.int .u32 7) rfl
  -- what is none
  have b13:H13[H2.length]? =some (plB kp ev wv nv):=by
    have:=fC b4 ha13.ext;exact this
  have l13:=kD b13;obtain⟨H14,g14,aL⟩:=aMm (p4.ext ha13.ext) (m:=m-1) (by omega) (by omega) 2 (.inr (.inr (by rw[hnn];decide)))
  have ha14:=ha13.fS aL;obtain⟨H15,Fa15,g15,ha15,m15⟩:=Av ha14 (m:=m-1) (by omega) ⟨1,0,0,0⟩ (by decide)
  have hr5:(nF ca ⟨1,0,0,0⟩ kT.1).1=1:=by rw[hca];exact r5
  rw[hr5] at g15;obtain⟨H16,g16,aR⟩:=aKX ha15 (m:=m-1) (by omega) 0 0 (by omega)
  refine kJ (cF rfl) (by omega) ⟨H16,?_,((x1.tr x2).tr x4).tr (ha15.ext.tr aR)⟩
  rw[aMi];have z1:((1:Int)!=1)=false:=rfl;have z2:((1:Int)==1)=true:=rfl;have z3:((0:Int)==0)=true:=rfl;have z4:((7:Int)==7)=true:=rfl;simp only[show((1:Nat):Int)=1 from rfl,show((0:Nat):Int)=0 from rfl] at i1 i4 g9 g11 g15 t0
  simp -implicitDefEqProofs only[gsR,sB,e1,g2,cp,st,l4,g5,l5,g6,n1,k1,n2,k2,k3,n3,k4,n4,k5,n5,bp,g9,g10,len10,z1,i1,t0,t1,g11,g12,k6,g13,z3,z2,len13,i4,t3,z4,l13,g14,n1',bp2,g15,g16,n4']
end
theorem wN (a b:Bool):bin prog .neq 4 (.bool a) (.bool b)=some (.bool (a !=b)):=by cases a<;>cases b<;>rfl
theorem aMp:un prog .not (.bool false)=some (.bool true):=rfl
theorem wO (x:Pkt)(H:aA):H++[Blk.cells (Value.cells x.dB).toList 31 .fix]=H++[dM x]:=rfl
theorem E6 {H:aA}{b:Nat}{x:Pkt}(hb:H[b]? =some (dM x)):ld1 (.pointer (some ⟨b,0,none⟩)) H=some (.int .i64 x.src,H)/\ld1 (.pointer (some ⟨b,1,none⟩)) H=some (.int .i64 x.dst,H)/\ld1 (.pointer (some ⟨b,2,none⟩)) H=some (.int .i64 x.lane,H)/\ldN 4 (.pointer (some ⟨b,0,none⟩)) H=some (x.dB,H):=
 ⟨cK hb rfl,cK hb rfl,cK hb rfl,xX hb (aME 4)⟩
def inN (c:Cfg)(x:Pkt)(i:Nat):NS:={NS.jK c with hL:=List.replicate i x}
theorem aMn (c:Cfg)(x:Pkt):inN c x 0=NS.jK c:=rfl
theorem Y8 (x:Pkt)(i:Nat):fA (List.replicate i x) x.lane=List.replicate i x:=by
 unfold fA;rw[List.filter_eq_self];intro y hy;rw[List.eq_of_mem_replicate hy];exact decide_eq_true rfl
def E5 (c:Cfg)(x:Pkt):Prop:=x.src=c.me/\x.dst≠c.me/\0<=x.dst/\x.dst<c.nodes/\0<=x.lane/\x.lane<c.lanes
theorem Y6 {c:Cfg}{x:Pkt}(h:E5 c x)(i:Nat):nF c x (inN c x i)=if i=c.queue then(150,inN c x i) else(0,inN c x (i+1)):=by
 obtain⟨h1,h2,h3,h4,h5,h6⟩:=h;unfold nF pT;rw[if_neg (by omega),if_neg (by omega)]
 show(if(fA (List.replicate i x) x.lane).length=c.queue then _ else _)=_
 rw[Y8,aNf];split
 ·rfl
 ·show(0,{inN c x i with hL:=List.replicate i x++[x]})=_
  rw[<-List.replicate_succ'];rfl
theorem Y7 {c:Cfg}{x:Pkt}(h: ¬E5 c x)(s:NS):nF c x s=(1,s):=by
 unfold nF pT;split
 ·rfl
 ·rename_i h1
  rw[if_pos (λh2=>h ⟨by omega,by omega,by omega,by omega,by omega,by omega⟩)]
section
variable {H : aA} {m : Nat}
theorem ckI (k:IntKind)(z:Int)(G:aA):chk (some (Value.int k z,G)) (.int k z)=true:=by simp[chk,veq]
theorem aMq:un prog .not (.bool true)=some (.bool false):=rfl
theorem aMo {H0:aA}{y:Lay}{p:PlanD}{ev wv nv:Value}{c:Cfg}{x:Pkt}{xb pb:Nat}(hf:E5 c x)(hb:0<=x.body/\x.body<4294967296)(hque:p.queue=(c.queue:Int))(bx:H0[xb]? =some (dM x))(bp:H0[pb]? =some (plB p ev wv nv))(hm:20<m):
  ∀(q i l:Nat)(H:aA)(F:Part->Nat->Prop),c.queue-i+1=q->1<=i->i<=c.queue->q<l->NodeAt H0 H F y p ev wv nv c 0 (inN c x i)-> ∀(x0 x1 x2 x3 x4 x5 x6 x7 x8 aP aL aR aS aO bC bH bV bG bE aT aU aV aW aX aY aZ bA bB bK bL bM bN bO bP bQ bR bS bT cC cD cE cI cP cR cS cM cN cO cQ cV cT cU cY dD dG dE dH dQ dR dU dV dW dX dY dZ eA eH eI eJ eK eL eM eN eO eP eQ eS eT fD fE fF fG fH fI fJ fK fW fX fY fZ gA gB gC gD gE gF gG gH gI:Value),
  ∃H2,aH l (aI prog (lvl prog pkN m) (aH m) Ny) (Nz (lvl prog pkN m) (aH m)) [x0,x1,x2,x3,x4,x5,x6,x7,x8,(.pointer (some ⟨xb,0,none⟩)),(.bool false),(.pointer (some ⟨pb,0,none⟩)),aP,(pt y.nb),aL,(.int .i64 (i:Nat)),aR,aS,aO,bC,bH,bV,bG,bE,aT,aU,aV,aW,aX,aY,aZ,bA,bB,bK,bL,bM,bN,bO,bP,bQ,bR,bS,bT,cC,cD,cE,cI,cP,cR,cS,cM,cN,cO,cQ,cV,cT,cU,cY,dD,dG,dE,dH,dQ,dR,dU,dV,dW,dX,dY,dZ,eA,eH,eI,eJ,eK,eL,eM,eN,eO,eP,eQ,eS,eT,fD,fE,fF,fG,fH,fI,fJ,fK,fW,fX,fY,fZ,gA,gB,gC,gD,gE,gF,gG,gH,gI] H=some (.bool true,H2)/\True:=by
 intro q;induction q with
 |zero=>
  intro i l H F hq;omega
 |succ q ih=>
  intro i l H F hq h1 hi hl h;intros;obtain⟨l,rfl⟩: ∃n,l=n+1:=⟨l-1,by omega⟩
  have h8:=h.ok.queue;obtain⟨_,_,_,p4⟩:=E6 (fC bx h.ext);have lq:ld1 (.pointer (some ⟨pb,4,none⟩)) H=some (.int .i64 c.queue,H):=by rw[eE (fC bp h.ext) 4 (.int .i64 p.queue) rfl,hque]
  obtain⟨H1,F1,g1,ha1,_⟩:=Av h (m:=m) (by omega) x hb
  rw[Y6 hf] at g1 ha1;rw[dS,aMj];by_cases hiq:i=c.queue
  ·rw[if_pos hiq] at g1 ha1
   simp only[show((150:Nat):Int)=150 from rfl] at g1
   have e:decide ((i:Int)<(c.queue:Nat))=false:=decide_eq_false (by omega)
   have k1:=Ey ha1 (m:=m) (by omega)
   obtain⟨c0,c1,c2,cv,hh⟩:=ha1.Yg;obtain⟨kl,hkl⟩: ∃kl:Nat,x.lane=kl:=⟨x.lane.toNat,by have:=hf.2.2.2.2.1;omega⟩
   have g2:=Mg hh (m:=m) (by omega) kl (by have:=hf.2.2.2.2.2;omega)
   have hw:(fA (inN c x i).hL (kl:Int)).length=c.queue:=by
    rw[<-hkl]
    show(fA (List.replicate i x) x.lane).length=c.queue
    rw[Y8,aNf,hiq]
   have hh2:(if i=c.queue then((150:Nat),inN c x i) else(0,inN c x (i+1))).2.hL=(inN c x i).hL:=by rw[if_pos hiq]
   rw[hw] at g2;obtain⟨_,_,p5,_⟩:=E6 (fC bx ha1.ext);rw[hkl] at p5;have lq1:ld1 (.pointer (some ⟨pb,4,none⟩)) H1=some (.int .i64 c.queue,H1):=by rw[eE (fC bp ha1.ext) 4 (.int .i64 p.queue) rfl,hque]
   have z1:((150:Int)==150)=true:=rfl;have z2:((c.queue:Int)==c.queue)=true:=by rw[beq_iff_eq]
   simp -implicitDefEqProofs only[gsR,lq,e];rw[aMk];simp -implicitDefEqProofs only[gsR,p4,g1,k1,p5,g2,lq1,z1,z2,ckI]
   exact⟨_,rfl,trivial⟩
  ·rw[if_neg hiq] at g1 ha1
   simp only[show((0:Nat):Int)=0 from rfl] at g1
   have e:decide ((i:Int)<(c.queue:Nat))=true:=decide_eq_true (by omega)
   have e2:IntKind.i64.wrap ((i:Int)+1)=((i+1:Nat):Int):=by rw[dJ (by omega) (by omega)];omega
   have z0:((0:Int)!=0)=false:=rfl;simp -implicitDefEqProofs only[gsR,lq,e,p4,g1,z0,cH,e2];exact ih (i+1) l H1 F1 (by omega) (by omega) (by omega) (by omega) ha1 ..
theorem aMr {cv:Value}{c:List Nat}(hc:Us H cv c)(hu8: ∀x∈c,x<256)(hl:c.length<=72057594037927936)(room more v:Nat)(h2:room<256)(h3:more<256)(h4:v<256)(x:Pkt)(hb:0<=x.body/\x.body<4294967296):
  ∃H',lvl prog bY 18014398509481984 (.func 6) [cv,.int .u8 room,.int .u8 more,.int .u8 v,x.dB] H=some (.bool true,H')/\True:=by
 obtain⟨H1,hH1⟩: ∃H1,H1=H++[dM x]:=⟨_,rfl⟩;have x1:Ext H H1:=by rw[hH1];exact Fr.app _ _ _
 have b1:H1[H.length]? =some (dM x):=by rw[hH1];exact dF _ _
 obtain⟨H2,ev,wv,nv,g2,x2,hp⟩:=Y2 (hc.ext x1) hu8 hl room more 0 h2 h3 (by omega) (m:=18014398509481984-1) (by omega) (by omega)
 simp only[show((0:Nat):Int)=0 from rfl] at g2
 have hpk:=aMf c room more 0;have hst:(uW c room more 0).start=0:=rfl;obtain⟨q,hq⟩: ∃q,q=uW c room more 0:=⟨_,rfl⟩;have hqn:q.nodes=(((ofT c).length+1:Nat):Int):=by rw[hq];rfl
 rw[<-hq] at g2 hp hpk hst;have cp:=Jo hp H2;obtain⟨H3,hH3⟩: ∃H3,H3=H2++[plB q ev wv nv]:=⟨_,rfl⟩;rw[<-hH3] at cp;have b3:H3[H2.length]? =some (plB q ev wv nv):=by rw[hH3];exact fQ _ _
 have x3:Ext H2 H3:=by rw[hH3];exact Fr.app _ _ _
 have l3:=kD b3;obtain⟨n,hn⟩: ∃n,n=(ofT c).length+1:=⟨_,rfl⟩;rw[<-hn] at hqn;have l30:ld1 (.pointer (some ⟨H2.length,0,none⟩)) H3=some (.int .i64 (n:Nat),H3):=by rw[eE b3 0 (.int .i64 q.nodes) rfl,hqn]
 have hcv:=λG=>cvU G v h4
 have hrem:=uF v n (n:Nat) rfl (by omega)
 obtain⟨k,hk⟩: ∃k,k=v%n:=⟨_,rfl⟩;have hkn:k<n:=by rw[hk];exact Nat.mod_lt _ (by omega)
 rw[<-hk] at hrem;obtain⟨H4,F,y,g4,ha⟩:=Nv (hp.ext x3) hpk (by omega) (m:=18014398509481984-1) (by omega) (by omega) k (by rw[hqn];omega)
 obtain⟨c0,hc0⟩: ∃c0,c0=iP q k:=⟨_,rfl⟩;have hcn:c0.nodes=n:=by rw[hc0];show q.nodes.toNat=n;rw[hqn];rfl
 have hcm:c0.me=k:=by rw[hc0];rfl
 rw[<-hc0] at ha;have hqok:=ha.hp;have hlan:q.lanes=(c0.lanes:Int):=by
  obtain⟨n',hn'⟩:=hqok;rw[hc0];show q.lanes=(q.lanes.toNat:Int)
  have:=ha.ok.lanes;rw[hc0] at this;have h9:1<=q.lanes.toNat:=this.1;omega
 have hque:q.queue=(c0.queue:Int):=by
  rw[hc0];show q.queue=(q.queue.toNat:Int)
  have:=ha.ok.queue;rw[hc0] at this;have h9:1<=q.queue.toNat:=this.1;omega
 have n1:=λa=>(uX 58 a (by kernel_rfl)).1
 obtain⟨H5,g5,x5⟩:=aMl (H:=H4) (18014398509481984-1) (by omega) (by omega)
 have ha5:=ha.fS x5;have xh5:Ext H1 H5:=((x2.tr x3).tr ha.ext).tr x5;have b15:=fC b1 xh5;obtain⟨p0,p1,p2,p3⟩:=E6 b15;have b35:H5[H2.length]? =some (plB q ev wv nv):=fC b3 (ha.ext.tr x5);have l50:ld1 (.pointer (some ⟨H2.length,0,none⟩)) H5=some (.int .i64 (n:Nat),H5):=by rw[eE b35 0 (.int .i64 q.nodes) rfl,hqn]
 have l52:ld1 (.pointer (some ⟨H2.length,2,none⟩)) H5=some (.int .i64 (c0.lanes:Nat),H5):=by rw[eE b35 2 (.int .i64 q.lanes) rfl,hlan]
 obtain⟨H6,F6,g6,ha6,m6⟩:=Av ha5 (m:=18014398509481984-1) (by omega) x hb
 have z0:((0:Int)==0)=true:=rfl;have z1:((1:Int)==0)=false:=rfl;have z2:((1:Int)==1)=true:=rfl;have b13:H3[H.length]? =some (dM x):=fC b1 (x2.tr x3);by_cases hf:E5 c0 x
 ·obtain⟨e1,e2,e3,e4,e5,e6⟩:=id hf
  have d1:((x.src:Int)==(k:Int))=true:=by rw[beq_iff_eq];omega
  have d2:((x.dst:Int)!=(k:Int))=true:=by rw[bne_iff_ne];omega
  have d3:decide ((0:Int)<=x.dst)=true:=decide_eq_true e3;have d4:decide (x.dst<(n:Nat))=true:=decide_eq_true (by omega)
  have d5:decide ((0:Int)<=x.lane)=true:=decide_eq_true e5;have d6:decide (x.lane<(c0.lanes:Nat))=true:=decide_eq_true e6;have hq8:=ha.ok.queue;rw[<-aMn c0 x,Y6 hf,if_neg (by omega)] at g6 ha6
  simp only[show((0:Nat):Int)=0 from rfl] at g6
  refine kJ (cF rfl) (by omega) ?_
  rw[Y5];simp -implicitDefEqProofs only[gsR,wO,<-hH1,g2,sB,cp,hcv,l30,hrem,l3,g4,n1,g5,p0,p1,p2,p3,l50,l52,g6,z0,z1,z2,wN,bne_self_eq_false,d1,d2,d3,d4,d5,d6,aMq,aMp];exact aMo hf hb hque b13 b3 (by omega) c0.queue 1 (18014398509481984-1) H6 F6 (by omega) (by omega) (by omega) (by omega) ha6 ..
 ·rw[Y7 hf] at g6 ha6
  obtain⟨H7,F7,g7,ha7,m7⟩:=Av ha6 (m:=18014398509481984-1) (by omega) x hb
  rw[Y7 hf] at g7 ha7;have b6:H6[H.length]? =some (dM x):=fC b13 ha6.ext;obtain⟨_,_,_,p6⟩:=E6 b6;simp only[show((1:Nat):Int)=1 from rfl] at g6 g7
  refine kJ (cF rfl) (by omega) ⟨H7,?_,trivial⟩
  rw[Y5];by_cases c1:x.src=k
  ·have d1:((x.src:Int)==(k:Int))=true:=by rw[beq_iff_eq];exact c1
   by_cases c2:x.dst≠k
   ·have d2:((x.dst:Int)!=(k:Int))=true:=by rw[bne_iff_ne];exact c2
    by_cases c3:0<=x.dst
    ·have d3:decide ((0:Int)<=x.dst)=true:=decide_eq_true c3
     by_cases c4:x.dst<n
     ·have d4:decide (x.dst<(n:Nat))=true:=decide_eq_true c4
      by_cases c5:0<=x.lane
      ·have d5:decide ((0:Int)<=x.lane)=true:=decide_eq_true c5
       by_cases c6:x.lane<c0.lanes
       ·have d6:decide (x.lane<(c0.lanes:Nat))=true:=decide_eq_true c6
        exact absurd ⟨by omega,by omega,c3,by omega,c5,c6⟩ hf
       ·have d6:decide (x.lane<(c0.lanes:Nat))=false:=decide_eq_false c6
        simp -implicitDefEqProofs only[gsR,wO,<-hH1,g2,sB,cp,hcv,l30,hrem,l3,g4,n1,g5,p0,p1,p2,p3,l50,l52,g6,g7,p6,z0,z1,z2,wN,bne_self_eq_false,d1,d2,d3,d4,d5,d6]
      ·have d5:decide ((0:Int)<=x.lane)=false:=decide_eq_false c5
       simp -implicitDefEqProofs only[gsR,wO,<-hH1,g2,sB,cp,hcv,l30,hrem,l3,g4,n1,g5,p0,p1,p2,p3,l50,l52,g6,g7,p6,z0,z1,z2,wN,bne_self_eq_false,d1,d2,d3,d4,d5]
     ·have d4:decide (x.dst<(n:Nat))=false:=decide_eq_false c4
      simp -implicitDefEqProofs only[gsR,wO,<-hH1,g2,sB,cp,hcv,l30,hrem,l3,g4,n1,g5,p0,p1,p2,p3,l50,l52,g6,g7,p6,z0,z1,z2,wN,bne_self_eq_false,d1,d2,d3,d4]
    ·have d3:decide ((0:Int)<=x.dst)=false:=decide_eq_false c3
     simp -implicitDefEqProofs only[gsR,wO,<-hH1,g2,sB,cp,hcv,l30,hrem,l3,g4,n1,g5,p0,p1,p2,p3,l50,l52,g6,g7,p6,z0,z1,z2,wN,bne_self_eq_false,d1,d2,d3]
   ·have d2:((x.dst:Int)!=(k:Int))=false:=by rw[Bool.eq_false_iff,Ne,bne_iff_ne];exact c2
    simp -implicitDefEqProofs only[gsR,wO,<-hH1,g2,sB,cp,hcv,l30,hrem,l3,g4,n1,g5,p0,p1,p2,p3,l50,l52,g6,g7,p6,z0,z1,z2,wN,bne_self_eq_false,d1,d2]
  ·have d1:((x.src:Int)==(k:Int))=false:=by rw[beq_eq_false_iff_ne];exact c1
   simp -implicitDefEqProofs only[gsR,wO,<-hH1,g2,sB,cp,hcv,l30,hrem,l3,g4,n1,g5,p0,p1,p2,p3,l50,l52,g6,g7,p6,z0,z1,z2,wN,bne_self_eq_false,d1]
end
end Go.Proofs.YtmimdleeihjdoaaGreatDoor
namespace Go.Proofs.YtmimdleeihjdoaaGreatDoor
open Go.Proofs.Tryz
open Go.Abs
theorem aMt {i:Int}(h:(Lit.int .u32 i).wf=true):0<=i/\i<4294967296:=by
 simp[Lit.wf,IntKind.min,IntKind.max,IntKind.signed,IntKind.bits] at h;omega
theorem N0 {i:Int}(h:(Lit.int .i64 i).wf=true): -9223372036854775808<=i/\i<9223372036854775808:=by
 simp[Lit.wf,IntKind.min,IntKind.max,IntKind.signed,IntKind.bits] at h;omega
theorem aMs {G:aA}{n:Nat}{cs:List Value}(h:Rp prog G n 31 cs): ∃x:Pkt,Value.agg ⟨cs⟩=x.dB/\x.ok:=by
 have hf:Gt prog 31=some [(3,0),(3,1),(3,2),(29,3)]:=by kernel_rfl
 have c0:prog.cellsOf 31=4:=by kernel_rfl
 have c1:prog.cellsOf 29=1:=by kernel_rfl
 obtain⟨m,hl,hh⟩:=h.aBN hf;rw[c0] at hl
 match cs,hl with
 |[x0,x1,x2,x3],_=>
  have f0:=hh (3,0) (by simp)
  have f1:=hh (3,1) (by simp)
  have f2:=hh (3,2) (by simp)
  have f3:=hh (29,3) (by simp)
  simp only[szI,c1,List.drop_zero,List.drop_succ_cons,List.take_succ_cons,List.take_zero] at f0 f1 f2 f3;obtain⟨a0,h0,w0⟩:=f0.y8 (k:= .i64) (by kernel_rfl)
  obtain⟨a1,h1,w1⟩:=f1.y8 (k:= .i64) (by kernel_rfl)
  obtain⟨a2,h2,w2⟩:=f2.y8 (k:= .i64) (by kernel_rfl)
  obtain⟨a3,h3,w3⟩:=f3.y8 (k:= .u32) (by kernel_rfl)
  cases h0;cases h1;cases h2;cases h3
  exact⟨⟨a0,a1,a2,a3⟩,rfl,N0 w0,N0 w1,N0 w2,aMt w3⟩
end Go.Proofs.YtmimdleeihjdoaaGreatDoor
