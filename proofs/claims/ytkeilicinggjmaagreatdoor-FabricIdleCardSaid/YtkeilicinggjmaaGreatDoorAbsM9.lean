/-
  PARTS OF THIS CLAIM'S PROOF, laid together by a program of mine.
-/
import Derived.Test.YtkeilicinggjmaaGreatDoorAbsM7
set_option linter.unusedVariables false
set_option linter.unusedSimpArgs false
set_option linter.unusedSectionVars false
namespace Go.Abs
open M
theorem aDH {α:Type}(f:Nat->Nat->α)(i k:Nat):up2 f i k (f i k)=f:=by
 funext j l
 unfold up2;split
 ·rename_i h
  rw[h.1,h.2]
 ·rfl
theorem aDI {n:Nat}(h:n<100000):eF n (n%65536)=n:=by
 unfold eF;omega
def yE (c:Cfg)(bs:List UInt8):Prop:= ∃f:Frm,bs=qO f/\f.ok/\eZ f=true/\(f.kind=3/\f.seq=c.start%65536∨f.kind=2/\f.seq=(c.start+c.room)%65536)
theorem aRG {c:Cfg}(hc:c.ok){bs:List UInt8}(h:yE c bs)(fr:Int)(j:Nat):(pG c fr bs (tH c j)).2=tH c j:=by
 obtain⟨f,rfl,h1,h2,h3⟩:=h;have q1:=hc.start;have q2:=hc.room;unfold pG;split
 ·rfl
 ·rename_i i _
  rw[aQA h2,aQz h1 h2];simp only;split
  ·rfl
  ·have hs: ∀i k,(tH c j).snd i k=⟨c.start,c.start+c.room⟩:=λ_ _=>rfl
   have hr: ∀i k,(tH c j).rcv i k=⟨c.start,0⟩:=λ_ _=>rfl
   rcases h3 with⟨k1,k2⟩|⟨k1,k2⟩
   ·rw[if_neg U,if_pos k1]
    have:((tH c j).rcv (i+1) f.lane).pW c.room f.seq=(tH c j).rcv (i+1) f.lane:=by
     rw[hr,k2];unfold Rcv.pW;simp only;rw[if_pos (.inl (by rw[aDI U];exact aRZ _))]
    rw[this,aDH]
   ·rw[if_pos k1]
    have:((tH c j).snd (i+1) f.lane).rH f.seq=(tH c j).snd (i+1) f.lane:=by
     rw[hs,k2];unfold Snd.rH;simp only;rw[if_pos (.inl (by rw[aDI U];exact aRZ _))]
    rw[this,aDH]
theorem aRF {c:Cfg}(hc:c.ok){o:Nat×List UInt8}(ho:o∈oO c (NS.mY c)):yE c o.2:=by
 unfold oO at ho;obtain⟨i,hi,ho⟩:=List.mem_flatMap.mp ho;obtain⟨k,hk,ho⟩:=List.mem_flatMap.mp ho;have hk:=aSy.mp hk;have h3:=hc.lanes;have h4:=hc.start;have h5:=hc.room;simp only[aSd,aSk,or_false] at ho;rcases ho with rfl|rfl
 ·exact⟨⟨3,k,c.start%65536,0,0,0⟩,rfl,⟨by show 3<256;omega,by show k<256;omega,by show _%65536<65536;omega,by show 0<256;omega,by show 0<256;omega,by show 0<4294967296;omega⟩,by unfold eZ;simp;omega,.inl ⟨rfl,rfl⟩⟩
 ·have e:(⟨c.start,0⟩:Rcv).mZ c.room=c.start+c.room:=rfl
  exact⟨⟨2,k,(c.start+c.room)%65536,0,0,0⟩,by simp only[tY];rfl,⟨by show 2<256;omega,by show k<256;omega,by show _%65536<65536;omega,by show 0<256;omega,by show 0<256;omega,by show 0<4294967296;omega⟩,by unfold eZ;simp;omega,.inr ⟨rfl,rfl⟩⟩
structure IdF (C:FC)(t:Nat)(s:FS):Prop where
 n: ∀v,v<C.N->s.n v=tH (C.c v) t
 l: ∀h,∀b∈s.l h,∀v,v<C.N->yE (C.c v) b
 k:s.k=t
theorem IdF.aRC (C:FC):IdF C 0 (FS.vL C):=⟨λ_ _=>rfl,λ_ _ hb=>(by cases hb),rfl⟩
theorem aDG {C:FC}{P:List UInt8->Prop}(v:Nat): ∀(os:kJ)(l:Nat->List (List UInt8)),(∀o∈os,P o.2)->(∀h,∀b∈l h,P b)-> ∀h,∀b∈os.foldl (sI C v) l h,P b
 |[],_,_,h=>h
 |o::os,l,ho,hl=>by
  rw[List.foldl_cons];refine aDG v os _ (λx hx=>ho x (aSb _ hx)) λh b hb=> ?_
  unfold sI up1 at hb
  split at hb
  ·unfold aDs at hb
   split at hb
   ·exact hl _ b hb
   ·rcases List.mem_append.mp hb with hb|hb
    ·exact hl _ b hb
    ·rw[List.mem_singleton] at hb
     rw[hb];exact ho o (aR3 ..)
  ·exact hl h b hb
structure EvenC (C:FC):Prop where
 ok: ∀v,v<C.N->(C.c v).ok
 eq: ∀v w,(C.c v).start=(C.c w).start/\(C.c v).room=(C.c w).room
theorem EvenC.aRA {C:FC}(h:EvenC C){v w:Nat}{b:List UInt8}(hb:yE (C.c v) b):yE (C.c w) b:=by
 obtain⟨f,h1,h2,h3,h4⟩:=hb;obtain⟨e1,e2⟩:=h.eq v w;rw[e1,e2] at h4
 exact⟨f,h1,h2,h3,h4⟩
theorem IdF.aRD {C:FC}(hC:EvenC C){t:Nat}{s:FS}(h:IdF C t s):IdF C (t+1) (yC C s):=by
 have hn: ∀v,v<C.N->qA (C.c v) (s.n v)=(tH (C.c v) (t+1),if(t+1)%(C.c v).every=0 then oO (C.c v) (NS.mY (C.c v)) else []):=λv hv=>by rw[h.n v hv,aQM]
 refine⟨λv hv=> ?_,?_,by show s.k+1=t+1;rw[h.k]⟩
 ·show qT C s C.N v=_
  unfold qT;rw[if_pos hv,hn v hv]
 ·show∀i,∀b∈uD C s C.N i,∀v,v<C.N->yE (C.c v) b
  have key: ∀n,n<=C.N-> ∀i,∀b∈uD C s n i,∀v,v<C.N->yE (C.c v) b:=by
   intro n;induction n with
   |zero=>exact λ_=>h.l
   |succ n ih=>
    intro hnN;have e:uD C s (n+1)=(tI C s n).foldl (sI C n) (uD C s n):=by
     unfold uD;rw[aSt,List.foldl_append];rfl
    rw[e];refine aDG (P:=λb=> ∀v,v<C.N->yE (C.c v) b) n _ _ (λo ho v hv=> ?_) (ih U)
    unfold tI at ho;rw[hn n U] at ho
    simp only at ho
    split at ho
    ·exact hC.aRA (aRF (hC.ok n U) ho)
    ·cases ho
  exact key C.N (aRZ _)
theorem IdF.aRB {C:FC}(hC:EvenC C)(hv: ∀e∈C.hs,e.2.toNat<C.N){t:Nat}{s:FS}(h:IdF C t s)(k i:Nat)(hk:k<C.hs.length):IdF C t (yB C k i s).2:=by
 unfold yB;split
 ·exact h
 ·rename_i b hb
  have hbm:=aR4 hb;have hvN:(C.hs.getD k (0,0)).2.toNat<C.N:=by
   rw[aRY,aRW hk,aSn];exact hv _ (List.getElem_mem _)
  refine⟨λv hv'=> ?_,λj b' hb'=> ?_,h.k⟩
  ·show up1 s.n _ _ v=_
   unfold up1;split
   ·rename_i hvv
    rw[h.n _ hvN,aRG (hC.ok _ hvN) (h.l k b hbm _ hvN),hvv]
   ·exact h.n v hv'
  ·have hb':b'∈up1 s.l k ((s.l k).eraseIdx i) j:=hb'
   unfold up1 at hb'
   split at hb'
   ·exact h.l k b' (List.mem_of_mem_eraseIdx hb')
   ·exact h.l j b' hb'
theorem IdF.aDE {C:FC}(hC:EvenC C)(hv: ∀e∈C.hs,e.2.toNat<C.N){t k:Nat}(hk:k<C.hs.length): ∀(q:Nat){s:FS},IdF C t s->IdF C t (B5 C k q s)
 |0,_,h=>h
 |q+1,_,h=>IdF.aDE hC hv hk q (h.aRB hC hv k 0 hk)
theorem IdF.aDF {C:FC}(hC:EvenC C)(hv: ∀e∈C.hs,e.2.toNat<C.N){t:Nat}: ∀(l:List Nat){s:FS},(∀i∈l,i<C.hs.length)->IdF C t s->IdF C t (Eh C l s)
 |[],_,_,h=>h
 |k::l,s,hl,h=>IdF.aDF hC hv l (λi hi=>hl i (aSb _ hi)) (h.aDE hC hv (hl k (aR3 ..)) _)
theorem IdF.aRE {C:FC}(hC:EvenC C)(hv: ∀e∈C.hs,e.2.toNat<C.N){t:Nat}{s:FS}(h:IdF C t s):IdF C (t+1) (vM C s):=
 IdF.aDF hC hv _ (λi hi=>aSy.mp hi) (h.aRD hC)
end Go.Abs
set_option maxRecDepth 100000
namespace Go.Proofs.YtkeilicinggjmaaGreatDoor
open Go.Proofs.Tryz
open Go.Abs Go.Abs.M
open Classical
section
variable {H0 H H' H1 : aF} {O : FP → Nat → Prop} {a : FL} {F : Nat → Part → Nat → Prop} {p : PlanD} {ev wv nv : Value} {t m : Nat} {s : FS}
theorem aRH (hok:gY p=true)(hst:0<=p.start/\p.start<65536):EvenC (eJ p):=by
 obtain⟨N,hN⟩:=sW hok;have hn:=hN.hn
 exact⟨λv hv=>(aCX hok (me:=v) (by have hv:v<p.nodes.toNat:=hv;omega) hst).1,λ_ _=>⟨rfl,rfl⟩⟩
theorem aRL (hok:gY p=true): ∀e∈(eJ p).hs,e.2.toNat<(eJ p).N:=λe he=>by
 obtain⟨k,hk⟩:=List.getElem?_of_mem (show e∈dM p from he)
 obtain⟨v,w,rfl,_,hw⟩:=Ty hok hk
 show(w:Int).toNat<p.nodes.toNat
 omega
theorem aRJ {r:Nat}{rv:Nat}(hr:r=rv%30)(hrv:rv<256)(h:fE H0 H O a F p ev wv nv t s)(hi:IdF (eJ p) r s)(ht:t<1000000)(hm:1000<m):
  ∀(q i l:Nat)(H:aF),6-i=q->i<=6->q<l->fE H0 H O a F p ev wv nv t s-> ∀(x0 x1 x2 x3 x5 x6 x7 x8 x9 aV aR aQ aW aX aU bA bP bQ bO bK aY bC bE bG bH bI bJ bM bN bU cK cL cD bV bX bY b9 cA cF cM cO cP cT dB dE dF cU cV cW cY dJ dG dH cZ:Value),
  ∃H2,aM l (aN prog (lvl prog pkN m) (aM m) Tj) (Tl (lvl prog pkN m) (aM m)) [x0,x1,x2,x3,(.int .u8 (rv:Nat)),x5,x6,x7,x8,x9,(.bool false),(pt a.fb),aV,aR,(.I (i:Nat)),aQ,aW,aX,aU,bA,bP,bQ,bO,bK,aY,bC,bE,bG,bH,bI,bJ,bM,bN,bU,cK,cL,cD,bV,bX,bY,b9,cA,cF,cM,cO,cP,cT,dB,dE,dF,cU,cV,cW,cY,dJ,dG,dH,cZ] H=some (.bool true,H2):=by
 intro q;induction q with
 |zero=>
  intro i l H hq hi' hl h;intros;obtain⟨l,rfl⟩:=aB l U
  obtain rfl:i=6:=U
  have e:decide (((6:Nat):Int)<6)=false:=rfl;have k:=aDA h (m:=m) U
  rw[hi.k] at k;have rm:=wA rv 30 30 rfl U
  have cv:=λG=>cvU G (rv%30) U
  have z:((r:Int)==((rv%30:Nat):Int))=true:=by rw[hr,beq_iff_eq]
  refine⟨H,?_⟩;rw[dR,aDg];simp -implicitDefEqProofs only[gsR,e];rw[aQw];simp -implicitDefEqProofs only[gsR,k,rm,cv,z]
 |succ q ih=>
  intro i l H hq hi' hl h;intros;obtain⟨l,rfl⟩:=aB l U
  have e:decide ((i:Int)<6)=true:=aSE U
  have e3:=aA (i:=i) U
  obtain⟨H1,u,g1,x1,q1,_⟩:=Tu h ht (m:=m) U (i:Int)
  have hg:Ag p (i:Int) s=[]:=by
   unfold Ag;split
   ·rename_i hc
    rw[hi.n _ (show(i:Int).toNat<p.nodes.toNat by omega)]
    rfl
   ·rfl
  rw[hg] at q1;have hlen:aZ u=some (.I 0):=q1.rs.gW;have d:decide ((0:Int)<0)=false:=rfl;rw[dR,aDg];simp -implicitDefEqProofs only[gsR,e,g1,hlen,d,cR,e3];exact ih (i+1) l H1 U U U (h.nB x1) ..
theorem aRK {r:Nat}{rv:Nat}(hr:r=rv%30)(hrv:rv<256)(hst:0<=p.start/\p.start<65536)(hm:10000<m):
  ∀(q i l:Nat)(H:aF)(O:FP->Nat->Prop)(F:Nat->Part->Nat->Prop)(s:FS),r-i=q->i<=r->q<l->fE H0 H O a F p ev wv nv (2400*i) s->IdF (eJ p) i s-> ∀(x0 x1 x2 x3 x5 x6 x7 x8 x9 aV aS aQ aW aX aU bA bP bQ bO bK aY bC bE bG bH bI bJ bM bN bU cK cL cD bV bX bY b9 cA cF cM cO cP cT dB dE dF cU cV cW cY dJ dG dH cZ:Value),
  ∃H2,aM l (aN prog (lvl prog pkN m) (aM m) Ti) (Tk (lvl prog pkN m) (aM m)) [x0,x1,x2,x3,(.int .u8 (rv:Nat)),x5,x6,x7,x8,x9,(.bool false),(pt a.fb),aV,(.I (i:Nat)),aS,aQ,aW,aX,aU,bA,bP,bQ,bO,bK,aY,bC,bE,bG,bH,bI,bJ,bM,bN,bU,cK,cL,cD,bV,bX,bY,b9,cA,cF,cM,cO,cP,cT,dB,dE,dF,cU,cV,cW,cY,dJ,dG,dH,cZ] H=some (.bool true,H2):=by
 have rm:=wA rv 30 30 rfl U
 have cv:=λG=>cvU G (rv%30) U
 rw[<-hr] at rm cv;intro q;induction q with
 |zero=>
  intro i l H O F s hq hi' hl h hi;intros;obtain⟨l,rfl⟩:=aB l U
  obtain rfl:i=r:=U
  have e:decide ((i:Int)<(i:Nat))=false:=by simp
  rw[dR,aDf];simp -implicitDefEqProofs only[gsR,rm,cv,e];rw[aQv];exact aRJ hr hrv h hi U U 6 0 m H U U U h ..
 |succ q ih=>
  intro i l H O F s hq hi' hl h hi;intros;obtain⟨l,rfl⟩:=aB l U
  have e:decide ((i:Int)<(r:Nat))=true:=aSE U
  have e3:=aA (i:=i) U
  obtain⟨H1,O1,F1,g1,h1⟩:=Tx h U (by rw[hi.k];omega) (m:=m) U
  rw[dR,aDf];simp -implicitDefEqProofs only[gsR,rm,cv,e,g1,cR,e3];exact ih (i+1) l H1 O1 F1 _ U U U (h1.Ek U) (hi.aRE (aRH h.ok hst) (aRL h.ok)) ..
theorem aRI {cv:Value}{c:List Nat}(hc:Us H cv c)(hu8: ∀x∈c,x<256)(hl:c.length<=72057594037927936)(room more start rv:Nat)(h2:room<256)(h3:more<256)(h4:start<65536)(h5:rv<256):
  ∃H',lvl prog cN 18014398509481984 (.func 7) [cv,.int .u8 room,.int .u8 more,.int .u16 start,.int .u8 rv] H=some (.bool true,H')/\True:=by
 obtain⟨H2,ev,wv,nv,g2,x2,hp⟩:=Jp hc hu8 hl room more start h2 h3 h4 (m:=18014398509481984-1) U U
 have hok:=Jq c room more start;have hst0:(rO c room more start).start=start:=rfl;obtain⟨q,hq⟩:=aD (rO c room more start);rw[<-hq] at g2 hp hok hst0;obtain⟨H4,u,g4,H0,O,a,F,e',w',n',rfl,xb,k4,_⟩:=J3 hp hok (by rw[hst0];omega) (m:=18014398509481984-1) U U
 have E0:ext 0 (.tuple #[pt a.fb,.int .u16 0])=some (pt a.fb):=rfl;have E1:ext 1 (.tuple #[pt a.fb,.int .u16 0])=some (.int .u16 0):=rfl;have z0:((0:Int)!=0)=false:=rfl;have n2:=λa=>(sH 60 a (by kernel_rfl)).1
 obtain⟨H5,g5,x5⟩:=T6 (H:=H4) (18014398509481984-1) U U
 refine nQ (cH rfl) U ?_
 rw[aQx];simp -implicitDefEqProofs only[gsR,g2,g4,E0,E1,z0,n2,g5];obtain⟨H6,g6⟩:=(aRK (m:=18014398509481984-1) (a:=a) (r:=rv%30) rfl h5 (by rw[hst0];omega) U (rv%30) 0 (18014398509481984-1) H5 O F (FS.vL (eJ q)) U U U (k4.nB x5) (IdF.aRC _) ..)
 exact⟨H6,g6,trivial⟩
end
end Go.Proofs.YtkeilicinggjmaaGreatDoor
