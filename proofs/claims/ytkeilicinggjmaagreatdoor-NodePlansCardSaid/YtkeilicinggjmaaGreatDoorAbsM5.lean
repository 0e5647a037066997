/-
  PARTS OF THIS CLAIM'S PROOF, laid together by a program of mine.
-/
import Derived.Test.YtkeilicinggjmaaGreatDoorAbsM4
set_option linter.unusedVariables false
set_option linter.unusedSimpArgs false
set_option linter.unusedSectionVars false
namespace Go.Abs
open M
def Eg (g:List (List Int))(i k:Nat):Prop:= ∃r,g[i]? =some r/\(k:Int)∈r
inductive Rch (g:List (List Int)):Nat->Nat->Prop
 |one {i k:Nat}:Eg g i k->Rch g i k
 |step {i j k:Nat}:Rch g i j->Eg g j k->Rch g i k
def Cyc (g:List (List Int)):Prop:= ∃i,Rch g i i
def Inn (g:List (List Int)):Prop:= ∀r∈g,∀z∈r,0<=z/\z<(g.length:Int)
def Dn (g:List (List Int))(C:List Int):Prop:= ∀u:Nat,C[u]? =some 2->(∀k:Nat,Eg g u k->C[k]? =some 2)/\ ¬Rch g u u
theorem Dn.aI7 {g:List (List Int)}{D:List Int}(h:Dn g D){i:Nat}{r:List Int}(hi:D[i]? =some 1)(hr:g[i]? =some r)(hall: ∀k:Nat,(k:Int)∈r->D[k]? =some 2):Dn g (D.set i 2):=by
 have hl:=(aPN.mp hi).1;have up: ∀k:Nat,D[k]? =some 2->(D.set i 2)[k]? =some 2:=λk hk=>by
  rw[List.getElem?_set];split
  ·rename_i h
   subst h;simp[hl]
  ·exact hk
 intro u hu;by_cases hui:u=i
 ·subst hui
  refine⟨λk ⟨r',h1,h2⟩=> ?_,λhc=> ?_⟩
  ·rw[hr] at h1
   cases h1;exact up k (hall k h2)
  ·have key: ∀k:Nat,Rch g u k->D[k]? =some 2:=by
    intro k hk;induction hk with
    |one e=>
     obtain⟨r',h1,h2⟩:=e;rw[hr] at h1;cases h1;exact hall _ h2
    |step _ e ih=>exact(h _ ih).1 _ e
   have:=key u hc;rw[hi] at this;cases this
 ·rw[aPO (Ne.symm hui)] at hu
  exact⟨λk hk=>up k ((h u hu).1 k hk),(h u hu).2⟩
def wW (s r:List Int):List Int:=r.foldl (λs k=>s.set k.toNat 1) s
def k8 (g:List (List Int))(a:Nat)(s:List Int)(i:Nat):List Int:=if i≠a/\s.getD i 0=0 then s else wW s (g.getD i [])
def tD (g:List (List Int))(a:Nat)(s:List Int):List Int:=(List.range g.length).foldl (k8 g a) s
def gB (g:List (List Int))(a:Nat):Nat->List Int
 |0=>List.replicate g.length 0
 |n+1=>tD g a (gB g a n)
def nV (g:List (List Int)):Bool:=(List.range g.length).any λi=>(gB g i g.length).getD i 0==1
def Le (s s':List Int):Prop:=s.length=s'.length/\ ∀k:Nat,s[k]? =some 1->s'[k]? =some 1
def Bin (s:List Int):Prop:= ∀x∈s,x=0∨x=1
theorem Le.Mz (s:List Int):Le s s:=⟨rfl,λ_ h=>h⟩
theorem Le.Xs {a b c:List Int}(h:Le a b)(h':Le b c):Le a c:=⟨h.1.trans h'.1,λk hk=>h'.2 k (h.2 k hk)⟩
theorem aJc (s:List Int)(k:Nat):Le s (s.set k 1):=⟨by simp,λj hj=>by
 rw[List.getElem?_set];split
 ·rename_i h
  subst h;simp[(aPN.mp hj).1]
 ·exact hj⟩
theorem Bin.aI6 {s:List Int}(h:Bin s)(k:Nat):Bin (s.set k 1):=λx hx=>by
 rcases List.mem_or_eq_of_mem_set hx with h1|h1
 ·exact h x h1
 ·exact .inr h1
theorem M0: ∀(r s:List Int),Le s (wW s r)
 |[],s=>Le.Mz s
 |k::r,s=>(aJc s k.toNat).Xs (M0 r (s.set k.toNat 1))
theorem Xw: ∀(r s:List Int),Bin s->Bin (wW s r)
 |[],s,h=>h
 |k::r,s,h=>Xw r _ (h.aI6 _)
theorem Xx: ∀(r s:List Int)(k:Nat),(k:Int)∈r->k<s.length->(wW s r)[k]? =some 1
 |[],s,k,h,_=>by cases h
 |z::r,s,k,h,hk=>by
  rcases aP6.mp h with h|h
  ·subst h
   refine(M0 r (s.set (k:Int).toNat 1)).2 k ?_;simp[hk]
  ·exact Xx r _ k h (by simpa using hk)
theorem M1: ∀(r s:List Int)(k:Nat),(∀z∈r,0<=z)->(wW s r)[k]? =some 1->s[k]? =some 1∨(k:Int)∈r
 |[],s,k,_,h=> .inl h
 |z::r,s,k,hz,h=>by
  rcases M1 r _ k (λy hy=>hz y (by simp[hy])) h with h1|h1
  ·rw[List.getElem?_set] at h1
   split at h1
   ·rename_i hh
    have:=hz z (by simp)
    exact .inr (by rw[aP6];left;omega)
   ·exact .inl h1
  ·exact .inr (by simp[h1])
theorem Fc (g:List (List Int))(a:Nat)(s:List Int)(i:Nat):Le s (k8 g a s i):=by
 unfold k8;split
 ·exact Le.Mz s
 ·exact M0 _ _
theorem M3 (g:List (List Int))(a:Nat): ∀(l:List Nat)(s:List Int),Le s (l.foldl (k8 g a) s)
 |[],s=>Le.Mz s
 |i::l,s=>(Fc g a s i).Xs (M3 g a l _)
theorem A5 (g:List (List Int))(a:Nat): ∀(l:List Nat)(s:List Int),Bin s->Bin (l.foldl (k8 g a) s)
 |[],s,h=>h
 |i::l,s,h=>A5 g a l _ (by
  unfold k8;split
  ·exact h
  ·exact Xw _ _ h)
theorem M2 (g:List (List Int))(a:Nat)(s:List Int):Le s (tD g a s):=M3 g a _ s
theorem X1 (g:List (List Int))(a:Nat)(s:List Int)(h:Bin s):Bin (tD g a s):=A5 g a _ s h
def A2 (g:List (List Int))(a:Nat)(s:List Int):Prop:= ∀k:Nat,s[k]? =some 1->Rch g a k
theorem Xt {s:List Int}(h:Bin s){i:Nat}(hi: ¬s.getD i 0=0):s[i]? =some 1:=by
 rw[aPR] at hi;cases hs:s[i]? with
 |none=>rw[hs] at hi;simp at hi
 |some x=>
  rw[hs] at hi;simp at hi;rcases h x (aPX hs) with h|h
  ·exact absurd h hi
  ·rw[h]
theorem aJd {g:List (List Int)}{a:Nat}{s:List Int}{i:Nat}(hg:Inn g)(hb:Bin s)(h:A2 g a s):A2 g a (k8 g a s i):=by
 unfold k8;split
 ·exact h
 ·rename_i hc
  intro k hk;have hz: ∀z∈g.getD i [],0<=z:=λz hz=>by
   rw[aPR] at hz;cases hg':g[i]? with
   |none=>rw[hg'] at hz;simp at hz
   |some r=>rw[hg'] at hz;exact(hg r (aPX hg') z hz).1
  rcases M1 _ _ k hz hk with h1|h1
  ·exact h k h1
  ·rw[aPR] at h1
   cases hg':g[i]? with
   |none=>rw[hg'] at h1;simp at h1
   |some r=>
    rw[hg'] at h1;have e:Eg g i k:=⟨r,hg',h1⟩;by_cases hia:i=a
    ·rw[<-hia];exact .one e
    ·have: ¬s.getD i 0=0:=λhh=>hc ⟨hia,hh⟩
     exact .step (h i (Xt hb this)) e
theorem X2 {g:List (List Int)}{a:Nat}(hg:Inn g): ∀(l:List Nat)(s:List Int),Bin s->A2 g a s->A2 g a (l.foldl (k8 g a) s)
 |[],s,_,h=>h
 |i::l,s,hb,h=>X2 hg l _ (A5 g a [i] s hb) (aJd hg hb h)
def pM (s:List Int):Nat:=s.countP (· ==1)
theorem A4: ∀(s s':List Int),Le s s'->pM s<=pM s'
 |[],[],_=>aPS _
 |[],_::_,h=>absurd h.1 (by simp)
 |_::_,[],h=>absurd h.1 (by simp)
 |x::s,y::s',h=>by
  have ih:=A4 s s' ⟨by simpa using h.1,λk hk=>by have:=h.2 (k+1) (by simpa using hk);simpa using this⟩
  have h0:=h.2 0;simp only[List.getElem?_cons_zero,aQe] at h0;unfold pM at*;simp only[List.countP_cons];by_cases hx:x=1
  ·rw[hx,h0 hx];simp;exact ih
  ·have:(x==1)=false:=by simp[hx]
   rw[this];simp only[Bool.false_eq_true,if_false];omega
theorem E8: ∀(s s':List Int),Le s s'->Bin s->Bin s'->pM s'<=pM s->s=s'
 |[],[],_,_,_,_=>rfl
 |[],_::_,h,_,_,_=>absurd h.1 (by simp)
 |_::_,[],h,_,_,_=>absurd h.1 (by simp)
 |x::s,y::s',h,hb,hb',hc=>by
  have hle:Le s s':=⟨by simpa using h.1,λk hk=>by have:=h.2 (k+1) (by simpa using hk);simpa using this⟩
  have h1:=A4 s s' hle;have h0:=h.2 0;simp only[List.getElem?_cons_zero,aQe] at h0;have bx:=hb x (by simp)
  have by':=hb' y (by simp)
  unfold pM at*;simp only[List.countP_cons] at hc;have e:x=y:=by
   rcases bx with bx|bx
   ·rcases by' with by'|by'
    ·rw[bx,by']
    ·rw[bx,by'] at hc
     simp at hc;omega
   ·rw[bx,h0 bx]
  subst e;rw[E8 s s' hle (λz hz=>hb z (by simp[hz])) (λz hz=>hb' z (by simp[hz])) (by unfold pM;omega)]
theorem aJb (s:List Int):pM s<=s.length:=List.countP_le_length
theorem aJa (s:List Int)(h:pM s=s.length): ∀k:Nat,k<s.length->s[k]? =some 1:=by
 intro k hk;have:=(List.countP_eq_length.mp h) s[k] (List.getElem_mem hk);rw[aPP hk];simpa using this
def Clo (g:List (List Int))(a:Nat)(s:List Int):Prop:= ∀i k:Nat,(i=a∨s[i]? =some 1)->Eg g i k->s[k]? =some 1
theorem Xv {g:List (List Int)}{a:Nat}: ∀(l:List Nat)(s:List Int),Bin s->l.foldl (k8 g a) s=s-> ∀i∈l,k8 g a s i=s
 |[],s,_,_,i,h=>by cases h
 |j::l,s,hb,h,i,hi=>by
  have h1:Le s (k8 g a s j):=Fc g a s j;have h2:Le (k8 g a s j) s:=by
   have:=M3 g a l (k8 g a s j);rw[List.foldl_cons] at h;rw[h] at this;exact this
  have e:k8 g a s j=s:=(E8 _ _ h1 hb (A5 g a [j] s hb) (A4 _ _ h2)).symm;rcases aP6.mp hi with rfl|hi
  ·exact e
  ·rw[List.foldl_cons,e] at h
   exact Xv l s hb h i hi
theorem aI8 {g:List (List Int)}{a:Nat}{s:List Int}(hg:Inn g)(hl:s.length=g.length)(hb:Bin s)(h:tD g a s=s):Clo g a s:=by
 rintro i k hi ⟨r,hr,hk⟩
 have hil:=(aPN.mp hr).1;have:=Xv _ s hb h i (aQr.mpr hil);unfold k8 at this;have hc: ¬(i≠a/\s.getD i 0=0):=by
  rintro ⟨h1,h2⟩
  rcases hi with hi|hi
  ·exact h1 hi
  ·rw[aPR,hi] at h2
   simp at h2
 rw[if_neg hc] at this;have hkl:=(hg r (aPX hr) k hk).2;have h1:=Xx (g.getD i []) s k (by rw[aPR,hr];exact hk) U
 rw[this] at h1;exact h1
theorem aI9 {g:List (List Int)}{a:Nat}{s:List Int}(hg:Inn g)(hl:s.length=g.length)(h:pM s=s.length):Clo g a s:=by
 rintro i k _ ⟨r,hr,hk⟩
 have hkl:=(hg r (aPX hr) k hk).2;exact aJa s h k U
theorem E9 (g:List (List Int))(a:Nat): ∀n,(gB g a n).length=g.length
 |0=>by simp[gB]
 |n+1=>by
  have:=(M2 g a (gB g a n)).1;rw[E9 g a n] at this;exact this.symm
theorem vF (g:List (List Int))(a:Nat): ∀n,Bin (gB g a n)
 |0=>λx hx=> .inl (by simp[gB] at hx;exact hx.2)
 |n+1=>X1 g a _ (vF g a n)
theorem X0 {g:List (List Int)}(a:Nat)(hg:Inn g): ∀n,A2 g a (gB g a n)
 |0=>λk hk=>by
  simp only[gB,aQt] at hk
  split at hk<;>simp at hk
 |n+1=>X2 hg _ _ (vF g a n) (X0 a hg n)
theorem Xy {g:List (List Int)}(a:Nat)(hg:Inn g): ∀n,Clo g a (gB g a n)∨n<=pM (gB g a n)
 |0=> .inr (Nat.zero_le _)
 |n+1=>by
  rcases Xy a hg n with h|h
  ·left
   have e: ∀l:List Nat,l.foldl (k8 g a) (gB g a n)=gB g a n:=by
    intro l;induction l with
    |nil=>rfl
    |cons i l ih=>
     rw[List.foldl_cons];have:k8 g a (gB g a n) i=gB g a n:=by
      refine(E8 _ _ (Fc g a _ i) (vF g a n) (A5 g a [i] _ (vF g a n)) ?_).symm;refine A4 _ _ ⟨(Fc g a _ i).1.symm,λk hk=> ?_⟩
      unfold k8 at hk
      split at hk
      ·exact hk
      ·rename_i hc
       have hz: ∀z∈g.getD i [],0<=z:=λz hz=>by
        rw[aPR] at hz;cases hg':g[i]? with
        |none=>rw[hg'] at hz;simp at hz
        |some r=>rw[hg'] at hz;exact(hg r (aPX hg') z hz).1
       rcases M1 _ _ k hz hk with h1|h1
       ·exact h1
       ·rw[aPR] at h1
        cases hg':g[i]? with
        |none=>rw[hg'] at h1;simp at h1
        |some r=>
         rw[hg'] at h1;refine h i k ?_ ⟨r,hg',h1⟩;by_cases hia:i=a
         ·exact .inl hia
         ·exact .inr (Xt (vF g a n) λhh=>hc ⟨hia,hh⟩)
     rw[this];exact ih
   show Clo g a (tD g a (gB g a n))
   unfold tD;rw[e];exact h
  ·by_cases hx:tD g a (gB g a n)=gB g a n
   ·left
    show Clo g a (tD g a (gB g a n))
    rw[hx];exact aI8 hg (E9 g a n) (vF g a n) hx
   ·right
    show n+1<=pM (tD g a (gB g a n))
    have h1:=A4 _ _ (M2 g a (gB g a n));by_cases h2:pM (tD g a (gB g a n))<=pM (gB g a n)
    ·exact absurd (E8 _ _ (M2 g a _) (vF g a n) (X1 g a _ (vF g a n)) h2).symm hx
    ·omega
theorem Xz {g:List (List Int)}(hg:Inn g)(a k:Nat):(gB g a g.length)[k]? =some 1↔Rch g a k:=by
 constructor
 ·exact X0 a hg g.length k
 ·have hc:Clo g a (gB g a g.length):=by
   rcases Xy a hg g.length with h|h
   ·exact h
   ·refine aI9 hg (E9 g a _) ?_
    have:=aJb (gB g a g.length);rw[E9] at*;omega
  intro hr;induction hr with
  |one e=>exact hc _ _ (.inl rfl) e
  |step _ e ih=>exact hc _ _ (.inr ih) e
theorem Xu {g:List (List Int)}(hg:Inn g):nV g=true↔Cyc g:=by
 unfold nV;rw[List.any_eq_true];constructor
 ·rintro ⟨i,hi,h⟩
  refine⟨i,(Xz hg i i).mp ?_⟩;rw[aPR] at h;cases hh:(gB g i g.length)[i]? with
  |none=>rw[hh] at h;simp at h
  |some x=>rw[hh] at h;simp at h;rw[h]
 ·rintro ⟨i,h⟩
  have hil:i<g.length:=by
   cases h with
   |one e=>obtain⟨r,h1,_⟩:=e;exact(aPN.mp h1).1
   |step h1 e=>
    obtain⟨r,h2,h3⟩:=e;have:=(hg r (aPX h2) i h3).2;omega
  refine⟨i,aQr.mpr hil,?_⟩;rw[aPR,(Xz hg i i).mpr h];rfl
end Go.Abs
set_option maxRecDepth 100000
namespace Go.Proofs.YtkeilicinggjmaaGreatDoor
open Go.Proofs.Tryz
open Go.Abs Go.Abs.M
section
variable {H : aE} {m : Nat} {p : PlanD} {ev wv nv : Value}
theorem aJi {n:Nat}(hk:OkP p n){a ab bb:Nat}{x y:Ed}(hx:0<=x.1/\x.1<n/\0<=x.2/\x.2<n)(hp:PV H p ev wv nv)(hb0:H[a]? =some (plB p ev wv nv))(ha:H[ab]? =some (hpB x))(hb:H[bb]? =some (hpB y)):
  ∀(q i k:Nat),n-i=q->i<=n->q<k-> ∀(x0 x1 x2 x6 x8 x9 bG b9 aS aP aQ aO aT aU aR bA bK bX bJ bE aV aW aX aY aZ bB bC bH bI bM bN bO bP bQ bR bS bT bU bY cA cD cE cI cJ cN cP cK cQ cR cW dA cX cY dD dF:Value),
  aJ k (aM prog (lvl prog bL m) (aJ m) Eu) (Az (lvl prog bL m) (aJ m)) [x0,x1,x2,(.Q a 0),(.Q ab 0),(.Q bb 0),x6,(.I (i:Nat)),x8,x9,bG,b9,aS,aP,aQ,aO,aT,aU,aR,bA,bK,bX,bJ,bE,aV,aW,aX,aY,aZ,bB,bC,bH,bI,bM,bN,bO,bP,bQ,bR,bS,bT,bU,bY,cA,cD,cE,cI,cJ,cN,cP,cK,cQ,cR,cW,dA,cX,cY,dD,dF] H=some (.bool ((List.range' i q).any (pL p x y)),H):=by
 intro q;have h6:=hk.h6;have l0:=dE hb0 0 _ rfl;rw[hk.hn] at l0;have l10:=dE hb0 10 _ rfl;have a0:=Mw ha;have a1:=Mx ha;have b0:=Mw hb;have b1:=Mx hb;induction q with
 |zero=>
  intro i k hr hi hk2;intros;obtain⟨k,rfl⟩:=aB k U
  have e:decide ((i:Int)<(n:Int))=false:=aQx U
  rw[cU,Ww];simp only[gsR,l0,e];rw[aIi];rfl
 |succ q ih=>
  intro i k hr hi hk2;intros;obtain⟨k,rfl⟩:=aB k U
  have e:decide ((i:Int)<(n:Int))=true:=aQw U
  have e3:=aA (i:=i) U
  rw[cU,Ww];rw[List.range'_succ,List.any_cons];have next:pL p x y i=false-> ∀(x0 x1 x2 x6 x8 x9 bG b9 aS aP aQ aO aT aU aR bA bK bX bJ bE aV aW aX aY aZ bB bC bH bI bM bN bO bP bQ bR bS bT bU bY cA cD cE cI cJ cN cP cK cQ cR cW dA cX cY dD dF:Value),aJ k (aM prog (lvl prog bL m) (aJ m) Eu) (Az (lvl prog bL m) (aJ m)) [x0,x1,x2,(.Q a 0),(.Q ab 0),(.Q bb 0),x6,(.I (i+1:Nat)),x8,x9,bG,b9,aS,aP,aQ,aO,aT,aU,aR,bA,bK,bX,bJ,bE,aV,aW,aX,aY,aZ,bB,bC,bH,bI,bM,bN,bO,bP,bQ,bR,bS,bT,bU,bY,cA,cD,cE,cI,cJ,cN,cP,cK,cQ,cR,cW,dA,cX,cY,dD,dF] H=some (.bool (pL p x y i||(List.range' (i+1) q).any (pL p x y)),H):=by
   intro h;rw[h,Bool.false_or];exact ih (i+1) k U U U
  cases c1:(x.2==y.1) with
  |false=>
   simp only[gsR,l0,e,a1,b0,c1,cO,e3];exact next (by unfold pL;rw[c1];rfl) ..
  |true=>
   cases c2:((i:Int)!=x.2) with
   |false=>
    simp only[gsR,l0,e,a1,b0,c1,c2,cO,e3];exact next (by unfold pL;rw[c1,c2];rfl) ..
   |true=>
    cases c3:((i:Int)!=x.1) with
    |false=>
     simp only[gsR,l0,e,a0,a1,b0,c1,c2,c3,cO,e3];exact next (by unfold pL;rw[c1,c2,c3];rfl) ..
    |true=>
     obtain⟨r1,u1,r2,g1,g2,g3,g4⟩:=yT hk hp (v:=x.1) (w:=i) U U
     cases c4:(nx p x.1 i==x.2) with
     |false=>
      simp only[gsR,l0,e,a0,a1,b0,c1,c2,c3,l10,g1,g2,g3,g4,c4,cO,e3];exact next (by unfold pL;rw[c1,c2,c3,c4];rfl) ..
     |true=>
      obtain⟨r3,u3,r4,k1,k2,k3,k4⟩:=yT hk hp (v:=x.2) (w:=i) U U
      cases c5:(nx p x.2 i==y.2) with
      |false=>
       simp only[gsR,l0,e,a0,a1,b0,b1,c1,c2,c3,l10,g1,g2,g3,g4,c4,k1,k2,k3,k4,c5,cO,e3];exact next (by unfold pL;rw[c1,c2,c3,c4,c5];rfl) ..
      |true=>
       have:pL p x y i=true:=by unfold pL;rw[c1,c2,c3,c4,c5];rfl
       rw[this];simp only[gsR,l0,e,a0,a1,b0,b1,c1,c2,c3,l10,g1,g2,g3,g4,c4,k1,k2,k3,k4,c5];rw[aIk];rfl
theorem aJh {n:Nat}(hk:OkP p n){x y:Ed}(hx:0<=x.1/\x.1<n/\0<=x.2/\x.2<n)(hp:PV H p ev wv nv)(hm:100<m):
  ∃H',lvl prog bL m (.func 158) [plV p ev wv nv,edV x,edV y] H=some (.bool (wt p n x y),H')/\Ext H H':=by
 obtain⟨H0,hH0⟩:=aD (H++[plB p ev wv nv]);have x0:Ext H H0:=by rw[hH0];exact Fr.app _ _ _
 have b0:H0[H.length]? =some (plB p ev wv nv):=by rw[hH0];exact eL _ _
 obtain⟨H1,hH1⟩:=aD (H0++[hpB x]);have x1:Ext H0 H1:=by rw[hH1];exact Fr.app _ _ _
 have b1:H1[H0.length]? =some (hpB x):=by rw[hH1];exact eL _ _
 obtain⟨H2,hH2⟩:=aD (H1++[hpB y]);have x2:Ext H1 H2:=by rw[hH2];exact Fr.app _ _ _
 have b2:H2[H1.length]? =some (hpB y):=by rw[hH2];exact eL _ _
 have h6:=hk.h6;refine jQ (fB rfl rfl) U ⟨H2,?_,(x0.tr x1).tr x2⟩
 rw[aIj];unfold wt;rw[List.range_eq_range'];simp only[gsR,eZ,<-hH0,Mu,<-hH1,<-hH2];exact aJi hk hx (hp.ext ((x0.tr x1).tr x2)) (dT b0 (x1.tr x2)) (dT b1 x2) b2 n 0 (m-1) U U U ..
theorem aJj {α:Type}(f:Nat->Bool)(i:Nat):((List.range (i+1)).filter f)=(List.range i).filter f++(if f i=true then [i] else []):=by
 rw[aQm,List.filter_append];by_cases h:f i=true
 ·rw[if_pos h,List.filter_cons,if_pos h];rfl
 ·rw[if_neg h,List.filter_cons,if_neg h];rfl
theorem aJg {n:Nat}(hk:OkP p n){H0 Hb:aE}{a i:Nat}{u out:Value}{hs:List Ed}{x:Ed}{us:List SV}{xss:List (List Int)}{K:Ex->K (Value×aE)}{Q:aE->Value->Prop}(hin: ∀h∈hs,0<=h.1/\h.1<n/\0<=h.2/\h.2<n)(hsl:hs.length<=100)(hm:500<m)(hp:PV Hb p ev wv nv)(hb0:Hb[a]? =some (plB p ev wv nv))(hu:Hs Hb u hs)(hx:hs[i]? =some x)
  (hxl:xss.length<=100)(h0b:Ext H0 Hb)(ho:Rw sC 25 1 Hb out us)(hon:New H0 out)(hw:WR Hb us xss)
  (hK: ∀(H':aE)(out':Value)(us':List SV),Ext H0 H'->Rw sC 25 1 H' out' us'->New H0 out'->WR H' us' (xss++[mP p n hs x])-> ∀(x0 x2 x6 x7 x8 x9 bG b9 aS aP aQ aO aT aU aR bA bK bX bJ bE aV aW aX aY aZ bB bC bH bI bM bN bO bP bQ bR bS bT bU bY cA:Value),∃H2 r,K .normal [x0,(.Q a 0),x2,u,out',(.I (i+1:Nat)),x6,x7,x8,x9,bG,b9,aS,aP,aQ,aO,aT,aU,aR,bA,bK,bX,bJ,bE,aV,aW,aX,aY,aZ,bB,bC,bH,bI,bM,bN,bO,bP,bQ,bR,bS,bT,bU,bY,cA] H'=some (r,H2)/\Q H2 r):
  ∀(q j k:Nat)(H1:aE)(acc:Value),hs.length-j=q->j<=hs.length->q<k->Ext Hb H1->Iw H1 acc (((List.range j).filter λk=>wt p n x (hs.getD k (0,0))).map (λk:Nat=>(k:Int)))->New Hb acc-> ∀(x0 x2 x8 x9 bG b9 aS aP aQ aO aT aU aR bA bK bX bJ bE aV aW aX aY aZ bB bC bH bI bM bN bO bP bQ bR bS bT bU bY cA:Value),
  ∃H' r,aJ k (aM prog (lvl prog bL m) (aJ m) Lu) (Lw (lvl prog bL m) (aJ m) K) [x0,(.Q a 0),x2,u,out,(.I (i:Nat)),acc,(.I (j:Nat)),x8,x9,bG,b9,aS,aP,aQ,aO,aT,aU,aR,bA,bK,bX,bJ,bE,aV,aW,aX,aY,aZ,bB,bC,bH,bI,bM,bN,bO,bP,bQ,bR,bS,bT,bU,bY,cA] H1=some (r,H')/\Q H' r:=by
 intro q;have hil:=(aPN.mp hx).1;induction q with
 |zero=>
  intro j k H1 acc hr hi hk2 he ha hnew;intros;obtain⟨k,rfl⟩:=aB k U
  obtain rfl:hs.length=j:=U
  have hlen:=(hu.ext he).fD;have e:decide ((hs.length:Int)<(hs.length:Int))=false:=by simp
  have e3:=aA (i:=i) U
  have hacc:Iw H1 acc (mP p n hs x):=ha;have hul:=hw.len;have ho1:Rw sC 25 1 H1 out us:=ho.fG λb hb=>he.2 b (ho.fY hb) id
  have hw1:WR H1 us xss:=hw.wV λb cs hb=>he.2 b (aPN.mp hb).1 id
  obtain⟨out2,H2,t1,t2,t3,t4,t5,t6⟩:=ho1.yK (by':=24) yR yQ aC (oD hacc) hon (h0b.tr he) (fV (n:=1000000) aC U)
  have bl:dG 25 1 1 [.slice none 0 0] [(0,acc)] H1=some (.slice (some ⟨H1.length,0,none⟩) 1 1,H1++[.cells (sC (oD hacc)) 25 .row]):=by
   have h0:acc.cells= #[acc]:=(oD hacc).2.2;unfold dG;have:Instr.fill (λi=>some (i*1,1)) (List.replicate 1 [Value.slice none 0 0]).flatten.toArray [(0,acc)]=some #[acc]:=by
    simp[Instr.fill,h0]
   rw[this];rfl
  have kp: ∀(b:Nat)(cs:List Value),H1[b]? =some (.cells cs 3 .row)->H2[b]? =H1[b]? :=λb cs hb=>by
   refine t5.2 b (aPN.mp hb).1 λhh=> ?_
   obtain⟨cs',hc⟩:=ho1.blk hh;rw[hb] at hc;simp at hc
  have w2:=(hw1.Ms (s:=oD hacc) hacc).wV kp;rw[cU,Wo];simp only[gsR,hlen,e];rw[aH9];simp only[gsR,bl,t1,cO,e3];exact hK H2 out2 _ t4 t2 t3 w2 ..
 |succ q ih=>
  intro j k H1 acc hr hi hk2 he ha hnew;intros;obtain⟨k,rfl⟩:=aB k U
  have hu1:Hs H1 u hs:=hu.ext he;have hlen:=hu1.fD;have e:decide ((j:Int)<(hs.length:Int))=true:=aQw U
  have e3:=aA (i:=j) U
  obtain⟨y,hy⟩: ∃y,hs[j]? =some y:=⟨_,aPP U⟩
  have l11:=fL (dT hb0 he);obtain⟨b,o,g1,_,g3⟩:=hu1.fZ oS hx .i64;have g4:ldN 2 (.Q b o) H1=some (edV x,H1):=(g3 H1 rfl).1;obtain⟨b',o',g1',_,g3'⟩:=hu1.fZ oS hy .i64;have g4':ldN 2 (.Q b' o') H1=some (edV y,H1):=(g3' H1 rfl).1;obtain⟨H2,w1,x2⟩:=aJh hk (y:=y) (hin x (aPX hx)) (hp.ext he) (m:=m) U
  have hget:hs.getD j (0,0)=y:=by rw[aPR,hy];rfl
  have tf:=aJj (α:=Unit) (λk=>wt p n x (hs.getD k (0,0))) j
  simp only[hget] at tf;have ha2:=ha.fG (H':=H2) λb hb=>x2.2 b (ha.fY hb) id
  rw[cU,Wo];cases c:wt p n x y with
  |true=>
   rw[c] at w1;rw[c,if_pos rfl] at tf;have hfl:((List.range j).filter λk=>wt p n x (hs.getD k (0,0))).length<=100:=aP3 (List.length_filter_le _ _) (by rw[aQh];omega)
   obtain⟨acc2,H3,t1,t2,t3,t4⟩:=ha2.o8 (by':=8) fA lD aC (j:Int) hnew (he.tr x2) (fV (n:=1000000) aC (by rw[aP1];omega))
   simp only[gsR,hlen,e,l11,g1,g4,g1',g4',w1,lU,t1,cO,e3];exact ih (j+1) k H3 acc2 U U U t4 (by rw[tf,List.map_append];exact t2) t3 ..
  |false=>
   rw[c] at w1;rw[c,if_neg aC,List.append_nil] at tf
   simp only[gsR,hlen,e,l11,g1,g4,g1',g4',w1,cO,e3];exact ih (j+1) k H2 acc U U U (he.tr x2) (by rw[tf];exact ha2) hnew ..
theorem aJf {n:Nat}(hk:OkP p n){H0:aE}{a:Nat}{u:Value}{hs:List Ed}(hin: ∀h∈hs,0<=h.1/\h.1<n/\0<=h.2/\h.2<n)(hsl:hs.length<=100)(hm:500<m)(hm2:m<=72057594037927936)(hp:PV H0 p ev wv nv)(hb0:H0[a]? =some (plB p ev wv nv))(hu:Hs H0 u hs):
  ∀(q i k:Nat)(H1:aE)(out:Value)(us:List SV),hs.length-i=q->i<=hs.length->q<k->Ext H0 H1->Rw sC 25 1 H1 out us->New H0 out->WR H1 us ((hs.take i).map (mP p n hs))-> ∀(x0 x2 x6 x7 x8 x9 bG b9 aS aP aQ aO aT aU aR bA bK bX bJ bE aV aW aX aY aZ bB bC bH bI bM bN bO bP bQ bR bS bT bU bY cA:Value),
  ∃H' r,aJ k (aM prog (lvl prog bL m) (aJ m) Lt) (Lv (lvl prog bL m) (aJ m)) [x0,(.Q a 0),x2,u,out,(.I (i:Nat)),x6,x7,x8,x9,bG,b9,aS,aP,aQ,aO,aT,aU,aR,bA,bK,bX,bJ,bE,aV,aW,aX,aY,aZ,bB,bC,bH,bI,bM,bN,bO,bP,bQ,bR,bS,bT,bU,bY,cA] H1=some (r,H')/\Ext H0 H'/\Rows H' r (hs.map (mP p n hs)):=by
 intro q;induction q with
 |zero=>
  intro i k H1 out us hr hi hk2 he ho hon hw;intros;obtain⟨k,rfl⟩:=aB k U
  obtain rfl:hs.length=i:=U
  have hlen:=(hu.ext he).fD;have e:decide ((hs.length:Int)<(hs.length:Int))=false:=by simp
  rw[cU,Wn];simp only[gsR,hlen,e];rw[aH8];rw[List.take_of_length_le (aPS _)] at hw
  exact⟨H1,out,rfl,he,hw.E6 ho.rs⟩
 |succ q ih=>
  intro i k H1 out us hr hi hk2 he ho hon hw;intros;obtain⟨k,rfl⟩:=aB k U
  have hlen:=(hu.ext he).fD;have e:decide ((i:Int)<(hs.length:Int))=true:=aQw U
  obtain⟨x,hx⟩: ∃x,hs[i]? =some x:=⟨_,aPP U⟩
  rw[cU,Wn];simp only[gsR,hlen,e];refine aJg hk (H0:=H0) (Hb:=H1) (Q:=λH' r=>Ext H0 H'/\Rows H' r (hs.map (mP p n hs))) hin hsl hm (hp.ext he) (dT hb0 he) (hu.ext he) hx (by rw[aP1,List.length_take];omega) he ho hon hw (λH' out' us' h1 h2 h3 h4=> ?_) hs.length 0 m H1 _ U U U (Fr.iQ _ _) (Rw.fW (el:=inC)) (New.iI _) ..
  intros;simp only[gsR];refine ih (i+1) k H' out' us' U U U h1 h2 h3 ?_ ..
  rw[List.take_add_one,hx,List.map_append];exact h4
theorem aJe (hp:PV H p ev wv nv)(hm:17592186045200<m)(hm2:m<=72057594037927936):
  ∃H' r,lvl prog bL m (.func 115) [plV p ev wv nv] H=some (r,H')/\Ext H H'/\Rows H' r (kN p):=by
 obtain⟨H0,hH0⟩:=aD (H++[plB p ev wv nv]);have x0:Ext H H0:=by rw[hH0];exact Fr.app _ _ _
 have b0:H0[H.length]? =some (plB p ev wv nv):=by rw[hH0];exact eL _ _
 have p0:=hp.ext x0;have l11:=fL b0;obtain⟨H1,g1,x1⟩:=Li p0 (m:=m-1) U U
 have b1:=dT b0 x1;have p1:=p0.ext x1;have l12:=fL b1;refine fJ (fB rfl rfl) U ?_
 rw[aIa];cases hc:kM p with
 |false=>
  rw[hc] at g1;have en:(nI false !=0)=true:=rfl;have e:kN p=[]:=by unfold kN;rw[if_neg (by simp[hc])]
  simp only[gsR,eZ,<-hH0,l11,g1,en]
  exact⟨H1,_,rfl,x0.tr x1,by rw[e];exact⟨[],.inl ⟨rfl,rfl⟩,rfl,λi u xs h=>by simp at h⟩⟩
 |true=>
  rw[hc] at g1;have en:(nI true !=0)=false:=rfl;obtain⟨n,hk⟩:=vE hc;have h15:=hk.e15;obtain⟨H2,u,g2,x2,q2,_⟩:=aHA p1 (m:=m-1) U U
  have hhl:=D6 p;have e:kN p=(kE p).map (mP p n (kE p)):=by unfold kN;rw[if_pos hc,hk.hn];rfl
  simp only[gsR,eZ,<-hH0,l11,g1,en,l12,g2];rw[e];exact Exists.imp (λH' h=>Exists.imp (λr h=>⟨h.1,((x0.tr x1).tr x2).tr h.2.1,h.2.2⟩) h) (aJf hk (λh hh=>Xn hk hh) U (m:=m-1) U U (p1.ext x2) (dT b1 x2) q2.rs (kE p).length 0 (m-1) H2 (.slice none 0 0) [] U U U (Fr.iQ _ _) Rw.fW (New.iI _) ⟨rfl,λj s xs h=>by simp at h⟩ ..)
theorem X3 (p:PlanD):Inn (kN p):=by
 unfold kN;split
 ·intro r hr z hz
  obtain⟨h,hh,rfl⟩:=aQq.mp hr;rw[aP1];obtain⟨k,b,rfl,h1,_⟩:=Xr.mp hz;have:=(aPN.mp h1).1;omega
 ·intro r hr;cases hr
theorem X4 (p:PlanD):(kN p).length<=36:=by
 unfold kN;split
 ·rw[aP1];exact D6 p
 ·simp
theorem X5 (p:PlanD): ∀r∈kN p,r.length<=36:=by
 unfold kN;split
 ·intro r hr
  obtain⟨h,hh,rfl⟩:=aQq.mp hr;unfold mP;rw[aP1];have:=D6 p;exact aP3 (List.length_filter_le _ _) (by rw[aQh];exact this)
 ·intro r hr;cases hr
end
section
variable {H : aE} {m : Nat} {p : PlanD} {ev wv nv : Value}
def atV (ab n:Nat):Value:= .slice (some ⟨ab,0,none⟩) n n
def mkB (ab n:Nat)(wv:Value):Blk:= .cells [atV ab n,wv] 163 .fix
theorem A6 {mb ab n:Nat}(h:H[mb]? =some (mkB ab n wv)):ld1 (.Q mb 0) H=some (atV ab n,H):=zX h rfl
theorem aJq {mb ab n:Nat}(h:H[mb]? =some (mkB ab n wv)):ld1 (.Q mb 1) H=some (wv,H):=zX h rfl
theorem wX {ab n k:Nat}(h:k<n):cB 1 (atV ab n) (.I (k:Nat))=some (.Q ab k):=by
 have:=ia (c:=ab) (o:=0) (cap:=n) h;rw[aP8] at this;exact this
def Col (C:List Int):Prop:= ∀x∈C,x=0∨x=1∨x=2
theorem Col.aJo {C:List Int}(h:Col C)(i:Nat){y:Int}(hy:y=0∨y=1∨y=2):Col (C.set i y):=λx hx=>by
 rcases List.mem_or_eq_of_mem_set hx with h1|h1
 ·exact h x h1
 ·rw[h1];exact hy
structure Srch (g:List (List Int))(Hw:aE)(mb ab:Nat)(wv:Value)(H:aE)(C:List Int):Prop where
 ext:Ext Hw H
 mrk:H[mb]? =some (mkB ab g.length wv)
 row:H[ab]? =some (nT C [])
 len:C.length=g.length
 col:Col C
theorem Srch.st {g:List (List Int)}{Hw:aE}{mb ab:Nat}{C:List Int}(h:Srch g Hw mb ab wv H C)(hne:mb≠ab)(hab:Hw.length<=ab){i:Nat}(hi:i<g.length)(y:Int)(hy:y=0∨y=1∨y=2):
  ∃H',stN 1 (.Q ab i) (.I y) H=some (undef,H')/\Srch g Hw mb ab wv H' (C.set i y):=
 ⟨_,Lb y h.row (by have:=h.len;omega),qE h.ext hab,by rw[aPO (Ne.symm hne)];exact h.mrk,aPT (aPN.mp h.row).1,by simp[h.len],h.col.aJo i hy⟩
structure Dne (g:List (List Int))(C C':List Int)(i:Nat):Prop where
 i2:C'[i]? =some 2
 dn:Dn g C'
 gr: ∀u:Nat,C'[u]? =some 1↔C[u]? =some 1
 bl: ∀u:Nat,C[u]? =some 2->C'[u]? =some 2
def M4 (g:List (List Int))(Hw:aE)(mb ab:Nat)(wv:Value)(m q:Nat):Prop:=
 ∀(H:aE)(C:List Int)(i:Nat),Srch g Hw mb ab wv H C->C[i]? =some 0->Dn g C->(∀u:Nat,C[u]? =some 1->Rch g u i)->(∃L:List Nat,L.length=q/\ ∀u:Nat,C[u]? =some 0->u∈L)->
  ∃H' b C',lvl prog bL m (.func 78) [.Q mb 0,.I (i:Nat)] H=some (.bool b,H')/\Srch g Hw mb ab wv H' C'/\(b=true->Cyc g)/\(b=false->Dne g C C' i)
theorem aJs {g:List (List Int)}{Hw:aE}{mb ab:Nat}{q':Nat}(hrd:M4 g Hw mb ab wv m q')(hinn:Inn g)(hne:mb≠ab)(hab:Hw.length<=ab){C:List Int}{i:Nat}{r:List Int}{rv:Value}(hr:g[i]? =some r)(hrl:r.length<=100)(hrv:Is Hw rv r)(hgr: ∀u:Nat,C[u]? =some 1->Rch g u i)(hci:C[i]? =some 0){L:List Nat}(hL:L.length=q'):
  ∀(q j k:Nat)(H:aE)(D:List Int),r.length-j=q->j<=r.length->q<k->Srch g Hw mb ab wv H D->D[i]? =some 1->Dn g D->(∀u:Nat,D[u]? =some 1↔(u=i∨C[u]? =some 1))->(∀u:Nat,C[u]? =some 2->D[u]? =some 2)->(∀z∈r.take j,D[z.toNat]? =some 2)->(∀u:Nat,D[u]? =some 0->u∈L)-> ∀(x2 x3 x4 x5 x6 x7 x8 x9 bG b9 aS aP aQ aO aT aU aR bJ bE aV aW aX aY aZ bB bC bH bI bM bN bO bP bQ bR bS bT bU bY cA cD cE cI cJ cN cP cK cQ cR cW:Value),
  ∃H' b C',aJ k (aM prog (lvl prog bL m) (aJ m) E5) (A0 (lvl prog bL m) (aJ m)) [(.Q mb 0),(.I (i:Nat)),x2,x3,x4,x5,x6,x7,x8,x9,bG,b9,aS,aP,aQ,aO,aT,aU,aR,rv,(.I r.length),(.I (j:Nat)),bJ,bE,aV,aW,aX,aY,aZ,bB,bC,bH,bI,bM,bN,bO,bP,bQ,bR,bS,bT,bU,bY,cA,cD,cE,cI,cJ,cN,cP,cK,cQ,cR,cW] H=some (.bool b,H')/\Srch g Hw mb ab wv H' C'/\(b=true->Cyc g)/\(b=false->Dne g C C' i):=by
 intro q;have hil:=(aPN.mp hr).1;induction q with
 |zero=>
  intro j k H D hq hj hk hs hi1 hdn hgray hbl htake hwh;intros;obtain⟨k,rfl⟩:=aB k U
  obtain rfl:r.length=j:=U
  have e:decide ((r.length:Int)<(r.length:Int))=false:=by simp
  rw[List.take_of_length_le (aPS _)] at htake;have l0:=A6 hs.mrk;have a0:=wX (ab:=ab) hil;obtain⟨H',st,hs'⟩:=hs.st hne hab hil 2 (.inr (.inr rfl));have fin:=hdn.aI7 hi1 hr (λk hk=>by have:=htake k hk;simpa using this)
  refine⟨H',false,D.set i 2,?_,hs',λh=>(by cases h),λ_=>⟨?_,fin,λu=> ?_,λu hu=> ?_⟩⟩
  ·rw[cU,Xg]
   simp only[gsR,e];rw[aIO];simp only[gsR,l0,a0,st]
  ·exact aPT (by have:=hs.len;omega)
  ·by_cases hui:u=i
   ·subst hui
    rw[aPT (by have:=hs.len;omega),hci]
    simp
   ·rw[aPO (Ne.symm hui),hgray u]
    simp[hui]
  ·have:=hbl u hu
   by_cases hui:u=i
   ·subst hui
    rw[hi1] at this;cases this
   ·rw[aPO (Ne.symm hui)]
    exact this
 |succ q ih=>
  intro j k H D hq hj hk hs hi1 hdn hgray hbl htake hwh;intros;obtain⟨k,rfl⟩:=aB k U
  have e:decide ((j:Int)<(r.length:Int))=true:=aQw U
  have e3:=aA (i:=j) U
  obtain⟨z,hz⟩: ∃z,r[j]? =some z:=⟨_,aPP U⟩
  have hzin:=hinn r (aPX hr) z (aPX hz);obtain⟨b,o,g1,_,g3⟩:=(hrv.ext hs.ext).fZ fA hz .i64;have g4:ld1 (.Q b o) H=some (.I z,H):=(g3 H rfl).2.1 0 _ rfl;obtain⟨t,rfl⟩: ∃t:Nat,z=t:=⟨z.toNat,by omega⟩
  have htl:t<g.length:=U
  have edge:Eg g i t:=⟨r,hr,aPX hz⟩;have l0:=A6 hs.mrk;have a0:=wX (ab:=ab) htl;obtain⟨x,hx⟩: ∃x,D[t]? =some x:=⟨_,aPP (by have:=hs.len;omega)⟩
  have lx:=vA hs.row hx;have grs: ∀u:Nat,D[u]? =some 1->Rch g u t:=λu hu=>by
   rcases(hgray u).mp hu with h|h
   ·rw[h];exact .one edge
   ·exact .step (hgr u h) edge
  have htk:r.take (j+1)=r.take j++[(t:Int)]:=by rw[List.take_add_one,hz];rfl
  have next: ∀(H2:aE)(D2:List Int),Srch g Hw mb ab wv H2 D2->D2[i]? =some 1->Dn g D2->(∀u:Nat,D2[u]? =some 1↔(u=i∨C[u]? =some 1))->(∀u:Nat,C[u]? =some 2->D2[u]? =some 2)->(∀z∈r.take j,D2[z.toNat]? =some 2)->D2[t]? =some 2->(∀u:Nat,D2[u]? =some 0->u∈L)-> ∀(x2 x3 x4 x5 x6 x7 x8 x9 bG b9 aS aP aQ aO aT aU aR bJ bE aV aW aX aY aZ bB bC bH bI bM bN bO bP bQ bR bS bT bU bY cA cD cE cI cJ cN cP cK cQ cR cW:Value),
    ∃H' b C',aJ k (aM prog (lvl prog bL m) (aJ m) E5) (A0 (lvl prog bL m) (aJ m)) [(.Q mb 0),(.I (i:Nat)),x2,x3,x4,x5,x6,x7,x8,x9,bG,b9,aS,aP,aQ,aO,aT,aU,aR,rv,(.I r.length),(.I (j+1:Nat)),bJ,bE,aV,aW,aX,aY,aZ,bB,bC,bH,bI,bM,bN,bO,bP,bQ,bR,bS,bT,bU,bY,cA,cD,cE,cI,cJ,cN,cP,cK,cQ,cR,cW] H2=some (.bool b,H')/\Srch g Hw mb ab wv H' C'/\(b=true->Cyc g)/\(b=false->Dne g C C' i):=by
   intro H2 D2 h1 h2 h3 h4 h5 h6 h7 h8;refine ih (j+1) k H2 D2 U U U h1 h2 h3 h4 h5 (λz hz=> ?_) h8
   rw[htk,List.mem_append] at hz;rcases hz with hz|hz
   ·exact h6 z hz
   ·have:z=(t:Int):=by simpa using hz
    rw[this];simpa using h7
  rw[cU,Xg];rcases hs.col x (aPX hx) with rfl|rfl|rfl
  ·have d1:((0:Int)==1)=false:=rfl
   have d2:((0:Int)==2)=false:=rfl;obtain⟨H2,bb,D2,c1,hs2,hcyc,hdne⟩:=hrd H D t hs hx hdn grs ⟨L,hL,hwh⟩;cases bb with
   |true=>
    refine⟨H2,true,D2,?_,hs2,λ_=>hcyc rfl,λh=>(by cases h)⟩
    simp only[gsR,e,g1,g4,l0,a0,lx,d1,d2,c1];rw[Xh];rfl
   |false=>
    have hd:=hdne rfl;simp only[gsR,e,g1,g4,l0,a0,lx,d1,d2,c1,cO,e3];refine next H2 D2 hs2 ((hd.gr i).mpr hi1) hd.dn (λu=>by rw[hd.gr u];exact hgray u) (λu hu=>hd.bl u (hbl u hu)) (λz hz=>hd.bl _ (htake z hz)) hd.i2 (λu hu=>hwh u ?_) ..
    have hul:u<g.length:=by have:=(aPN.mp hu).1;have:=hs2.len;omega
    obtain⟨y,hy⟩: ∃y,D[u]? =some y:=⟨_,aPP (by have:=hs.len;omega)⟩
    rcases hs.col y (aPX hy) with rfl|rfl|rfl
    ·exact hy
    ·have:=(hd.gr u).mpr hy
     rw[hu] at this;cases this
    ·have:=hd.bl u hy
     rw[hu] at this;cases this
  ·have d1:((1:Int)==1)=true:=rfl
   refine⟨H,true,D,?_,hs,λ_=>⟨t,grs t hx⟩,λh=>(by cases h)⟩
   simp only[gsR,e,g1,g4,l0,a0,lx,d1];rw[Xh];rfl
  ·have d1:((2:Int)==1)=false:=rfl
   have d2:((2:Int)==2)=true:=rfl;simp only[gsR,e,g1,g4,l0,a0,lx,d1,d2,cO,e3];exact next H D hs hi1 hdn hgray hbl htake hx hwh ..
theorem aJr {g:List (List Int)}{Hw:aE}{mb ab:Nat}(hg:Rows Hw wv g)(hinn:Inn g)(hrl: ∀r∈g,r.length<=100)(hne:mb≠ab)(hab:Hw.length<=ab): ∀(q m:Nat),200+q<m->M4 g Hw mb ab wv m q:=by
 intro q;induction q with
 |zero=>
  intro m hm H C i hs hi hdn hgr ⟨L,hL,hw⟩;have:=hw i hi;rw[aP5.mp hL] at this;cases this
 |succ q ih=>
  intro m hm H C i hs hi hdn hgr ⟨L,hL,hw⟩;have hil:i<g.length:=by have:=(aPN.mp hi).1;have:=hs.len;omega
  have l0:=A6 hs.mrk;have a0:=wX (ab:=ab) hil;obtain⟨H1,st,hs1⟩:=hs.st hne hab hil 1 (.inr (.inl rfl));have l1:=aJq hs1.mrk;obtain⟨r,hr⟩: ∃r,g[i]? =some r:=⟨_,aPP hil⟩;obtain⟨a1,rv,g1,g2,g3⟩:=hg.wS hr .i64;have g2':=Lr hs1.ext g2;have hlen:=g3.fD;have hr100:=hrl r (aPX hr);have hcl:C.length=g.length:=hs.len;have other: ∀u:Nat,u≠i->(C.set i 1)[u]? =C[u]? :=λu hu=>aPO (Ne.symm hu)
  have self:(C.set i 1)[i]? =some 1:=aPT U
  obtain⟨m,rfl⟩:=aB m U
  rw[I4 (fB rfl rfl),aIP];simp only[gsR,l0,a0,st,l1,g1,g2',hlen];have hiL:=hw i hi;refine aJs (ih m U) hinn hne hab hr hr100 g3 hgr hi (L:=L.erase i) (by rw[List.length_erase_of_mem hiL];omega) r.length 0 m H1 (C.set i 1) U U U hs1 self ?_ (λu=> ?_) (λu hu=> ?_) (λz hz=>by simp at hz) (λu hu=> ?_) ..
  ·intro u hu
   have hui:u≠i:=λhh=>by rw[hh,self] at hu;cases hu
   rw[other u hui] at hu;refine⟨λk hk=> ?_,(hdn u hu).2⟩
   have:=(hdn u hu).1 k hk;have hki:k≠i:=λhh=>by rw[hh,hi] at this;cases this
   rw[other k hki];exact this
  ·by_cases hui:u=i
   ·rw[hui,self];simp
   ·rw[other u hui];simp[hui]
  ·have hui:u≠i:=λhh=>by rw[hh,hi] at hu;cases hu
   rw[other u hui];exact hu
  ·have hui:u≠i:=λhh=>by rw[hh,self] at hu;cases hu
   rw[other u hui] at hu
   exact(List.mem_erase_of_ne hui).mpr (hw u hu)
def qG (p:PlanD)(n:Nat):Bool:=(List.range n).all λv=>(List.range n).all λw=>(lF p v w).isSome
def M5 (p:PlanD):Bool:=kM p&&(qG p p.nodes.toNat&& !nV (kN p))
def jD (p:PlanD):Int:=if kM p=true then(if M5 p=true then 0 else 140) else 120
theorem aJn {g:List (List Int)}{Hw:aE}{mb ab:Nat}(hrd:M4 g Hw mb ab wv m g.length)(hgl:g.length<=100)(hinn:Inn g):
  ∀(q i k:Nat)(H:aE)(C:List Int),g.length-i=q->i<=g.length->q<k->Srch g Hw mb ab wv H C->Dn g C->(∀u:Nat,C[u]? ≠some 1)->(∀u:Nat,u<i->C[u]? =some 2)-> ∀(x0 x1 x2 x3 x4 x5 x6 x7 x9 bG b9 aS aP aQ aO aT aU aR bA bK bX bJ bE aV aW aX aY aZ bB bC bH bI bM bN bO bP bQ bR bS bT bU bY cA cD cE cI cJ cN cP cK cQ cR cX cY dD dF dL dH dM dU dW dY dZ eA eC eD eE eF:Value),
  ∃H',aJ k (aM prog (lvl prog bL m) (aJ m) Md) (Ez (lvl prog bL m) (aJ m)) [x0,x1,x2,x3,x4,x5,x6,x7,(.Q mb 0),x9,bG,b9,aS,aP,aQ,aO,aT,aU,aR,bA,bK,bX,bJ,bE,aV,aW,aX,aY,aZ,bB,bC,bH,bI,bM,bN,bO,bP,bQ,bR,bS,bT,bU,bY,cA,cD,cE,cI,cJ,cN,cP,cK,cQ,cR,(.I g.length),(.I (i:Nat)),cX,cY,dD,dF,dL,dH,dM,dU,dW,dY,dZ,eA,eC,eD,eE,eF] H=some (.int .u16 (if nV g=true then 140 else 0),H')/\Ext Hw H':=by
 intro q;induction q with
 |zero=>
  intro i k H C hq hi hk hs hdn hgr hbl;intros;obtain⟨k,rfl⟩:=aB k U
  obtain rfl:g.length=i:=U
  have e:decide ((g.length:Int)<(g.length:Int))=false:=by simp
  have hno: ¬nV g=true:=by
   rw[Xu hinn];rintro ⟨i,hc⟩
   have hil:i<g.length:=by
    cases hc with
    |one e=>obtain⟨r,h1,_⟩:=e;exact(aPN.mp h1).1
    |step h1 e=>
     obtain⟨r,h2,h3⟩:=e;have:=(hinn r (aPX h2) i h3).2;omega
   exact(hdn i (hbl i hil)).2 hc
  rw[if_neg hno,cU,W7];simp only[gsR,e];rw[aIs]
  exact⟨H,rfl,hs.ext⟩
 |succ q ih=>
  intro i k H C hq hi hk hs hdn hgr hbl;intros;obtain⟨k,rfl⟩:=aB k U
  have hil:i<g.length:=U
  have e:decide ((i:Int)<(g.length:Int))=true:=aQw U
  have e3:=aA (i:=i) U
  have l0:=A6 hs.mrk;have a0:=wX (ab:=ab) hil;obtain⟨x,hx⟩: ∃x,C[i]? =some x:=⟨_,aPP (by have:=hs.len;omega)⟩
  have lx:=vA hs.row hx;rw[cU,W7];rcases hs.col x (aPX hx) with rfl|rfl|rfl
  ·have d1:((0:Int)==0)=true:=rfl
   obtain⟨H2,bb,D2,c1,hs2,hcyc,hdne⟩:=hrd H C i hs hx hdn (λu hu=>absurd hu (hgr u)) ⟨List.range g.length,by simp,λu hu=>aQr.mpr (by have:=(aPN.mp hu).1;have:=hs.len;omega)⟩
   cases bb with
   |true=>
    have hyes:nV g=true:=(Xu hinn).mpr (hcyc rfl);rw[if_pos hyes];simp only[gsR,e,l0,a0,lx,d1,c1];rw[aIw]
    exact⟨H2,rfl,hs2.ext⟩
   |false=>
    have hd:=hdne rfl;simp only[gsR,e,l0,a0,lx,d1,c1,cO,e3];refine ih (i+1) k H2 D2 U U U hs2 hd.dn (λu hu=>hgr u ((hd.gr u).mp hu)) (λu hu=> ?_) ..
    by_cases hui:u=i
    ·rw[hui];exact hd.i2
    ·exact hd.bl u (hbl u U)
  ·exact absurd hx (hgr i)
  ·have d1:((2:Int)==0)=false:=rfl
   simp only[gsR,e,l0,a0,lx,d1,cO,e3];refine ih (i+1) k H C U U U hs hdn hgr (λu hu=> ?_) ..
   by_cases hui:u=i
   ·rw[hui];exact hx
   ·exact hbl u U
theorem aJm {n:Nat}(hk:OkP p n){H0:aE}{a v:Nat}(hv:v<n){K:Ex->K (Value×aE)}{Q:aE->Value->Prop}(hp:PV H0 p ev wv nv)(hb:H0[a]? =some (plB p ev wv nv))(hm:400<m)(hm2:m<=72057594037927936):
  ∀(q i k:Nat)(H1:aE),n-i=q->i<=n->q<k->Ext H0 H1->
  (∀H',Ext H0 H'->((List.range' i q).all λw=>(lF p v w).isSome)=true-> ∀(x0 x2 x3 x4 x5 x6 x7 x8 x9 bG b9 aS aP aQ aO aR bA bK bX bJ bE aV aW aX aY aZ bB bC bH bI bM bN bO bP bQ bR bS bT bU bY cA cD cE cI cJ cN cP cK cQ cR cW dA cX cY dD dF dL dH dM dU dW dY dZ eA eC eD eE eF:Value),∃H2 r,K .normal [x0,(.Q a 0),x2,x3,x4,x5,x6,x7,x8,x9,bG,b9,aS,aP,aQ,aO,(.I n),(.I (v+1:Nat)),aR,bA,bK,bX,bJ,bE,aV,aW,aX,aY,aZ,bB,bC,bH,bI,bM,bN,bO,bP,bQ,bR,bS,bT,bU,bY,cA,cD,cE,cI,cJ,cN,cP,cK,cQ,cR,cW,dA,cX,cY,dD,dF,dL,dH,dM,dU,dW,dY,dZ,eA,eC,eD,eE,eF] H'=some (r,H2)/\Q H2 r)->
  (∀H',Ext H0 H'->((List.range' i q).all λw=>(lF p v w).isSome)=false-> ∀(x0 x1 x3 x4 x5 x6 x7 x8 x9 bG b9 aS aP aQ aO aT aU aR bA bK bX bJ bE aV aW aX aY aZ bB bC bH bI bM bN bO bP bQ bR bS bT bU bY cA cD cE cI cJ cN cP cK cQ cR cW dA cX cY dD dF dL dH dM dU dW dY dZ eA eC eD eE eF:Value),∃H2 r,K .ret [x0,x1,(.int .u16 140),x3,x4,x5,x6,x7,x8,x9,bG,b9,aS,aP,aQ,aO,aT,aU,aR,bA,bK,bX,bJ,bE,aV,aW,aX,aY,aZ,bB,bC,bH,bI,bM,bN,bO,bP,bQ,bR,bS,bT,bU,bY,cA,cD,cE,cI,cJ,cN,cP,cK,cQ,cR,cW,dA,cX,cY,dD,dF,dL,dH,dM,dU,dW,dY,dZ,eA,eC,eD,eE,eF] H'=some (r,H2)/\Q H2 r)-> ∀(x0 x2 x3 x5 x6 x7 x8 x9 bG b9 aS aP aQ aO aR bA bK bE aV aW aX aY aZ bB bC bH bI bM bN bO bP bQ bR bS bT bU bY cA cD cE cI cJ cN cP cK cQ cR cW dA cX cY dD dF dL dH dM dU dW dY dZ eA eC eD eE eF:Value),
  ∃H' r,aJ k (aM prog (lvl prog bL m) (aJ m) Mc) (Ey (lvl prog bL m) (aJ m) K) [x0,(.Q a 0),x2,x3,(.I (v:Nat)),x5,x6,x7,x8,x9,bG,b9,aS,aP,aQ,aO,(.I n),(.I (v:Nat)),aR,bA,bK,(.I n),(.I (i:Nat)),bE,aV,aW,aX,aY,aZ,bB,bC,bH,bI,bM,bN,bO,bP,bQ,bR,bS,bT,bU,bY,cA,cD,cE,cI,cJ,cN,cP,cK,cQ,cR,cW,dA,cX,cY,dD,dF,dL,dH,dM,dU,dW,dY,dZ,eA,eC,eD,eE,eF] H1=some (r,H')/\Q H' r:=by
 intro q;have h6:=hk.h6;induction q with
 |zero=>
  intro i k H1 hr hi hk2 he hK hR;intros;obtain⟨k,rfl⟩:=aB k U
  have e:decide ((i:Int)<(n:Int))=false:=aQx U
  have e3:=aA (i:=v) U
  rw[cU,W6];simp only[gsR,e];rw[aIr];simp only[gsR,cO,e3];exact hK H1 he rfl ..
 |succ q ih=>
  intro i k H1 hr hi hk2 he hK hR;intros;obtain⟨k,rfl⟩:=aB k U
  have e:decide ((i:Int)<(n:Int))=true:=aQw U
  have e3:=aA (i:=i) U
  have l11:=fL (dT hb he);obtain⟨H2,r,g1,x2,lv,rfl,_,_⟩:=aIR hk (hp.ext he) (v:=v) (w:=i) U U (m:=m) U U
  rw[cU,W6];rw[List.range'_succ,List.all_cons] at hK hR;cases c:(lF p v i).isSome with
  |true=>
   rw[c] at g1 hK hR;simp only[gsR,e,l11,g1,cO,e3];exact ih (i+1) k H2 U U U (he.tr x2) (λH' h1 h2=>hK H' h1 (by simpa using h2)) (λH' h1 h2=>hR H' h1 (by simpa using h2)) ..
  |false=>
   rw[c] at g1 hR;simp only[gsR,e,l11,g1];rw[aIv];exact hR H2 (he.tr x2) rfl ..
theorem X7 (n:Nat):Blk.cells (List.replicate n [Value.int .i64 0]).flatten 3 .row=nT (List.replicate n 0) []:=by
 unfold nT
 congr 1
 rw[List.append_nil,List.map_replicate];induction n with
 |zero=>rfl
 |succ n ih=>rw[List.replicate_succ,List.replicate_succ,aQn,ih];rfl
theorem aJp {v:Value}{us:List Value}(h:Rs vC 25 H v us):bld prog 163 [(1,v)]=some (.agg #[.slice none 0 0,v])/\Blk.cells (Value.agg #[.slice none 0 0,v]).cells.toList 163 .fix= .cells [.slice none 0 0,v] 163 .fix:=by
 rcases h with⟨rfl,_⟩|⟨b,o,cap,rfl,_⟩
 ·exact⟨by kernel_rfl,rfl⟩
 ·have: ∀b o n c:Nat,bld prog 163 [(1,.slice (some ⟨b,o,none⟩) n c)]=some (.agg #[.slice none 0 0,.slice (some ⟨b,o,none⟩) n c]):=λb o n c=>by kernel_rfl
  exact⟨this _ _ _ _,rfl⟩
theorem aJk {n:Nat}(hk:OkP p n){H0:aE}{a:Nat}(hp:PV H0 p ev wv nv)(hb:H0[a]? =some (plB p ev wv nv))(hm:17592186045300<m)(hm2:m<=72057594037927936)(x0 x2 x3 x4 x5 x6 x7 x8 x9 bG b9 aS aP aQ aO aT aU aR bA bK bX bJ bE aV aW aX aY aZ bB bC bH bI bM bN bO bP bQ bR bS bT bU bY cA cD cE cI cJ cN cP cK cQ cR cW dA cX cY dD dF dL dH dM dU dW dY dZ eA eC eD eE eF:Value):
  ∃H',Me (lvl prog bL m) (aJ m) x0 (.Q a 0) x2 x3 x4 x5 x6 x7 x8 x9 bG b9 aS aP aQ aO aT aU aR bA bK bX bJ bE aV aW aX aY aZ bB bC bH bI bM bN bO bP bQ bR bS bT bU bY cA cD cE cI cJ cN cP cK cQ cR cW dA cX cY dD dF dL dH dM dU dW dY dZ eA eC eD eE eF H0=some (.int .u16 (if nV (kN p)=true then 140 else 0),H')/\Ext H0 H':=by
 have l11:=fL hb;obtain⟨H1,wvv,g1,x1,hg⟩:=aIW hp (m:=m) U U
 have hgl:=X4 p;obtain⟨us,hus,hul,_⟩:=id hg;obtain⟨bm,bc⟩:=aJp hus;obtain⟨g,hgg⟩:=aD (kN p);have hinn:=X3 p;have hrow:=X5 p;rw[<-hgg] at hg hgl hinn hrow⊢;obtain⟨H2,hH2⟩:=aD (H1++[Blk.cells [.slice none 0 0,wvv] 163 .fix]);have x2:Ext H1 H2:=by rw[hH2];exact Fr.app _ _ _
 have b2:H2[H1.length]? =some (.cells [.slice none 0 0,wvv] 163 .fix):=by rw[hH2];exact eL _ _
 have l2:ld1 (.Q H1.length 1) H2=some (wvv,H2):=zX b2 rfl;have hlen:=hg.sB;have mk:=sT (H:=H2) 3 1 8 [.I 0] .i64 .i64 (g.length:Int) U U U rfl
 simp only[aQf] at mk;rw[X7] at mk;obtain⟨H3,hH3⟩:=aD (H2++[nT (List.replicate g.length 0) []]);rw[<-hH3] at mk;have x3:Ext H2 H3:=by rw[hH3];exact Fr.app _ _ _
 have b3:=dT b2 x3;have st:stN 1 (.Q H1.length 0) (.slice (some ⟨H2.length,0,none⟩) g.length g.length) H3=some (undef,H3.set H1.length (mkB H2.length g.length wvv)):=by
  rw[mB 1 _ _ _ rfl,b3,nG _ _ _ _ _ _ aC (by show 0+1<=2;omega) rfl]
  rfl
 obtain⟨H4,hH4⟩:=aD (H3.set H1.length (mkB H2.length g.length wvv));rw[<-hH4] at st;have h12:H2.length=H1.length+1:=by rw[hH2];simp
 have hs:Srch g H1 H1.length H2.length wvv H4 (List.replicate g.length 0):=by
  refine⟨?_,?_,?_,by simp,λx hx=> .inl (by simp at hx;exact hx.2)⟩
  ·rw[hH4];exact qE (x2.tr x3) (aPS _)
  ·rw[hH4];exact aPT (aPN.mp b3).1
  ·rw[hH4,aPO U,hH3];exact eL _ _
 have l4:=A6 hs.mrk;have hlen4:cH (atV H2.length g.length)=some (.I g.length):=rfl;have hrd:=aJr hg hinn (λr hr=>by have:=hrow r hr;omega) (show H1.length≠H2.length by omega) (show H1.length<=H2.length by omega) g.length m U
 unfold Me;simp only[gsR,l11,g1,bm,bc,<-hH2,l2,hlen,mk,st,l4,hlen4];exact Exists.imp (λH' h=>⟨h.1,x1.tr h.2⟩) (aJn hrd U hinn g.length 0 m H4 (List.replicate g.length 0) U U U hs (λu hu=>by simp[aQt] at hu) (λu hu=>by simp[aQt] at hu) (λu hu=>absurd hu U) ..)
theorem aJl {n:Nat}(hk:OkP p n){H0:aE}{a:Nat}{Q:aE->Value->Prop}(hp:PV H0 p ev wv nv)(hb:H0[a]? =some (plB p ev wv nv))(hm:17592186045300<m)(hm2:m<=72057594037927936)(hQ: ∀H',Ext H0 H'->Q H' (.int .u16 (if qG p n=true/\nV (kN p)=false then 0 else 140))):
  ∀(q i k:Nat)(H1:aE),n-i=q->i<=n->q<k->Ext H0 H1->(∀v,v<i->((List.range n).all λw=>(lF p v w).isSome)=true)-> ∀(x0 x2 x3 x4 x5 x6 x7 x8 x9 bG b9 aS aP aQ aO aR bA bK bX bJ bE aV aW aX aY aZ bB bC bH bI bM bN bO bP bQ bR bS bT bU bY cA cD cE cI cJ cN cP cK cQ cR cW dA cX cY dD dF dL dH dM dU dW dY dZ eA eC eD eE eF:Value),
  ∃H' r,aJ k (aM prog (lvl prog bL m) (aJ m) Mb) (Ev (lvl prog bL m) (aJ m)) [x0,(.Q a 0),x2,x3,x4,x5,x6,x7,x8,x9,bG,b9,aS,aP,aQ,aO,(.I n),(.I (i:Nat)),aR,bA,bK,bX,bJ,bE,aV,aW,aX,aY,aZ,bB,bC,bH,bI,bM,bN,bO,bP,bQ,bR,bS,bT,bU,bY,cA,cD,cE,cI,cJ,cN,cP,cK,cQ,cR,cW,dA,cX,cY,dD,dF,dL,dH,dM,dU,dW,dY,dZ,eA,eC,eD,eE,eF] H1=some (r,H')/\Q H' r:=by
 intro q;have h6:=hk.h6;induction q with
 |zero=>
  intro i k H1 hr hi hk2 he hpre;intros;obtain⟨k,rfl⟩:=aB k U
  have e:decide ((i:Int)<(n:Int))=false:=aQx U
  have hall:qG p n=true:=by
   unfold qG;rw[aQs];intro v hv;exact hpre v (by have:=aQr.mp hv;omega)
  rw[cU,W5];simp only[gsR,e];rw[aIq];refine Exists.imp (λH' h=>⟨_,h.1,?_⟩) (aJk hk (hp.ext he) (dT hb he) hm hm2 ..)
  have:=hQ H' (he.tr h.2);rw[hall] at this;cases hc:nV (kN p) with
  |true=>rw[hc] at this;simpa using this
  |false=>rw[hc] at this;simpa using this
 |succ q ih=>
  intro i k H1 hr hi hk2 he hpre;intros;obtain⟨k,rfl⟩:=aB k U
  have e:decide ((i:Int)<(n:Int))=true:=aQw U
  have b1:=dT hb he;have l0:=dE b1 0 _ rfl;rw[hk.hn] at l0;have hrr: ∀v:Nat,((List.range' 0 n).all λw=>(lF p v w).isSome)=((List.range n).all λw=>(lF p v w).isSome):=λv=>by rw[List.range_eq_range']
  rw[cU,W5];simp only[gsR,e,l0];refine aJm hk (v:=i) U (hp.ext he) b1 (Q:=Q) U hm2 n 0 m H1 U U U (Fr.iQ _ _) (λH' hx hall=> ?_) (λH' hx hall=> ?_) ..
  ·rw[hrr] at hall
   intros;simp only[gsR];refine ih (i+1) k H' U U U (he.tr hx) (λv hv=> ?_) ..
   by_cases hvi:v=i
   ·rw[hvi];exact hall
   ·exact hpre v U
  ·rw[hrr] at hall
   intros;simp only[gsR];rw[aIu];refine⟨H',_,rfl,?_⟩;have hno:qG p n=false:=by
    rw[<-Bool.not_eq_true];unfold qG;rw[aQs];intro hh;rw[hh i (aQr.mpr U)] at hall
    cases hall
   have:=hQ H' (he.tr hx);rw[hno] at this;simpa using this
theorem X6 (hp:PV H p ev wv nv)(hm:17592186045400<m)(hm2:m<=72057594037927936):
  ∃H',lvl prog bL m (.func 34) [plV p ev wv nv] H=some (.int .u16 (jD p),H')/\Ext H H':=by
 obtain⟨H0,hH0⟩:=aD (H++[plB p ev wv nv]);have x0:Ext H H0:=by rw[hH0];exact Fr.app _ _ _
 have b0:H0[H.length]? =some (plB p ev wv nv):=by rw[hH0];exact eL _ _
 have p0:=hp.ext x0;have l11:=fL b0;obtain⟨H1,g1,x1⟩:=Vq p0 (m:=m-1) U U
 have b1:=dT b0 x1;have p1:=p0.ext x1;have main: ∃H' r,lvl prog bL m (.func 34) [plV p ev wv nv] H=some (r,H')/\(r= .int .u16 (jD p)/\Ext H H'):=by
  refine fJ (Q:=λH' r=>r= .int .u16 (jD p)/\Ext H H') (fB rfl rfl) U ?_
  rw[aIt];cases hc:kM p with
  |false=>
   rw[hc] at g1;have en:(nI false !=0)=true:=rfl;have e:jD p=nI false:=by unfold jD;rw[if_neg (by simp[hc])];rfl
   simp only[gsR,eZ,<-hH0,l11,g1,en]
   exact⟨H1,_,rfl,by rw[e],x0.tr x1⟩
  |true=>
   rw[hc] at g1;have en:(nI true !=0)=false:=rfl;obtain⟨n,hk⟩:=vE hc;have h6:=hk.h6;have l0:=dE b1 0 _ rfl;rw[hk.hn] at l0;simp only[gsR,eZ,<-hH0,l11,g1,en,l0];refine aJl hk (Q:=λH' r=>r= .int .u16 (jD p)/\Ext H H') p1 b1 (m:=m-1) U U (λH' hx=>⟨?_,(x0.tr x1).tr hx⟩) n 0 (m-1) H1 U U U (Fr.iQ _ _) (λv hv=>absurd hv U) ..
   congr 1
   unfold jD M5;have hq:p.nodes.toNat=n:=by rw[hk.hn];rfl
   rw[if_pos hc,hc,hq];cases nV (kN p)<;>cases qG p n<;>simp
 obtain⟨H',r,h1,rfl,h2⟩:=main
 exact⟨H',h1,h2⟩
end
section
variable {H : aE} {m : Nat} {p : PlanD} {ev wv nv : Value}
structure Sn (g:List (List Int))(Hw:aE)(ab:Nat)(H:aE)(s:List Int):Prop where
 ext:Ext Hw H
 row:H[ab]? =some (nT s [])
 len:s.length=g.length
theorem Sn.st {g:List (List Int)}{Hw:aE}{ab:Nat}{s:List Int}(h:Sn g Hw ab H s)(hab:Hw.length<=ab){i:Nat}(hi:i<g.length)(y:Int):
  ∃H',stN 1 (.Q ab i) (.I y) H=some (undef,H')/\Sn g Hw ab H' (s.set i y):=
 ⟨_,Lb y h.row (by have:=h.len;omega),qE h.ext hab,aPT (aPN.mp h.row).1,by simp[h.len]⟩
theorem aJA {g:List (List Int)}{Hw:aE}{ab i:Nat}{r:List Int}{a:Int}{t:Nat}(hg:Rows Hw wv g)(hinn:Inn g)(hr:g[i]? =some r)(hrl:r.length<=100)(hgl:g.length<=100)(hab:Hw.length<=ab){K:Ex->K (Value×aE)}{Q:aE->Value->Prop}:
  ∀(q j k:Nat)(H:aE)(s:List Int),r.length-j=q->j<=r.length->q<k->Sn g Hw ab H s->
  (∀H',Sn g Hw ab H' (wW s (r.drop j))-> ∀(x2 x3 x4 x8 x9 bG b9 aS aP aQ aO aT aU aR bA bK bX bJ bE aV aW aX aY aZ bB bC bH bI bM bN bO bP bQ bR bS bT bU bY cA cD cE cI cJ cN cP cK cQ cR:Value),∃H2 rr,K .normal [wv,(.I a),x2,x3,x4,(atV ab g.length),(.I (t:Nat)),(.I (i+1:Nat)),x8,x9,bG,b9,aS,aP,aQ,aO,aT,aU,aR,bA,bK,bX,bJ,bE,aV,aW,aX,aY,aZ,bB,bC,bH,bI,bM,bN,bO,bP,bQ,bR,bS,bT,bU,bY,cA,cD,cE,cI,cJ,cN,cP,cK,cQ,cR] H'=some (rr,H2)/\Q H2 rr)-> ∀(x2 x3 x4 x9 bG b9 aS aP aQ aO aT aU aR bA bK bX bJ bE aV aW aX aY aZ bB bC bH bI bM bN bO bP bQ bR bS bT bU bY cA cD cE cI cJ cN cP cK cQ cR:Value),
  ∃H' rr,aJ k (aM prog (lvl prog bL m) (aJ m) Em) (Ep (lvl prog bL m) (aJ m) K) [wv,(.I a),x2,x3,x4,(atV ab g.length),(.I (t:Nat)),(.I (i:Nat)),(.I (j:Nat)),x9,bG,b9,aS,aP,aQ,aO,aT,aU,aR,bA,bK,bX,bJ,bE,aV,aW,aX,aY,aZ,bB,bC,bH,bI,bM,bN,bO,bP,bQ,bR,bS,bT,bU,bY,cA,cD,cE,cI,cJ,cN,cP,cK,cQ,cR] H=some (rr,H')/\Q H' rr:=by
 intro q;have hil:=(aPN.mp hr).1;obtain⟨a1,rv,g1,g2,g3⟩:=hg.wS hr .i64;have hlen:=g3.fD;induction q with
 |zero=>
  intro j k H s hq hj hk hs hK;intros;obtain⟨k,rfl⟩:=aB k U
  have e:decide ((j:Int)<(r.length:Int))=false:=aQx U
  have e3:=aA (i:=i) U
  have g2':=Lr hs.ext g2;rw[List.drop_of_length_le U] at hK
  rw[cU,Wr];simp only[gsR,g1,g2',hlen,e];rw[aId];simp only[gsR,cO,e3];exact hK H hs ..
 |succ q ih=>
  intro j k H s hq hj hk hs hK;intros;obtain⟨k,rfl⟩:=aB k U
  have e:decide ((j:Int)<(r.length:Int))=true:=aQw U
  have e3:=aA (i:=j) U
  have g2':=Lr hs.ext g2;obtain⟨z,hz⟩: ∃z,r[j]? =some z:=⟨_,aPP U⟩
  have hzin:=hinn r (aPX hr) z (aPX hz);obtain⟨b,o,k1,_,k3⟩:=(g3.ext hs.ext).fZ fA hz .i64;have k4:ld1 (.Q b o) H=some (.I z,H):=(k3 H rfl).2.1 0 _ rfl;obtain⟨u,rfl⟩: ∃u:Nat,z=u:=⟨z.toNat,by omega⟩
  have a0:=wX (ab:=ab) (show u<g.length by omega)
  obtain⟨H2,st,hs2⟩:=hs.st hab (show u<g.length by omega) 1
  have hd:r.drop j=(u:Int)::r.drop (j+1):=by
   obtain⟨hjl,he⟩:=aPN.mp hz;rw[<-he];exact List.drop_eq_getElem_cons hjl
  rw[cU,Wr];simp only[gsR,g1,g2',hlen,e,k1,k4,a0,st,cO,e3];refine ih (j+1) k H2 (s.set u 1) U U U hs2 (λH' h=>hK H' ?_) ..
  rw[hd];exact h
theorem aJz {g:List (List Int)}{Hw:aE}{ab a t:Nat}(hg:Rows Hw wv g)(hinn:Inn g)(hrl: ∀r∈g,r.length<=100)(hgl:g.length<=100)(hab:Hw.length<=ab)(ht:t<g.length)(hm:200<m){K:Ex->K (Value×aE)}{Q:aE->Value->Prop}:
  ∀(q i k:Nat)(H:aE)(s:List Int),g.length-i=q->i<=g.length->q<k->Sn g Hw ab H s->
  (∀H',Sn g Hw ab H' ((List.range' i q).foldl (k8 g a) s)-> ∀(x2 x3 x4 x7 x8 x9 bG b9 aS aP aQ aO aT aU aR bA bK bX bJ bE aV aW aX aY aZ bB bC bH bI bM bN bO bP bQ bR bS bT bU bY cA cD cE cI cJ cN cP cK cQ cR:Value),∃H2 rr,K .normal [wv,(.I a),x2,x3,x4,(atV ab g.length),(.I (t+1:Nat)),x7,x8,x9,bG,b9,aS,aP,aQ,aO,aT,aU,aR,bA,bK,bX,bJ,bE,aV,aW,aX,aY,aZ,bB,bC,bH,bI,bM,bN,bO,bP,bQ,bR,bS,bT,bU,bY,cA,cD,cE,cI,cJ,cN,cP,cK,cQ,cR] H'=some (rr,H2)/\Q H2 rr)-> ∀(x2 x3 x4 x8 x9 bG b9 aS aP aQ aO aT aU aR bA bK bX bJ bE aV aW aX aY aZ bB bC bH bI bM bN bO bP bQ bR bS bT bU bY cA cD cE cI cJ cN cP cK cQ cR:Value),
  ∃H' rr,aJ k (aM prog (lvl prog bL m) (aJ m) El) (Eo (lvl prog bL m) (aJ m) K) [wv,(.I a),x2,x3,x4,(atV ab g.length),(.I (t:Nat)),(.I (i:Nat)),x8,x9,bG,b9,aS,aP,aQ,aO,aT,aU,aR,bA,bK,bX,bJ,bE,aV,aW,aX,aY,aZ,bB,bC,bH,bI,bM,bN,bO,bP,bQ,bR,bS,bT,bU,bY,cA,cD,cE,cI,cJ,cN,cP,cK,cQ,cR] H=some (rr,H')/\Q H' rr:=by
 intro q;have hlen:=hg.sB;induction q with
 |zero=>
  intro i k H s hq hi hk hs hK;intros;obtain⟨k,rfl⟩:=aB k U
  have e:decide ((i:Int)<(g.length:Int))=false:=aQx U
  have e3:=aA (i:=t) U
  rw[cU,Wq];simp only[gsR,hlen,e];rw[aIc];simp only[gsR,cO,e3];exact hK H hs ..
 |succ q ih=>
  intro i k H s hq hi hk hs hK;intros;obtain⟨k,rfl⟩:=aB k U
  have hil:i<g.length:=U
  have e:decide ((i:Int)<(g.length:Int))=true:=aQw U
  have e3:=aA (i:=i) U
  obtain⟨r,hr⟩: ∃r,g[i]? =some r:=⟨_,aPP hil⟩;have hr1:=hrl r (aPX hr);have hgd:g.getD i []=r:=by rw[aPR,hr];rfl
  rw[List.range'_succ,List.foldl_cons] at hK;rw[cU,Wq];have go:k8 g a s i=wW s r-> ∀(x2 x3 x4 x9 bG b9 aS aP aQ aO aT aU aR bA bK bX bJ bE aV aW aX aY aZ bB bC bH bI bM bN bO bP bQ bR bS bT bU bY cA cD cE cI cJ cN cP cK cQ cR:Value),∃H' rr,aJ m (aM prog (lvl prog bL m) (aJ m) Em) (Ep (lvl prog bL m) (aJ m) (wH k (aM prog (lvl prog bL m) (aJ m) El) (Eo (lvl prog bL m) (aJ m) K))) [wv,(.I a),x2,x3,x4,(atV ab g.length),(.I (t:Nat)),(.I (i:Nat)),(.I (0:Nat)),x9,bG,b9,aS,aP,aQ,aO,aT,aU,aR,bA,bK,bX,bJ,bE,aV,aW,aX,aY,aZ,bB,bC,bH,bI,bM,bN,bO,bP,bQ,bR,bS,bT,bU,bY,cA,cD,cE,cI,cJ,cN,cP,cK,cQ,cR] H=some (rr,H')/\Q H' rr:=by
   intro hv;refine aJA hg hinn hr hr1 hgl hab r.length 0 m H s U U U hs (λH' h=> ?_)
   rw[List.drop_zero,<-hv] at h;intros;simp only[gsR];exact ih (i+1) k H' _ U U U h hK ..
  cases c1:((i:Int)!=(a:Int)) with
  |false=>
   simp only[gsR,hlen,e,c1];refine go ?_ ..;unfold k8;rw[if_neg (by rintro ⟨h1,_⟩;simp at c1;omega),hgd]
  |true=>
   have a0:=wX (ab:=ab) hil;obtain⟨x,hx⟩: ∃x,s[i]? =some x:=⟨_,aPP (by have:=hs.len;omega)⟩
   have lx:=vA hs.row hx;have hsd:s.getD i 0=x:=by rw[aPR,hx];rfl
   have hne:i≠a:=by simp at c1;omega
   cases c2:(x==0) with
   |true=>
    have hx0:x=0:=by simpa using c2
    simp only[gsR,hlen,e,c1,a0,lx,c2,cO,e3];refine ih (i+1) k H s U U U hs (λH' h=>hK H' ?_) ..
    have:k8 g a s i=s:=by unfold k8;rw[if_pos ⟨hne,by rw[hsd];exact hx0⟩]
    rw[this];exact h
   |false=>
    have hx0: ¬x=0:=by simpa using c2
    simp only[gsR,hlen,e,c1,a0,lx,c2];refine go ?_ ..;unfold k8;rw[if_neg (by rintro ⟨_,h2⟩;rw[hsd] at h2;exact hx0 h2),hgd]
theorem aJy {g:List (List Int)}{Hw:aE}{ab a:Nat}(hg:Rows Hw wv g)(hinn:Inn g)(hrl: ∀r∈g,r.length<=100)(hgl:g.length<=100)(hab:Hw.length<=ab)(hm:200<m):
  ∀(q t k:Nat)(H:aE),g.length-t=q->t<=g.length->q<k->Sn g Hw ab H (gB g a t)-> ∀(x2 x3 x4 x7 x8 x9 bG b9 aS aP aQ aO aT aU aR bA bK bX bJ bE aV aW aX aY aZ bB bC bH bI bM bN bO bP bQ bR bS bT bU bY cA cD cE cI cJ cN cP cK cQ cR:Value),
  ∃H' rr,aJ k (aM prog (lvl prog bL m) (aJ m) Lx) (Ly (lvl prog bL m) (aJ m)) [wv,(.I a),x2,x3,x4,(atV ab g.length),(.I (t:Nat)),x7,x8,x9,bG,b9,aS,aP,aQ,aO,aT,aU,aR,bA,bK,bX,bJ,bE,aV,aW,aX,aY,aZ,bB,bC,bH,bI,bM,bN,bO,bP,bQ,bR,bS,bT,bU,bY,cA,cD,cE,cI,cJ,cN,cP,cK,cQ,cR] H=some (rr,H')/\(rr=atV ab g.length/\Sn g Hw ab H' (gB g a g.length)):=by
 intro q;have hlen:=hg.sB;induction q with
 |zero=>
  intro t k H hq hi hk hs;intros;obtain⟨k,rfl⟩:=aB k U
  obtain rfl:g.length=t:=U
  have e:decide ((g.length:Int)<(g.length:Int))=false:=by simp
  rw[cU,Wp];simp only[gsR,hlen,e];rw[aIb]
  exact⟨H,_,rfl,rfl,hs⟩
 |succ q ih=>
  intro t k H hq hi hk hs;intros;obtain⟨k,rfl⟩:=aB k U
  have e:decide ((t:Int)<(g.length:Int))=true:=aQw U
  rw[cU,Wp];simp only[gsR,hlen,e];refine aJz (a:=a) (t:=t) hg hinn hrl hgl hab U hm (Q:=λH' rr=>rr=atV ab g.length/\Sn g Hw ab H' (gB g a g.length)) g.length 0 m H _ U U U hs (λH' h=> ?_) ..
  rw[<-List.range_eq_range'] at h;intros;simp only[gsR];exact ih (t+1) k H' U U U h ..
theorem aJB {g:List (List Int)}(hg:Rows H wv g)(hinn:Inn g)(hrl: ∀r∈g,r.length<=100)(hgl:g.length<=100)(hm:300<m)(a:Nat):
  ∃H',lvl prog bL m (.func 116) [wv,.I a] H=some (atV H.length g.length,H')/\Sn g H H.length H' (gB g a g.length):=by
 have hlen:=hg.sB;have mk:=sT (H:=H) 3 1 8 [.I 0] .i64 .i64 (g.length:Int) U U U rfl
 simp only[aQf] at mk;rw[X7] at mk;obtain⟨H1,hH1⟩:=aD (H++[nT (List.replicate g.length 0) []]);rw[<-hH1] at mk;have hs:Sn g H H.length H1 (gB g a 0):=⟨by rw[hH1];exact Fr.app _ _ _,by rw[hH1];exact eL _ _,by simp[gB]⟩
 have main: ∃H' r,lvl prog bL m (.func 116) [wv,.I a] H=some (r,H')/\(r=atV H.length g.length/\Sn g H H.length H' (gB g a g.length)):=by
  refine fJ (Q:=λH' r=>r=atV H.length g.length/\Sn g H H.length H' (gB g a g.length)) (fB rfl rfl) U ?_
  rw[aIe];simp only[gsR,hlen,mk];exact aJy (a:=a) hg hinn hrl hgl (aPS _) (m:=m-1) U g.length 0 (m-1) H1 U U U hs ..
 obtain⟨H',r,h1,rfl,h2⟩:=main
 exact⟨H',h1,h2⟩
theorem X9 (w:Int): ∀(q:Nat)(l:List Int)(v:Int)(r:List Int),l≠[]->tW p w q l v=some r->r≠[]
 |0,l,v,r,_,h=>by cases h
 |q+1,l,v,r,hl,h=>by
  unfold tW at h
  split at h
  ·cases h;exact hl
  ·split at h
   ·cases h
   ·exact X9 w q _ _ r (by simp) h
theorem aJt {n:Nat}(hk:OkP p n)(hc:kM p=true){v w:Int}(hv:0<=v/\v<n)(hw:0<=w/\w<n):(((nU p v w).length:Int)==0)= !(lF p v w).isSome:=by
 have hn:=hk.hn;have e:nU p v w=(lF p v w).getD []:=by unfold nU;rw[if_pos ⟨hc,by omega,by omega,by omega,by omega⟩]
 rw[e];cases h:lF p v w with
 |none=>rfl
 |some r=>
  have:=X9 w _ [v] v r (by simp) h
  have:0<r.length:=List.length_pos_iff.mpr this;simp only[aQg,Option.isSome_some,Bool.not_true,beq_eq_false_iff_ne,ne_eq];omega
theorem aJu {n:Nat}(hk:OkP p n)(v:Int):(lF p v v).isSome=true:=by
 have hq:p.nodes.toNat=n:=by rw[hk.hn];rfl
 have h2:=hk.h2;unfold lF;rw[hq];obtain⟨k,rfl⟩: ∃k,n=k+1:=⟨n-1,by omega⟩
 unfold tW;rw[if_pos rfl];rfl
theorem aJx {g:List (List Int)}{H0:aE}{lv:Value}(hg:Rows H0 lv g)(hinn:Inn g)(hrl: ∀r∈g,r.length<=100)(hgl:g.length<=100)(hm:400<m):
  ∀(q i k:Nat)(H:aE),g.length-i=q->i<=g.length->q<k->Ext H0 H->(∀j,j<i->(gB g j g.length).getD j 0≠1)-> ∀(x0 x1 x2 x3 x4 x5 x8 x9 bG b9 aS aP aQ aO aT aU aR bA bK bX bJ bE aV aW aX aY aZ bB bC bH bI bM bN bO bP bQ bR bS bT bU bY cA cD cE cI cJ cN cP cK:Value),
  ∃H',aJ k (aM prog (lvl prog bL m) (aJ m) Mh) (E2 (lvl prog bL m) (aJ m)) [x0,x1,x2,x3,x4,x5,lv,(.I (i:Nat)),x8,x9,bG,b9,aS,aP,aQ,aO,aT,aU,aR,bA,bK,bX,bJ,bE,aV,aW,aX,aY,aZ,bB,bC,bH,bI,bM,bN,bO,bP,bQ,bR,bS,bT,bU,bY,cA,cD,cE,cI,cJ,cN,cP,cK] H=some (.I (if nV g=true then 140 else 0),H')/\Ext H0 H':=by
 intro q;induction q with
 |zero=>
  intro i k H hq hi hk he hpre;intros;obtain⟨k,rfl⟩:=aB k U
  have hlen:=(hg.ext he).sB;have e:decide ((i:Int)<(g.length:Int))=false:=aQx U
  have hno: ¬nV g=true:=by
   unfold nV;rw[List.any_eq_true];rintro ⟨j,h1,h2⟩
   exact hpre j (by have:=aQr.mp h1;omega) (by simpa using h2)
  rw[if_neg hno,cU,Xa];simp only[gsR,hlen,e];rw[aIz]
  exact⟨H,rfl,he⟩
 |succ q ih=>
  intro i k H hq hi hk he hpre;intros;obtain⟨k,rfl⟩:=aB k U
  have hil:i<g.length:=U
  have hg1:=hg.ext he;have hlen:=hg1.sB;have e:decide ((i:Int)<(g.length:Int))=true:=aQw U
  have e3:=aA (i:=i) U
  obtain⟨H2,r1,hs⟩:=aJB hg1 hinn hrl hgl (m:=m) U i
  have a0:=wX (ab:=H.length) hil;obtain⟨x,hx⟩: ∃x,(gB g i g.length)[i]? =some x:=⟨_,aPP (by have:=hs.len;omega)⟩
  have lx:=vA hs.row hx;have hxd:(gB g i g.length).getD i 0=x:=by rw[aPR,hx];rfl
  rw[cU,Xa];cases c:(x==1) with
  |true=>
   have hyes:nV g=true:=by
    unfold nV;rw[List.any_eq_true]
    exact⟨i,aQr.mpr hil,by rw[hxd];exact c⟩
   rw[if_pos hyes];simp only[gsR,hlen,e,r1,a0,lx,c];rw[aID]
   exact⟨H2,rfl,he.tr hs.ext⟩
  |false=>
   simp only[gsR,hlen,e,r1,a0,lx,c,cO,e3];refine ih (i+1) k H2 U U U (he.tr hs.ext) (λj hj=> ?_) ..
   by_cases hji:j=i
   ·rw[hji,hxd];simpa using c
   ·exact hpre j U
theorem aJw {n:Nat}(hk:OkP p n)(hc:kM p=true){H0:aE}{a v:Nat}(hv:v<n){K:Ex->K (Value×aE)}{Q:aE->Value->Prop}(hp:PV H0 p ev wv nv)(hb:H0[a]? =some (plB p ev wv nv))(hm:17592186045300<m)(hm2:m<=72057594037927936):
  ∀(q i k:Nat)(H1:aE),n-i=q->i<=n->q<k->Ext H0 H1->
  (∀H',Ext H0 H'->((List.range' i q).all λw=>(lF p v w).isSome)=true-> ∀(x0 x2 x3 x5 x6 x7 x8 x9 bG b9 aS aP aQ aO aT aU aR bA bK bX bJ bE aV aW aX aY aZ bB bC bH bI bM bN bO bP bQ bR bS bT bU bY cA cD cE cI cJ cN cP cK:Value),∃H2 r,K .normal [x0,(.Q a 0),x2,x3,(.I (v+1:Nat)),x5,x6,x7,x8,x9,bG,b9,aS,aP,aQ,aO,aT,aU,aR,bA,bK,bX,bJ,bE,aV,aW,aX,aY,aZ,bB,bC,bH,bI,bM,bN,bO,bP,bQ,bR,bS,bT,bU,bY,cA,cD,cE,cI,cJ,cN,cP,cK] H'=some (r,H2)/\Q H2 r)->
  (∀H',Ext H0 H'->((List.range' i q).all λw=>(lF p v w).isSome)=false-> ∀(x0 x1 x3 x4 x5 x6 x7 x8 x9 bG b9 aS aP aQ aO aT aU aR bA bK bX bJ bE aV aW aX aY aZ bB bC bH bI bM bN bO bP bQ bR bS bT bU bY cA cD cE cI cJ cN cP cK:Value),∃H2 r,K .ret [x0,x1,(.I 140),x3,x4,x5,x6,x7,x8,x9,bG,b9,aS,aP,aQ,aO,aT,aU,aR,bA,bK,bX,bJ,bE,aV,aW,aX,aY,aZ,bB,bC,bH,bI,bM,bN,bO,bP,bQ,bR,bS,bT,bU,bY,cA,cD,cE,cI,cJ,cN,cP,cK] H'=some (r,H2)/\Q H2 r)-> ∀(x0 x2 x3 x6 x7 x8 x9 bG b9 aS aP aQ aO aT aU aR bA bK bX bJ bE aV aW aX aY aZ bB bC bH bI bM bN bO bP bQ bR bS bT bU bY cA cD cE cI cJ cN cP cK:Value),
  ∃H' r,aJ k (aM prog (lvl prog bL m) (aJ m) Mg) (E1 (lvl prog bL m) (aJ m) K) [x0,(.Q a 0),x2,x3,(.I (v:Nat)),(.I (i:Nat)),x6,x7,x8,x9,bG,b9,aS,aP,aQ,aO,aT,aU,aR,bA,bK,bX,bJ,bE,aV,aW,aX,aY,aZ,bB,bC,bH,bI,bM,bN,bO,bP,bQ,bR,bS,bT,bU,bY,cA,cD,cE,cI,cJ,cN,cP,cK] H1=some (r,H')/\Q H' r:=by
 intro q;have h6:=hk.h6;induction q with
 |zero=>
  intro i k H1 hr hi hk2 he hK hR;intros;obtain⟨k,rfl⟩:=aB k U
  have l0:=dE (dT hb he) 0 _ rfl;rw[hk.hn] at l0;have e:decide ((i:Int)<(n:Int))=false:=aQx U
  have e3:=aA (i:=v) U
  rw[cU,W9];simp only[gsR,l0,e];rw[aIy];simp only[gsR,cO,e3];exact hK H1 he rfl ..
 |succ q ih=>
  intro i k H1 hr hi hk2 he hK hR;intros;obtain⟨k,rfl⟩:=aB k U
  have b1:=dT hb he;have l0:=dE b1 0 _ rfl;rw[hk.hn] at l0;have e:decide ((i:Int)<(n:Int))=true:=aQw U
  have e3:=aA (i:=i) U
  have l11:=fL b1;rw[cU,W9];rw[List.range'_succ,List.all_cons] at hK hR;cases c0:((v:Int)!=(i:Int)) with
  |false=>
   have hvi:v=i:=by simp at c0;omega
   have hp1:(lF p v i).isSome=true:=by rw[hvi];exact aJu hk _
   rw[hp1] at hK hR;simp only[gsR,l0,e,c0,cO,e3];exact ih (i+1) k H1 U U U he (λH' h1 h2=>hK H' h1 (by simpa using h2)) (λH' h1 h2=>hR H' h1 (by simpa using h2)) ..
  |true=>
   obtain⟨H2,u,g1,x2,q2,_⟩:=aIU (hp.ext he) v i (m:=m) U U
   have hlen:=q2.qZ;have hpl:=aJt hk hc (v:=v) (w:=i) U U
   cases c:(lF p v i).isSome with
   |true=>
    rw[c] at hpl hK hR;simp only[gsR,l0,e,c0,l11,g1,hlen,hpl,cO,e3];exact ih (i+1) k H2 U U U (he.tr x2) (λH' h1 h2=>hK H' h1 (by simpa using h2)) (λH' h1 h2=>hR H' h1 (by simpa using h2)) ..
   |false=>
    rw[c] at hpl hR;simp only[gsR,l0,e,c0,l11,g1,hlen,hpl];rw[aIC];exact hR H2 (he.tr x2) rfl ..
theorem aJv {n:Nat}(hk:OkP p n)(hc:kM p=true){H0:aE}{a:Nat}{Q:aE->Value->Prop}(hp:PV H0 p ev wv nv)(hb:H0[a]? =some (plB p ev wv nv))(hm:17592186045300<m)(hm2:m<=72057594037927936)(hQ: ∀H',Ext H0 H'->Q H' (.I (if qG p n=true/\nV (kN p)=false then 0 else 140))):
  ∀(q i k:Nat)(H1:aE),n-i=q->i<=n->q<k->Ext H0 H1->(∀v,v<i->((List.range n).all λw=>(lF p v w).isSome)=true)-> ∀(x0 x2 x3 x5 x6 x7 x8 x9 bG b9 aS aP aQ aO aT aU aR bA bK bX bJ bE aV aW aX aY aZ bB bC bH bI bM bN bO bP bQ bR bS bT bU bY cA cD cE cI cJ cN cP cK:Value),
  ∃H' r,aJ k (aM prog (lvl prog bL m) (aJ m) Mf) (E0 (lvl prog bL m) (aJ m)) [x0,(.Q a 0),x2,x3,(.I (i:Nat)),x5,x6,x7,x8,x9,bG,b9,aS,aP,aQ,aO,aT,aU,aR,bA,bK,bX,bJ,bE,aV,aW,aX,aY,aZ,bB,bC,bH,bI,bM,bN,bO,bP,bQ,bR,bS,bT,bU,bY,cA,cD,cE,cI,cJ,cN,cP,cK] H1=some (r,H')/\Q H' r:=by
 intro q;have h6:=hk.h6;induction q with
 |zero=>
  intro i k H1 hr hi hk2 he hpre;intros;obtain⟨k,rfl⟩:=aB k U
  have b1:=dT hb he;have l0:=dE b1 0 _ rfl;rw[hk.hn] at l0;have e:decide ((i:Int)<(n:Int))=false:=aQx U
  have hall:qG p n=true:=by
   unfold qG;rw[aQs];intro v hv;exact hpre v (by have:=aQr.mp hv;omega)
  have l11:=fL b1;obtain⟨H2,lv,g1,x2,hg⟩:=aJe (hp.ext he) (m:=m) U U
  have hgl:=X4 p;rw[cU,W8];simp only[gsR,l0,e];rw[aIx];simp only[gsR,l11,g1];refine Exists.imp (λH' h=>⟨_,h.1,?_⟩) (aJx hg (X3 p) (λr hr=>by have:=X5 p r hr;omega) U (m:=m) U (kN p).length 0 m H2 U U U (Fr.iQ _ _) (λj hj=>absurd hj U) ..)
  have:=hQ H' ((he.tr x2).tr h.2);rw[hall] at this;cases hc:nV (kN p) with
  |true=>rw[hc] at this;simpa using this
  |false=>rw[hc] at this;simpa using this
 |succ q ih=>
  intro i k H1 hr hi hk2 he hpre;intros;obtain⟨k,rfl⟩:=aB k U
  have e:decide ((i:Int)<(n:Int))=true:=aQw U
  have b1:=dT hb he;have l0:=dE b1 0 _ rfl;rw[hk.hn] at l0;have hrr: ∀v:Nat,((List.range' 0 n).all λw=>(lF p v w).isSome)=((List.range n).all λw=>(lF p v w).isSome):=λv=>by rw[List.range_eq_range']
  rw[cU,W8];simp only[gsR,e,l0];refine aJw hk hc (v:=i) U (hp.ext he) b1 (Q:=Q) U hm2 n 0 m H1 U U U (Fr.iQ _ _) (λH' hx hall=> ?_) (λH' hx hall=> ?_) ..
  ·rw[hrr] at hall
   intros;simp only[gsR];refine ih (i+1) k H' U U U (he.tr hx) (λv hv=> ?_) ..
   by_cases hvi:v=i
   ·rw[hvi];exact hall
   ·exact hpre v U
  ·rw[hrr] at hall
   intros;simp only[gsR];rw[aIB];refine⟨H',_,rfl,?_⟩;have hno:qG p n=false:=by
    rw[<-Bool.not_eq_true];unfold qG;rw[aQs];intro hh;rw[hh i (aQr.mpr U)] at hall
    cases hall
   have:=hQ H' (he.tr hx);rw[hno] at this;simpa using this
theorem Ya (hp:PV H p ev wv nv)(hm:17592186045400<m)(hm2:m<=72057594037927936):
  ∃H',lvl prog bL m (.func 55) [plV p ev wv nv] H=some (.I (jD p),H')/\Ext H H':=by
 obtain⟨H0,hH0⟩:=aD (H++[plB p ev wv nv]);have x0:Ext H H0:=by rw[hH0];exact Fr.app _ _ _
 have b0:H0[H.length]? =some (plB p ev wv nv):=by rw[hH0];exact eL _ _
 have p0:=hp.ext x0;have l11:=fL b0;obtain⟨H1,g1,x1⟩:=Li p0 (m:=m-1) U U
 have b1:=dT b0 x1;have p1:=p0.ext x1;have main: ∃H' r,lvl prog bL m (.func 55) [plV p ev wv nv] H=some (r,H')/\(r= .I (jD p)/\Ext H H'):=by
  refine fJ (Q:=λH' r=>r= .I (jD p)/\Ext H H') (fB rfl rfl) U ?_
  rw[aIA];cases hc:kM p with
  |false=>
   rw[hc] at g1;have en:(nI false !=0)=true:=rfl;have e:jD p=nI false:=by unfold jD;rw[if_neg (by simp[hc])];rfl
   simp only[gsR,eZ,<-hH0,l11,g1,en]
   exact⟨H1,_,rfl,by rw[e],x0.tr x1⟩
  |true=>
   rw[hc] at g1;have en:(nI true !=0)=false:=rfl;obtain⟨n,hk⟩:=vE hc;have h6:=hk.h6;simp only[gsR,eZ,<-hH0,l11,g1,en];refine aJv hk hc (Q:=λH' r=>r= .I (jD p)/\Ext H H') p1 b1 (m:=m-1) U U (λH' hx=>⟨?_,(x0.tr x1).tr hx⟩) n 0 (m-1) H1 U U U (Fr.iQ _ _) (λv hv=>absurd hv U) ..
   congr 1
   unfold jD M5;have hq:p.nodes.toNat=n:=by rw[hk.hn];rfl
   rw[if_pos hc,hc,hq];cases nV (kN p)<;>cases qG p n<;>simp
 obtain⟨H',r,h1,rfl,h2⟩:=main
 exact⟨H',h1,h2⟩
end
theorem Yb {a:Int}(h:(Lit.int .u16 a).wf=true):0<=a/\a<65536:=by
 have e: ∀z:Int,(Lit.int .u16 z).wf=(decide (0<=z)&&decide (z<=65535)):=λz=>rfl
 rw[e] at h;simp only[aPV,decide_eq_true_eq] at h
 exact⟨h.1,by omega⟩
theorem Fe {a:Int}(h:(Lit.int .u8 a).wf=true): ∃n:Nat,a=n/\n<256:=by
 have:=aDW h
 exact⟨a.toNat,by omega,by omega⟩
theorem aJD {a:Int}(h:(Lit.int .u16 a).wf=true): ∃n:Nat,a=n/\n<65536:=by
 have:=Yb h
 exact⟨a.toNat,by omega,by omega⟩
def A7 (r:List Value):Nat:=match r with
 |[.int _ i]=>i.toNat
 |_=>0
theorem Us.aJC {G:aE}{n:Nat}{u:Value}(h:Rp prog G n 22 [u]): ∃next,Us G u next/\(∀x∈next,x<256)/\next.length<=72057594037927936:=by
 obtain⟨m,u',b,rows,h1,h2,h3,h4,h5⟩:=h.C0 (e:=5) (by kernel_rfl)
 cases h1;have hc:prog.cellsOf 5=1:=by kernel_rfl
 have hb:prog.bytesOf 5=1:=by kernel_rfl
 rw[hc] at h2;rw[hb] at h3;have hr: ∀r∈rows,u8C (A7 r)=r/\A7 r<256:=λr hr=>by
  obtain⟨i,hi,hw⟩:=(h5 r hr).2.qW (k:= .u8) (by kernel_rfl)
  obtain⟨k,rfl,hk⟩:=Fe hw;subst hi
  exact⟨rfl,by simpa[A7] using hk⟩
 have hm:(rows.map A7).map u8C=rows:=by
  rw[List.map_map]
  conv=>rhs;rw[<-List.map_id rows]
  exact List.map_congr_left λr hr'=>(hr r hr').1
 refine⟨rows.map A7,?_,λx hx=> ?_,?_⟩
 ·rw[<-hm] at h2
  rcases h4 with rfl|⟨c,rfl⟩
  ·have h0:rows=[]:=by
    have:=h2.len;have hl:cH (Value.slice none 0 0)=some (.I 0):=rfl;rw[hl,hm] at this;simp at this;exact aP5.mp U
   subst h0;exact .inl ⟨rfl,rfl⟩
  ·exact h2.rs Ll (c:=c) (.inr (by rw[aP1]))
 ·obtain⟨r,hr1,rfl⟩:=aQq.mp hx
  exact(hr r hr1).2
 ·have:reachBytes=140737488351232:=rfl
  rw[aP1];omega
section
variable {H : aE} {m : Nat} {p : PlanD} {ev wv nv : Value}
theorem aJG {a:Nat}(hp:Rows H nv p.next)(hb:H[a]? =some (plB p ev wv nv))(hl:p.next.length<=17592186043000): ∀(q i k:Nat)(z:Int),p.next.length-i=q->i<=p.next.length->q<k-> ∀(x0 x2 x5 x6 x7 x8 x9 bG b9 aS aP aQ aO aT aU aR bA bK bX bJ bE aV aW aX aY aZ:Value),
  ∃z',aJ k (aM prog (lvl prog bL m) (aJ m) Kb) (Kc (lvl prog bL m) (aJ m)) [x0,(.Q a 0),x2,(.I z),(.I (i:Nat)),x5,x6,x7,x8,x9,bG,b9,aS,aP,aQ,aO,aT,aU,aR,bA,bK,bX,bJ,bE,aV,aW,aX,aY,aZ] H=some (.I z',H):=by
 intro q;have l10:=dE hb 10 _ rfl;have hlen:=hp.sB;induction q with
 |zero=>
  intro i k z hr hi hk;intros;obtain⟨k,rfl⟩:=aB k U
  have e:decide ((i:Int)<(p.next.length:Nat))=false:=aQx U
  rw[cU,U0];simp only[gsR,l10,hlen,e];rw[aGf]
  exact⟨z,rfl⟩
 |succ q ih=>
  intro i k z hr hi hk;intros;obtain⟨k,rfl⟩:=aB k U
  have e:decide ((i:Int)<(p.next.length:Nat))=true:=aQw U
  have e3:=aA (i:=i) U
  obtain⟨xs,hxs⟩: ∃xs,p.next[i]? =some xs:=⟨_,aPP U⟩
  obtain⟨a0,u,g1,g2,g3⟩:=hp.wS hxs .i64;have hx:=g3.fD;rw[cU,U0];simp only[gsR,l10,hlen,e,g1,g2,hx,cO,e3];exact ih (i+1) k _ U U U ..
theorem aJF (hp:PV H p ev wv nv)(hm:17592186045000<m): ∃z,lvl prog bL m (.func 15) [plV p ev wv nv] H=some (.I z,H++[plB p ev wv nv]):=by
 obtain⟨H0,hH0⟩:=aD (H++[plB p ev wv nv]);have x0:Ext H H0:=by rw[hH0];exact Fr.app _ _ _
 have b0:H0[H.length]? =some (plB p ev wv nv):=by rw[hH0];exact eL _ _
 have p0:=hp.ext x0;have l1:=dE b0 1 _ rfl;have l8:=dE b0 8 _ rfl;have n1:=p0.e.fD;have n8:=p0.w.fD;have hb:=hp.bn;obtain⟨m,rfl⟩:=aB m U
 rw[I4 (fB rfl rfl),aGg];simp only[gsR,eZ,<-hH0,l1,n1,l8,n8,cO];exact aJG p0.n b0 hp.bn p.next.length 0 m _ U U U ..
end
def Yd (r:List Value):Int:=match r with
 |[.int _ i]=>i
 |_=>0
def Yc (r:List Value):Ed:=match r with
 |[.int _ i,.int _ j]=>(i,j)
 |_=>(0,0)
theorem Sl.rs' {α:Type}{el:α->List Value}{e:TypeId}{sz b:Nat}{G:aE}{u:Value}{xs:List α}(hsz: ∀x,(el x).length=sz)(h2:Sl G u sz b (xs.map el))(h4:u= .slice none 0 0∨ ∃c,u= .slice (some ⟨c,0,none⟩) xs.length xs.length):Rs el e G u xs:=by
 rcases h4 with rfl|⟨c,rfl⟩
 ·have h0:xs=[]:=by
   have:=h2.len;have hl:cH (Value.slice none 0 0)=some (.I 0):=rfl;rw[hl] at this;simp at this;exact aP5.mp U
  subst h0;exact .inl ⟨rfl,rfl⟩
 ·exact h2.rs hsz (c:=c) (.inr rfl)
theorem Ye {G:aE}{n:Nat}{u:Value}(h:Rp prog G n 25 [u]): ∃xs,Is G u xs/\xs.length<=17592186044500:=by
 obtain⟨m,u',b,rows,h1,h2,h3,h4,h5⟩:=h.C0 (e:=3) (by kernel_rfl)
 cases h1;have hb:prog.bytesOf 3=8:=by kernel_rfl
 rw[szI] at h2;rw[hb] at h3;have hm:(rows.map Yd).map inC=rows:=by
  rw[List.map_map]
  conv=>rhs;rw[<-List.map_id rows]
  refine List.map_congr_left λr hr=> ?_
  obtain⟨i,hi,hw⟩:=(h5 r hr).2.qW (k:= .i64) (by kernel_rfl)
  subst hi;rfl
 refine⟨rows.map Yd,Sl.rs' fA (by rw[hm];exact h2) (by rw[aP1];exact h4),?_⟩
 have:reachBytes=140737488351232:=rfl;rw[aP1];omega
theorem aJE {G:aE}{n:Nat}{u:Value}(h:Rp prog G n 24 [u]): ∃xs,Es G u xs/\xs.length<=17592186043000:=by
 obtain⟨m,u',b,rows,h1,h2,h3,h4,h5⟩:=h.C0 (e:=34) (by kernel_rfl)
 cases h1;have hb:prog.bytesOf 34=16:=by kernel_rfl
 rw[K7] at h2;rw[hb] at h3;have hf:Cv prog 34=some [(3,0),(3,1)]:=by kernel_rfl
 have hm:(rows.map Yc).map edC=rows:=by
  rw[List.map_map]
  conv=>rhs;rw[<-List.map_id rows]
  refine List.map_congr_left λr hr=> ?_
  obtain⟨n,hl,hh⟩:=(h5 r hr).2.S1 hf;rw[K7] at hl
  match r,hl with
  |[x,y],_=>
   have f0:=hh (3,0) (by simp)
   have f1:=hh (3,1) (by simp)
   simp only[szI,List.drop_zero,List.drop_succ_cons,List.take_succ_cons,List.take_zero] at f0 f1;obtain⟨i,hi,_⟩:=f0.qW (k:= .i64) (by kernel_rfl)
   obtain⟨j,hj,_⟩:=f1.qW (k:= .i64) (by kernel_rfl)
   cases hi;cases hj;rfl
 refine⟨rows.map Yc,Sl.rs' oS (by rw[hm];exact h2) (by rw[aP1];exact h4),?_⟩
 have:reachBytes=140737488351232:=rfl;rw[aP1];omega
def A8 (r:List Value):Value:=r.headD undef
theorem aJI {G:aE}{n:Nat}{u:Value}(h:Rp prog G n 26 [u]): ∃xss,Rows G u xss/\xss.length<=17592186043000:=by
 obtain⟨m,u',b,rows,h1,h2,h3,h4,h5⟩:=h.C0 (e:=25) (by kernel_rfl)
 cases h1;have hb:prog.bytesOf 25=24:=by kernel_rfl
 have hc:prog.cellsOf 25=1:=by kernel_rfl
 rw[hc] at h2 h5;rw[hb] at h3;have hone: ∀r∈rows,vC (A8 r)=r:=by
  intro r hr
  match r,(h5 r hr).1 with
  |[x],_=>rfl
 have hm:(rows.map A8).map vC=rows:=by
  rw[List.map_map]
  conv=>rhs;rw[<-List.map_id rows]
  exact List.map_congr_left hone
 have hex: ∀r∈rows,∃xs,Is G (A8 r) xs:=λr hr=>by
  have:=(h5 r hr).2;rw[<-hone r hr] at this;obtain⟨xs,hx,_⟩:=Ye this
  exact⟨xs,hx⟩
 classical
 refine⟨rows.map λr=>if hr: ∃xs,Is G (A8 r) xs then hr.choose else [],⟨rows.map A8,Sl.rs' Vo (by rw[hm];exact h2) (by rw[aP1];exact h4),by simp,λi u xs hu hx=> ?_⟩,?_⟩
 ·rw[aP0] at hu hx
  obtain⟨r,hr,rfl⟩:=aQj.mp hu;rw[hr] at hx;simp only[Option.map_some,aQe] at hx;have he:=hex r (aPX hr);rw[dif_pos he] at hx;subst hx;exact he.choose_spec
 ·have:reachBytes=140737488351232:=rfl
  rw[aP1];omega
theorem aJH {G:aE}{n:Nat}{cs:List Value}(h:Rp prog G n 28 cs): ∃p ev wv nv,Value.agg ⟨cs⟩=plV p ev wv nv/\PV G p ev wv nv/\0<=p.start/\p.start<65536:=by
 have hf:Cv prog 28=some [(3,0),(24,1),(3,2),(3,3),(3,4),(3,5),(3,6),(3,7),(25,8),(23,9),(26,10)]:=by kernel_rfl
 have c0:prog.cellsOf 28=11:=by kernel_rfl
 have c1:prog.cellsOf 24=1:=by kernel_rfl
 have c2:prog.cellsOf 25=1:=by kernel_rfl
 have c3:prog.cellsOf 23=1:=by kernel_rfl
 have c4:prog.cellsOf 26=1:=by kernel_rfl
 obtain⟨m,hl,hh⟩:=h.S1 hf;rw[c0] at hl
 match cs,hl with
 |[x0,x1,x2,x3,x4,x5,x6,x7,x8,x9,bG],_=>
  have f0:=hh (3,0) (by simp)
  have f1:=hh (24,1) (by simp)
  have f2:=hh (3,2) (by simp)
  have f3:=hh (3,3) (by simp)
  have f4:=hh (3,4) (by simp)
  have f5:=hh (3,5) (by simp)
  have f6:=hh (3,6) (by simp)
  have f7:=hh (3,7) (by simp)
  have f8:=hh (25,8) (by simp)
  have f9:=hh (23,9) (by simp)
  have f10:=hh (26,10) (by simp)
  simp only[szI,c1,c2,c3,c4,List.drop_zero,List.drop_succ_cons,List.take_succ_cons,List.take_zero] at f0 f1 f2 f3 f4 f5 f6 f7 f8 f9 f10;obtain⟨a0,h0,_⟩:=f0.qW (k:= .i64) (by kernel_rfl)
  obtain⟨a2,h2,_⟩:=f2.qW (k:= .i64) (by kernel_rfl)
  obtain⟨a3,h3,_⟩:=f3.qW (k:= .i64) (by kernel_rfl)
  obtain⟨a4,h4,_⟩:=f4.qW (k:= .i64) (by kernel_rfl)
  obtain⟨a5,h5,_⟩:=f5.qW (k:= .i64) (by kernel_rfl)
  obtain⟨a6,h6,_⟩:=f6.qW (k:= .i64) (by kernel_rfl)
  obtain⟨a7,h7,_⟩:=f7.qW (k:= .i64) (by kernel_rfl)
  obtain⟨a9,h9,w9⟩:=f9.qW (k:= .u16) (by kernel_rfl)
  cases h0;cases h2;cases h3;cases h4;cases h5;cases h6;cases h7;cases h9
  obtain⟨E,e1,e2⟩:=aJE f1;obtain⟨W,w1,w2⟩:=Ye f8;obtain⟨N,n1,n2⟩:=aJI f10
  exact⟨⟨a0,E,a2,a3,a4,a5,a6,a7,W,a9,N⟩,x1,x8,bG,rfl,⟨e1,w1,n1,e2,w2,n2⟩,Yb w9⟩
section
variable {H H0 : aE} {m : Nat} {p : PlanD} {ev wv nv : Value}
def tab (n:Nat)(F:Nat->Nat->Int):List (List Int):=(List.range n).map λv=>(List.range n).map (F v)
theorem aJJ (n:Nat)(F:Nat->Nat->Int):(tab n F).length=n:=by simp[tab]
variable {a : Nat}
end
def cpP (n:Nat)(E:List Ed)(N:List (List Int)):PlanD:=⟨n,E,1,1,1,1,1,1,[1],0,N⟩
section
variable {H : aE} {m : Nat} {p : PlanD} {ev wv nv : Value}
end
def ofL (c:List Nat)(n:Nat):List Int:=(List.range n).map λj=>((c.getD j 0%(j+1):Nat):Int)
def ofT (c:List Nat):List Int:=if min c.length 5=0 then [0] else ofL c (min c.length 5)
def jE (t:List Int):Bool:=(List.range t.length).all (λi=>decide (0<=t.getD i 0)&&decide (t.getD i 0<=i))&&decide ((t.length:Int)<=5)
def upL (t:List Int):Nat->Int->List Int
 |0,v=>[v]
 |q+1,v=>if 0<v then v::upL t q (t.getD (v-1).toNat 0) else [v]
def upT (t:List Int)(v:Int):List Int:=upL t v.toNat v
def A9:Nat->List Int->List Int->List Int×List Int
 |0,a,b=>(a,b)
 |q+1,a,b=>if 1<a.length/\1<b.length/\a.getD (a.length-2) 0=b.getD (b.length-2) 0 then A9 q (a.take (a.length-1)) (b.take (b.length-1)) else(a,b)
def Ff (s:List Int×List Int):List Int:=s.1++(s.2.take (s.2.length-1)).reverse
def o9 (t:List Int)(v w:Int):List Int:=if jE t=true/\0<=v/\v<=t.length/\0<=w/\w<=t.length then Ff (A9 (upT t v).length (upT t v) (upT t w)) else []
def yU (t:List Int):List Ed:=(List.range t.length).map λi=>(t.getD i 0,((i+1:Nat):Int))
def nK (t:List Int):List (List Int):=tab (t.length+1) λv w=>if v=w then(v:Int) else(o9 t v w).getD 1 0
def tX (p:PlanD)(t:List Int):PlanD:={p with nodes:=((t.length+1:Nat):Int),edges:=yU t,next:=nK t}
theorem Yf {t:List Int}(h:jE t=true){i:Nat}{x:Int}(hx:t[i]? =some x):0<=x/\x<=i/\t.length<=5:=by
 unfold jE at h;rw[aPV,aQs] at h;have:=h.1 i (aQr.mpr (aPN.mp hx).1);rw[aPR,hx] at this;simp at this;have h2:=of_decide_eq_true h.2;omega
theorem M6 (t:List Int): ∀(q:Nat)(v:Int),0<(upL t q v).length/\(upL t q v).length<=q+1
 |0,v=>by simp[upL]
 |q+1,v=>by
  unfold upL;split
  ·have:=M6 t q (t.getD (v-1).toNat 0)
   simp only[aP9];omega
  ·simp
section
variable {H : aE} {m : Nat} {p : PlanD} {ev wv nv : Value}
theorem vG {l:List Int}{i:Nat}{x:Int}(h:l[i]? =some x):l.getD i 0=x:=by rw[aPR,h];rfl
theorem aJL {H0:aE}{cv:Value}{c:List Nat}(hc:Us H0 cv c)(hu8: ∀x∈c,x<256)(hl:c.length<=72057594037927936): ∀(q i k:Nat)(H1:aE)(acc:Value),min c.length 5-i=q->i<=min c.length 5->q<k->Ext H0 H1->Iw H1 acc (ofL c i)->New H0 acc-> ∀(x1 x2 x5 x6 x7 x8 x9 bG b9 aS aP aQ aO aT aU aR bA bK bX bJ bE aV aW aX aY aZ bB bC bH bI:Value),
  ∃H' u,aJ k (aM prog (lvl prog bL m) (aJ m) L8) (Ma (lvl prog bL m) (aJ m)) [cv,x1,x2,acc,(.I (i:Nat)),x5,x6,x7,x8,x9,bG,b9,aS,aP,aQ,aO,aT,aU,aR,bA,bK,bX,bJ,bE,aV,aW,aX,aY,aZ,bB,bC,bH,bI] H1=some (u,H')/\Ext H0 H'/\Iw H' u (ofT c)/\New H0 u:=by
 intro q;induction q with
 |zero=>
  intro i k H1 acc hq hi hk he ha hnew;intros;obtain⟨k,rfl⟩:=aB k U
  have hlen:=(hc.ext he).fD;have hal:=ha.qZ;have hal2:(ofL c i).length=i:=by simp[ofL]
  rw[hal2] at hal;have tail: ∀(x1 x2 x5 x6 x7 x8 x9 bG b9 aS aP aQ aO aT aU aR bA bK bX bJ bE aV aW aX aY aZ bB bC bH bI:Value),∃H' u,L9 (lvl prog bL m) (aJ m) cv x1 x2 acc (.I (i:Nat)) x5 x6 x7 x8 x9 bG b9 aS aP aQ aO aT aU aR bA bK bX bJ bE aV aW aX aY aZ bB bC bH bI H1=some (u,H')/\Ext H0 H'/\Iw H' u (ofT c)/\New H0 u:=by
   intros;unfold L9;by_cases h0:i=0
   ·have e0:((i:Int)==0)=true:=by simp[h0]
    subst h0;have ha':Iw H1 acc []:=ha;obtain⟨acc2,H2,t1,t2,t3,t4⟩:=ha'.o8 (by':=8) fA lD aC 0 hnew he aC
    simp only[gsR,hal,e0,lU,t1];have:ofT c=[0]:=by unfold ofT;rw[if_pos U]
    rw[this]
    exact⟨_,_,rfl,t4,t2,t3⟩
   ·have e0:((i:Int)==0)=false:=by simp;omega
    simp only[gsR,hal,e0];have:ofT c=ofL c i:=by unfold ofT;rw[if_neg U];congr 1;omega
    rw[this]
    exact⟨_,_,rfl,he,ha,hnew⟩
  rw[cU,W0];by_cases hcl:i<c.length
  ·have e1:decide ((i:Int)<(c.length:Int))=true:=aQw U
   have e2:decide ((i:Int)<5)=false:=aQx U
   simp only[gsR,hlen,e1,e2];rw[W4];exact tail ..
  ·have e1:decide ((i:Int)<(c.length:Int))=false:=aQx U
   simp only[gsR,hlen,e1];rw[W4];exact tail ..
 |succ q ih=>
  intro i k H1 acc hq hi hk he ha hnew;intros;obtain⟨k,rfl⟩:=aB k U
  have hlen:=(hc.ext he).fD;have e1:decide ((i:Int)<(c.length:Int))=true:=aQw U
  have e2:decide ((i:Int)<5)=true:=aQw U
  have e3:=aA (i:=i) U
  obtain⟨x,hx⟩: ∃x,c[i]? =some x:=⟨_,aPP U⟩
  have hx8:=hu8 x (aPX hx);obtain⟨b,o,g1,_,g3⟩:=(hc.ext he).fZ Ll hx .i64;have g4:ld1 (.pointer (some ⟨b,o,none⟩)) H1=some (.int .u8 x,H1):=(g3 H1 rfl).2.1 0 _ rfl;have c1:=λH=>cvU H x hx8
  have c2:=wT x (i+1) (i+1:Nat) rfl U
  have hal2:(ofL c i).length=i:=by simp[ofL]
  obtain⟨acc2,H2,t1,t2,t3,t4⟩:=ha.o8 (by':=8) fA lD aC ((x%(i+1):Nat):Int) hnew he (fV (n:=1000) aC U)
  have hn:ofL c (i+1)=ofL c i++[((x%(i+1):Nat):Int)]:=by
   unfold ofL;rw[aQm,List.map_append];simp only[aQi,List.map_nil];rw[aPR,hx];rfl
  rw[cU,W0];simp only[gsR,hlen,e1,e2,g1,g4,c1,cO,e3,c2,lU,t1];exact ih (i+1) k H2 acc2 U U U t4 (by rw[hn];exact t2) t3 ..
theorem aJK {cv:Value}{c:List Nat}(hc:Us H cv c)(hu8: ∀x∈c,x<256)(hl:c.length<=72057594037927936)(hm:100<m): ∃H' u,lvl prog bL m (.func 33) [cv] H=some (u,H')/\Ext H H'/\Iw H' u (ofT c)/\New H u:=by
 refine fJ (fB rfl rfl) U ?_
 rw[aIp];exact aJL hc hu8 hl (min c.length 5) 0 (m-1) H (.slice none 0 0) U U U (Fr.iQ _ _) Rw.fW (New.iI _) ..
theorem aJM {tv:Value}{t:List Int}(ht:Is H tv t)(hl:t.length<=72057594037927936): ∀(q i k:Nat),t.length-i=q->i<=t.length->q<k->(∀j,j<i->(decide (0<=t.getD j 0)&&decide (t.getD j 0<=j))=true)-> ∀(x1 x2 x4 x5 x6 x7 x8 x9 bG b9 aS aP aQ aO aT aU aR bA bK bX bJ bE aV aW:Value),
  aJ k (aM prog (lvl prog bL m) (aJ m) Mi) (E3 (lvl prog bL m) (aJ m)) [tv,x1,x2,(.I (i:Nat)),x4,x5,x6,x7,x8,x9,bG,b9,aS,aP,aQ,aO,aT,aU,aR,bA,bK,bX,bJ,bE,aV,aW] H=some (.bool (jE t),H):=by
 intro q;have hlen:=ht.fD;induction q with
 |zero=>
  intro i k hq hi hk hpre;intros;obtain⟨k,rfl⟩:=aB k U
  have e:decide ((i:Int)<(t.length:Int))=false:=aQx U
  have hr:jE t=decide ((t.length:Int)<=5):=by
   unfold jE;rw[aQs.mpr (λj hj=>hpre j (by have:=aQr.mp hj;omega)),aQa]
  rw[hr,cU,Xb];simp only[gsR,hlen,e];rw[aIE];simp only[gsR,hlen]
 |succ q ih=>
  intro i k hq hi hk hpre;intros;obtain⟨k,rfl⟩:=aB k U
  have e:decide ((i:Int)<(t.length:Int))=true:=aQw U
  have e3:=aA (i:=i) U
  obtain⟨x,hx⟩: ∃x,t[i]? =some x:=⟨_,aPP U⟩
  obtain⟨b,o,g1,_,g3⟩:=ht.fZ fA hx .i64;have g4:ld1 (.pointer (some ⟨b,o,none⟩)) H=some (.int .i64 x,H):=(g3 H rfl).2.1 0 _ rfl;have hd:=vG hx;have bad:(decide (0<=x)&&decide (x<=i))=false->jE t=false:=λh=>by
   rw[<-Bool.not_eq_true];unfold jE;rw[aPV,aQs];rintro ⟨hh,_⟩
   have:=hh i (aQr.mpr U)
   rw[hd,h] at this;cases this
  rw[cU,Xb];by_cases c1:x<0
  ·have d1:decide (x<0)=true:=aQw c1
   rw[bad (by rw[aQx U];rfl)]
   simp only[gsR,hlen,e,g1,g4,d1];rw[Xc];rfl
  ·have d1:decide (x<0)=false:=aQx c1
   by_cases c2:(i:Int)<x
   ·have d2:decide ((i:Int)<x)=true:=aQw c2
    rw[bad (by rw[aQx (show¬x<=i by omega),Bool.and_false])]
    simp only[gsR,hlen,e,g1,g4,d1,d2];rw[Xc];rfl
   ·have d2:decide ((i:Int)<x)=false:=aQx c2
    simp only[gsR,hlen,e,g1,g4,d1,d2,cO,e3];refine ih (i+1) k U U U (λj hj=> ?_) ..
    by_cases hji:j=i
    ·rw[hji,hd,aQw U,aQw U];rfl
    ·exact hpre j U
theorem Yg {tv:Value}{t:List Int}(ht:Is H tv t)(hm:t.length+10<m)(hm2:m<=72057594037927936):lvl prog bL m (.func 73) [tv] H=some (.bool (jE t),H):=by
 refine dI (fB rfl rfl) U ?_
 rw[aIF];exact aJM ht U t.length 0 (m-1) U U U (λj hj=>absurd hj U) ..
theorem aJQ {H0:aE}{tv:Value}{t:List Int}(ht:Is H0 tv t)(hr:jE t=true): ∀(q k:Nat)(v:Int)(H1:aE)(acc:Value)(pre:List Int),v.toNat<=q->0<=v/\v<=t.length->q<k->pre.length+q<=20->Ext H0 H1->Iw H1 acc (pre++[v])->New H0 acc-> ∀(x2 x3 x4 x6 x7 x8 x9 bG b9 aS aP aQ aO aT aU aR bA:Value),
  ∃H' u,aJ k (aM prog (lvl prog bL m) (aJ m) Lz) (L0 (lvl prog bL m) (aJ m)) [tv,(.I v),x2,x3,x4,acc,x6,x7,x8,x9,bG,b9,aS,aP,aQ,aO,aT,aU,aR,bA] H1=some (u,H')/\Ext H0 H'/\Iw H' u (pre++upL t q v)/\New H0 u:=by
 intro q;induction q with
 |zero=>
  intro k v H1 acc pre hv hvr hk hpl he ha hnew;intros;obtain⟨k,rfl⟩:=aB k U
  have e:decide (0<v)=false:=aQx U
  rw[cU,Ws];simp only[gsR,e];rw[Wu]
  exact⟨H1,acc,rfl,he,ha,hnew⟩
 |succ q ih=>
  intro k v H1 acc pre hv hvr hk hpl he ha hnew;intros;obtain⟨k,rfl⟩:=aB k U
  rw[cU,Ws];unfold upL;by_cases h0:0<v
  ·have e:decide (0<v)=true:=aQw h0
   rw[if_pos h0];have hev:v-1=(((v-1).toNat:Nat):Int):=U
   obtain⟨x,hx⟩: ∃x,t[(v-1).toNat]? =some x:=⟨_,aPP U⟩
   have hxr:=Yf hr hx;obtain⟨b,o,g1,_,g3⟩:=(ht.ext he).fZ fA hx .i64;rw[<-hev] at g1;have g4:ld1 (.Q b o) H1=some (.I x,H1):=(g3 H1 rfl).2.1 0 _ rfl;have e4:IntKind.i64.wrap (v-1)=v-1:=cZ U U
   obtain⟨acc2,H2,t1,t2,t3,t4⟩:=ha.o8 (by':=8) fA lD aC x hnew he (fV (n:=1000) aC (by simp;omega))
   simp only[gsR,e,iV,e4,g1,g4,lU,t1];have:=ih k x H2 acc2 (pre++[v]) U U U (by simp;omega) t4 t2 t3
   rw[vG hx];simp only[aPU,List.singleton_append] at this;exact this ..
  ·have e:decide (0<v)=false:=aQx h0
   rw[if_neg h0];simp only[gsR,e];rw[Wu]
   exact⟨H1,acc,rfl,he,ha,hnew⟩
theorem Yh {tv:Value}{t:List Int}(ht:Is H tv t)(hr:jE t=true){v:Int}(hv:0<=v/\v<=t.length)(hm:100<m): ∃H' u,lvl prog bL m (.func 126) [tv,.I v] H=some (u,H')/\Ext H H'/\Iw H' u (upT t v)/\New H u:=by
 have h5:t.length<=5:=by
  unfold jE at hr;rw[aPV] at hr;have:=of_decide_eq_true hr.2;omega
 have one:Iw (H++[.cells (inC v) 3 .row]) (.slice (some ⟨H.length,0,none⟩) 1 1) ([]++[v]):=⟨rfl,.inr ⟨_,1,[],rfl,by simp,rfl,by simp⟩⟩
 have hnew:New H (.slice (some ⟨H.length,0,none⟩) 1 1):=λb ⟨_,_,_,hh⟩=>by cases hh;exact aPS _
 refine fJ (fB rfl rfl) U ?_
 rw[aIf];simp only[gsR,lU];exact aJQ ht hr v.toNat (m-1) v _ _ [] (aPS _) hv U (by simp;omega) (Fr.app _ _ _) one hnew ..
theorem aJP {H0:aE}{bv:Value}{b:List Int}(hb:Is H0 bv b)(hbl:b.length<=10): ∀(q k:Nat)(H1:aE)(acc:Value)(pre:List Int),q<=b.length->q<k->pre.length+q<=40->Ext H0 H1->Iw H1 acc pre->New H0 acc-> ∀(x0 x1 x2 x3 x4 x5 x6 x7 b9 aS aP aQ aO aT aU aR bA bK bX bJ bE aV aW aX aY aZ bB bC bH bI bM bN bO bP bQ bR bS bT bU bY cA cD cE cI cJ cN cP cK cQ cR cW dA cX cY dD dF dL dH dM dU dW dY dZ eA eC eD eE eF eM eN eO eP eQ eS eT eU eV eW eX eY fN fO fP fQ fR fS fT fU:Value),
  ∃H' u,aJ k (aM prog (lvl prog bL m) (aJ m) Mk) (Mo (lvl prog bL m) (aJ m)) [x0,x1,x2,x3,x4,x5,x6,x7,bv,acc,(.I ((q:Int)-1)),b9,aS,aP,aQ,aO,aT,aU,aR,bA,bK,bX,bJ,bE,aV,aW,aX,aY,aZ,bB,bC,bH,bI,bM,bN,bO,bP,bQ,bR,bS,bT,bU,bY,cA,cD,cE,cI,cJ,cN,cP,cK,cQ,cR,cW,dA,cX,cY,dD,dF,dL,dH,dM,dU,dW,dY,dZ,eA,eC,eD,eE,eF,eM,eN,eO,eP,eQ,eS,eT,eU,eV,eW,eX,eY,fN,fO,fP,fQ,fR,fS,fT,fU] H1=some (u,H')/\Ext H0 H'/\Iw H' u (pre++(b.take q).reverse)/\New H0 u:=by
 intro q;induction q with
 |zero=>
  intro k H1 acc pre hq hk hpl he ha hnew;intros;obtain⟨k,rfl⟩:=aB k U
  have e:decide (0<=((0:Nat):Int)-1)=false:=by decide
  rw[cU,Xd];simp only[gsR,e];rw[aIH]
  exact⟨H1,acc,rfl,he,by simpa using ha,hnew⟩
 |succ q ih=>
  intro k H1 acc pre hq hk hpl he ha hnew;intros;obtain⟨k,rfl⟩:=aB k U
  have e:decide (0<=((q+1:Nat):Int)-1)=true:=aQw U
  have eq:(((q+1:Nat):Int)-1)=((q:Nat):Int):=U
  have e3:IntKind.i64.wrap (((q:Nat):Int)-1)=((q:Nat):Int)-1:=cZ U U
  obtain⟨x,hx⟩: ∃x,b[q]? =some x:=⟨_,aPP U⟩
  obtain⟨c,o,g1,_,g3⟩:=(hb.ext he).fZ fA hx .i64;have g4:ld1 (.Q c o) H1=some (.I x,H1):=(g3 H1 rfl).2.1 0 _ rfl;obtain⟨acc2,H2,t1,t2,t3,t4⟩:=ha.o8 (by':=8) fA lD aC x hnew he (fV (n:=1000) aC U)
  rw[cU,Xd];simp only[gsR,e,eq,g1,g4,lU,t1,iV,e3];have:=ih k H2 acc2 (pre++[x]) U U (by simp;omega) t4 t2 t3
  have hr:(b.take (q+1)).reverse=x::(b.take q).reverse:=by rw[List.take_add_one,hx];simp
  rw[hr];simp only[aPU,List.singleton_append] at this;exact this ..
theorem aJO {H0:aE}(hm:100<m): ∀(q k:Nat)(a b:List Int)(av bv:Value),a.length<=q->q<k->0<a.length->0<b.length->a.length<=10->b.length<=10->Is H0 av a->Is H0 bv b-> ∀(x0 x1 x2 x3 x4 x5 x6 x9 bG b9 aS aP aQ aO aT aU aR bA bK bX bJ bE aV aW aX aY aZ bB bC bH bI bM bN bO bP bQ bR bS bT bU bY cA cD cE cI cJ cN cP cK cQ cR cW dA cX cY dD dF dL dH dM dU dW dY dZ eA eC eD eE eF eM eN eO eP eQ eS eT eU eV eW eX eY fN fO fP fQ fR fS fT fU:Value),
  ∃H' u,aJ k (aM prog (lvl prog bL m) (aJ m) Mj) (Mn (lvl prog bL m) (aJ m)) [x0,x1,x2,x3,x4,x5,x6,av,bv,x9,bG,b9,aS,aP,aQ,aO,aT,aU,aR,bA,bK,bX,bJ,bE,aV,aW,aX,aY,aZ,bB,bC,bH,bI,bM,bN,bO,bP,bQ,bR,bS,bT,bU,bY,cA,cD,cE,cI,cJ,cN,cP,cK,cQ,cR,cW,dA,cX,cY,dD,dF,dL,dH,dM,dU,dW,dY,dZ,eA,eC,eD,eE,eF,eM,eN,eO,eP,eQ,eS,eT,eU,eV,eW,eX,eY,fN,fO,fP,fQ,fR,fS,fT,fU] H0=some (u,H')/\Ext H0 H'/\Iw H' u (Ff (A9 q a b))/\New H0 u:=by
 intro q;have fin: ∀(a b:List Int)(av bv:Value),0<b.length->a.length<=10->b.length<=10->Is H0 av a->Is H0 bv b-> ∀(x0 x1 x2 x3 x4 x5 x6 x9 bG b9 aS aP aQ aO aT aU aR bA bK bX bJ bE aV aW aX aY aZ bB bC bH bI bM bN bO bP bQ bR bS bT bU bY cA cD cE cI cJ cN cP cK cQ cR cW dA cX cY dD dF dL dH dM dU dW dY dZ eA eC eD eE eF eM eN eO eP eQ eS eT eU eV eW eX eY fN fO fP fQ fR fS fT fU:Value),∃H' u,Ml (lvl prog bL m) (aJ m) x0 x1 x2 x3 x4 x5 x6 av bv x9 bG b9 aS aP aQ aO aT aU aR bA bK bX bJ bE aV aW aX aY aZ bB bC bH bI bM bN bO bP bQ bR bS bT bU bY cA cD cE cI cJ cN cP cK cQ cR cW dA cX cY dD dF dL dH dM dU dW dY dZ eA eC eD eE eF eM eN eO eP eQ eS eT eU eV eW eX eY fN fO fP fQ fR fS fT fU H0=some (u,H')/\Ext H0 H'/\Iw H' u (Ff (a,b))/\New H0 u:=by
  intro a b av bv hb0 ha hb hav hbv;intros;obtain⟨v',H',t1,t2,t3,t4⟩:=(Rw.fW (el:=inC) (e:=3) (sz:=1) (H:=H0)).rY fA lD aC (by':=8) hav (New.iI H0) (Fr.iQ _ H0) (fV (n:=1000) aC (by simp;omega))
  rw[List.nil_append] at t2;have hlen:=(hbv.ext t4).fD;have e3:IntKind.i64.wrap ((b.length:Int)-2)=((b.length-1:Nat):Int)-1:=by rw[cZ U U];omega
  unfold Ml;simp only[gsR,t1,hlen,iV,e3];exact Exists.imp (λH2 h=>Exists.imp (λu h=>⟨h.1,h.2.1,h.2.2⟩) h) (aJP (m:=m) hbv hb (b.length-1) m H' v' a U U U t4 t2 t3 ..)
 induction q with
 |zero=>intro k a b av bv h1 _ h2;omega
 |succ q ih=>
  intro k a b av bv haq hk ha0 hb0 ha10 hb10 hav hbv;intros;obtain⟨k,rfl⟩:=aB k U
  have la:=hav.fD;have lb:=hbv.fD;rw[cU,aIG];unfold A9;by_cases c1:1<a.length
  ·have d1:decide ((1:Int)<(a.length:Int))=true:=aQw U
   by_cases c2:1<b.length
   ·have d2:decide ((1:Int)<(b.length:Int))=true:=aQw U
    obtain⟨x,hx⟩: ∃x,a[a.length-2]? =some x:=⟨_,aPP U⟩
    obtain⟨y,hy⟩: ∃y,b[b.length-2]? =some y:=⟨_,aPP U⟩
    have ea:IntKind.i64.wrap ((a.length:Int)-2)=((a.length-2:Nat):Int):=by rw[cZ U U];omega
    have eb:IntKind.i64.wrap ((b.length:Int)-2)=((b.length-2:Nat):Int):=by rw[cZ U U];omega
    have ea1:IntKind.i64.wrap ((a.length:Int)-1)=((a.length-1:Nat):Int):=by rw[cZ U U];omega
    have eb1:IntKind.i64.wrap ((b.length:Int)-1)=((b.length-1:Nat):Int):=by rw[cZ U U];omega
    obtain⟨c,o,g1,_,g3⟩:=hav.fZ fA hx .i64;have g4:ld1 (.Q c o) H0=some (.I x,H0):=(g3 H0 rfl).2.1 0 _ rfl;obtain⟨c',o',k1,_,k3⟩:=hbv.fZ fA hy .i64;have k4:ld1 (.Q c' o') H0=some (.I y,H0):=(k3 H0 rfl).2.1 0 _ rfl;by_cases c3:x=y
    ·have d3:(x==y)=true:=by simp[c3]
     rw[if_pos ⟨c1,c2,by rw[vG hx,vG hy,c3]⟩]
     have na:a≠[]:=λh=>by rw[h] at ha0;simp at ha0
     have nb:b≠[]:=λh=>by rw[h] at hb0;simp at hb0
     obtain⟨a',s1,s2,_⟩:=hav.C6 (P:=prog) fA szI na (lo:=none) rfl (mN a.length .i64 (a.length-1)) (Nat.zero_le _) U
     obtain⟨b',s3,s4,_⟩:=hbv.C6 (P:=prog) fA szI nb (lo:=none) rfl (mN b.length .i64 (b.length-1)) (Nat.zero_le _) U
     rw[List.drop_zero] at s2 s4;simp only[gsR,la,d1,lb,d2,iV,ea,eb,g1,g4,k1,k4,d3,ea1,eb1,s1,s3];exact ih k _ _ a' b' (by simp;omega) U (by simp;omega) (by simp;omega) (by simp;omega) (by simp;omega) s2 s4 ..
    ·have d3:(x==y)=false:=by simp[c3]
     rw[if_neg (by rw[vG hx,vG hy];rintro ⟨_,_,h⟩;exact c3 h)]
     simp only[gsR,la,d1,lb,d2,iV,ea,eb,g1,g4,k1,k4,d3];rw[Mm];exact fin a b av bv hb0 ha10 hb10 hav hbv ..
   ·have d2:decide ((1:Int)<(b.length:Int))=false:=aQx U
    rw[if_neg U]
    simp only[gsR,la,d1,lb,d2];rw[Mm];exact fin a b av bv hb0 ha10 hb10 hav hbv ..
  ·have d1:decide ((1:Int)<(a.length:Int))=false:=aQx U
   rw[if_neg U]
   simp only[gsR,la,d1];rw[Mm];exact fin a b av bv hb0 ha10 hb10 hav hbv ..
theorem aJN {tv:Value}{t:List Int}(ht:Is H tv t)(hr:jE t=true){v w:Int}(hv:0<=v/\v<=t.length)(hw:0<=w/\w<=t.length)(hm:200<m)(hm2:m<=72057594037927936):
  ∃H' u,lvl prog bL m (.func 74) [tv,.I v,.I w] H=some (u,H')/\Ext H H'/\Iw H' u (o9 t v w)/\New H u:=by
 have h5:t.length<=5:=by
  unfold jE at hr;rw[aPV] at hr;have:=of_decide_eq_true hr.2;omega
 have g1:=Yg ht (m:=m-1) U U
 rw[hr] at g1;have hlen:=ht.fD;have d1:decide (v<0)=false:=aQx U
 have d2:decide ((t.length:Int)<v)=false:=aQx U
 have d3:decide (w<0)=false:=aQx U
 have d4:decide ((t.length:Int)<w)=false:=aQx U
 obtain⟨H1,a,g2,x1,qa,_⟩:=Yh ht hr hv (m:=m-1) U
 obtain⟨H2,b,g3,x2,qb,_⟩:=Yh (ht.ext x1) hr hw (m:=m-1) U
 have la:=M6 t v.toNat v;have lb:=M6 t w.toNat w;have e:o9 t v w=Ff (A9 (upT t v).length (upT t v) (upT t w)):=by unfold o9;rw[if_pos ⟨hr,hv.1,hv.2,hw.1,hw.2⟩]
 refine fJ (fB rfl rfl) U ?_
 rw[aII];simp only[gsR,g1,hlen,d1,d2,d3,d4,g2,g3];rw[e];have hla:(upT t v).length=(upL t v.toNat v).length:=rfl;have hlb:(upT t w).length=(upL t w.toNat w).length:=rfl;exact Exists.imp (λH' h=>Exists.imp (λu h=>⟨h.1,(x1.tr x2).tr h.2.1,h.2.2.1,λc hc=>aP3 (x1.tr x2).1 (h.2.2.2 c hc)⟩) h) (aJO (m:=m-1) U (upT t v).length (m-1) _ _ a b (aPS _) U U U U U (qa.rs.ext x2) qb.rs ..)
end
def tY:Nat->List (List Int)
 |0=>[[]]
 |k+1=>(tY k).flatMap λt=>(List.range (k+1)).map λx:Nat=>t++[(x:Int)]
theorem aJW {t:List Int}{x:Int}(h:jE (t++[x])=true):jE t=true/\0<=x/\x<=t.length:=by
 have hx:=Yf h (i:=t.length) (x:=x) (by simp)
 refine⟨?_,hx.1,hx.2.1⟩;unfold jE at h⊢;rw[aPV,aQs] at h⊢;refine⟨λj hj=> ?_,?_⟩
 ·have hjl:=aQr.mp hj
  have:=h.1 j (aQr.mpr (by simp;omega))
  rw[aPR,aPQ hjl] at this;rw[aPR];exact this
 ·have h2:=of_decide_eq_true h.2
  simp at h2;exact aQw U
theorem Yi: ∀(k:Nat)(t:List Int),t.length=k->jE t=true->t∈tY k
 |0,t,hl,_=>by
  rw[aP5.mp hl];simp[tY]
 |k+1,t,hl,h=>by
  obtain⟨s,x,rfl⟩: ∃s x,t=s++[x]:=by
   refine⟨t.dropLast,t.getLast (λhh=>by rw[hh] at hl;simp at hl),?_⟩
   exact(List.dropLast_concat_getLast _).symm
  obtain⟨h1,h2,h3⟩:=aJW h;have hsl:s.length=k:=by simpa using hl
  unfold tY;rw[List.mem_flatMap];refine⟨s,Yi k s hsl h1,aQq.mpr ⟨x.toNat,aQr.mpr U,?_⟩⟩
  rw[show((x.toNat:Nat):Int)=x by omega]
def yV (t:List Int):PlanD:=cpP (t.length+1) (yU t) (nK t)
def wY (t:List Int):Bool:=kM (yV t)&&(decide (jD (yV t)=0)&&(List.range (t.length+1)).all λv=>(List.range (t.length+1)).all λw=>decide (nU (yV t) v w=o9 t v w)&&(decide (v=w)||decide (2<=(o9 t v w).length)))
theorem aJR:(tY 1).all wY=true:=by decide+kernel
theorem aJS:(tY 2).all wY=true:=by decide+kernel
theorem aJT:(tY 3).all wY=true:=by decide+kernel
theorem aJU:(tY 4).all wY=true:=by decide+kernel
theorem aJV:(tY 5).all wY=true:=by decide+kernel
theorem aJ4 {t:List Int}(hr:jE t=true)(h1:1<=t.length):wY t=true:=by
 have h5:t.length<=5:=by
  unfold jE at hr;rw[aPV] at hr;have:=of_decide_eq_true hr.2;omega
 have hm:=Yi t.length t rfl hr;have hc:t.length=1∨t.length=2∨t.length=3∨t.length=4∨t.length=5:=U
 rcases hc with h|h|h|h|h<;>rw[h] at hm
 ·exact aQs.mp aJR t hm
 ·exact aQs.mp aJS t hm
 ·exact aQs.mp aJT t hm
 ·exact aQs.mp aJU t hm
 ·exact aQs.mp aJV t hm
def Fh (t:List Int)(v:Nat):List Int:=(List.range (t.length+1)).map λw:Nat=>if v=w then(v:Int) else(o9 t v w).getD 1 0
structure TG (t:List Int):Prop where
 ok:kM (yV t)=true
 er:jD (yV t)=0
 pa: ∀v w:Nat,v<=t.length->w<=t.length->nU (yV t) v w=o9 t v w
 l2: ∀v w:Nat,v<=t.length->w<=t.length->v≠w->2<=(o9 t v w).length
theorem aJ3 {t:List Int}(hr:jE t=true)(h1:1<=t.length):TG t:=by
 have h:=aJ4 hr h1;unfold wY at h;simp only[aPV,decide_eq_true_eq,aQs,aQr,Bool.or_eq_true] at h;obtain⟨h1,h2,h3⟩:=h
 exact⟨h1,h2,λv w hv hw=>(h3 v U w U).1,λv w hv hw hne=>((h3 v U w U).2).resolve_left hne⟩
section
variable {H : aE} {m : Nat} {p : PlanD} {ev wv nv : Value}
theorem aJY {α:Type}{el:α->List Value}{e e':TypeId}{sz by':Nat}(hsz: ∀x,(el x).length=sz)(hall: ∀x,dV (el x)=true)(h0:0<sz){H0:aE}{v w:Value}{xs ys:List α}{b j:Nat}{cs:List Value}
  (hb:H[b]? =some (.cells cs 28 .fix))(hj:j<cs.length)(hv:Rw el e sz H v xs)(hw:Rs el e' H w ys)(hn:New H0 v)(hbn:H0.length<=b)(he:Ext H0 H)(hr:j7 (xs.length+ys.length) by'=true):
  ∃v' H1 H',app e sz by' v w H=some (v',H1)/\stN 1 (.Q b j) v' H1=some (undef,H')/\
   Rw el e sz H' v' (xs++ys)/\New H0 v'/\Ext H0 H'/\H'[b]? =some (.cells (cs.set j v') 28 .fix)/\Eb b e H H':=by
 obtain⟨v',H1,g1,g2,g3,g4,g5⟩:=hv.wN hsz hall h0 (by':=by') hw hr;have hbl:=(aPN.mp hb).1;have hl:=he.1;have hnh: ¬cV v b:=λhh=>by
  obtain⟨c',hc'⟩:=hv.blk hh;rw[hb] at hc';simp at hc'
 have hb1:H1[b]? =some (.cells cs 28 .fix):=by rw[g4 b hbl hnh,hb]
 obtain⟨s1,s2⟩:=g2.uY;have hb1l:=(aPN.mp hb1).1;refine⟨v',H1,H1.set b (.cells (cs.set j v') 28 .fix),g1,?_,g2.fG λc hc=> ?_,λc hc=> ?_,⟨by rw[List.length_set];omega,λc hc _=> ?_⟩,aPT hb1l,λc y hcb hA hy=> ?_⟩
 ·rw[mB 1 _ _ _ (by rw[s1];rfl),hb1,s1,nG _ _ _ _ _ _ aC (by simp;omega) s2]
  rfl
 ·refine aPO λhh=> ?_
  subst hh;obtain⟨c',hc'⟩:=g2.blk hc;rw[hb1] at hc';simp at hc'
 ·rcases g5 c hc with h|⟨h,_⟩
  ·exact hn c h
  ·omega
 ·rw[aPO U,g4 c U (λh=>by have:=hn c h;omega),he.2 c hc id]
 ·have hch: ¬cV v c:=λhh=>by
   obtain⟨c',hc'⟩:=hv.blk hh;rw[hy] at hc';cases hc';exact hA _ rfl
  rw[aPO (Ne.symm hcb),g4 c (aPN.mp hy).1 hch,hy]
structure LA (H0 H1:aE)(pb rb:Nat)(q:PlanD)(ev wv nv:Value):Prop where
 ext:Ext H0 H1
 blk:H1[pb]? =some (plB q ev wv nv)
 res:H1[rb]? =some plZ
 ne:rb≠pb
 lp:H0.length<=pb
 lr:H0.length<=rb
theorem LA.aJX {H0 H1 H2:aE}{pb rb:Nat}{q:PlanD}(h:LA H0 H1 pb rb q ev wv nv)(he:Ext H1 H2):LA H0 H2 pb rb q ev wv nv:=⟨h.ext.tr he,dT h.blk he,dT h.res he,h.ne,h.lp,h.lr⟩
theorem M7 {H0 H1:aE}{b rb:Nat}{e:TypeId}(hk:Eb b e H0 H1)(hr:H0[rb]? =some plZ)(hne:rb≠b):H1[rb]? =some plZ:=hk rb _ hne (λcs hh=>by simp[plZ] at hh) hr
def Fg (H0:aE)(q:PlanD)(H':aE)(r:Value):Prop:= ∃ev wv nv,r= .tuple #[plV q ev wv nv,.I 0]/\Ext H0 H'/\PV H' q ev wv nv
variable {t : List Int} {tv : Value} {H0 : aE} {pb rb : Nat}
theorem aJ2 {Hb:aE}{v:Nat}(hr:jE t=true)(hg:TG t)(ht:Is Hb tv t)(hv:v<t.length+1)(hm:400<m)(hm2:m<=72057594037927936){K:Ex->K (Value×aE)}{Q:aE->Value->Prop}
  (hK: ∀(H':aE)(u:Value),Ext Hb H'->Iw H' u ((List.range (t.length+1)).map λw=>if v=w then(v:Int) else(o9 t v w).getD 1 0)->New Hb u-> ∀(x0 x3 x5 x7 x8 b9 aS aP aQ aO aT aU aR bA bK bX bJ bE aV aW aX aY aZ bB bC bH bI bM bN bO bP bQ bR bS bT bU bY cA cD cE cI cJ cN cP cK cQ cR cW dA cX cY dD dF dL dH dM dU dW dY dZ eA eC eD eE eF eM eN eO eP eQ eS eT eU eV eW eX eY:Value),∃H2 r,L4 (lvl prog bL m) (aJ m) K x0 tv (.Q pb 0) x3 (.Q rb 0) x5 (.I (t.length+1:Nat)) x7 x8 (.I (v:Nat)) u b9 aS aP aQ aO aT aU aR bA bK bX bJ bE aV aW aX aY aZ bB bC bH bI bM bN bO bP bQ bR bS bT bU bY cA cD cE cI cJ cN cP cK cQ cR cW dA cX cY dD dF dL dH dM dU dW dY dZ eA eC eD eE eF eM eN eO eP eQ eS eT eU eV eW eX eY H'=some (r,H2)/\Q H2 r):
  ∀(k0 w k:Nat)(H1:aE)(acc:Value),t.length+1-w=k0->w<=t.length+1->k0<k->Ext Hb H1->Iw H1 acc ((List.range w).map λw=>if v=w then(v:Int) else(o9 t v w).getD 1 0)->New Hb acc-> ∀(x0 x3 x5 x7 x8 aS aP aQ aO aT aU aR bA bK bX bJ bE aV aW aX aY aZ bB bC bH bI bM bN bO bP bQ bR bS bT bU bY cA cD cE cI cJ cN cP cK cQ cR cW dA cX cY dD dF dL dH dM dU dW dY dZ eA eC eD eE eF eM eN eO eP eQ eS eT eU eV eW eX eY:Value),
  ∃H' r,aJ k (aM prog (lvl prog bL m) (aJ m) L3) (L7 (lvl prog bL m) (aJ m) K) [x0,tv,(.Q pb 0),x3,(.Q rb 0),x5,(.I (t.length+1:Nat)),x7,x8,(.I (v:Nat)),acc,(.I (w:Nat)),aS,aP,aQ,aO,aT,aU,aR,bA,bK,bX,bJ,bE,aV,aW,aX,aY,aZ,bB,bC,bH,bI,bM,bN,bO,bP,bQ,bR,bS,bT,bU,bY,cA,cD,cE,cI,cJ,cN,cP,cK,cQ,cR,cW,dA,cX,cY,dD,dF,dL,dH,dM,dU,dW,dY,dZ,eA,eC,eD,eE,eF,eM,eN,eO,eP,eQ,eS,eT,eU,eV,eW,eX,eY] H1=some (r,H')/\Q H' r:=by
 intro k0;have h5:t.length<=5:=by
  unfold jE at hr;rw[aPV] at hr;have:=of_decide_eq_true hr.2;omega
 induction k0 with
 |zero=>
  intro w k H1 acc hq hi hk he ha hnew;intros;obtain⟨k,rfl⟩:=aB k U
  obtain rfl:w=t.length+1:=U
  have e:decide (((t.length+1:Nat):Int)<((t.length+1:Nat):Int))=false:=by simp
  rw[cU,Wz];simp only[gsR,e];rw[aIn];exact hK H1 acc he ha hnew ..
 |succ k0 ih=>
  intro w k H1 acc hq hi hk he ha hnew;intros;obtain⟨k,rfl⟩:=aB k U
  have e:decide ((w:Int)<((t.length+1:Nat):Int))=true:=aQw U
  have e3:=aA (i:=w) U
  have hrow: ∀x:Int,(if v=w then(v:Int) else(o9 t v w).getD 1 0)=x->((List.range (w+1)).map λw=>if v=w then(v:Int) else(o9 t v w).getD 1 0)=((List.range w).map λw=>if v=w then(v:Int) else(o9 t v w).getD 1 0)++[x]:=λx hx=>by
   rw[aQm,List.map_append];simp only[aQi,List.map_nil];rw[hx]
  rw[cU,Wz];by_cases hvw:v=w
  ·have d:((v:Int)!=(w:Int))=false:=by simp[hvw]
   obtain⟨acc2,H2,t1,t2,t3,t4⟩:=ha.o8 (by':=8) fA lD aC (v:Int) hnew he (fV (n:=1000) aC (by simp;omega))
   simp only[gsR,e,d,lU,t1,cO,e3];exact ih (w+1) k H2 acc2 U U U t4 (by rw[hrow v (if_pos hvw)];exact t2) t3 ..
  ·have d:((v:Int)!=(w:Int))=true:=by simp;omega
   obtain⟨H2,u,g1,x2,q2,_⟩:=aJN (ht.ext he) hr (v:=v) (w:=w) U U (m:=m) U U
   obtain⟨x,hx⟩: ∃x,(o9 t v w)[1]? =some x:=by
    have:=hg.l2 v w U U hvw
    exact⟨_,aPP U⟩
   obtain⟨c,o,k1,_,k3⟩:=q2.rs.fZ fA hx .i64;have k1:cB 1 u (.int .i64 1)=some (.pointer (some ⟨c,o,none⟩)):=k1;have k4:ld1 (.pointer (some ⟨c,o,none⟩)) H2=some (.int .i64 x,H2):=(k3 H2 rfl).2.1 0 _ rfl;have ha2:=ha.fG (H':=H2) λb hb=>x2.2 b (ha.fY hb) id
   obtain⟨acc2,H3,t1,t2,t3,t4⟩:=ha2.o8 (by':=8) fA lD aC x hnew (he.tr x2) (fV (n:=1000) aC (by simp;omega))
   simp only[gsR,e,d,g1,k1,k4,lU,t1,cO,e3];exact ih (w+1) k H3 acc2 U U U t4 (by rw[hrow x (by rw[if_neg hvw,vG hx])];exact t2) t3 ..
theorem aJ1 {q:PlanD}{ev1 wv1:Value}(hr:jE t=true)(hg:TG t)(ht:Is H0 tv t)(hm:500<m)(hm2:m<=72057594037927936)(hqe:q.edges=yU t)(hqw:q.weights.length<=1000):
  ∀(k0 v k:Nat)(H1:aE)(nv1:Value)(us:List SV),t.length+1-v=k0->v<=t.length+1->k0<k->LA H0 H1 pb rb q ev1 wv1 nv1->Ew H1 ev1 q.edges->Iw H1 wv1 q.weights->Rw sC 25 1 H1 nv1 us->New H0 nv1->WR H1 us ((List.range v).map (Fh t))-> ∀(x0 x3 x5 x7 x8 bG b9 aS aP aQ aO aT aU aR bA bK bX bJ bE aV aW aX aY aZ bB bC bH bI bM bN bO bP bQ bR bS bT bU bY cA cD cE cI cJ cN cP cK cQ cR cW dA cX cY dD dF dL dH dM dU dW dY dZ eA eC eD eE eF eM eN eO eP eQ eS eT eU eV eW eX eY:Value),
  ∃H' r,aJ k (aM prog (lvl prog bL m) (aJ m) L2) (L6 (lvl prog bL m) (aJ m)) [x0,tv,(.Q pb 0),x3,(.Q rb 0),x5,(.I (t.length+1:Nat)),x7,x8,(.I (v:Nat)),bG,b9,aS,aP,aQ,aO,aT,aU,aR,bA,bK,bX,bJ,bE,aV,aW,aX,aY,aZ,bB,bC,bH,bI,bM,bN,bO,bP,bQ,bR,bS,bT,bU,bY,cA,cD,cE,cI,cJ,cN,cP,cK,cQ,cR,cW,dA,cX,cY,dD,dF,dL,dH,dM,dU,dW,dY,dZ,eA,eC,eD,eE,eF,eM,eN,eO,eP,eQ,eS,eT,eU,eV,eW,eX,eY] H1=some (r,H')/\Fg H0 {q with next:=nK t} H' r:=by
 intro k0;have h5:t.length<=5:=by
  unfold jE at hr;rw[aPV] at hr;have:=of_decide_eq_true hr.2;omega
 induction k0 with
 |zero=>
  intro v k H1 nv1 us hq hi hk hL he1 hw1 hn1 hnew hwr;intros;obtain⟨k,rfl⟩:=aB k U
  obtain rfl:v=t.length+1:=U
  have e:decide (((t.length+1:Nat):Int)<((t.length+1:Nat):Int))=false:=by simp
  have hrows:Rows H1 nv1 (nK t):=hwr.E6 hn1.rs;have hb':H1[pb]? =some (plB {q with next:=nK t} ev1 wv1 nv1):=hL.blk
  have l11:=fL hb';have hqel:q.edges.length<=5:=by rw[hqe];simp[yU];exact h5
  have hpv:PV H1 {q with next:=nK t} ev1 wv1 nv1:=⟨he1.rs,hw1.rs,hrows,by show q.edges.length<=_;omega,by show q.weights.length<=_;omega,by show(nK t).length<=_;unfold nK;rw[aJJ];omega⟩
  have hrl:=(aPN.mp hL.res).1;have hall:=hpv.Lp;have st:stN 11 (.Q rb 0) (plV {q with next:=nK t} ev1 wv1 nv1) H1=some (undef,H1.set rb (plB {q with next:=nK t} ev1 wv1 nv1)):=by
   have e1:(plV {q with next:=nK t} ev1 wv1 nv1).cells.toList=plC {q with next:=nK t} ev1 wv1 nv1:=rfl
   rw[mB 11 _ _ _ rfl,hL.res,e1];unfold plZ;exact nG _ _ _ _ _ _ aC (by simp[plC]) hall
  have l2:=fL (aPT (a:=plB {q with next:=nK t} ev1 wv1 nv1) hrl)
  have kp: ∀(b:Nat)(cs:List Value)(e:TypeId),H1[b]? =some (.cells cs e .row)->(H1.set rb (plB {q with next:=nK t} ev1 wv1 nv1))[b]? =H1[b]? :=λb cs e hb=>by
   refine aPO λhh=> ?_
   subst hh;rw[hL.res] at hb;simp[plZ] at hb
  have x2:Ext H0 (H1.set rb (plB {q with next:=nK t} ev1 wv1 nv1)):=qE hL.ext hL.lr
  have hpv2:PV (H1.set rb (plB {q with next:=nK t} ev1 wv1 nv1)) {q with next:=nK t} ev1 wv1 nv1:=by
   refine⟨(he1.fG λb hb=> ?_).rs,(hw1.fG λb hb=> ?_).rs,(hwr.wV λb cs hb=>kp b cs _ hb).E6 (hn1.fG λb hb=> ?_).rs,hpv.be,hpv.bw,hpv.bn⟩
   ·obtain⟨cs,hc⟩:=he1.blk hb
    exact kp b cs _ hc
   ·obtain⟨cs,hc⟩:=hw1.blk hb
    exact kp b cs _ hc
   ·obtain⟨cs,hc⟩:=hn1.blk hb
    exact kp b cs _ hc
  rw[cU,Wy];simp only[gsR,e];rw[aIm];simp only[gsR,l11,st,l2]
  exact⟨_,_,rfl,ev1,wv1,nv1,rfl,x2,hpv2⟩
 |succ k0 ih=>
  intro v k H1 nv1 us hq hi hk hL he1 hw1 hn1 hnew hwr;intros;obtain⟨k,rfl⟩:=aB k U
  have e:decide ((v:Int)<((t.length+1:Nat):Int))=true:=aQw U
  have e3:=aA (i:=v) U
  rw[cU,Wy];simp only[gsR,e];refine aJ2 (pb:=pb) (rb:=rb) (Q:=Fg H0 {q with next:=nK t}) hr hg (ht.ext hL.ext) (v:=v) U U hm2 (λH2 u x2 hu hun=> ?_) (t.length+1) 0 m H1 _ U U U (Fr.iQ _ _) (Rw.fW (el:=inC)) (New.iI _) ..
  intros;have hL2:=hL.aJX x2;have l10:=dE hL2.blk 10 _ rfl;have hn2:Rw sC 25 1 H2 nv1 us:=hn1.fG λb hb=>x2.2 b (hn1.fY hb) id
  have hwr2:=hwr.wV (H':=H2) λb cs hb=>x2.2 b (aPN.mp hb).1 id
  have he2:=he1.fG (H':=H2) λb hb=>x2.2 b (he1.fY hb) id
  have hw2:=hw1.fG (H':=H2) λb hb=>x2.2 b (hw1.fY hb) id
  have hul:us.length<=10:=by have:=hwr.len;simp at this;omega
  obtain⟨nv2,H3,H4,r1,r2,r3,r4,r5,r6,r7⟩:=vD (by':=24) (H0:=H0) (b:=pb) (j:=10) yR yQ aC (oD hu) hL2.blk (by show 10<11;omega) hn2 hnew hL.lp hL2.ext (fV (n:=1000) aC U)
  have bl:dG 25 1 1 [.slice none 0 0] [(0,u)] H2=some (.slice (some ⟨H2.length,0,none⟩) 1 1,H2++[.cells (sC (oD hu)) 25 .row]):=by
   have h0:u.cells= #[u]:=(oD hu).2.2;unfold dG;have:Instr.fill (λi=>some (i*1,1)) (List.replicate 1 [Value.slice none 0 0]).flatten.toArray [(0,u)]=some #[u]:=by
    simp[Instr.fill,h0]
   rw[this];rfl
  have hL4:LA H0 H4 pb rb q ev1 wv1 nv2:=⟨r5,r6,M7 r7 hL2.res hL.ne,hL.ne,hL.lp,hL.lr⟩;have w4:=(hwr2.Ms (s:=oD hu) hu).wV (H':=H4) λb cs hb=>by
   have hbp:b≠pb:=λhh=>by
    subst hh;rw[hL2.blk] at hb;simp[plB] at hb
   rw[hb];exact r7 b _ hbp (λcs' hh=>by cases hh) hb
  unfold L4;simp only[gsR,l10,bl,r1,r2,cO,e3];refine ih (v+1) k H4 nv2 _ U U U hL4 (Rw.rB he2 r7 hL2.blk aC) (Rw.rB hw2 r7 hL2.blk aC) r3 r4 ?_ ..
  have hrs:(List.range (v+1)).map (Fh t)=(List.range v).map (Fh t)++[Fh t v]:=by rw[aQm,List.map_append];rfl
  exact hrs▸w4
theorem aJ0 {q:PlanD}{ws:List Int}{nv0:Value}(hr:jE t=true)(hg:TG t)(ht:Is H0 tv t)(hw0:Is H0 wv ws)(hwl:ws.length<=1000)(hm:500<m)(hm2:m<=72057594037927936)(hqe:q.edges=yU t)(hqw:q.weights=ws):
  ∀(k0 v k:Nat)(H1:aE)(ev1:Value),t.length-v=k0->v<=t.length->k0<k->LA H0 H1 pb rb q ev1 wv nv0->Ew H1 ev1 ((List.range v).map λi=>(t.getD i 0,((i+1:Nat):Int)))->New H0 ev1-> ∀(x0 x3 x5 x8 x9 bG b9 aS aP aQ aO aT aU aR bA bK bX bJ bE aV aW aX aY aZ bB bC bH bI bM bN bO bP bQ bR bS bT bU bY cA cD cE cI cJ cN cP cK cQ cR cW dA cX cY dD dF dL dH dM dU dW dY dZ eA eC eD eE eF eM eN eO eP eQ eS eT eU eV eW eX eY:Value),
  ∃H' r,aJ k (aM prog (lvl prog bL m) (aJ m) L1) (L5 (lvl prog bL m) (aJ m)) [x0,tv,(.Q pb 0),x3,(.Q rb 0),x5,(.I (t.length+1:Nat)),(.I (v+1:Nat)),x8,x9,bG,b9,aS,aP,aQ,aO,aT,aU,aR,bA,bK,bX,bJ,bE,aV,aW,aX,aY,aZ,bB,bC,bH,bI,bM,bN,bO,bP,bQ,bR,bS,bT,bU,bY,cA,cD,cE,cI,cJ,cN,cP,cK,cQ,cR,cW,dA,cX,cY,dD,dF,dL,dH,dM,dU,dW,dY,dZ,eA,eC,eD,eE,eF,eM,eN,eO,eP,eQ,eS,eT,eU,eV,eW,eX,eY] H1=some (r,H')/\Fg H0 {q with next:=nK t} H' r:=by
 intro k0;have h5:t.length<=5:=by
  unfold jE at hr;rw[aPV] at hr;have:=of_decide_eq_true hr.2;omega
 induction k0 with
 |zero=>
  intro v k H1 ev1 hq hi hk hL he1 hen;intros;obtain⟨k,rfl⟩:=aB k U
  obtain rfl:v=t.length:=U
  have e:decide (((t.length+1:Nat):Int)<((t.length+1:Nat):Int))=false:=by simp
  have l8:=dE hL.blk 8 _ rfl;obtain⟨wv1,H2,H3,r1,r2,r3,r4,r5,r6,r7⟩:=aJY (by':=8) (H0:=H0) fA lD aC hL.blk (show 8<11 by omega) (Rw.fW (el:=inC) (e:=3) (sz:=1)) (hw0.ext hL.ext) (New.iI _) hL.lp hL.ext (fV (n:=100000) aC (by simp;omega))
  rw[List.nil_append] at r3;have hL3:LA H0 H3 pb rb q ev1 wv1 nv0:=⟨r5,r6,M7 r7 hL.res hL.ne,hL.ne,hL.lp,hL.lr⟩;have he3:=Rw.rB he1 r7 hL.blk aC
  have st:=Ei (q':=q) (ev':=ev1) (wv':=wv1) (nv':= .slice none 0 0) (j:=10) (v:= .slice none 0 0) hL3.blk rfl rfl U rfl
  obtain⟨H4,hH4⟩:=aD (H3.set pb (plB q ev1 wv1 (.slice none 0 0)));rw[<-hH4] at st;have other: ∀b,b≠pb->H4[b]? =H3[b]? :=λb hb=>by rw[hH4];exact aPO (Ne.symm hb)
  have nrow: ∀(b:Nat)(cs:List Value)(e:TypeId),H3[b]? =some (.cells cs e .row)->b≠pb:=λb cs e hb hh=>by
   subst hh;rw[hL3.blk] at hb;simp[plB] at hb
  have hL4:LA H0 H4 pb rb q ev1 wv1 (.slice none 0 0):=⟨by rw[hH4];exact qE r5 hL.lp,by rw[hH4];exact aPT (aPN.mp hL3.blk).1,by rw[other rb hL.ne];exact hL3.res,hL.ne,hL.lp,hL.lr⟩
  have he4:Ew H4 ev1 (yU t):=he3.fG λb hb=>by
   obtain⟨cs,hc⟩:=he3.blk hb;exact other b (nrow b cs _ hc)
  have hw4:Iw H4 wv1 ws:=r3.fG λb hb=>by
   obtain⟨cs,hc⟩:=r3.blk hb;exact other b (nrow b cs _ hc)
  rw[cU,Wx];simp only[gsR,e];rw[aIl];simp only[gsR,l8,r1,r2,st];exact aJ1 hr hg ht hm hm2 hqe (by rw[hqw];omega) (t.length+1) 0 m H4 (.slice none 0 0) [] U U U hL4 (by rw[hqe];exact he4) (by rw[hqw];exact hw4) Rw.fW (New.iI _) ⟨rfl,λj s xs h=>by simp at h⟩ ..
 |succ k0 ih=>
  intro v k H1 ev1 hq hi hk hL he1 hen;intros;obtain⟨k,rfl⟩:=aB k U
  have e:decide (((v+1:Nat):Int)<((t.length+1:Nat):Int))=true:=aQw U
  have e3:IntKind.i64.wrap (((v+1:Nat):Int)+1)=((v+1+1:Nat):Int):=by rw[cZ U U];omega
  have e4:IntKind.i64.wrap (((v+1:Nat):Int)-1)=((v:Nat):Int):=by rw[cZ U U];omega
  have l1:=dE hL.blk 1 _ rfl;obtain⟨x,hx⟩: ∃x,t[v]? =some x:=⟨_,aPP U⟩
  obtain⟨b,o,g1,_,g3⟩:=(ht.ext hL.ext).fZ fA hx .i64;have g4:ld1 (.Q b o) H1=some (.I x,H1):=(g3 H1 rfl).2.1 0 _ rfl;have be:=bEd x ((v+1:Nat):Int);obtain⟨ev2,H2,H3,r1,r2,r3,r4,r5,r6,r7⟩:=vD (by':=16) (H0:=H0) (b:=pb) (j:=1) oS Dv aC (x,((v+1:Nat):Int)) hL.blk (by show 1<11;omega) he1 hen hL.lp hL.ext (fV (n:=1000) aC (by simp;omega))
  have hL3:LA H0 H3 pb rb q ev2 wv nv0:=⟨r5,r6,M7 r7 hL.res hL.ne,hL.ne,hL.lp,hL.lr⟩;rw[cU,Wx];simp only[gsR,e,l1,iV,e4,g1,g4,be,aH3,r1,r2,cO,e3];refine ih (v+1) k H3 ev2 U U U hL3 ?_ r4 ..
  rw[aQm,List.map_append];simp only[aQi,List.map_nil];rw[vG hx];exact r3
theorem aJZ (hp:PV H p ev wv nv)(hwl:p.weights.length<=1000)(ht:Is H tv t)(hr:jE t=true)(h1:1<=t.length)(hm:600<m)(hm2:m<=72057594037927936):
  ∃H' r,lvl prog bL m (.func 32) [plV p ev wv nv,tv] H=some (r,H')/\Fg H (tX p t) H' r:=by
 have hg:=aJ3 hr h1;have h5:t.length<=5:=by
  unfold jE at hr;rw[aPV] at hr;have:=of_decide_eq_true hr.2;omega
 obtain⟨Ha,hHa⟩:=aD (H++[plB p ev wv nv]);have xa:Ext H Ha:=by rw[hHa];exact Fr.app _ _ _
 have ba:Ha[H.length]? =some (plB p ev wv nv):=by rw[hHa];exact eL _ _
 obtain⟨Hb,hHb⟩:=aD (Ha++[plZ]);have xb:Ext Ha Hb:=by rw[hHb];exact Fr.app _ _ _
 have bb:Hb[Ha.length]? =some plZ:=by rw[hHb];exact eL _ _
 have xab:=xa.tr xb;have hra:=Yg (ht.ext xab) (m:=m-1) U U
 rw[hr] at hra;have hlen:=(ht.ext xab).fD;have d0:((t.length:Int)==0)=false:=by simp;exact λh=>by rw[h] at h1;simp at h1
 have e1:IntKind.i64.wrap ((t.length:Int)+1)=((t.length+1:Nat):Int):=by rw[cZ U U];omega
 have bpl:=dT ba xb;have s1:=Ei (q':={p with nodes:=((t.length+1:Nat):Int)}) (ev':=ev) (wv':=wv) (nv':=nv) (j:=0) (v:= .I (t.length+1:Nat)) bpl rfl rfl U rfl
 obtain⟨Hc,hHc⟩: ∃Hc,Hc=Hb.set H.length (plB {p with nodes:=((t.length+1:Nat):Int)} ev wv nv):=⟨_,rfl⟩;rw[<-hHc] at s1;have bc:Hc[H.length]? =some (plB {p with nodes:=((t.length+1:Nat):Int)} ev wv nv):=by rw[hHc];exact aPT (aPN.mp bpl).1
 have s2:=Ei (q':=tX p t) (ev':= .slice none 0 0) (wv':=wv) (nv':=nv) (j:=1) (v:= .slice none 0 0) bc rfl rfl U rfl
 obtain⟨Hd,hHd⟩:=aD (Hc.set H.length (plB (tX p t) (.slice none 0 0) wv nv));rw[<-hHd] at s2;have bd:Hd[H.length]? =some (plB (tX p t) (.slice none 0 0) wv nv):=by rw[hHd];exact aPT (aPN.mp bc).1
 have hne:Ha.length≠H.length:=by rw[hHa];simp
 have hL:LA H Hd H.length Ha.length (tX p t) (.slice none 0 0) wv nv:=by
  refine⟨?_,bd,?_,hne,aPS _,xa.1⟩
  ·rw[hHd,hHc];exact qE (qE xab (aPS _)) (aPS _)
  ·rw[hHd,aPO (Ne.symm hne),hHc,aPO (Ne.symm hne)]
   exact bb
 refine fJ (fB rfl rfl) U ?_
 rw[aIo];simp only[gsR,eZ,<-hHa,Eh,<-hHb,hra,hlen,d0,cO,e1,s1,s2];have:=aJ0 (q:=tX p t) (nv0:=nv) hr hg ht hp.w hwl (m:=m-1) U U rfl rfl t.length 0 (m-1) Hd (.slice none 0 0) U U U hL Rw.fW (New.iI _)
 exact this ..
end
end Go.Proofs.YtkeilicinggjmaaGreatDoor
noncomputable section
namespace Go.Proofs.YtkeilicinggjmaaGreatDoor
open Go.Proofs.Tryz
open Go.Abs Go.Abs.M
variable (O:aG)(L:LV)(k:KV)(N P Q R S T U V W X Y Z a b c d e f g i j l m n o p q r s t u v w x y z A B C D E F G H I J zz zy zx zw zv zu zt zs zr zq zp zo zn zm zl zk zj zi zh zg zf ze zd zc zb za yz yy yx yw yv yu yt ys yr yq yp yo yn ym yl yk yj yi yh yg yf ye yd yc yb ya xz xy xx xw xv xu xt xs xr xq xp xo xn xm xl xk xj xi xh xg xf xe xd xc xb xa wz wy wx ww wv wu wt ws wr wq wp wo wn wm wl wk wj wi wh wg wf we wd wc wb wa vz:Value)(h:aE)
def Ng:Code:=cC [1,1,1,1,0,1,0,0,1,1,0,0,1,1,0,1,0,0] (cF prog 11)
def Nk:KV:=(dB 2 (dO prog O L (cC [1,1,1,1,0,1,0,0,1,1,0,0,1,1,1] (cF prog 11)) (dB 1 (dO prog O L (cC [1,1,1,1,0,1,0,0,1,1,1] (cF prog 11)) k))))
def Ni (O:aG)(L:LV) (k:KV) (a b c d e f g i j l m n o p q r s t u v w x y z A B C D E F G H I J zz zy zx zw zv zu zt zs zr zq zp zo zn zm zl zk zj zi zh zg zf ze zd zc zb za yz yy yx yw yv yu yt ys yr yq yp yo yn ym yl yk yj yi yh yg yf ye yd yc yb ya xz xy xx xw xv xu xt xs xr xq xp xo xn xm xl xk xj xi xh xg xf xe xd xc xb xa wz wy wx ww wv wu wt ws wr wq wp wo:Value) (h:aE):OV:=ob (aF (bV f) h) λaa h=>ob (aF (aI 13 aa) h) λab h=>ob (ld1 ab h) λac h=>ifB (true) (ob (ldN 3 j h) λad h=>ifB (true) (ob (dG 94 3 1 [(.I 0),(.slice none 0 0),(.pointer none)] [(0,ad)] h) λae h=>ob (app 94 3 40 ac ae h) λaf h=>ifB (true) (ob (aF (bV f) h) λag h=>ob (aF (aI 13 ag) h) λah h=>ob (stN 1 ah af h) λai h=>ifB (true) (ob (aF (bin prog .add 3 zk (.I 1)) h) λaj h=>k .normal [a,b,c,d,e,f,g,i,j,l,m,n,o,p,q,r,s,t,u,v,w,x,y,z,A,B,C,D,E,F,G,H,I,J,zz,zy,zx,zw,zv,zu,zt,zs,zr,zq,zp,zo,zn,zm,zl,aj,zj,zi,zh,zg,zf,ze,zd,zc,zb,za,yz,yy,yx,yw,yv,yu,yt,ys,yr,yq,yp,yo,yn,ym,yl,yk,yj,yi,yh,yg,yf,f,f,aa,ab,ac,ad,ae,af,ag,ah,aj,xt,xs,xr,xq,xp,xo,xn,xm,xl,xk,xj,xi,xh,xg,xf,xe,xd,xc,xb,xa,wz,wy,wx,ww,wv,wu,wt,ws,wr,wq,wp,wo] h))))
theorem aKp:Nk O L k (.exit 2) [a,b,c,d,e,f,g,i,j,l,m,n,o,p,q,r,s,t,u,v,w,x,y,z,A,B,C,D,E,F,G,H,I,J,zz,zy,zx,zw,zv,zu,zt,zs,zr,zq,zp,zo,zn,zm,zl,zk,zj,zi,zh,zg,zf,ze,zd,zc,zb,za,yz,yy,yx,yw,yv,yu,yt,ys,yr,yq,yp,yo,yn,ym,yl,yk,yj,yi,yh,yg,yf,ye,yd,yc,yb,ya,xz,xy,xx,xw,xv,xu,xt,xs,xr,xq,xp,xo,xn,xm,xl,xk,xj,xi,xh,xg,xf,xe,xd,xc,xb,xa,wz,wy,wx,ww,wv,wu,wt,ws,wr,wq,wp,wo] h=Ni O L k a b c d e f g i j l m n o p q r s t u v w x y z A B C D E F G H I J zz zy zx zw zv zu zt zs zr zq zp zo zn zm zl zk zj zi zh zg zf ze zd zc zb za yz yy yx yw yv yu yt ys yr yq yp yo yn ym yl yk yj yi yh yg yf ye yd yc yb ya xz xy xx xw xv xu xt xs xr xq xp xo xn xm xl xk xj xi xh xg xf xe xd xc xb xa wz wy wx ww wv wu wt ws wr wq wp wo h:=by kernel_rfl
theorem Ym:aM prog O L Ng k [a,b,c,d,e,f,g,i,j,l,m,n,o,p,q,r,s,t,u,v,w,x,y,z,A,B,C,D,E,F,G,H,I,J,zz,zy,zx,zw,zv,zu,zt,zs,zr,zq,zp,zo,zn,zm,zl,zk,zj,zi,zh,zg,zf,ze,zd,zc,zb,za,yz,yy,yx,yw,yv,yu,yt,ys,yr,yq,yp,yo,yn,ym,yl,yk,yj,yi,yh,yg,yf,ye,yd,yc,yb,ya,xz,xy,xx,xw,xv,xu,xt,xs,xr,xq,xp,xo,xn,xm,xl,xk,xj,xi,xh,xg,xf,xe,xd,xc,xb,xa,wz,wy,wx,ww,wv,wu,wt,ws,wr,wq,wp,wo] h=ob (aF (bin prog .lss 3 yz za) h) λaa h74=>aN aa (ob (aF (aI 1 j) h74) λab h75=>ob (ld1 ab h75) λac h76=>ifB (true) (ob (aF (aI 9 c) h76) λad h77=>ob (ld1 ad h77) λae h78=>ifB (true) (ob (dQ prog 23 55 ae h78) λaf h79=>ob (aF (aI 3 c) h79) λag h80=>ob (ld1 ag h80) λah h81=>ifB (true) (ob (O (.func 38) [af,ah] h81) λai h82=>ifB (chk ((ld1 ab) h82) ac&&(true)) (ob (aF (aI 9 c) h82) λaj h83=>ob (ld1 aj h83) λak h84=>ifB (chk ((ld1 aj) h81) ak&&(true)) (ob (dQ prog 23 55 ak h84) λal h85=>ob (aF (aI 3 c) h85) λam h86=>ob (ld1 am h86) λan h87=>ifB (chk ((ld1 am) h81) an&&(true)) (ob (O (.func 39) [al,an] h87) λao h88=>ifB (chk ((ld1 ab) h88) ac&&(true)) (ob (aF (bld prog 100 [(0,ai),(1,ao)]) h88) λap h89=>ob (dG 100 2 1 [(.pointer none),(.pointer none)] [(0,ap)] h89) λaq h90=>ob (app 100 2 16 ac aq h90) λar h91=>ifB (true) (ob (aF (aI 1 j) h91) λau h92=>ob (stN 1 au ar h92) λav h93=>ifB (true) (ob (aF (bin prog .add 3 yz (.I 1)) h93) λaw h94=>k .normal [a,b,c,d,e,f,g,i,j,l,m,n,o,p,q,r,s,t,u,v,w,x,y,z,A,B,C,D,E,F,G,H,I,J,zz,zy,zx,zw,zv,zu,zt,zs,zr,zq,zp,zo,zn,zm,zl,zk,zj,zi,zh,zg,zf,ze,zd,zc,zb,za,aw,aa,ab,ac,ad,ae,af,ag,ah,ai,aj,ak,al,am,an,ao,ap,aq,ar,au,aw,ye,yd,yc,yb,ya,xz,xy,xx,xw,xv,xu,xt,xs,xr,xq,xp,xo,xn,xm,xl,xk,xj,xi,xh,xg,xf,xe,xd,xc,xb,xa,wz,wy,wx,ww,wv,wu,wt,ws,wr,wq,wp,wo] h94)))))))))) (k (.exit 2) [a,b,c,d,e,f,g,i,j,l,m,n,o,p,q,r,s,t,u,v,w,x,y,z,A,B,C,D,E,F,G,H,I,J,zz,zy,zx,zw,zv,zu,zt,zs,zr,zq,zp,zo,zn,zm,zl,zk,zj,zi,zh,zg,zf,ze,zd,zc,zb,za,yz,aa,yx,yw,yv,yu,yt,ys,yr,yq,yp,yo,yn,ym,yl,yk,yj,yi,yh,yg,yf,ye,yd,yc,yb,ya,xz,xy,xx,xw,xv,xu,xt,xs,xr,xq,xp,xo,xn,xm,xl,xk,xj,xi,xh,xg,xf,xe,xd,xc,xb,xa,wz,wy,wx,ww,wv,wu,wt,ws,wr,wq,wp,wo] h74):=by kernel_rfl
def Nf:Code:=cC [1,1,1,1,0,1,0,0] (cF prog 11)
def Nj:KV:=(dB 0 (dO prog O L (cC [1,1,1,1,1] (cF prog 11)) (eI prog Tryz.f11)))
def Nh (O:aG)(L:LV) (a b c d e f g i j l m n o p q r s t u v w x y z A B C D E F G H I J zz zy zx zw zv zu zt zs zr zq zp zo zn zm zl zk zj zi zh zg zf ze zd zc zb za yz yy yx yw yv yu yt ys yr yq yp yo yn ym yl yk yj yi yh yg yf ye yd yc yb ya xz xy xx xw xv xu xt xs xr xq xp xo xn xm xl xk xj xi xh xg xf xe xd xc xb xa wz wy wx ww wv wu wt ws wr wq wp wo:Value) (h:aE):OV:=ob (aF (bV f) h) λaa h=>ob (aF (aI 13 aa) h) λab h=>ob (ld1 ab h) λac h=>ob (aF (cH ac) h) λad h=>ob (O (.func 40) [ad] h) λae h=>ob (aF (bV f) h) λaf h=>ob (aF (aI 0 af) h) λag h=>ob (stN 1 ag ae h) λah h=>ob (aF (bV f) h) λai h=>ob (aF (aI 13 ai) h) λaj h=>ob (ld1 aj h) λak h=>ifB (true) (ob (aF (cH ak) h) λal h=>ob (aF (aI 2 c) h) λam h=>ob (ld1 am h) λan h=>ifB (true) (ob (aF (bV f) h) λao h=>ob (aF (aI 13 ao) h) λap h=>ob (ld1 ap h) λaq h=>ifB (true) (ob (aF (cH aq) h) λar h=>ob (aF (aI 2 c) h) λau h=>ob (ld1 au h) λav h=>ifB (true) (ob (aF (bin prog .mul 3 ar av) h) λaw h=>ob (aF (aI 3 c) h) λax h=>ob (ld1 ax h) λay h=>ifB (true) (ob (aF (bin prog .mul 3 aw ay) h) λaz h=>ob (O (.func 41) [al,an,az] h) λba h=>ifB (true) (ob (aF (bV f) h) λbb h=>ob (aF (aI 15 bb) h) λbc h=>ob (stN 1 bc ba h) λbd h=>ifB (true) (some (aK [f],h))))))))
theorem aKo:Nj O L (.exit 0) [a,b,c,d,e,f,g,i,j,l,m,n,o,p,q,r,s,t,u,v,w,x,y,z,A,B,C,D,E,F,G,H,I,J,zz,zy,zx,zw,zv,zu,zt,zs,zr,zq,zp,zo,zn,zm,zl,zk,zj,zi,zh,zg,zf,ze,zd,zc,zb,za,yz,yy,yx,yw,yv,yu,yt,ys,yr,yq,yp,yo,yn,ym,yl,yk,yj,yi,yh,yg,yf,ye,yd,yc,yb,ya,xz,xy,xx,xw,xv,xu,xt,xs,xr,xq,xp,xo,xn,xm,xl,xk,xj,xi,xh,xg,xf,xe,xd,xc,xb,xa,wz,wy,wx,ww,wv,wu,wt,ws,wr,wq,wp,wo] h=Nh O L a b c d e f g i j l m n o p q r s t u v w x y z A B C D E F G H I J zz zy zx zw zv zu zt zs zr zq zp zo zn zm zl zk zj zi zh zg zf ze zd zc zb za yz yy yx yw yv yu yt ys yr yq yp yo yn ym yl yk yj yi yh yg yf ye yd yc yb ya xz xy xx xw xv xu xt xs xr xq xp xo xn xm xl xk xj xi xh xg xf xe xd xc xb xa wz wy wx ww wv wu wt ws wr wq wp wo h:=by kernel_rfl
theorem Yl:aM prog O L Nf k [a,b,c,d,e,f,g,i,j,l,m,n,o,p,q,r,s,t,u,v,w,x,y,z,A,B,C,D,E,F,G,H,I,J,zz,zy,zx,zw,zv,zu,zt,zs,zr,zq,zp,zo,zn,zm,zl,zk,zj,zi,zh,zg,zf,ze,zd,zc,zb,za,yz,yy,yx,yw,yv,yu,yt,ys,yr,yq,yp,yo,yn,ym,yl,yk,yj,yi,yh,yg,yf,ye,yd,yc,yb,ya,xz,xy,xx,xw,xv,xu,xt,xs,xr,xq,xp,xo,xn,xm,xl,xk,xj,xi,xh,xg,xf,xe,xd,xc,xb,xa,wz,wy,wx,ww,wv,wu,wt,ws,wr,wq,wp,wo] h=ob (aF (bin prog .lss 3 zk zl) h) λaa h=>aN aa (ob (aF (cB 1 zm zk) h) λab h=>ob (ld1 ab h) λac h=>ob (aF (aI 8 c) h) λad h=>ob (ld1 ad h) λae h=>ob (O (.func 36) [ae] h) λaf h=>ob (aF (bld prog 94 [(0,ac),(2,af)]) h) λag h=>ob (cS 94 [(.I 0),(.slice none 0 0),(.pointer none)] .fix h) λah h=>ob (stN 3 ah ag h) λai h=>ob (aF (aI 2 c) h) λaj h=>ob (ld1 aj h) λak h=>L (aM prog O L Ng) (Nk O L k) [a,b,c,d,e,f,g,ac,ah,l,m,n,o,p,q,r,s,t,u,v,w,x,y,z,A,B,C,D,E,F,G,H,I,J,zz,zy,zx,zw,zv,zu,zt,zs,zr,zq,zp,zo,zn,zm,zl,zk,aa,ab,ac,ac,ad,ae,af,ag,aj,ak,(.I 0),yy,yx,yw,yv,yu,yt,ys,yr,yq,yp,yo,yn,ym,yl,yk,yj,yi,yh,yg,yf,ye,yd,yc,yb,ya,xz,xy,xx,xw,xv,xu,xt,xs,xr,xq,xp,xo,xn,xm,xl,xk,xj,xi,xh,xg,xf,xe,xd,xc,xb,xa,wz,wy,wx,ww,wv,wu,wt,ws,wr,wq,wp,wo] h) (k (.exit 0) [a,b,c,d,e,f,g,i,j,l,m,n,o,p,q,r,s,t,u,v,w,x,y,z,A,B,C,D,E,F,G,H,I,J,zz,zy,zx,zw,zv,zu,zt,zs,zr,zq,zp,zo,zn,zm,zl,zk,aa,zi,zh,zg,zf,ze,zd,zc,zb,za,yz,yy,yx,yw,yv,yu,yt,ys,yr,yq,yp,yo,yn,ym,yl,yk,yj,yi,yh,yg,yf,ye,yd,yc,yb,ya,xz,xy,xx,xw,xv,xu,xt,xs,xr,xq,xp,xo,xn,xm,xl,xk,xj,xi,xh,xg,xf,xe,xd,xc,xb,xa,wz,wy,wx,ww,wv,wu,wt,ws,wr,wq,wp,wo] h):=by kernel_rfl
theorem Yn:cM prog O L 11 [N,P] h=ob (cS 28 (Value.cells N).toList .fix h) λaa h=>ob (ldN 11 aa h) λab h=>ob (O (.func 34) [ab] h) λac h=>ob (aF (bin prog .neq 51 ac (.int .u16 0)) h) λad h=>ob (gd ad false (cG P) h) λae h=>ob (gd ad false (aF (bin prog .lss 3 ae (.I 0))) h) λaf h=>ob (aF (cL ad (.bool true) af) h) λag h=>ob (gd ag false (cG P) h) λah h=>ob (gd ag false (aF (aI 0 aa)) h) λai h=>ob (gd ag false (ld1 ai) h) λaj h=>ob (gd ag false (aF (bin prog .geq 3 ah aj)) h) λak h=>ob (aF (cL ag (.bool true) ak) h) λal h=>aN al (some (aK [(.pointer none)],h)) (ob (ldN 11 aa h) λam h=>ifB (true) (ob (aF (aI 2 aa) h) λan h=>ob (ld1 an h) λao h=>ifB (true) (ob (aF (aI 4 aa) h) λap h=>ob (ld1 ap h) λaq h=>ifB (true) (ob (O (.func 35) [ao,aq] h) λar h=>ifB (chk ((ldN 11 aa) h) am&&(true)) (ob (aF (bld prog 89 [(1,am),(2,P),(4,ar)]) h) λau h=>ob (cS 89 (Value.cells au).toList .fix h) λav h=>ob (aF (bV av) h) λaw h=>ob (aF (aI 13 aw) h) λax h=>ob (ld1 ax h) λay h=>ifB (true) (ob (aF (aI 8 aa) h) λaz h=>ob (ld1 az h) λba h=>ifB (true) (ob (O (.func 36) [ba] h) λbb h=>ifB (chk ((ld1 ax) h) ay&&(true)) (ob (aF (bld prog 94 [(0,P),(2,bb)]) h) λbc h=>ob (dG 94 3 1 [(.I 0),(.slice none 0 0),(.pointer none)] [(0,bc)] h) λbd h=>ob (app 94 3 40 ay bd h) λbe h=>ifB (true) (ob (aF (bV av) h) λbf h=>ob (aF (aI 13 bf) h) λbg h=>ob (stN 1 bg be h) λbh h=>ifB (true) (ob (ldN 11 aa h) λbi h=>ob (O (.func 37) [bi,P] h) λbj h=>ob (aF (cH bj) h) λbk h=>L (aM prog O L Nf) (Nj O L) [N,P,aa,undef,(.pointer none),av,undef,undef,undef,ab,ac,ad,ad,ae,af,ag,ag,ah,ai,aj,ak,al,am,P,an,ao,ap,aq,ar,au,av,av,av,aw,ax,ay,P,az,ba,bb,bc,bd,be,bf,bg,bi,P,bj,bk,(.I 0),undef,undef,undef,undef,undef,undef,undef,undef,undef,undef,undef,undef,undef,undef,undef,undef,undef,undef,undef,undef,undef,undef,undef,undef,undef,undef,undef,undef,undef,undef,undef,undef,undef,undef,undef,undef,undef,undef,undef,undef,undef,undef,undef,undef,undef,undef,undef,undef,undef,undef,undef,undef,undef,undef,undef,undef,undef,undef,undef,undef,undef,undef,undef,undef,undef,undef,undef,undef,undef,undef,undef,undef,undef,undef] h)))))))))):=by kernel_rfl
theorem Ys:cM prog O L 18 [N,P] h=ob (cS 54 (Value.cells P).toList .fix h) λaa h=>ob (aF (aI 0 aa) h) λab h=>ob (ld1 ab h) λac h=>ifB (true) (ob (aF (bV N) h) λad h=>ob (aF (aI 12 ad) h) λae h=>ob (ld1 ae h) λaf h=>ifB (true) (ob (aF (bin prog .neq 3 ac af) h) λag h=>ob (gd ag false (aF (aI 1 aa)) h) λah h=>ob (gd ag false (ld1 ah) h) λai h=>ifB (true) (ob (gd ag false (aF (bin prog .lss 3 ai (.I 0))) h) λaj h=>ob (aF (cL ag (.bool true) aj) h) λak h=>ob (gd ak false (aF (aI 1 aa)) h) λal h=>ob (gd ak false (ld1 al) h) λam h=>ifB (true) (ob (gd ak false (cG N) h) λan h=>ob (gd ak false (aF (bV an)) h) λao h=>ob (gd ak false (aF (aI 1 ao)) h) λap h=>ob (gd ak false (aF (aI 0 ap)) h) λaq h=>ob (gd ak false (ld1 aq) h) λar h=>ifB (true) (ob (gd ak false (aF (bin prog .geq 3 am ar)) h) λau h=>ob (aF (cL ak (.bool true) au) h) λav h=>ob (gd av false (aF (aI 1 aa)) h) λaw h=>ob (gd av false (ld1 aw) h) λax h=>ifB (true) (ob (gd av false (cG N) h) λay h=>ob (gd av false (aF (bV ay)) h) λaz h=>ob (gd av false (aF (aI 12 az)) h) λba h=>ob (gd av false (ld1 ba) h) λbb h=>ifB (true) (ob (gd av false (aF (bin prog .eql 3 ax bb)) h) λbc h=>ob (aF (cL av (.bool true) bc) h) λbd h=>aN bd (some (aK [(.int .u16 1)],h)) (ob (aF (bV N) h) λbe h=>ob (aF (aI 14 be) h) λbf h=>ob (ld1 bf h) λbg h=>ifB (true) (ob (ldN 4 aa h) λbh h=>ifB (true) (ob (O (.func 63) [bg,bh] h) λbi h=>ifB (true) (some (aK [bi],h)))))))))))):=by kernel_rfl
theorem aKP:cM prog O L 42 [N] h=ob (aF (bV N) h) λaa h=>ob (aF (aI 14 aa) h) λab h=>ob (ld1 ab h) λac h=>some (aK [ac],h):=by kernel_rfl
theorem aKz:cM prog O L 141 [N,P] h=ob (O (.func 118) [N,P] h) λaa h=>ob (aF (un prog .not aa) h) λab h=>aN ab (some (aK [(.I 0)],h)) (ob (aF (bV N) h) λac h=>ob (aF (aI 0 ac) h) λad h=>ob (aF (qL 3 1 ad P) h) λae h=>ob (ld1 ae h) λaf h=>ob (aF (cH af) h) λag h=>some (aK [ag],h)):=by kernel_rfl
def Nn:Code:=cC [1,1,1,1,0,1,0,0] (cF prog 13)
def No:KV:=(dB 0 (dO prog O L (cC [1,1,1,1,1] (cF prog 13)) (eI prog Tryz.f13)))
def Fi (O:aG)(L:LV) (a b c d e f g i j l m n o p q r s t u v w x y z A B C D E F G H I J zz zy zx zw zv zu zt zs zr zq zp zo zn zm zl zk zj zi zh zg zf ze zd zc:Value) (h:aE):OV:=ob (ld1 b h) λaa h=>ob (aF (bV aa) h) λab h=>ob (aF (aI 16 ab) h) λac h=>ob (ld1 ac h) λad h=>ob (aF (bin prog .add 3 ad (.I 1)) h) λae h=>ob (aF (bV aa) h) λaf h=>ob (aF (aI 16 af) h) λag h=>ob (stN 1 ag ae h) λah h=>ob (ld1 b h) λai h=>ifB (true) (ob (aF (bV ai) h) λaj h=>ob (aF (aI 16 aj) h) λak h=>ob (ld1 ak h) λal h=>ifB (true) (ob (ld1 b h) λam h=>ifB (true) (ob (aF (bV am) h) λan h=>ob (aF (aI 1 an) h) λao h=>ob (aF (aI 6 ao) h) λap h=>ob (ld1 ap h) λaq h=>ifB (true) (ob (aF (bin prog .rem 3 al aq) h) λar h=>ob (aF (bin prog .eql 3 ar (.I 0)) h) λau h=>aN au (ob (ld1 b h) λav h=>ob (O (.func 53) [av,e] h) λaw h=>ob (ld1 d h) λax h=>some (aK [ax],h)) (ob (ld1 d h) λay h=>some (aK [ay],h))))))
theorem aKv:No O L (.exit 0) [a,b,c,d,e,f,g,i,j,l,m,n,o,p,q,r,s,t,u,v,w,x,y,z,A,B,C,D,E,F,G,H,I,J,zz,zy,zx,zw,zv,zu,zt,zs,zr,zq,zp,zo,zn,zm,zl,zk,zj,zi,zh,zg,zf,ze,zd,zc] h=Fi O L a b c d e f g i j l m n o p q r s t u v w x y z A B C D E F G H I J zz zy zx zw zv zu zt zs zr zq zp zo zn zm zl zk zj zi zh zg zf ze zd zc h:=by kernel_rfl
theorem Yp:aM prog O L Nn k [a,b,c,d,e,f,g,i,j,l,m,n,o,p,q,r,s,t,u,v,w,x,y,z,A,B,C,D,E,F,G,H,I,J,zz,zy,zx,zw,zv,zu,zt,zs,zr,zq,zp,zo,zn,zm,zl,zk,zj,zi,zh,zg,zf,ze,zd,zc] h=ob (aF (bin prog .lss 3 z y) h) λaa h=>aN aa (ob (aF (cB 1 x z) h) λab h=>ob (ld1 ab h) λac h=>ob (aF (bin prog .geq 3 ac (.I 0)) h) λad h=>aN ad (ob (ld1 b h) λae h=>ob (O (.func 52) [ae,z,ac,e] h) λaf h=>ob (aF (bin prog .add 3 z (.I 1)) h) λag h=>k .normal [a,b,c,d,e,z,ac,i,j,l,m,n,o,p,q,r,s,t,u,v,w,x,y,ag,aa,z,ab,ac,ac,ad,ae,z,ac,e,af,ag,zx,zw,zv,zu,zt,zs,zr,zq,zp,zo,zn,zm,zl,zk,zj,zi,zh,zg,zf,ze,zd,zc] h) (ob (aF (bin prog .add 3 z (.I 1)) h) λah h=>k .normal [a,b,c,d,e,z,ac,i,j,l,m,n,o,p,q,r,s,t,u,v,w,x,y,ah,aa,z,ab,ac,ac,ad,G,H,I,J,zz,ah,zx,zw,zv,zu,zt,zs,zr,zq,zp,zo,zn,zm,zl,zk,zj,zi,zh,zg,zf,ze,zd,zc] h)) (k (.exit 0) [a,b,c,d,e,f,g,i,j,l,m,n,o,p,q,r,s,t,u,v,w,x,y,z,aa,B,C,D,E,F,G,H,I,J,zz,zy,zx,zw,zv,zu,zt,zs,zr,zq,zp,zo,zn,zm,zl,zk,zj,zi,zh,zg,zf,ze,zd,zc] h):=by kernel_rfl
theorem aKw:cM prog O L 13 [N] h=ob (cS 30 (Value.cells N).toList .fix h) λaa h0=>ob (cS 35 [(.slice none 0 0)] .fix h0) λab h1=>ob (ld1 aa h1) λac h2=>ob (O (.func 49) [ac] h2) λad h3=>ob (ld1 aa h3) λae h4=>ifB (true) (ob (aF (bV ae) h4) λaf h5=>ob (aF (aI 0 af) h5) λag h6=>ob (ld1 ag h6) λah h7=>ifB (true) (ob (ld1 aa h7) λai h8=>ifB (true) (ob (O (.func 51) [ai] h8) λaj h9=>ifB (chk ((ld1 ag) h9) ah&&(chk ((ld1 aa) h9) ae&&(true))) (ob (ld1 aa h9) λak h10=>ifB (chk ((ld1 aa) h8) ak&&(true)) (ob (aF (bV ak) h10) λal h11=>ob (aF (aI 1 al) h11) λam h12=>ob (aF (aI 5 am) h12) λan h13=>ob (ld1 an h13) λao h14=>ifB (chk ((ld1 an) h8) ao&&(true)) (ob (O (.func 50) [ah,aj,ao] h14) λap h15=>ifB (true) (ob (aF (cH ap) h15) λaq h16=>L (aM prog O L Nn) (No O L) [N,aa,(.slice none 0 0),ab,(.func (.func 47) #[] #[ab,aa]),undef,undef,(.func (.func 47) #[] #[ab,aa]),ac,ad,ae,af,ag,ah,ai,aj,ak,al,am,an,ao,ap,aq,(.I 0),undef,undef,undef,undef,undef,undef,undef,undef,undef,undef,undef,undef,undef,undef,undef,undef,undef,undef,undef,undef,undef,undef,undef,undef,undef,undef,undef,undef,undef,undef,undef,undef,undef,undef] h16))))))):=by kernel_rfl
theorem Yt:cM prog O L 19 [N,P,Q] h=ob (O (.func 64) [N,P,Q] h) λaa h=>ob (aF (ext 0 aa) h) λab h=>ob (aF (ext 1 aa) h) λac h=>ob (cS 100 [(.pointer none),(.pointer none)] .fix h) λad h=>ob (stN 2 ad ab h) λae h=>ob (aF (aI 0 ad) h) λaf h=>ob (ld1 af h) λag h=>some (aK [ag],h):=by kernel_rfl
theorem aKK:cM prog O L 20 [N] h=ob (aF (bV N) h) λaa h=>ob (aF (aI 0 aa) h) λab h=>ob (aF (aI 0 ab) h) λac h=>ob (ld1 ac h) λad h=>some (aK [ad],h):=by kernel_rfl
theorem yW:cM prog O L 45 [N,P,Q] h=ob (cS 3 (Value.cells P).toList .fix h) λaa h=>ob (aF (bV N) h) λab h=>ob (aF (aI 13 ab) h) λac h=>ob (ld1 ac h) λad h=>ob (slc prog 3 ad (some (.I 1)) none none h) λae h=>ob (O (.func 85) [ae,(.func (.func 86) #[] #[aa])] h) λaf h=>ob (aF (bin prog .add 3 af (.I 1)) h) λag h=>ob (aF (bin prog .eql 3 ag (.I 0)) h) λah h=>aN ah (some (aK [(.int .u16 1)],h)) (ob (O (.func 87) [Q] h) λai h=>ob (aF (ext 0 ai) h) λaj h=>ob (aF (ext 1 ai) h) λak h=>ob (cS 39 [(.int .u8 0),(.int .u8 0),(.int .u16 0),(.int .u8 0),(.int .u8 0),(.int .u32 0)] .fix h) λal h=>ob (stN 6 al aj h) λam h=>ob (aF (bin prog .neq 51 ak (.int .u16 0)) h) λan h=>aN an (some (aK [ak],h)) (ob (aF (aI 1 al) h) λao h=>ob (ld1 ao h) λap h=>ob (dQ prog 5 3 ap h) λaq h=>ob (O (.func 64) [N,ag,aq] h) λar h=>ob (aF (ext 0 ar) h) λau h=>ob (aF (ext 1 ar) h) λav h=>ob (cS 100 [(.pointer none),(.pointer none)] .fix h) λaw h=>ob (stN 2 aw au h) λax h=>ob (aF (un prog .not av) h) λay h=>aN ay (some (aK [(.int .u16 30)],h)) (ob (aF (aI 0 al) h) λaz h=>ob (ld1 az h) λba h=>ob (aF (bin prog .eql 5 ba (.int .u8 2)) h) λbb h=>aN bb (ob (aF (aI 0 aw) h) λbc h=>ob (ld1 bc h) λbd h=>ob (aF (aI 2 al) h) λbe h=>ob (ld1 be h) λbf h=>ob (O (.func 88) [bd,bf] h) λbg h=>some (aK [(.int .u16 0)],h)) (ob (aF (aI 0 al) h) λbh h=>ob (ld1 bh h) λbi h=>ob (aF (bin prog .eql 5 bi (.int .u8 3)) h) λbj h=>aN bj (ob (aF (aI 1 aw) h) λbk h=>ob (ld1 bk h) λbl h=>ob (aF (aI 2 al) h) λbm h=>ob (ld1 bm h) λbn h=>ob (O (.func 89) [bl,bn] h) λbo h=>some (aK [(.int .u16 0)],h)) (ob (ldN 2 aw h) λbp h=>ob (ldN 6 al h) λbq h=>ob (O (.func 90) [N,ag,bp,bq] h) λbr h=>some (aK [br],h)))))):=by kernel_rfl
theorem aKD:cM prog O L 149 [N] h=ob (aF (bV N) h) λaa h=>ob (aF (aI 0 aa) h) λab h=>ob (ldN 2 ab h) λac h=>ob (O (.func 153) [ac] h) λad h=>some (aK [ad],h):=by kernel_rfl
theorem aKS:cM prog O L 46 [N] h=ob (aF (bV N) h) λaa h=>ob (aF (aI 3 aa) h) λab h=>ob (ld1 ab h) λac h=>ob (O (.func 91) [ac] h) λad h=>some (aK [ad],h):=by kernel_rfl
theorem aKR:cM prog O L 44 [N,P,Q] h=ob (O (.func 64) [N,P,Q] h) λaa h=>ob (aF (ext 0 aa) h) λab h=>ob (aF (ext 1 aa) h) λac h=>ob (cS 100 [(.pointer none),(.pointer none)] .fix h) λad h=>ob (stN 2 ad ab h) λae h=>ob (aF (aI 1 ad) h) λaf h=>ob (ld1 af h) λag h=>some (aK [ag],h):=by kernel_rfl
theorem aKL:cM prog O L 35 [N,P] h=ob (aF (bin prog .lss 3 N (.I 1)) h) λaa h=>ob (gd aa false (cG N) h) λab h=>ob (gd aa false (aF (bin prog .gtr 3 ab (.I 3))) h) λac h=>ob (aF (cL aa (.bool true) ac) h) λad h=>ob (gd ad false (cG P) h) λae h=>ob (gd ad false (aF (bin prog .lss 3 ae (.I 1))) h) λaf h=>ob (aF (cL ad (.bool true) af) h) λag h=>ob (gd ag false (cG P) h) λah h=>ob (gd ag false (aF (bin prog .gtr 3 ah (.I 8))) h) λai h=>ob (aF (cL ag (.bool true) ai) h) λaj h=>aN aj (some (aK [(.pointer none)],h)) (ob (aF (bld prog 167 [(2,N),(3,P)]) h) λak h=>ob (cS 167 (Value.cells ak).toList .fix h) λal h=>some (aK [al],h)):=by kernel_rfl
theorem aKM:cM prog O L 38 [N,P] h=ob (aF (bin prog .geq 55 N (.int .u64 4611686018427387904)) h) λaa h=>ob (gd aa false (cG P) h) λab h=>ob (gd aa false (aF (bin prog .lss 3 ab (.I 1))) h) λac h=>ob (aF (cL aa (.bool true) ac) h) λad h=>ob (gd ad false (cG P) h) λae h=>ob (gd ad false (aF (bin prog .gtr 3 ae (.I 8))) h) λaf h=>ob (aF (cL ad (.bool true) af) h) λag h=>aN ag (some (aK [(.pointer none)],h)) (ob (dQ prog 3 55 P h) λah h=>ob (aF (bin prog .add 55 N ah) h) λai h=>ob (aF (bld prog 141 [(0,N),(1,ai)]) h) λaj h=>ob (aF (bld prog 143 [(0,aj)]) h) λak h=>ob (cS 143 (Value.cells ak).toList .fix h) λal h=>some (aK [al],h)):=by kernel_rfl
theorem aKN:cM prog O L 39 [N,P] h=ob (aF (bin prog .geq 55 N (.int .u64 4611686018427387904)) h) λaa h=>ob (gd aa false (cG P) h) λab h=>ob (gd aa false (aF (bin prog .lss 3 ab (.I 1))) h) λac h=>ob (aF (cL aa (.bool true) ac) h) λad h=>ob (gd ad false (cG P) h) λae h=>ob (gd ad false (aF (bin prog .gtr 3 ae (.I 8))) h) λaf h=>ob (aF (cL ad (.bool true) af) h) λag h=>aN ag (some (aK [(.pointer none)],h)) (ob (aF (bld prog 174 [(0,N),(2,P)]) h) λah h=>ob (cS 174 (Value.cells ah).toList .fix h) λai h=>some (aK [ai],h)):=by kernel_rfl
theorem aKO:cM prog O L 40 [N] h=ob (aF (bin prog .lss 3 N (.I 1)) h) λaa h=>ob (gd aa false (cG N) h) λab h=>ob (gd aa false (aF (bin prog .gtr 3 ab (.I 16))) h) λac h=>ob (aF (cL aa (.bool true) ac) h) λad h=>aN ad (some (aK [(.pointer none)],h)) (ob (kH 3 1 8 [(.I 0)] N N h) λae h=>ob (kH 3 1 8 [(.I 0)] N N h) λaf h=>ob (aF (bld prog 176 [(0,ae),(1,af)]) h) λag h=>ob (cS 176 (Value.cells ag).toList .fix h) λah h=>some (aK [ah],h)):=by kernel_rfl
theorem aKQ:cM prog O L 43 [N] h=ob (aF (bV N) h) λaa h=>ob (aF (aI 15 aa) h) λab h=>ob (ld1 ab h) λac h=>some (aK [ac],h):=by kernel_rfl
theorem Oh:cM prog O L 63 [N,P] h=ob (cS 54 (Value.cells P).toList .fix h) λaa h=>ob (aF (aI 2 aa) h) λab h=>ob (ld1 ab h) λac h=>ob (O (.func 118) [N,ac] h) λad h=>ob (aF (un prog .not ad) h) λae h=>aN ae (some (aK [(.int .u16 1)],h)) (ob (aF (aI 2 aa) h) λaf h=>ob (ld1 af h) λag h=>ifB (true) (ob (aF (bV N) h) λah h=>ob (aF (aI 0 ah) h) λai h=>ob (aF (qL 3 1 ai ag) h) λaj h=>ob (ld1 aj h) λak h=>ifB (true) (ob (aF (cH ak) h) λal h=>ob (aF (bV N) h) λam h=>ob (aF (aI 5 am) h) λan h=>ob (ld1 an h) λao h=>ifB (true) (ob (aF (bin prog .eql 3 al ao) h) λap h=>aN ap (some (aK [(.int .u16 150)],h)) (ob (aF (aI 2 aa) h) λaq h=>ob (ld1 aq h) λar h=>ifB (true) (ob (aF (aI 2 aa) h) λau h=>ob (ld1 au h) λav h=>ifB (true) (ob (aF (bV N) h) λaw h=>ob (aF (aI 0 aw) h) λax h=>ob (aF (qL 3 1 ax av) h) λay h=>ob (ld1 ay h) λaz h=>ifB (true) (ob (ldN 4 aa h) λba h=>ifB (true) (ob (dG 54 4 1 [(.I 0),(.I 0),(.I 0),(.int .u32 0)] [(0,ba)] h) λbb h=>ob (app 54 4 32 az bb h) λbc h=>ifB (chk ((ld1 aq) h) ar&&(true)) (ob (aF (bV N) h) λbd h=>ob (aF (aI 0 bd) h) λbe h=>ob (aF (qL 3 1 be ar) h) λbf h=>ob (stN 1 bf bc h) λbg h=>ifB (true) (some (aK [(.int .u16 0)],h)))))))))))):=by kernel_rfl
theorem aKn:cM prog O L 118 [N,P] h=ob (aF (bin prog .geq 3 P (.I 0)) h) λaa h=>ob (gd aa true (cG P) h) λab h=>ob (gd aa true (cG N) h) λac h=>ob (gd aa true (aF (bV ac)) h) λad h=>ob (gd aa true (aF (aI 4 ad)) h) λae h=>ob (gd aa true (ld1 ae) h) λaf h=>ob (gd aa true (aF (bin prog .lss 3 ab af)) h) λag h=>ob (aF (cL aa ag (.bool false)) h) λah h=>some (aK [ah],h):=by kernel_rfl
theorem aKT:cM prog O L 47 [N,P,Q,R] h=ob (cS 39 (Value.cells P).toList .fix h) λaa h=>ob (ldN 6 aa h) λab h=>ob (O (.func 48) [ab] h) λac h=>ob (aF (ext 0 ac) h) λad h=>ob (aF (ext 1 ac) h) λae h=>ob (ld1 Q h) λaf h=>ifB (true) (ob (ld1 R h) λag h=>ifB (true) (ob (aF (bV ag) h) λah h=>ob (aF (aI 13 ah) h) λai h=>ob (ld1 ai h) λaj h=>ifB (true) (ob (aF (cB 3 aj N) h) λak h=>ob (aF (aI 0 ak) h) λal h=>ob (ld1 al h) λam h=>ifB (true) (ob (aF (bld prog 43 [(0,am),(1,ad)]) h) λan h=>ob (dG 43 2 1 [(.I 0),(.slice none 0 0)] [(0,an)] h) λao h=>ob (app 43 2 32 af ao h) λap h=>ifB (true) (ob (stN 1 Q ap h) λaq h=>ifB (true) (some (aK [],h))))))):=by kernel_rfl
theorem aKU:cM prog O L 48 [N] h=ob (cS 39 (Value.cells N).toList .fix h) λaa h0=>ob (ldN 6 aa h0) λab h1=>ob (O (.func 92) [ab] h1) λac h2=>ob (aF (un prog .not ac) h2) λad h3=>aN ad (some (aK [(.slice none 0 0),(.int .u16 1)],h3)) (ob (aF (aI 0 aa) h3) λae h4=>ob (ld1 ae h4) λaf h5=>ob (aF (aI 1 aa) h5) λag h6=>ob (ld1 ag h6) λah h7=>ob (dG 5 1 2 [(.int .u8 0)] [(0,af),(1,ah)] h7) λai h8=>ob (aF (aI 2 aa) h8) λaj h9=>ob (ld1 aj h9) λak h10=>ob (O (.func 93) [ai,ak] h10) λal h11=>ob (aF (aI 0 aa) h11) λam h12=>ob (ld1 am h12) λan h13=>ob (aF (bin prog .eql 5 an (.int .u8 1)) h13) λao h14=>aN ao (ob (aF (aI 3 aa) h14) λap h15=>ob (ld1 ap h15) λaq h16=>ifB (true) (ob (aF (aI 4 aa) h16) λar h17=>ob (ld1 ar h17) λau h18=>ifB (true) (ob (dG 5 1 2 [(.int .u8 0)] [(0,aq),(1,au)] h18) λav h19=>ob (app 5 1 1 al av h19) λaw h20=>ifB (true) (ob (aF (aI 5 aa) h20) λax h21=>ob (ld1 ax h21) λay h22=>ifB (chk ((ld1 ax) h19) ay&&(true)) (ob (O (.func 94) [aw,ay] h22) λaz h23=>ifB (true) (ob (O (.func 95) [az] h23) λba h24=>ob (O (.func 93) [az,ba] h24) λbb h25=>some (aK [bb,(.int .u16 0)],h25))))))) (ob (O (.func 95) [al] h14) λbc h26=>ob (O (.func 93) [al,bc] h26) λbd h27=>some (aK [bd,(.int .u16 0)],h27))):=by kernel_rfl
def Nu:Code:=cC [1,0,0,1,1,0,0,1,1,0,1,0,0] (cF prog 49)
def Nx:KV:=(dB 2 (dO prog O L (cC [1,0,0,1,1,0,0,1,1,1] (cF prog 49)) (dB 1 (dO prog O L (cC [1,0,0,1,1,1] (cF prog 49)) k))))
def Fj (O:aG)(L:LV) (k:KV) (a b c d e f g i j l m n o p q r s t u v w x y z A B C D E F G H I J zz zy zx zw zv zu zt zs zr zq zp zo zn zm zl zk zj zi zh zg zf ze zd zc zb za yz yy:Value) (h:aE):OV:=ob (aF (bV a) h) λaa h16=>ob (aF (aI 1 aa) h16) λab h17=>ob (aF (aI 3 ab) h17) λac h18=>ob (ld1 ac h18) λad h19=>ob (aF (bin prog .geq 3 d ad) h19) λae h20=>aN ae (ob (aF (bin prog .add 3 o (.I 1)) h20) λaf h21=>k .normal [a,b,c,d,e,f,g,i,j,l,m,n,af,p,q,r,s,t,u,v,w,x,y,z,A,B,C,D,E,F,G,H,I,d,a,aa,ab,ac,ad,ae,zt,zs,zr,zq,zp,zo,zn,zm,zl,zk,zj,zi,zh,zg,zf,ze,zd,zc,zb,za,yz,af] h21) (ob (aF (bV a) h20) λag h22=>ob (aF (aI 14 ag) h22) λah h23=>ob (ld1 ah h23) λai h24=>ob (O (.func 97) [ai,c] h24) λaj h25=>ob (aF (ext 0 aj) h25) λak h26=>ob (aF (ext 1 aj) h26) λal h27=>ob (cS 54 [(.I 0),(.I 0),(.I 0),(.int .u32 0)] .fix h27) λam h28=>ob (stN 4 am ak h28) λan h29=>aN al (ob (aF (bV a) h29) λao h30=>ob (aF (aI 15 ao) h30) λap h31=>ob (ld1 ap h31) λaq h32=>ifB (true) (ob (aF (aI 1 am) h32) λar h33=>ob (ld1 ar h33) λau h34=>ifB (true) (ob (O (.func 99) [a,au] h34) λav h35=>ifB (chk ((ld1 ap) h35) aq&&(true)) (ob (ldN 4 am h35) λaw h36=>ifB (chk ((ldN 4 am) h34) aw&&(true)) (ob (O (.func 98) [aq,(.I 0),av,c,aw] h36) λax h37=>ifB (true) (ob (aF (bin prog .add 3 o (.I 1)) h37) λay h38=>k .normal [a,b,c,d,e,am,al,i,j,l,m,n,ay,p,q,r,s,t,u,v,w,x,y,z,A,B,C,D,E,F,G,H,I,d,a,aa,ab,ac,ad,ae,aj,a,ag,ah,ai,c,aj,ak,al,al,a,ao,ap,aq,a,ar,au,av,c,aw,ax,ay] h38)))))) (ob (aF (bin prog .add 3 o (.I 1)) h29) λaz h39=>k .normal [a,b,c,d,e,am,al,i,j,l,m,n,az,p,q,r,s,t,u,v,w,x,y,z,A,B,C,D,E,F,G,H,I,d,a,aa,ab,ac,ad,ae,aj,a,ag,ah,ai,c,aj,ak,al,al,zj,zi,zh,zg,zf,ze,zd,zc,zb,za,yz,az] h39))
theorem aKW:Nx O L k (.exit 2) [a,b,c,d,e,f,g,i,j,l,m,n,o,p,q,r,s,t,u,v,w,x,y,z,A,B,C,D,E,F,G,H,I,J,zz,zy,zx,zw,zv,zu,zt,zs,zr,zq,zp,zo,zn,zm,zl,zk,zj,zi,zh,zg,zf,ze,zd,zc,zb,za,yz,yy] h=Fj O L k a b c d e f g i j l m n o p q r s t u v w x y z A B C D E F G H I J zz zy zx zw zv zu zt zs zr zq zp zo zn zm zl zk zj zi zh zg zf ze zd zc zb za yz yy h:=by kernel_rfl
theorem Yv:aM prog O L Nu k [a,b,c,d,e,f,g,i,j,l,m,n,o,p,q,r,s,t,u,v,w,x,y,z,A,B,C,D,E,F,G,H,I,J,zz,zy,zx,zw,zv,zu,zt,zs,zr,zq,zp,zo,zn,zm,zl,zk,zj,zi,zh,zg,zf,ze,zd,zc,zb,za,yz,yy] h=ob (aF (bin prog .lss 3 w v) h) λaa h=>aN aa (ob (aF (bV a) h) λab h=>ob (aF (aI 15 ab) h) λac h=>ob (ld1 ac h) λad h=>ob (O (.func 96) [ad,(.I 0),w,c] h) λae h=>ob (aF (bin prog .add 3 d ae) h) λaf h=>ob (aF (bin prog .add 3 w (.I 1)) h) λag h=>k .normal [a,b,c,af,w,f,g,i,j,l,m,n,o,p,q,r,s,t,u,v,ag,aa,w,d,a,ab,ac,ad,w,c,ae,af,ag,J,zz,zy,zx,zw,zv,zu,zt,zs,zr,zq,zp,zo,zn,zm,zl,zk,zj,zi,zh,zg,zf,ze,zd,zc,zb,za,yz,yy] h) (k (.exit 2) [a,b,c,d,e,f,g,i,j,l,m,n,o,p,q,r,s,t,u,v,w,aa,y,z,A,B,C,D,E,F,G,H,I,J,zz,zy,zx,zw,zv,zu,zt,zs,zr,zq,zp,zo,zn,zm,zl,zk,zj,zi,zh,zg,zf,ze,zd,zc,zb,za,yz,yy] h):=by kernel_rfl
def Nt:Code:=cC [1,0,0] (cF prog 49)
def Nv (O:aG)(L:LV):KV:=(dB 0 (eI prog Tryz.f49))
theorem aKV:Nv O L (.exit 0) [a,b,c,d,e,f,g,i,j,l,m,n,o,p,q,r,s,t,u,v,w,x,y,z,A,B,C,D,E,F,G,H,I,J,zz,zy,zx,zw,zv,zu,zt,zs,zr,zq,zp,zo,zn,zm,zl,zk,zj,zi,zh,zg,zf,ze,zd,zc,zb,za,yz,yy] h=some (aK [],h):=by kernel_rfl
theorem Yu:aM prog O L Nt k [a,b,c,d,e,f,g,i,j,l,m,n,o,p,q,r,s,t,u,v,w,x,y,z,A,B,C,D,E,F,G,H,I,J,zz,zy,zx,zw,zv,zu,zt,zs,zr,zq,zp,zo,zn,zm,zl,zk,zj,zi,zh,zg,zf,ze,zd,zc,zb,za,yz,yy] h=ob (aF (bin prog .lss 3 o n) h) λaa h=>aN aa (ob (aF (bV a) h) λab h=>ob (aF (aI 13 ab) h) λac h=>ob (ld1 ac h) λad h=>ob (aF (cH ad) h) λae h=>L (aM prog O L Nu) (Nx O L k) [a,b,o,(.I 0),e,f,g,i,j,l,m,n,o,aa,o,a,ab,ac,ad,ae,(.I 0),x,y,z,A,B,C,D,E,F,G,H,I,J,zz,zy,zx,zw,zv,zu,zt,zs,zr,zq,zp,zo,zn,zm,zl,zk,zj,zi,zh,zg,zf,ze,zd,zc,zb,za,yz,yy] h) (k (.exit 0) [a,b,c,d,e,f,g,i,j,l,m,n,o,aa,q,r,s,t,u,v,w,x,y,z,A,B,C,D,E,F,G,H,I,J,zz,zy,zx,zw,zv,zu,zt,zs,zr,zq,zp,zo,zn,zm,zl,zk,zj,zi,zh,zg,zf,ze,zd,zc,zb,za,yz,yy] h):=by kernel_rfl
theorem aKX:cM prog O L 49 [N] h=ob (aF (bV N) h) λaa h=>ob (aF (aI 1 aa) h) λab h=>ob (aF (aI 2 ab) h) λac h=>ob (ld1 ac h) λad h=>L (aM prog O L Nt) (Nv O L) [N,undef,undef,undef,undef,undef,undef,N,aa,ab,ac,ad,(.I 0),undef,undef,undef,undef,undef,undef,undef,undef,undef,undef,undef,undef,undef,undef,undef,undef,undef,undef,undef,undef,undef,undef,undef,undef,undef,undef,undef,undef,undef,undef,undef,undef,undef,undef,undef,undef,undef,undef,undef,undef,undef,undef,undef,undef,undef,undef,undef,undef,undef] h:=by kernel_rfl
def Nz:Code:=cC [1,0,1,1,1,1,1,1,0,1,0,0,1,1,0,0,1,1,0,1,0,0] (cF prog 50)
def N5:KV:=(dB 2 (dO prog O L (cC [1,0,1,1,1,1,1,1,0,1,0,0,1,1,0,0,1,1,1] (cF prog 50)) (dB 1 (dO prog O L (cC [1,0,1,1,1,1,1,1,0,1,0,0,1,1,1] (cF prog 50)) k))))
def N3 (O:aG)(L:LV) (k:KV) (a b c d e f g i j l m n o p q r s t u v w x y z A B C D E F G H I J zz zy zx zw zv zu zt zs zr zq zp zo zn zm zl zk zj zi zh zg zf ze zd zc zb za yz yy yx yw yv yu yt ys yr yq yp yo yn ym yl yk yj yi yh yg yf ye yd yc yb ya xz xy xx xw xv xu xt xs xr xq xp xo xn xm xl xk xj xi xh xg xf xe xd xc xb xa wz wy wx ww wv wu wt ws wr wq wp wo wn wm wl wk wj wi wh wg wf we wd:Value) (h:aE):OV:=ob (aF (bV l) h) λaa h=>ob (aF (aI 1 aa) h) λab h=>ob (ld1 ab h) λac h=>ob (aF (bin prog .eql 23 ac o) h) λad h=>aN ad (k (.exit 0) [a,b,c,d,e,f,g,i,j,l,m,n,o,p,q,r,s,t,u,v,w,x,y,z,A,B,C,D,E,F,G,H,I,J,zz,zy,zx,zw,zv,zu,zt,zs,zr,zq,zp,zo,zn,zm,zl,zk,zj,zi,zh,zg,zf,ze,zd,zc,zb,za,yz,yy,yx,yw,yv,yu,yt,ys,yr,yq,yp,yo,yn,ym,yl,yk,yj,yi,yh,yg,yf,ye,yd,yc,yb,ya,xz,xy,xx,xw,xv,xu,xt,xs,xr,xq,xp,xo,xn,xm,xl,xk,xj,xi,xh,xg,xf,xe,xd,xc,xb,xa,wz,wy,wx,ww,wv,wu,wt,ws,wr,wq,wp,wo,l,aa,ab,ac,o,ad,wh,wg,wf,we,wd] h) (ob (aF (bin prog .add 3 zm (.I 1)) h) λae h=>k .normal [a,b,c,d,e,f,g,i,j,l,m,n,o,p,q,r,s,t,u,v,w,x,y,z,A,B,C,D,E,F,G,H,I,J,zz,zy,zx,zw,zv,zu,zt,zs,zr,zq,zp,zo,zn,ae,zl,zk,zj,zi,zh,zg,zf,ze,zd,zc,zb,za,yz,yy,yx,yw,yv,yu,yt,ys,yr,yq,yp,yo,yn,ym,yl,yk,yj,yi,yh,yg,yf,ye,yd,yc,yb,ya,xz,xy,xx,xw,xv,xu,xt,xs,xr,xq,xp,xo,xn,xm,xl,xk,xj,xi,xh,xg,xf,xe,xd,xc,xb,xa,wz,wy,wx,ww,wv,wu,wt,ws,wr,wq,wp,wo,l,aa,ab,ac,o,ad,ae,wg,wf,we,wd] h)
theorem aKY:N5 O L k (.exit 2) [a,b,c,d,e,f,g,i,j,l,m,n,o,p,q,r,s,t,u,v,w,x,y,z,A,B,C,D,E,F,G,H,I,J,zz,zy,zx,zw,zv,zu,zt,zs,zr,zq,zp,zo,zn,zm,zl,zk,zj,zi,zh,zg,zf,ze,zd,zc,zb,za,yz,yy,yx,yw,yv,yu,yt,ys,yr,yq,yp,yo,yn,ym,yl,yk,yj,yi,yh,yg,yf,ye,yd,yc,yb,ya,xz,xy,xx,xw,xv,xu,xt,xs,xr,xq,xp,xo,xn,xm,xl,xk,xj,xi,xh,xg,xf,xe,xd,xc,xb,xa,wz,wy,wx,ww,wv,wu,wt,ws,wr,wq,wp,wo,wn,wm,wl,wk,wj,wi,wh,wg,wf,we,wd] h=N3 O L k a b c d e f g i j l m n o p q r s t u v w x y z A B C D E F G H I J zz zy zx zw zv zu zt zs zr zq zp zo zn zm zl zk zj zi zh zg zf ze zd zc zb za yz yy yx yw yv yu yt ys yr yq yp yo yn ym yl yk yj yi yh yg yf ye yd yc yb ya xz xy xx xw xv xu xt xs xr xq xp xo xn xm xl xk xj xi xh xg xf xe xd xc xb xa wz wy wx ww wv wu wt ws wr wq wp wo wn wm wl wk wj wi wh wg wf we wd h:=by kernel_rfl
theorem Yx:aM prog O L Nz k [a,b,c,d,e,f,g,i,j,l,m,n,o,p,q,r,s,t,u,v,w,x,y,z,A,B,C,D,E,F,G,H,I,J,zz,zy,zx,zw,zv,zu,zt,zs,zr,zq,zp,zo,zn,zm,zl,zk,zj,zi,zh,zg,zf,ze,zd,zc,zb,za,yz,yy,yx,yw,yv,yu,yt,ys,yr,yq,yp,yo,yn,ym,yl,yk,yj,yi,yh,yg,yf,ye,yd,yc,yb,ya,xz,xy,xx,xw,xv,xu,xt,xs,xr,xq,xp,xo,xn,xm,xl,xk,xj,xi,xh,xg,xf,xe,xd,xc,xb,xa,wz,wy,wx,ww,wv,wu,wt,ws,wr,wq,wp,wo,wn,wm,wl,wk,wj,wi,wh,wg,wf,we,wd] h=ob (aF (bin prog .lss 3 za zb) h) λaa h=>aN aa (ob (aF (cB 1 zc za) h) λab h=>ob (ld1 ab h) λac h=>ob (aF (bV a) h) λad h=>ob (aF (aI 1 ad) h) λae h=>ob (ld1 ae h) λaf h=>ob (aF (cB 1 af za) h) λag h=>ob (ld1 ag h) λah h=>ob (O (.func 103) [ac,ah,i] h) λai h=>ob (aF (bin prog .eql 3 ai (.I (-1))) h) λaj h=>aN aj (ob (aF (bin prog .add 3 za (.I 1)) h) λak h=>k .normal [a,b,c,d,e,f,g,i,j,l,m,n,o,za,ac,ai,s,t,u,v,w,x,y,z,A,B,C,D,E,F,G,H,I,J,zz,zy,zx,zw,zv,zu,zt,zs,zr,zq,zp,zo,zn,zm,zl,zk,zj,zi,zh,zg,zf,ze,zd,zc,zb,ak,aa,za,ab,ac,ac,a,ad,ae,af,za,ag,ah,i,ai,ai,aj,yj,yi,yh,yg,yf,ye,yd,yc,yb,ya,xz,xy,xx,xw,xv,xu,xt,xs,xr,xq,xp,xo,xn,xm,xl,xk,xj,xi,xh,xg,xf,xe,xd,xc,xb,xa,wz,wy,wx,ww,wv,wu,wt,ws,wr,wq,wp,ak,wn,wm,wl,wk,wj,wi,wh,wg,wf,we,wd] h) (ob (aF (bV l) h) λal h=>ob (aF (aI 0 al) h) λam h=>ob (ld1 am h) λan h=>ob (aF (cB 1 an za) h) λao h=>ob (stN 1 ao ai h) λap h=>ob (aF (bV l) h) λaq h=>ob (aF (aI 1 aq) h) λar h=>ob (ld1 ar h) λau h=>ifB (true) (ob (aF (bin prog .shl 23 (.int .u16 1) za) h) λav h=>ob (aF (bin prog .andNot 23 au av) h) λaw h=>ob (aF (bV l) h) λax h=>ob (aF (aI 1 ax) h) λay h=>ob (stN 1 ay aw h) λaz h=>ifB (true) (ob (aF (bV l) h) λba h=>ob (aF (aI 2 ba) h) λbb h=>ob (ld1 bb h) λbc h=>ifB (true) (ob (aF (bin prog .shl 23 (.int .u16 1) ai) h) λbd h=>ob (aF (bin prog .andNot 23 bc bd) h) λbe h=>ob (aF (bV l) h) λbf h=>ob (aF (aI 2 bf) h) λbg h=>ob (stN 1 bg be h) λbh h=>ifB (true) (ob (aF (bin prog .eql 3 n (.I 0)) h) λbi h=>aN bi (ob (aF (bV a) h) λbj h=>ob (aF (aI 0 bj) h) λbk h=>ob (ld1 bk h) λbl h=>ifB (true) (ob (aF (bV a) h) λbm h=>ob (aF (aI 1 bm) h) λbn h=>ob (ld1 bn h) λbo h=>ifB (true) (ob (aF (bin prog .add 3 za (.I 1)) h) λbp h=>ob (aF (bin prog .rem 3 bp i) h) λbq h=>ob (aF (bin prog .add 3 ai (.I 1)) h) λbr h=>ob (aF (bin prog .rem 3 br i) h) λbs h=>ob (aF (cB 1 bl ai) h) λbt h=>ob (stN 1 bt bq h) λbu h=>ifB (true) (ob (aF (cB 1 bo za) h) λbv h=>ob (stN 1 bv bs h) λbw h=>ifB (true) (ob (aF (bin prog .add 3 za (.I 1)) h) λbx h=>k .normal [a,b,c,d,e,f,g,i,j,l,m,n,o,za,ac,ai,s,t,u,v,w,x,y,z,A,B,C,D,E,F,G,H,I,J,zz,zy,zx,zw,zv,zu,zt,zs,zr,zq,zp,zo,zn,zm,zl,zk,zj,zi,zh,zg,zf,ze,zd,zc,zb,bx,aa,za,ab,ac,ac,a,ad,ae,af,za,ag,ah,i,ai,ai,aj,l,al,am,an,za,ai,ao,l,aq,ar,au,za,av,aw,ax,ay,l,ba,bb,bc,ai,bd,be,bf,bg,n,bi,a,bj,bk,bl,ai,a,bm,bn,bo,za,za,bp,i,bq,ai,br,i,bs,bt,bv,bx,wn,wm,wl,wk,wj,wi,wh,wg,wf,we,wd] h))))) (ob (aF (bin prog .add 3 za (.I 1)) h) λbz h=>k .normal [a,b,c,d,e,f,g,i,j,l,m,n,o,za,ac,ai,s,t,u,v,w,x,y,z,A,B,C,D,E,F,G,H,I,J,zz,zy,zx,zw,zv,zu,zt,zs,zr,zq,zp,zo,zn,zm,zl,zk,zj,zi,zh,zg,zf,ze,zd,zc,zb,bz,aa,za,ab,ac,ac,a,ad,ae,af,za,ag,ah,i,ai,ai,aj,l,al,am,an,za,ai,ao,l,aq,ar,au,za,av,aw,ax,ay,l,ba,bb,bc,ai,bd,be,bf,bg,n,bi,xi,xh,xg,xf,xe,xd,xc,xb,xa,wz,wy,wx,ww,wv,wu,wt,ws,wr,wq,wp,bz,wn,wm,wl,wk,wj,wi,wh,wg,wf,we,wd] h))))))) (k (.exit 2) [a,b,c,d,e,f,g,i,j,l,m,n,o,p,q,r,s,t,u,v,w,x,y,z,A,B,C,D,E,F,G,H,I,J,zz,zy,zx,zw,zv,zu,zt,zs,zr,zq,zp,zo,zn,zm,zl,zk,zj,zi,zh,zg,zf,ze,zd,zc,zb,za,aa,yy,yx,yw,yv,yu,yt,ys,yr,yq,yp,yo,yn,ym,yl,yk,yj,yi,yh,yg,yf,ye,yd,yc,yb,ya,xz,xy,xx,xw,xv,xu,xt,xs,xr,xq,xp,xo,xn,xm,xl,xk,xj,xi,xh,xg,xf,xe,xd,xc,xb,xa,wz,wy,wx,ww,wv,wu,wt,ws,wr,wq,wp,wo,wn,wm,wl,wk,wj,wi,wh,wg,wf,we,wd] h):=by kernel_rfl
def Ny:Code:=cC [1,0,1,1,1,1,1,1,0,1,0,0] (cF prog 50)
def N4:KV:=(dB 0 (dO prog O L (cC [1,0,1,1,1,1,1,1,1] (cF prog 50)) (eI prog Tryz.f50)))
def N0 (O:aG)(L:LV) (a b c d e f g i j l m n o p q r s t u v w x y z A B C D E F G H I J zz zy zx zw zv zu zt zs zr zq zp zo zn zm zl zk zj zi zh zg zf ze zd zc zb za yz yy yx yw yv yu yt ys yr yq yp yo yn ym yl yk yj yi yh yg yf ye yd yc yb ya xz xy xx xw xv xu xt xs xr xq xp xo xn xm xl xk xj xi xh xg xf xe xd xc xb xa wz wy wx ww wv wu wt ws wr wq wp wo wn wm wl wk wj wi wh wg wf we wd:Value) (h:aE):OV:=ob (aF (bV l) h) λaa h=>ob (aF (aI 0 aa) h) λab h=>ob (ld1 ab h) λac h=>some (aK [ac],h)
theorem Yy:N4 O L (.exit 0) [a,b,c,d,e,f,g,i,j,l,m,n,o,p,q,r,s,t,u,v,w,x,y,z,A,B,C,D,E,F,G,H,I,J,zz,zy,zx,zw,zv,zu,zt,zs,zr,zq,zp,zo,zn,zm,zl,zk,zj,zi,zh,zg,zf,ze,zd,zc,zb,za,yz,yy,yx,yw,yv,yu,yt,ys,yr,yq,yp,yo,yn,ym,yl,yk,yj,yi,yh,yg,yf,ye,yd,yc,yb,ya,xz,xy,xx,xw,xv,xu,xt,xs,xr,xq,xp,xo,xn,xm,xl,xk,xj,xi,xh,xg,xf,xe,xd,xc,xb,xa,wz,wy,wx,ww,wv,wu,wt,ws,wr,wq,wp,wo,wn,wm,wl,wk,wj,wi,wh,wg,wf,we,wd] h=N0 O L a b c d e f g i j l m n o p q r s t u v w x y z A B C D E F G H I J zz zy zx zw zv zu zt zs zr zq zp zo zn zm zl zk zj zi zh zg zf ze zd zc zb za yz yy yx yw yv yu yt ys yr yq yp yo yn ym yl yk yj yi yh yg yf ye yd yc yb ya xz xy xx xw xv xu xt xs xr xq xp xo xn xm xl xk xj xi xh xg xf xe xd xc xb xa wz wy wx ww wv wu wt ws wr wq wp wo wn wm wl wk wj wi wh wg wf we wd h:=by kernel_rfl
theorem Yw:aM prog O L Ny k [a,b,c,d,e,f,g,i,j,l,m,n,o,p,q,r,s,t,u,v,w,x,y,z,A,B,C,D,E,F,G,H,I,J,zz,zy,zx,zw,zv,zu,zt,zs,zr,zq,zp,zo,zn,zm,zl,zk,zj,zi,zh,zg,zf,ze,zd,zc,zb,za,yz,yy,yx,yw,yv,yu,yt,ys,yr,yq,yp,yo,yn,ym,yl,yk,yj,yi,yh,yg,yf,ye,yd,yc,yb,ya,xz,xy,xx,xw,xv,xu,xt,xs,xr,xq,xp,xo,xn,xm,xl,xk,xj,xi,xh,xg,xf,xe,xd,xc,xb,xa,wz,wy,wx,ww,wv,wu,wt,ws,wr,wq,wp,wo,wn,wm,wl,wk,wj,wi,wh,wg,wf,we,wd] h=ob (aF (bin prog .lss 3 zm zn) h) λaa h=>aN aa (ob (aF (bV l) h) λab h=>ob (aF (aI 1 ab) h) λac h=>ob (ld1 ac h) λad h=>ob (O (.func 102) [a,l,m] h) λae h=>ob (aF (cH ae) h) λaf h=>L (aM prog O L Nz) (N5 O L k) [a,b,c,d,e,f,g,i,j,l,m,zm,ad,p,q,r,s,t,u,v,w,x,y,z,A,B,C,D,E,F,G,H,I,J,zz,zy,zx,zw,zv,zu,zt,zs,zr,zq,zp,zo,zn,zm,aa,zm,l,ab,ac,ad,a,l,m,ae,af,(.I 0),yz,yy,yx,yw,yv,yu,yt,ys,yr,yq,yp,yo,yn,ym,yl,yk,yj,yi,yh,yg,yf,ye,yd,yc,yb,ya,xz,xy,xx,xw,xv,xu,xt,xs,xr,xq,xp,xo,xn,xm,xl,xk,xj,xi,xh,xg,xf,xe,xd,xc,xb,xa,wz,wy,wx,ww,wv,wu,wt,ws,wr,wq,wp,wo,wn,wm,wl,wk,wj,wi,wh,wg,wf,we,wd] h) (k (.exit 0) [a,b,c,d,e,f,g,i,j,l,m,n,o,p,q,r,s,t,u,v,w,x,y,z,A,B,C,D,E,F,G,H,I,J,zz,zy,zx,zw,zv,zu,zt,zs,zr,zq,zp,zo,zn,zm,aa,zk,zj,zi,zh,zg,zf,ze,zd,zc,zb,za,yz,yy,yx,yw,yv,yu,yt,ys,yr,yq,yp,yo,yn,ym,yl,yk,yj,yi,yh,yg,yf,ye,yd,yc,yb,ya,xz,xy,xx,xw,xv,xu,xt,xs,xr,xq,xp,xo,xn,xm,xl,xk,xj,xi,xh,xg,xf,xe,xd,xc,xb,xa,wz,wy,wx,ww,wv,wu,wt,ws,wr,wq,wp,wo,wn,wm,wl,wk,wj,wi,wh,wg,wf,we,wd] h):=by kernel_rfl
theorem aKZ:cM prog O L 50 [N,P,Q] h=ob (aF (bV N) h) λaa h=>ob (aF (aI 0 aa) h) λab h=>ob (ld1 ab h) λac h=>ob (aF (cH ac) h) λad h=>ob (aF (cH P) h) λae h=>ob (aF (bin prog .neq 3 ae ad) h) λaf h=>ob (gd af false (cG Q) h) λag h=>ob (gd af false (aF (bin prog .lss 3 ag (.I 1))) h) λah h=>ob (aF (cL af (.bool true) ah) h) λai h=>ob (gd ai false (cG Q) h) λaj h=>ob (gd ai false (aF (bin prog .gtr 3 aj (.I 16))) h) λak h=>ob (aF (cL ai (.bool true) ak) h) λal h=>aN al (some (aK [(.slice none 0 0)],h)) (ob (aF (bin prog .shl 23 (.int .u16 1) ad) h) λam h=>ob (aF (bin prog .sub 23 am (.int .u16 1)) h) λan h=>ob (dG 3 1 1 [(.I 0)] [(0,(.I (-1)))] h) λao h=>ob (O (.func 100) [ao,ad] h) λap h=>ob (aF (bld prog 201 [(0,ap),(1,an),(2,an)]) h) λaq h=>ob (cS 201 (Value.cells aq).toList .fix h) λar h=>ob (O (.func 101) [P,ad] h) λau h=>L (aM prog O L Ny) (N4 O L) [N,P,Q,undef,undef,undef,(.slice none 0 0),ad,an,ar,au,undef,undef,undef,undef,undef,N,aa,ab,ac,ad,P,ae,ad,af,af,ag,ah,ai,ai,aj,ak,al,ad,am,an,ao,ad,ap,an,an,aq,ar,P,ad,au,Q,(.I 0),undef,undef,undef,undef,undef,undef,undef,undef,undef,undef,undef,undef,undef,undef,undef,undef,undef,undef,undef,undef,undef,undef,undef,undef,undef,undef,undef,undef,undef,undef,undef,undef,undef,undef,undef,undef,undef,undef,undef,undef,undef,undef,undef,undef,undef,undef,undef,undef,undef,undef,undef,undef,undef,undef,undef,undef,undef,undef,undef,undef,undef,undef,undef,undef,undef,undef,undef,undef,undef,undef,undef,undef,undef,undef,undef,undef,undef,undef,undef,undef,undef,undef,undef,undef,undef,undef,undef] h):=by kernel_rfl
def N7:Code:=cC [1,1,0,1,0,0,1,1,0,0,1,1,0,0] (cF prog 51)
def Oa:KV:=(dB 2 (dB 1 (dO prog O L (cC [1,1,0,1,0,0,1,1,1] (cF prog 51)) k)))
def N8 (O:aG)(L:LV) (k:KV) (a b c d e f g i j l m n o p q r s t u v w x y z A B C D E F G H I J zz zy zx zw zv zu zt zs zr zq:Value) (h:aE):OV:=ob (aF (bin prog .add 3 t (.I 1)) h) λaa h=>k .normal [a,b,c,d,e,f,g,i,j,l,m,n,o,p,q,r,s,aa,u,v,w,x,y,z,A,B,C,D,E,F,G,H,I,J,zz,zy,zx,zw,zv,zu,zt,zs,aa,zq] h
theorem aK1:Oa O L k (.exit 2) [a,b,c,d,e,f,g,i,j,l,m,n,o,p,q,r,s,t,u,v,w,x,y,z,A,B,C,D,E,F,G,H,I,J,zz,zy,zx,zw,zv,zu,zt,zs,zr,zq] h=N8 O L k a b c d e f g i j l m n o p q r s t u v w x y z A B C D E F G H I J zz zy zx zw zv zu zt zs zr zq h:=by kernel_rfl
theorem Y0:aM prog O L N7 k [a,b,c,d,e,f,g,i,j,l,m,n,o,p,q,r,s,t,u,v,w,x,y,z,A,B,C,D,E,F,G,H,I,J,zz,zy,zx,zw,zv,zu,zt,zs,zr,zq] h=ob (aF (bin prog .lss 3 B A) h) λaa h=>aN aa (ob (O (.func 104) [a,e,B] h) λab h=>ob (aF (bin prog .neq 23 ab (.int .u16 0)) h) λac h=>aN ac (ob (aF (cB 1 d e) h) λad h=>ob (ld1 ad h) λae h=>ifB (true) (ob (aF (bin prog .shl 23 (.int .u16 1) B) h) λaf h=>ob (aF (bin prog .or 23 ae af) h) λag h=>ob (aF (cB 1 d e) h) λah h=>ob (stN 1 ah ag h) λai h=>ifB (true) (ob (aF (bin prog .add 3 B (.I 1)) h) λaj h=>k .normal [a,b,c,d,e,B,g,i,j,l,m,n,o,p,q,r,s,t,u,v,w,x,y,z,A,aj,aa,B,a,e,B,ab,ac,d,e,ad,ae,B,af,ag,ah,aj,zr,zq] h))) (ob (aF (bin prog .add 3 B (.I 1)) h) λak h=>k .normal [a,b,c,d,e,B,g,i,j,l,m,n,o,p,q,r,s,t,u,v,w,x,y,z,A,ak,aa,B,a,e,B,ab,ac,J,zz,zy,zx,zw,zv,zu,zt,ak,zr,zq] h)) (k (.exit 2) [a,b,c,d,e,f,g,i,j,l,m,n,o,p,q,r,s,t,u,v,w,x,y,z,A,B,aa,D,E,F,G,H,I,J,zz,zy,zx,zw,zv,zu,zt,zs,zr,zq] h):=by kernel_rfl
def N6:Code:=cC [1,1,0,1,0,0] (cF prog 51)
def N9:KV:=(dB 0 (dO prog O L (cC [1,1,1] (cF prog 51)) (eI prog Tryz.f51)))
theorem aK0:N9 O L (.exit 0) [a,b,c,d,e,f,g,i,j,l,m,n,o,p,q,r,s,t,u,v,w,x,y,z,A,B,C,D,E,F,G,H,I,J,zz,zy,zx,zw,zv,zu,zt,zs,zr,zq] h=some (aK [d],h):=by kernel_rfl
theorem Yz:aM prog O L N6 k [a,b,c,d,e,f,g,i,j,l,m,n,o,p,q,r,s,t,u,v,w,x,y,z,A,B,C,D,E,F,G,H,I,J,zz,zy,zx,zw,zv,zu,zt,zs,zr,zq] h=ob (aF (bin prog .lss 3 t s) h) λaa h=>aN aa (ob (aF (bV a) h) λab h=>ob (aF (aI 13 ab) h) λac h=>ob (ld1 ac h) λad h=>ob (aF (cH ad) h) λae h=>L (aM prog O L N7) (Oa O L k) [a,b,c,d,t,f,g,i,j,l,m,n,o,p,q,r,s,t,aa,t,a,ab,ac,ad,ae,(.I 0),C,D,E,F,G,H,I,J,zz,zy,zx,zw,zv,zu,zt,zs,zr,zq] h) (k (.exit 0) [a,b,c,d,e,f,g,i,j,l,m,n,o,p,q,r,s,t,aa,v,w,x,y,z,A,B,C,D,E,F,G,H,I,J,zz,zy,zx,zw,zv,zu,zt,zs,zr,zq] h):=by kernel_rfl
theorem aK2:cM prog O L 51 [N] h=ob (aF (bV N) h) λaa h=>ob (aF (aI 13 aa) h) λab h=>ob (ld1 ab h) λac h=>ob (aF (cH ac) h) λad h=>ob (kH 23 1 2 [(.int .u16 0)] ad ad h) λae h=>ob (aF (bV N) h) λaf h=>ob (aF (aI 13 af) h) λag h=>ob (ld1 ag h) λah h=>ob (aF (cH ah) h) λai h=>L (aM prog O L N6) (N9 O L) [N,undef,(.slice none 0 0),ae,undef,undef,N,aa,ab,ac,ad,ae,N,af,ag,ah,ai,(.I 0),undef,undef,undef,undef,undef,undef,undef,undef,undef,undef,undef,undef,undef,undef,undef,undef,undef,undef,undef,undef,undef,undef,undef,undef,undef,undef] h:=by kernel_rfl
theorem Ob:cM prog O L 52 [N,P,Q,R] h=ob (aF (bV N) h) λaa h=>ob (aF (aI 13 aa) h) λab h=>ob (ld1 ab h) λac h=>ifB (true) (ob (aF (cB 3 ac Q) h) λad h=>ob (aF (aI 2 ad) h) λae h=>ob (ld1 ae h) λaf h=>ifB (true) (ob (O (.func 104) [N,P,Q] h) λag h=>ifB (chk ((ld1 ae) h) af&&(chk ((ld1 ab) h) ac&&(true))) (ob (O (.func 105) [af,ag] h) λah h=>ifB (true) (ob (aF (bin prog .lss 3 ah (.I 0)) h) λai h=>aN ai (some (aK [],h)) (ob (aF (bV N) h) λaj h=>ob (aF (aI 15 aj) h) λak h=>ob (ld1 ak h) λal h=>ob (O (.func 106) [al,P,Q,ah] h) λam h=>ob (aF (ext 0 am) h) λan h=>ob (aF (ext 1 am) h) λao h=>ob (cS 54 [(.I 0),(.I 0),(.I 0),(.int .u32 0)] .fix h) λap h=>ob (stN 4 ap an h) λaq h=>ob (aF (bin prog .gtr 3 P (.I 0)) h) λar h=>aN ar (ob (aF (bV N) h) λau h=>ob (aF (aI 13 au) h) λav h=>ob (ld1 av h) λaw h=>ob (aF (cB 3 aw P) h) λax h=>ob (aF (aI 1 ax) h) λay h=>ob (ld1 ay h) λaz h=>ob (aF (cB 2 az ah) h) λba h=>ob (aF (aI 1 ba) h) λbb h=>ob (ld1 bb h) λbc h=>ob (O (.func 107) [bc] h) λbd h=>ob (aF (bin prog .eql 3 Q (.I 0)) h) λbe h=>aN be (ob (aF (bV N) h) λbf h=>ob (aF (aI 14 bf) h) λbg h=>ob (ld1 bg h) λbh h=>ifB (true) (ob (ldN 4 ap h) λbi h=>ifB (true) (ob (O (.func 108) [bh,bi] h) λbj h=>ifB (true) (some (aK [],h))))) (ob (aF (bV N) h) λbk h=>ob (aF (aI 13 bk) h) λbl h=>ob (ld1 bl h) λbm h=>ob (aF (cB 3 bm Q) h) λbn h=>ob (aF (aI 1 bn) h) λbo h=>ob (ld1 bo h) λbp h=>ob (aF (cB 2 bp ah) h) λbq h=>ob (aF (aI 0 bq) h) λbr h=>ob (ld1 br h) λbs h=>ob (O (.func 109) [bs] h) λbt h=>ob (aF (ext 0 bt) h) λbu h=>ob (aF (ext 1 bt) h) λbv h=>ob (dQ prog 3 5 ah h) λbw h=>ob (dQ prog 55 23 bu h) λbx h=>ob (aF (aI 0 ap) h) λbz h=>ob (ld1 bz h) λca h=>ob (dQ prog 3 5 ca h) λcb h=>ob (aF (aI 1 ap) h) λcc h=>ob (ld1 cc h) λcd h=>ob (dQ prog 3 5 cd h) λce h=>ob (aF (aI 3 ap) h) λcf h=>ob (ld1 cf h) λcg h=>ob (aF (bld prog 39 [(0,(.int .u8 1)),(1,bw),(2,bx),(3,cb),(4,ce),(5,cg)]) h) λch h=>ob (oA O R [Q,ch] h) λci h=>some (aK [],h))) (ob (aF (bin prog .eql 3 Q (.I 0)) h) λcj h=>aN cj (ob (aF (bV N) h) λck h=>ob (aF (aI 14 ck) h) λcl h=>ob (ld1 cl h) λcm h=>ifB (true) (ob (ldN 4 ap h) λcn h=>ifB (true) (ob (O (.func 108) [cm,cn] h) λco h=>ifB (true) (some (aK [],h))))) (ob (aF (bV N) h) λcp h=>ob (aF (aI 13 cp) h) λcq h=>ob (ld1 cq h) λcr h=>ob (aF (cB 3 cr Q) h) λcs h=>ob (aF (aI 1 cs) h) λct h=>ob (ld1 ct h) λcu h=>ob (aF (cB 2 cu ah) h) λcv h=>ob (aF (aI 0 cv) h) λcw h=>ob (ld1 cw h) λcx h=>ob (O (.func 109) [cx] h) λcy h=>ob (aF (ext 0 cy) h) λcz h=>ob (aF (ext 1 cy) h) λda h=>ob (dQ prog 3 5 ah h) λdb h=>ob (dQ prog 55 23 cz h) λdc h=>ob (aF (aI 0 ap) h) λdd h=>ob (ld1 dd h) λde h=>ob (dQ prog 3 5 de h) λdf h=>ob (aF (aI 1 ap) h) λdg h=>ob (ld1 dg h) λdh h=>ob (dQ prog 3 5 dh h) λdi h=>ob (aF (aI 3 ap) h) λdj h=>ob (ld1 dj h) λdk h=>ob (aF (bld prog 39 [(0,(.int .u8 1)),(1,db),(2,dc),(3,df),(4,di),(5,dk)]) h) λdl h=>ob (oA O R [Q,dl] h) λdm h=>some (aK [],h)))))))):=by kernel_rfl
def Oe:Code:=cC [1,0,0,1,1,0,0,1,1,0,0] (cF prog 53)
def Og:KV:=(dB 2 (dB 1 (dO prog O L (cC [1,0,0,1,1,1] (cF prog 53)) k)))
def Fk (O:aG)(L:LV) (k:KV) (a b c d e f g i j l m n o p q r s t u v w x y z A B C D E F G H I J zz zy zx zw zv zu zt zs zr zq zp zo zn zm:Value) (h:aE):OV:=ob (aF (bin prog .add 3 p (.I 1)) h) λaa h=>k .normal [a,b,c,d,e,f,g,i,j,l,m,n,o,aa,q,r,s,t,u,v,w,x,y,z,A,B,C,D,E,F,G,H,I,J,zz,zy,zx,zw,zv,zu,zt,zs,zr,zq,zp,zo,zn,aa] h
theorem Y2:Og O L k (.exit 2) [a,b,c,d,e,f,g,i,j,l,m,n,o,p,q,r,s,t,u,v,w,x,y,z,A,B,C,D,E,F,G,H,I,J,zz,zy,zx,zw,zv,zu,zt,zs,zr,zq,zp,zo,zn,zm] h=Fk O L k a b c d e f g i j l m n o p q r s t u v w x y z A B C D E F G H I J zz zy zx zw zv zu zt zs zr zq zp zo zn zm h:=by kernel_rfl
theorem Oc:aM prog O L Oe k [a,b,c,d,e,f,g,i,j,l,m,n,o,p,q,r,s,t,u,v,w,x,y,z,A,B,C,D,E,F,G,H,I,J,zz,zy,zx,zw,zv,zu,zt,zs,zr,zq,zp,zo,zn,zm] h=ob (aF (bin prog .lss 3 x w) h) λaa h=>aN aa (ob (aF (cB 2 v x) h) λab h=>ob (ldN 2 ab h) λac h=>ob (cS 100 [(.pointer none),(.pointer none)] .fix h) λad h=>ob (stN 2 ad ac h) λae h=>ob (dQ prog 3 5 x h) λaf h=>ob (aF (aI 0 ad) h) λag h=>ob (ld1 ag h) λah h=>ob (O (.func 20) [ah] h) λai h=>ob (dQ prog 55 23 ai h) λaj h=>ob (aF (bld prog 39 [(0,(.int .u8 3)),(1,af),(2,aj)]) h) λak h=>ob (oA O b [e,ak] h) λal h=>ob (dQ prog 3 5 x h) λam h=>ob (aF (aI 1 ad) h) λan h=>ob (ld1 an h) λao h=>ob (O (.func 110) [ao] h) λap h=>ob (dQ prog 55 23 ap h) λaq h=>ob (aF (bld prog 39 [(0,(.int .u8 2)),(1,am),(2,aq)]) h) λar h=>ob (oA O b [e,ar] h) λau h=>ob (aF (bin prog .add 3 x (.I 1)) h) λav h=>k .normal [a,b,c,d,e,f,x,ad,j,l,m,n,o,p,q,r,s,t,u,v,w,av,aa,x,ab,ac,b,e,x,af,ag,ah,ai,aj,ak,al,b,e,x,am,an,ao,ap,aq,ar,au,av,zm] h) (k (.exit 2) [a,b,c,d,e,f,g,i,j,l,m,n,o,p,q,r,s,t,u,v,w,x,aa,z,A,B,C,D,E,F,G,H,I,J,zz,zy,zx,zw,zv,zu,zt,zs,zr,zq,zp,zo,zn,zm] h):=by kernel_rfl
def Od:Code:=cC [1,0,0] (cF prog 53)
def Of (O:aG)(L:LV):KV:=(dB 0 (eI prog Tryz.f53))
theorem aK3:Of O L (.exit 0) [a,b,c,d,e,f,g,i,j,l,m,n,o,p,q,r,s,t,u,v,w,x,y,z,A,B,C,D,E,F,G,H,I,J,zz,zy,zx,zw,zv,zu,zt,zs,zr,zq,zp,zo,zn,zm] h=some (aK [],h):=by kernel_rfl
theorem Y1:aM prog O L Od k [a,b,c,d,e,f,g,i,j,l,m,n,o,p,q,r,s,t,u,v,w,x,y,z,A,B,C,D,E,F,G,H,I,J,zz,zy,zx,zw,zv,zu,zt,zs,zr,zq,zp,zo,zn,zm] h=ob (aF (bin prog .lss 3 p o) h) λaa h=>aN aa (ob (aF (cB 3 n p) h) λab h=>ob (ldN 3 ab h) λac h=>ob (cS 94 [(.I 0),(.slice none 0 0),(.pointer none)] .fix h) λad h=>ob (stN 3 ad ac h) λae h=>ob (aF (aI 1 ad) h) λaf h=>ob (ld1 af h) λag h=>ob (aF (cH ag) h) λah h=>L (aM prog O L Oe) (Og O L k) [a,b,c,d,p,ad,g,i,j,l,m,n,o,p,aa,p,ab,ac,af,ag,ah,(.I 0),y,z,A,B,C,D,E,F,G,H,I,J,zz,zy,zx,zw,zv,zu,zt,zs,zr,zq,zp,zo,zn,zm] h) (k (.exit 0) [a,b,c,d,e,f,g,i,j,l,m,n,o,p,aa,r,s,t,u,v,w,x,y,z,A,B,C,D,E,F,G,H,I,J,zz,zy,zx,zw,zv,zu,zt,zs,zr,zq,zp,zo,zn,zm] h):=by kernel_rfl
theorem aK4:cM prog O L 53 [N,P] h=ob (aF (bV N) h) λaa h=>ob (aF (aI 13 aa) h) λab h=>ob (ld1 ab h) λac h=>ob (aF (cH ac) h) λad h=>L (aM prog O L Od) (Of O L) [N,P,undef,undef,undef,undef,undef,undef,N,aa,ab,ac,ad,(.I 0),undef,undef,undef,undef,undef,undef,undef,undef,undef,undef,undef,undef,undef,undef,undef,undef,undef,undef,undef,undef,undef,undef,undef,undef,undef,undef,undef,undef,undef,undef,undef,undef,undef,undef] h:=by kernel_rfl
theorem Y3:cM prog O L 64 [N,P,Q] h=ob (cS 100 [(.pointer none),(.pointer none)] .fix h) λaa h=>ob (aF (bin prog .lss 3 P (.I 1)) h) λab h=>ob (gd ab false (cG P) h) λac h=>ob (gd ab false (cG N) h) λad h=>ob (gd ab false (aF (bV ad)) h) λae h=>ob (gd ab false (aF (aI 13 ae)) h) λaf h=>ob (gd ab false (ld1 af) h) λag h=>ob (gd ab false (aF (cH ag)) h) λah h=>ob (gd ab false (aF (bin prog .geq 3 ac ah)) h) λai h=>ob (aF (cL ab (.bool true) ai) h) λaj h=>ob (gd aj false (cG Q) h) λak h=>ob (gd aj false (aF (bin prog .lss 3 ak (.I 0))) h) λal h=>ob (aF (cL aj (.bool true) al) h) λam h=>ob (gd am false (cG Q) h) λan h=>ob (gd am false (cG N) h) λao h=>ob (gd am false (aF (bV ao)) h) λap h=>ob (gd am false (aF (aI 1 ap)) h) λaq h=>ob (gd am false (aF (aI 2 aq)) h) λar h=>ob (gd am false (ld1 ar) h) λau h=>ob (gd am false (aF (bin prog .geq 3 an au)) h) λav h=>ob (aF (cL am (.bool true) av) h) λaw h=>aN aw (ob (aF (bld prog 100 []) h) λax h=>ob (stN 2 aa ax h) λay h=>ob (ldN 2 aa h) λw23 _=>some (aK [w23,(.bool false)],h)) (ob (aF (bV N) h) λaz h=>ob (aF (aI 13 az) h) λba h=>ob (ld1 ba h) λbb h=>ob (aF (cB 3 bb P) h) λbc h=>ob (aF (aI 1 bc) h) λbd h=>ob (ld1 bd h) λbe h=>ob (aF (cB 2 be Q) h) λbf h=>ob (ldN 2 bf h) λbg h=>ob (stN 2 aa bg h) λbh h=>ob (ldN 2 aa h) λw33 _=>some (aK [w33,(.bool true)],h)):=by kernel_rfl
def Oi:Code:=cC [1,0,1,0,0] (cF prog 85)
def Fl:KV:=(dB 0 (dO prog O L (cC [1,1] (cF prog 85)) (eI prog Tryz.f85)))
theorem aK5:Fl O L (.exit 0) [a,b,c,d,e,f,g,i,j,l,m,n,o,p,q,r,s,t,u] h=some (aK [(.I (-1))],h):=by kernel_rfl
theorem aK7:Fl O L .ret [a,b,c,d,e,f,g,i,j,l,m,n,o,p,q,r,s,t,u] h=some (aK [e],h):=by kernel_rfl
theorem Y4:aM prog O L Oi k [a,b,c,d,e,f,g,i,j,l,m,n,o,p,q,r,s,t,u] h=ob (aF (bin prog .lss 3 j i) h) λaa h=>aN aa (ob (aF (cB 3 a j) h) λab h=>ob (ldN 3 ab h) λac h=>ob (oA O b [ac] h) λad h=>aN ad (k .ret [a,b,c,d,j,j,g,i,j,aa,j,b,a,j,ab,ac,ad,j,u] h) (ob (aF (bin prog .add 3 j (.I 1)) h) λae h=>k .normal [a,b,c,d,e,j,g,i,ae,aa,j,b,a,j,ab,ac,ad,t,ae] h)) (k (.exit 0) [a,b,c,d,e,f,g,i,j,aa,m,n,o,p,q,r,s,t,u] h):=by kernel_rfl
theorem aK6:cM prog O L 85 [N,P] h=ob (aF (cH N) h) λaa h=>L (aM prog O L Oi) (Fl O L) [N,P,undef,undef,(.I 0),undef,N,aa,(.I 0),undef,undef,undef,undef,undef,undef,undef,undef,undef,undef] h:=by kernel_rfl
theorem aK8:cM prog O L 86 [N,P] h=ob (cS 94 (Value.cells N).toList .fix h) λaa h=>ob (aF (aI 0 aa) h) λab h=>ob (ld1 ab h) λac h=>ob (ld1 P h) λad h=>ob (aF (bin prog .eql 3 ac ad) h) λae h=>some (aK [ae],h):=by kernel_rfl
theorem Y5:cM prog O L 87 [N] h=ob (cS 39 [(.int .u8 0),(.int .u8 0),(.int .u16 0),(.int .u8 0),(.int .u8 0),(.int .u32 0)] .fix h) λaa h0=>ob (cS 39 [(.int .u8 0),(.int .u8 0),(.int .u16 0),(.int .u8 0),(.int .u8 0),(.int .u32 0)] .fix h0) λab h1=>ob (aF (cH N) h1) λac h2=>ob (aF (bin prog .neq 3 ac (.I 6)) h2) λad h3=>ob (gd ad true (cG N) h3) λae h4=>ob (gd ad true (aF (cH ae)) h4) λaf h5=>ob (gd ad true (aF (bin prog .neq 3 af (.I 12))) h5) λag h6=>ob (aF (cL ad ag (.bool false)) h6) λah h7=>aN ah (ob (ldN 6 ab h7) λai h8=>ob (stN 6 aa ai h8) λaj h9=>ob (ldN 6 aa h9) λw10 _=>some (aK [w10,(.int .u16 30)],h9)) (ob (aF (cH N) h7) λak h11=>ob (aF (bin prog .sub 3 ak (.I 2)) h11) λal h12=>ob (aF (cH N) h12) λam h13=>ob (aF (bin prog .sub 3 am (.I 2)) h13) λan h14=>ob (slc prog 1 N none (some al) (some an) h14) λao h15=>ifB (true) (ob (O (.func 95) [ao] h15) λap h16=>ifB (true) (ob (dQ prog 23 37 ap h16) λaq h17=>ob (aF (cH N) h17) λar h18=>ob (aF (bin prog .sub 3 ar (.I 2)) h18) λau h19=>ob (slc prog 1 N (some au) none none h19) λav h20=>ifB (chk ((slc prog 1 N (some au) none none) h15) av&&(true)) (ob (O (.func 136) [av] h20) λaw h21=>ifB (true) (ob (aF (bin prog .neq 37 aq aw) h21) λax h22=>aN ax (ob (ldN 6 ab h22) λay h23=>ob (stN 6 aa ay h23) λaz h24=>ob (ldN 6 aa h24) λw25 _=>some (aK [w25,(.int .u16 30)],h24)) (ob (aF (cB 1 N (.I 0)) h22) λba h26=>ob (ld1 ba h26) λbb h27=>ob (aF (bin prog .eql 5 bb (.int .u8 1)) h27) λbc h28=>ob (aF (cH N) h28) λbd h29=>ob (aF (bin prog .eql 3 bd (.I 12)) h29) λbe h30=>ob (aF (bin prog .neq 4 bc be) h30) λbf h31=>aN bf (ob (ldN 6 ab h31) λbg h32=>ob (stN 6 aa bg h32) λbh h33=>ob (ldN 6 aa h33) λw34 _=>some (aK [w34,(.int .u16 30)],h33)) (ob (aF (cB 1 N (.I 0)) h31) λbi h35=>ob (ld1 bi h35) λbj h36=>ifB (true) (ob (aF (cB 1 N (.I 1)) h36) λbk h37=>ob (ld1 bk h37) λbl h38=>ifB (true) (ob (slc prog 1 N (some (.I 2)) (some (.I 4)) none h38) λbm h39=>ifB (true) (ob (O (.func 136) [bm] h39) λbn h40=>ifB (chk ((ld1 bk) h40) bl&&(chk ((ld1 bi) h40) bj&&(true))) (ob (dQ prog 37 23 bn h40) λbo h41=>ob (aF (bld prog 39 [(0,bj),(1,bl),(2,bo)]) h41) λbp h42=>ob (stN 6 ab bp h42) λbq h43=>ifB (true) (ob (aF (cH N) h43) λbr h44=>ob (aF (bin prog .eql 3 br (.I 12)) h44) λbs h45=>aN bs (ob (aF (cB 1 N (.I 4)) h45) λbt h46=>ob (ld1 bt h46) λbu h47=>ifB (true) (ob (aF (cB 1 N (.I 5)) h47) λbv h48=>ob (ld1 bv h48) λbw h49=>ifB (true) (ob (slc prog 1 N (some (.I 6)) (some (.I 10)) none h49) λbx h50=>ifB (true) (ob (O (.func 136) [bx] h50) λbz h51=>ifB (chk ((ld1 bv) h51) bw&&(chk ((ld1 bt) h51) bu&&(true))) (ob (aF (aI 3 ab) h51) λca h52=>ob (stN 1 ca bu h52) λcb h53=>ifB (chk ((ld1 bv) h53) bw&&(true)) (ob (aF (aI 4 ab) h53) λcc h54=>ob (stN 1 cc bw h54) λcd h55=>ifB (true) (ob (aF (aI 5 ab) h55) λce h56=>ob (stN 1 ce bz h56) λcf h57=>ifB (true) (ob (ldN 6 ab h57) λcg h58=>ob (O (.func 92) [cg] h58) λch h59=>ob (aF (un prog .not ch) h59) λci h60=>aN ci (ob (aF (bld prog 39 []) h60) λcj h61=>ob (stN 6 aa cj h61) λck h62=>ob (ldN 6 aa h62) λw63 _=>some (aK [w63,(.int .u16 30)],h62)) (ob (ldN 6 ab h60) λcl h64=>ob (stN 6 aa cl h64) λcm h65=>ob (ldN 6 aa h65) λw66 _=>some (aK [w66,(.int .u16 0)],h65)))))))))) (ob (ldN 6 ab h45) λcn h67=>ob (O (.func 92) [cn] h67) λco h68=>ob (aF (un prog .not co) h68) λcp h69=>aN cp (ob (aF (bld prog 39 []) h69) λcq h70=>ob (stN 6 aa cq h70) λcr h71=>ob (ldN 6 aa h71) λw72 _=>some (aK [w72,(.int .u16 30)],h71)) (ob (ldN 6 ab h69) λcs h73=>ob (stN 6 aa cs h73) λct h74=>ob (ldN 6 aa h74) λw75 _=>some (aK [w75,(.int .u16 0)],h74))))))))))))))):=by kernel_rfl
theorem aK9:cM prog O L 88 [N,P] h=ob (aF (bV N) h) λaa h=>ob (aF (aI 0 aa) h) λab h=>ob (aF (aI 1 ab) h) λac h=>ob (ld1 ac h) λad h=>ob (O (.func 137) [ad,P] h) λae h=>ob (aF (bV N) h) λaf h=>ob (aF (aI 0 af) h) λag h=>ob (aF (aI 1 ag) h) λah h=>ob (ld1 ah h) λai h=>ob (aF (bin prog .leq 55 ae ai) h) λaj h=>ob (gd aj false (cG ae) h) λak h=>ob (gd aj false (cG N) h) λal h=>ob (gd aj false (aF (bV al)) h) λam h=>ob (gd aj false (aF (aI 0 am)) h) λan h=>ob (gd aj false (aF (aI 0 an)) h) λao h=>ob (gd aj false (ld1 ao) h) λap h=>ob (gd aj false (aF (bin prog .add 55 ap (.int .u64 8))) h) λaq h=>ob (gd aj false (aF (bin prog .gtr 55 ak aq)) h) λar h=>ob (aF (cL aj (.bool true) ar) h) λau h=>aN au (some (aK [(.bool false)],h)) (ob (aF (bV N) h) λav h=>ob (aF (aI 0 av) h) λaw h=>ob (aF (aI 1 aw) h) λax h=>ob (stN 1 ax ae h) λay h=>some (aK [(.bool true)],h)):=by kernel_rfl
theorem aLa:cM prog O L 89 [N,P] h=ob (O (.func 138) [N,P] h) λaa h=>ob (aF (ext 0 aa) h) λab h=>ob (aF (ext 1 aa) h) λac h=>ob (aF (ext 2 aa) h) λad h=>ob (aF (un prog .not ad) h) λae h=>ob (gd ae false (cG ac) h) λaf h=>ob (gd ae false (aF (bin prog .eql 55 af (.int .u64 0))) h) λag h=>ob (aF (cL ae (.bool true) ag) h) λah h=>ob (gd ah false (cG ac) h) λai h=>ob (gd ah false (cG N) h) λaj h=>ob (gd ah false (aF (bV aj)) h) λak h=>ob (gd ah false (aF (aI 2 ak)) h) λal h=>ob (gd ah false (ld1 al) h) λam h=>ifB (true) (ob (gd ah false (cG N) h) λan h=>ob (gd ah false (aF (bV an)) h) λao h=>ob (gd ah false (aF (aI 1 ao)) h) λap h=>ob (gd ah false (ld1 ap) h) λaq h=>ifB (true) (ob (gd ah false (aF (bin prog .sub 3 am aq)) h) λar h=>ob (gd ah false (dQ prog 3 55 ar) h) λau h=>ob (gd ah false (aF (bin prog .gtr 55 ai au)) h) λav h=>ob (aF (cL ah (.bool true) av) h) λaw h=>aN aw (some (aK [(.bool false)],h)) (ob (aF (bV N) h) λax h=>ob (aF (aI 0 ax) h) λay h=>ob (stN 1 ay ab h) λaz h=>some (aK [(.bool true)],h)))):=by kernel_rfl
theorem Oj:cM prog O L 90 [N,P,Q,R] h=ob (cS 100 (Value.cells Q).toList .fix h) λaa h0=>ob (cS 39 (Value.cells R).toList .fix h0) λab h1=>ob (aF (aI 3 ab) h1) λac h2=>ob (ld1 ac h2) λad h3=>ifB (true) (ob (aF (aI 4 ab) h3) λae h4=>ob (ld1 ae h4) λaf h5=>ifB (true) (ob (aF (lZ prog true [ad,af]) h5) λag h6=>ob (dQ prog 5 3 ag h6) λah h7=>ob (aF (bV N) h7) λai h8=>ob (aF (aI 1 ai) h8) λaj h9=>ob (aF (aI 0 aj) h9) λak h10=>ob (ld1 ak h10) λal h11=>ifB (true) (ob (aF (bin prog .geq 3 ah al) h11) λam h12=>aN am (some (aK [(.int .u16 30)],h12)) (ob (aF (aI 1 aa) h12) λan h13=>ob (ld1 an h13) λao h14=>ob (aF (aI 2 ab) h14) λap h15=>ob (ld1 ap h15) λaq h16=>ob (O (.func 139) [ao,aq] h16) λar h17=>ob (aF (bin prog .neq 51 ar (.int .u16 0)) h17) λau h18=>aN au (some (aK [ar],h18)) (ob (aF (aI 3 ab) h18) λav h19=>ob (ld1 av h19) λaw h20=>ob (dQ prog 5 3 aw h20) λax h21=>ob (aF (aI 4 ab) h21) λay h22=>ob (ld1 ay h22) λaz h23=>ob (dQ prog 5 3 az h23) λba h24=>ob (aF (aI 1 ab) h24) λbb h25=>ob (ld1 bb h25) λbc h26=>ob (dQ prog 5 3 bc h26) λbd h27=>ob (aF (aI 5 ab) h27) λbe h28=>ob (ld1 be h28) λbf h29=>ob (aF (bld prog 54 [(0,ax),(1,ba),(2,bd),(3,bf)]) h29) λbg h30=>ob (cS 54 [(.I 0),(.I 0),(.I 0),(.int .u32 0)] .fix h30) λbh h31=>ob (stN 4 bh bg h31) λbi h32=>ob (aF (bV N) h32) λbj h33=>ob (aF (aI 15 bj) h33) λbk h34=>ob (ld1 bk h34) λbl h35=>ifB (true) (ob (aF (aI 1 bh) h35) λbm h36=>ob (ld1 bm h36) λbn h37=>ifB (true) (ob (O (.func 99) [N,bn] h37) λbo h38=>ifB (chk ((ld1 bk) h38) bl&&(true)) (ob (aF (aI 2 bh) h38) λbp h39=>ob (ld1 bp h39) λbq h40=>ifB (chk ((ld1 bp) h37) bq&&(true)) (ob (ldN 4 bh h40) λbr h41=>ifB (chk ((ldN 4 bh) h37) br&&(true)) (ob (O (.func 98) [bl,P,bo,bq,br] h41) λbs h42=>ifB (true) (some (aK [(.int .u16 0)],h42)))))))))))):=by kernel_rfl
theorem aKG:cM prog O L 153 [N] h=ob (cS 141 (Value.cells N).toList .fix h) λaa h=>ob (aF (aI 1 aa) h) λab h=>ob (ld1 ab h) λac h=>ob (aF (aI 0 aa) h) λad h=>ob (ld1 ad h) λae h=>ob (aF (bin prog .sub 55 ac ae) h) λaf h=>ob (dQ prog 55 3 af h) λag h=>some (aK [ag],h):=by kernel_rfl
theorem Y6:cM prog O L 91 [N] h=ob (aF (bin prog .eql 69 N (.slice none 0 0)) h) λaa h=>aN aa (some (aK [(.slice none 0 0)],h)) (ob (dG 54 4 0 [(.I 0),(.I 0),(.I 0),(.int .u32 0)] [] h) λab h=>ob (app 54 4 32 ab N h) λac h=>some (aK [ac],h)):=by kernel_rfl
theorem aKm:cM prog O L 110 [N] h=ob (aF (bV N) h) λaa h=>ob (aF (aI 0 aa) h) λab h=>ob (ld1 ab h) λac h=>ifB (true) (ob (aF (bV N) h) λad h=>ob (aF (aI 2 ad) h) λae h=>ob (ld1 ae h) λaf h=>ifB (true) (ob (aF (bV N) h) λag h=>ob (aF (aI 1 ag) h) λah h=>ob (ld1 ah h) λai h=>ifB (true) (ob (aF (bin prog .sub 3 af ai) h) λaj h=>ob (dQ prog 3 55 aj h) λak h=>ob (aF (bin prog .add 55 ac ak) h) λal h=>some (aK [al],h)))):=by kernel_rfl
theorem aLb:cM prog O L 92 [N] h=ob (cS 39 (Value.cells N).toList .fix h) λaa h=>ob (aF (aI 0 aa) h) λab h=>ob (ld1 ab h) λac h=>ob (aF (bin prog .eql 5 ac (.int .u8 1)) h) λad h=>aN ad (ob (aF (aI 1 aa) h) λae h=>ob (ld1 ae h) λaf h=>ob (aF (bin prog .lss 5 af (.int .u8 3)) h) λag h=>ob (gd ag true (aF (aI 3 aa)) h) λah h=>ob (gd ag true (ld1 ah) h) λai h=>ob (gd ag true (aF (aI 4 aa)) h) λaj h=>ob (gd ag true (ld1 aj) h) λak h=>ob (gd ag true (aF (lZ prog true [ai,ak])) h) λal h=>ob (gd ag true (aF (bin prog .lss 5 al (.int .u8 6))) h) λam h=>ob (aF (cL ag am (.bool false)) h) λan h=>ob (gd an true (aF (aI 3 aa)) h) λao h=>ob (gd an true (ld1 ao) h) λap h=>ob (gd an true (aF (aI 4 aa)) h) λaq h=>ob (gd an true (ld1 aq) h) λar h=>ob (gd an true (aF (bin prog .neq 5 ap ar)) h) λau h=>ob (aF (cL an au (.bool false)) h) λav h=>some (aK [av],h)) (ob (aF (bin prog .eql 5 ac (.int .u8 2)) h) λaw h=>aN aw (aN aw (ob (aF (aI 1 aa) h) λax h=>ob (ld1 ax h) λay h=>ob (aF (bin prog .lss 5 ay (.int .u8 3)) h) λaz h=>ob (gd az true (ldN 6 aa) h) λba h=>ob (gd az true (aF (aI 0 aa)) h) λbb h=>ob (gd az true (ld1 bb) h) λbc h=>ob (gd az true (aF (aI 1 aa)) h) λbd h=>ob (gd az true (ld1 bd) h) λbe h=>ob (gd az true (aF (aI 2 aa)) h) λbf h=>ob (gd az true (ld1 bf) h) λbg h=>ob (gd az true (aF (bld prog 39 [(0,bc),(1,be),(2,bg)])) h) λbh h=>ob (gd az true (aF (bin prog .eql 39 ba bh)) h) λbi h=>ob (aF (cL az bi (.bool false)) h) λbj h=>some (aK [bj],h)) (some (aK [(.bool false)],h))) (ob (aF (bin prog .eql 5 ac (.int .u8 3)) h) λbk h=>aN bk (ob (aF (aI 1 aa) h) λbl h=>ob (ld1 bl h) λbm h=>ob (aF (bin prog .lss 5 bm (.int .u8 3)) h) λbn h=>ob (gd bn true (ldN 6 aa) h) λbo h=>ob (gd bn true (aF (aI 0 aa)) h) λbp h=>ob (gd bn true (ld1 bp) h) λbq h=>ob (gd bn true (aF (aI 1 aa)) h) λbr h=>ob (gd bn true (ld1 br) h) λbs h=>ob (gd bn true (aF (aI 2 aa)) h) λbt h=>ob (gd bn true (ld1 bt) h) λbu h=>ob (gd bn true (aF (bld prog 39 [(0,bq),(1,bs),(2,bu)])) h) λbv h=>ob (gd bn true (aF (bin prog .eql 39 bo bv)) h) λbw h=>ob (aF (cL bn bw (.bool false)) h) λbx h=>some (aK [bx],h)) (some (aK [(.bool false)],h)))):=by kernel_rfl
theorem aLc:cM prog O L 93 [N,P] h=ob (aF (bin prog .shr 23 P (.int .u64 8)) h) λaa h=>ob (dQ prog 23 5 aa h) λab h=>ob (dQ prog 23 5 P h) λac h=>ob (dG 5 1 2 [(.int .u8 0)] [(0,ab),(1,ac)] h) λad h=>ob (app 5 1 1 N ad h) λae h=>some (aK [ae],h):=by kernel_rfl
theorem aLd:cM prog O L 94 [N,P] h=ob (aF (bin prog .shr 37 P (.int .u64 16)) h) λaa h=>ob (dQ prog 37 23 aa h) λab h=>ob (O (.func 93) [N,ab] h) λac h=>ob (dQ prog 37 23 P h) λad h=>ob (O (.func 93) [ac,ad] h) λae h=>some (aK [ae],h):=by kernel_rfl
def Ol:Code:=cC [1,1,0,1,0,0] (cF prog 95)
def Om:KV:=(dB 0 (dO prog O L (cC [1,1,1] (cF prog 95)) (eI prog Tryz.f95)))
theorem aLe:Om O L (.exit 0) [a,b,c,d,e,f,g,i,j,l,m,n,o,p,q,r] h=ob (ld1 d h) λaa h=>some (aK [aa],h):=by kernel_rfl
theorem Y7:aM prog O L Ol k [a,b,c,d,e,f,g,i,j,l,m,n,o,p,q,r] h=ob (aF (bin prog .lss 3 j i) h) λaa h=>aN aa (ob (aF (cB 1 g j) h) λab h=>ob (ld1 ab h) λac h=>ob (O (.func 140) [d,ac] h) λad h=>ob (aF (bin prog .add 3 j (.I 1)) h) λae h=>k .normal [a,b,c,d,e,ac,g,i,ae,aa,ab,ac,ac,ad,ae,r] h) (k (.exit 0) [a,b,c,d,e,f,g,i,j,aa,m,n,o,p,q,r] h):=by kernel_rfl
theorem aLf:cM prog O L 95 [N] h=ob (cS 253 [(.int .u16 0)] .fix h) λaa h=>ob (stN 1 aa (.int .u16 65535) h) λab h=>ob (aF (cH N) h) λac h=>L (aM prog O L Ol) (Om O L) [N,undef,(.int .u16 0),aa,undef,undef,N,ac,(.I 0),undef,undef,undef,undef,undef,undef,undef] h:=by kernel_rfl
theorem Y8:cM prog O L 97 [N,P] h=ob (cS 54 [(.I 0),(.I 0),(.I 0),(.int .u32 0)] .fix h) λaa h=>ob (O (.func 141) [N,P] h) λab h=>ob (aF (bin prog .eql 3 ab (.I 0)) h) λac h=>aN ac (ob (aF (bld prog 54 []) h) λad h=>ob (stN 4 aa ad h) λae h=>ob (ldN 4 aa h) λw5 _=>some (aK [w5,(.bool false)],h)) (ob (aF (bV N) h) λaf h=>ob (aF (aI 0 af) h) λag h=>ob (aF (qL 3 1 ag P) h) λah h=>ob (ld1 ah h) λai h=>ob (aF (cB 4 ai (.I 0)) h) λaj h=>ob (ldN 4 aj h) λak h=>ob (cS 54 [(.I 0),(.I 0),(.I 0),(.int .u32 0)] .fix h) λal h=>ob (stN 4 al ak h) λam h=>ob (aF (bV N) h) λan h=>ob (aF (aI 0 an) h) λao h=>ob (aF (qL 3 1 ao P) h) λap h=>ob (ld1 ap h) λaq h=>ifB (true) (ob (slc prog 4 aq (some (.I 1)) none none h) λar h=>ifB (true) (ob (aF (bV N) h) λau h=>ob (aF (aI 0 au) h) λav h=>ob (aF (qL 3 1 av P) h) λaw h=>ob (stN 1 aw ar h) λax h=>ifB (true) (ob (ldN 4 al h) λay h=>ob (stN 4 aa ay h) λaz h=>ob (ldN 4 aa h) λw25 _=>some (aK [w25,(.bool true)],h))))):=by kernel_rfl
theorem aLg:cM prog O L 99 [N,P] h=ob (aF (bV N) h) λaa h=>ob (aF (aI 12 aa) h) λab h=>ob (ld1 ab h) λac h=>ob (aF (bin prog .eql 3 P ac) h) λad h=>aN ad (some (aK [(.I 0)],h)) (ob (aF (bV N) h) λae h=>ob (aF (aI 1 ae) h) λaf h=>ob (aF (aI 10 af) h) λag h=>ob (ld1 ag h) λah h=>ifB (true) (ob (aF (bV N) h) λai h=>ob (aF (aI 12 ai) h) λaj h=>ob (ld1 aj h) λak h=>ifB (true) (ob (aF (cB 1 ah ak) h) λal h=>ob (ld1 al h) λam h=>ifB (true) (ob (aF (cB 1 am P) h) λan h=>ob (ld1 an h) λao h=>ifB (true) (ob (cS 3 [(.I 0)] .fix h) λap h=>ob (stN 1 ap ao h) λaq h=>ifB (true) (ob (aF (bV N) h) λar h=>ob (aF (aI 13 ar) h) λau h=>ob (ld1 au h) λav h=>ob (slc prog 3 av (some (.I 1)) none none h) λaw h=>ob (O (.func 85) [aw,(.func (.func 144) #[] #[ap])] h) λax h=>ob (aF (bin prog .add 3 ax (.I 1)) h) λay h=>some (aK [ay],h))))))):=by kernel_rfl
def M8:Code:=cC [1,1,1,1,1,1,0,0,0] (cF prog 100)
def M9:KV:=(dB 0 (dO prog O L (cC [1,1,1,1,1,1,1] (cF prog 100)) (eI prog Tryz.f100)))
theorem aJ9:M9 O L (.exit 0) [a,b,c,d,e,f,g,i,j,l,m,n,o,p,q,r,s,t,u,v,w,x,y,z,A,B,C,D,E,F,G,H,I,J,zz,zy,zx,zw,zv,zu,zt,zs,zr,zq,zp,zo,zn,zm] h=some (aK [i],h):=by kernel_rfl
theorem aJ5:aM prog O L M8 k [a,b,c,d,e,f,g,i,j,l,m,n,o,p,q,r,s,t,u,v,w,x,y,z,A,B,C,D,E,F,G,H,I,J,zz,zy,zx,zw,zv,zu,zt,zs,zr,zq,zp,zo,zn,zm] h=ob (aF (cH i) h) λaa h=>ob (aF (bin prog .lss 3 j aa) h) λab h=>aN ab (ob (slc prog 1 i (some j) none none h) λac h=>ifB (true) (ob (slc prog 1 i none (some j) none h) λad h=>ifB (true) (ob (cpy 1 ac ad h) λae h=>ifB (true) (ob (aF (bin prog .add 3 j ae) h) λaf h=>k .normal [a,b,c,d,e,f,g,i,af,l,m,n,o,p,q,r,s,t,u,v,w,x,y,z,A,B,C,D,E,F,G,H,I,J,j,i,aa,ab,j,i,j,ac,i,j,ad,ae,af,zm] h)))) (k (.exit 0) [a,b,c,d,e,f,g,i,j,l,m,n,o,p,q,r,s,t,u,v,w,x,y,z,A,B,C,D,E,F,G,H,I,J,j,i,aa,ab,zv,zu,zt,zs,zr,zq,zp,zo,zn,zm] h):=by kernel_rfl
def aJ8:Code:=cC [1,1,1,1,1,1,0,0,0] (cF prog 100)
def aKd:KV:=(dB 0 (dO prog O L (cC [1,1,1,1,1,1,1] (cF prog 100)) (eI prog Tryz.f100)))
def aJ7:Code:=cC [1,1,1,1,1,1,0,0,0] (cF prog 100)
def aKc:KV:=(dB 0 (dO prog O L (cC [1,1,1,1,1,1,1] (cF prog 100)) (eI prog Tryz.f100)))
def aJ6:Code:=cC [1,1,1,1,1,1,0,0,0] (cF prog 100)
def aKb:KV:=(dB 0 (dO prog O L (cC [1,1,1,1,1,1,1] (cF prog 100)) (eI prog Tryz.f100)))
theorem aKa:cM prog O L 100 [N,P] h=ob (aF (bin prog .lss 3 P (.I 0)) h) λaa h=>aN aa (ob (dP /- operation -/ h) λab h=>ob (dP /- operation -/ h) λac h=>ob (aF (cH N) h) λad h=>ob (dQ prog 3 116 ad h) λae h=>ob (dQ prog 3 116 P h) λaf h=>ob (O (.func 145) [ae,af] h) λag h=>ob (aF (ext 0 ag) h) λah h=>ob (aF (ext 1 ag) h) λai h=>ob (aF (bin prog .gtr 116 ah (.int .u64 0)) h) λaj h=>ob (gd aj false (cG ai) h) λak h=>ob (gd aj false (aF (bin prog .gtr 116 ak (.int .u64 9223372036854775807))) h) λal h=>ob (aF (cL aj (.bool true) al) h) λam h=>aN am (ob (dP /- operation -/ h) λan h=>ob (dP /- operation -/ h) λao h=>ob (dQ prog 116 3 ai h) λap h=>ob (kH 3 1 8 [(.I 0)] ap ap h) λaq h=>ob (cpy 1 aq N h) λar h=>L (aM prog O L aJ6) (aKb O L) [N,P,undef,undef,(.slice none 0 0),ah,ai,aq,ar,P,aa,ab,ag,N,ad,ae,P,af,ag,ah,ai,ah,aj,aj,ak,al,am,an,ai,ap,aq,aq,N,ar,undef,undef,undef,undef,undef,undef,undef,undef,undef,undef,undef,undef,undef,undef] h) (ob (dQ prog 116 3 ai h) λau h=>ob (kH 3 1 8 [(.I 0)] au au h) λav h=>ob (cpy 1 av N h) λaw h=>L (aM prog O L aJ7) (aKc O L) [N,P,undef,undef,(.slice none 0 0),ah,ai,av,aw,P,aa,ab,ag,N,ad,ae,P,af,ag,ah,ai,ah,aj,aj,ak,al,am,undef,ai,au,av,av,N,aw,undef,undef,undef,undef,undef,undef,undef,undef,undef,undef,undef,undef,undef,undef] h)) (ob (aF (cH N) h) λax h=>ob (dQ prog 3 116 ax h) λay h=>ob (dQ prog 3 116 P h) λaz h=>ob (O (.func 145) [ay,az] h) λba h=>ob (aF (ext 0 ba) h) λbb h=>ob (aF (ext 1 ba) h) λbc h=>ob (aF (bin prog .gtr 116 bb (.int .u64 0)) h) λbd h=>ob (gd bd false (cG bc) h) λbe h=>ob (gd bd false (aF (bin prog .gtr 116 be (.int .u64 9223372036854775807))) h) λbf h=>ob (aF (cL bd (.bool true) bf) h) λbg h=>aN bg (ob (dP /- operation -/ h) λbh h=>ob (dP /- operation -/ h) λbi h=>ob (dQ prog 116 3 bc h) λbj h=>ob (kH 3 1 8 [(.I 0)] bj bj h) λbk h=>ob (cpy 1 bk N h) λbl h=>L (aM prog O L aJ8) (aKd O L) [N,P,undef,undef,(.slice none 0 0),bb,bc,bk,bl,P,aa,undef,ba,N,ax,ay,P,az,ba,bb,bc,bb,bd,bd,be,bf,bg,bh,bc,bj,bk,bk,N,bl,undef,undef,undef,undef,undef,undef,undef,undef,undef,undef,undef,undef,undef,undef] h) (ob (dQ prog 116 3 bc h) λbm h=>ob (kH 3 1 8 [(.I 0)] bm bm h) λbn h=>ob (cpy 1 bn N h) λbo h=>L (aM prog O L M8) (M9 O L) [N,P,undef,undef,(.slice none 0 0),bb,bc,bn,bo,P,aa,undef,ba,N,ax,ay,P,az,ba,bb,bc,bb,bd,bd,be,bf,bg,undef,bc,bm,bn,bn,N,bo,undef,undef,undef,undef,undef,undef,undef,undef,undef,undef,undef,undef,undef,undef] h)):=by kernel_rfl
def Na:Code:=cC [1,1,0,1,0,0] (cF prog 102)
def Nb:KV:=(dB 0 (dO prog O L (cC [1,1,1] (cF prog 102)) (eI prog Tryz.f102)))
theorem aKe:Nb O L (.exit 0) [a,b,c,d,e,f,g,i,j,l,m,n,o,p,q,r,s,t,u,v,w,x,y,z,A,B,C,D,E,F,G,H,I,J,zz,zy,zx,zw,zv,zu,zt,zs,zr,zq,zp,zo,zn,zm,zl,zk,zj,zi,zh,zg,zf,ze,zd] h=some (aK [i],h):=by kernel_rfl
theorem Yj:aM prog O L Na k [a,b,c,d,e,f,g,i,j,l,m,n,o,p,q,r,s,t,u,v,w,x,y,z,A,B,C,D,E,F,G,H,I,J,zz,zy,zx,zw,zv,zu,zt,zs,zr,zq,zp,zo,zn,zm,zl,zk,zj,zi,zh,zg,zf,ze,zd] h=ob (aF (bin prog .lss 3 s r) h) λaa h=>aN aa (ob (aF (cB 1 q s) h) λab h=>ob (ld1 ab h) λac h=>ob (aF (bV b) h) λad h=>ob (aF (aI 1 ad) h) λae h=>ob (ld1 ae h) λaf h=>ifB (true) (ob (aF (bin prog .and 23 ac af) h) λag h=>ob (aF (bV a) h) λah h=>ob (aF (aI 0 ah) h) λai h=>ob (ld1 ai h) λaj h=>ifB (true) (ob (aF (cB 1 aj s) h) λak h=>ob (ld1 ak h) λal h=>ifB (true) (ob (aF (cH c) h) λam h=>ob (O (.func 103) [ag,al,am] h) λan h=>ifB (true) (ob (aF (bin prog .neq 3 an (.I (-1))) h) λao h=>ob (gd ao true (cG b) h) λap h=>ob (gd ao true (aF (bV ap)) h) λaq h=>ob (gd ao true (aF (aI 2 aq)) h) λar h=>ob (gd ao true (ld1 ar) h) λau h=>ob (gd ao true (cG s) h) λav h=>ob (gd ao true (O (.func 148) [au,av]) h) λaw h=>ob (aF (cL ao aw (.bool false)) h) λax h=>aN ax (ob (aF (cB 1 i an) h) λay h=>ob (ld1 ay h) λaz h=>ifB (true) (ob (aF (bin prog .shl 23 (.int .u16 1) s) h) λba h=>ob (aF (bin prog .or 23 az ba) h) λbb h=>ob (aF (cB 1 i an) h) λbc h=>ob (stN 1 bc bb h) λbd h=>ifB (true) (ob (aF (bin prog .add 3 s (.I 1)) h) λbe h=>k .normal [a,b,c,d,e,f,g,i,s,ac,an,n,o,p,q,r,be,aa,s,ab,ac,ac,b,ad,ae,af,ag,a,ah,ai,aj,s,ak,al,c,am,an,an,ao,ao,ap,aq,ar,au,av,aw,ax,i,an,ay,az,s,ba,bb,bc,be,zd] h))) (ob (aF (bin prog .add 3 s (.I 1)) h) λbf h=>k .normal [a,b,c,d,e,f,g,i,s,ac,an,n,o,p,q,r,bf,aa,s,ab,ac,ac,b,ad,ae,af,ag,a,ah,ai,aj,s,ak,al,c,am,an,an,ao,ao,ap,aq,ar,au,av,aw,ax,zm,zl,zk,zj,zi,zh,zg,zf,bf,zd] h)))))) (k (.exit 0) [a,b,c,d,e,f,g,i,j,l,m,n,o,p,q,r,s,aa,u,v,w,x,y,z,A,B,C,D,E,F,G,H,I,J,zz,zy,zx,zw,zv,zu,zt,zs,zr,zq,zp,zo,zn,zm,zl,zk,zj,zi,zh,zg,zf,ze,zd] h):=by kernel_rfl
theorem aKf:cM prog O L 102 [N,P,Q] h=ob (aF (cH Q) h) λaa h=>ob (kH 23 1 2 [(.int .u16 0)] aa aa h) λab h=>ob (aF (cH Q) h) λac h=>L (aM prog O L Na) (Nb O L) [N,P,Q,undef,undef,undef,(.slice none 0 0),ab,undef,undef,undef,Q,aa,ab,Q,ac,(.I 0),undef,undef,undef,undef,undef,undef,undef,undef,undef,undef,undef,undef,undef,undef,undef,undef,undef,undef,undef,undef,undef,undef,undef,undef,undef,undef,undef,undef,undef,undef,undef,undef,undef,undef,undef,undef,undef,undef,undef,undef] h:=by kernel_rfl
def Nc:Code:=cC [1,1,0,1,0,0] (cF prog 104)
def Nd:KV:=(dB 0 (dO prog O L (cC [1,1,1] (cF prog 104)) (eI prog Tryz.f104)))
theorem aKg:Nd O L (.exit 0) [a,b,c,d,e,f,g,i,j,l,m,n,o,p,q,r,s,t,u,v,w,x,y,z,A,B,C,D,E,F,G,H,I,J,zz,zy,zx,zw,zv,zu,zt,zs,zr,zq,zp,zo,zn,zm,zl,zk] h=some (aK [i],h):=by kernel_rfl
theorem Yk:aM prog O L Nc k [a,b,c,d,e,f,g,i,j,l,m,n,o,p,q,r,s,t,u,v,w,x,y,z,A,B,C,D,E,F,G,H,I,J,zz,zy,zx,zw,zv,zu,zt,zs,zr,zq,zp,zo,zn,zm,zl,zk] h=ob (aF (bin prog .lss 3 q p) h) λaa h=>aN aa (ob (aF (bV a) h) λab h=>ob (aF (aI 15 ab) h) λac h=>ob (ld1 ac h) λad h=>ob (O (.func 96) [ad,b,c,q] h) λae h=>ob (aF (bin prog .eql 3 ae (.I 0)) h) λaf h=>aN af (ob (aF (bin prog .add 3 q (.I 1)) h) λag h=>k .normal [a,b,c,d,e,f,g,i,q,l,m,n,o,p,ag,aa,q,a,ab,ac,ad,b,c,q,ae,af,C,D,E,F,G,H,I,J,zz,zy,zx,zw,zv,zu,zt,zs,zr,zq,zp,zo,zn,zm,ag,zk] h) (ob (aF (bin prog .eql 3 c (.I 0)) h) λah h=>ob (gd ah false (cG a) h) λai h=>ob (gd ah false (aF (bV ai)) h) λaj h=>ob (gd ah false (aF (aI 13 aj)) h) λak h=>ob (gd ah false (ld1 ak) h) λal h=>ob (gd ah false (cG c) h) λam h=>ob (gd ah false (aF (cB 3 al am)) h) λan h=>ob (gd ah false (aF (aI 1 an)) h) λao h=>ob (gd ah false (ld1 ao) h) λap h=>ob (gd ah false (cG q) h) λaq h=>ob (gd ah false (aF (cB 2 ap aq)) h) λar h=>ob (gd ah false (aF (aI 0 ar)) h) λau h=>ob (gd ah false (ld1 au) h) λav h=>ob (gd ah false (O (.func 149) [av]) h) λaw h=>ob (gd ah false (aF (bin prog .gtr 3 aw (.I 0))) h) λax h=>ob (aF (cL ah (.bool true) ax) h) λay h=>aN ay (ob (aF (bin prog .shl 23 (.int .u16 1) q) h) λaz h=>ob (aF (bin prog .or 23 i az) h) λba h=>ob (aF (bin prog .add 3 q (.I 1)) h) λbb h=>k .normal [a,b,c,d,e,f,g,ba,q,l,m,n,o,p,bb,aa,q,a,ab,ac,ad,b,c,q,ae,af,c,ah,ah,ai,aj,ak,al,am,an,ao,ap,aq,ar,au,av,aw,ax,ay,i,q,az,ba,bb,zk] h) (ob (aF (bin prog .add 3 q (.I 1)) h) λbc h=>k .normal [a,b,c,d,e,f,g,i,q,l,m,n,o,p,bc,aa,q,a,ab,ac,ad,b,c,q,ae,af,c,ah,ah,ai,aj,ak,al,am,an,ao,ap,aq,ar,au,av,aw,ax,ay,zp,zo,zn,zm,bc,zk] h))) (k (.exit 0) [a,b,c,d,e,f,g,i,j,l,m,n,o,p,q,aa,s,t,u,v,w,x,y,z,A,B,C,D,E,F,G,H,I,J,zz,zy,zx,zw,zv,zu,zt,zs,zr,zq,zp,zo,zn,zm,zl,zk] h):=by kernel_rfl
theorem aKh:cM prog O L 104 [N,P,Q] h=ob (aF (bV N) h) λaa h=>ob (aF (aI 1 aa) h) λab h=>ob (aF (aI 2 ab) h) λac h=>ob (ld1 ac h) λad h=>L (aM prog O L Nc) (Nd O L) [N,P,Q,undef,undef,undef,(.int .u16 0),(.int .u16 0),undef,N,aa,ab,ac,ad,(.I 0),undef,undef,undef,undef,undef,undef,undef,undef,undef,undef,undef,undef,undef,undef,undef,undef,undef,undef,undef,undef,undef,undef,undef,undef,undef,undef,undef,undef,undef,undef,undef,undef,undef,undef,undef] h:=by kernel_rfl
theorem aKi:cM prog O L 105 [N,P] h=ob (aF (bV N) h) λaa h0=>ob (aF (aI 0 aa) h0) λab h1=>ob (ld1 ab h1) λac h2=>ob (aF (cH ac) h2) λad h3=>ob (aF (bin prog .shl 23 (.int .u16 1) ad) h3) λae h4=>ob (aF (bin prog .sub 23 ae (.int .u16 1)) h4) λaf h5=>ob (aF (bin prog .and 23 P af) h5) λag h6=>ob (aF (bin prog .eql 23 ag (.int .u16 0)) h6) λah h7=>aN ah (some (aK [(.I (-1))],h7)) (ob (O (.func 150) [N] h7) λai h8=>ob (aF (bin prog .and 23 ag ai) h8) λaj h9=>ob (aF (bin prog .eql 23 aj (.int .u16 0)) h9) λak h10=>aN ak (ob (aF (bV N) h10) λal h11=>ob (aF (aI 1 al) h11) λam h12=>ob (ld1 am h12) λan h13=>ifB (true) (ob (aF (bV N) h13) λao h14=>ob (aF (aI 0 ao) h14) λap h15=>ob (ld1 ap h15) λaq h16=>ifB (true) (ob (cpy 1 an aq h16) λar h17=>ifB (true) (ob (O (.func 150) [N] h17) λau h18=>ifB (true) (ob (aF (bin prog .and 23 ag au) h18) λav h19=>ob (aF (bV N) h19) λaw h20=>ob (aF (aI 2 aw) h20) λax h21=>ob (ld1 ax h21) λay h22=>ifB (chk ((ld1 ax) h17) ay&&(true)) (ob (O (.func 103) [av,ay,ad] h22) λaz h23=>ifB (true) (ob (aF (bV N) h23) λba h24=>ob (aF (aI 1 ba) h24) λbb h25=>ob (ld1 bb h25) λbc h26=>ob (aF (cB 1 bc az) h26) λbd h27=>ob (ld1 bd h27) λbe h28=>ob (aF (bin prog .sub 3 be (.I 1)) h28) λbf h29=>ob (aF (cB 1 bc az) h29) λbg h30=>ob (stN 1 bg bf h30) λbh h31=>ob (aF (bin prog .add 3 az (.I 1)) h31) λbi h32=>ob (aF (bin prog .rem 3 bi ad) h32) λbj h33=>ob (aF (bV N) h33) λbk h34=>ob (aF (aI 2 bk) h34) λbl h35=>ob (stN 1 bl bj h35) λbm h36=>some (aK [az],h36)))))))) (ob (O (.func 150) [N] h10) λbn h37=>ifB (true) (ob (aF (bin prog .and 23 ag bn) h37) λbo h38=>ob (aF (bV N) h38) λbp h39=>ob (aF (aI 2 bp) h39) λbq h40=>ob (ld1 bq h40) λbr h41=>ifB (chk ((ld1 bq) h10) br&&(true)) (ob (O (.func 103) [bo,br,ad] h41) λbs h42=>ifB (true) (ob (aF (bV N) h42) λbt h43=>ob (aF (aI 1 bt) h43) λbu h44=>ob (ld1 bu h44) λbv h45=>ob (aF (cB 1 bv bs) h45) λbw h46=>ob (ld1 bw h46) λbx h47=>ob (aF (bin prog .sub 3 bx (.I 1)) h47) λbz h48=>ob (aF (cB 1 bv bs) h48) λca h49=>ob (stN 1 ca bz h49) λcb h50=>ob (aF (bin prog .add 3 bs (.I 1)) h50) λcc h51=>ob (aF (bin prog .rem 3 cc ad) h51) λcd h52=>ob (aF (bV N) h52) λce h53=>ob (aF (aI 2 ce) h53) λcf h54=>ob (stN 1 cf cd h54) λcg h55=>some (aK [bs],h55)))))):=by kernel_rfl
theorem aKj:cM prog O L 107 [N] h=ob (aF (bV N) h) λaa h=>ob (aF (aI 1 aa) h) λab h=>ob (ld1 ab h) λac h=>ob (aF (bin prog .eql 3 ac (.I 0)) h) λad h=>aN ad (some (aK [(.bool false)],h)) (ob (aF (bV N) h) λae h=>ob (aF (aI 1 ae) h) λaf h=>ob (ld1 af h) λag h=>ob (aF (bin prog .sub 3 ag (.I 1)) h) λah h=>ob (aF (bV N) h) λai h=>ob (aF (aI 1 ai) h) λaj h=>ob (stN 1 aj ah h) λak h=>some (aK [(.bool true)],h)):=by kernel_rfl
theorem aKk:cM prog O L 108 [N,P] h=ob (cS 54 (Value.cells P).toList .fix h) λaa h=>ob (aF (bV N) h) λab h=>ob (aF (aI 3 ab) h) λac h=>ob (ld1 ac h) λad h=>ifB (true) (ob (ldN 4 aa h) λae h=>ifB (true) (ob (dG 54 4 1 [(.I 0),(.I 0),(.I 0),(.int .u32 0)] [(0,ae)] h) λaf h=>ob (app 54 4 32 ad af h) λag h=>ifB (true) (ob (aF (bV N) h) λah h=>ob (aF (aI 3 ah) h) λai h=>ob (stN 1 ai ag h) λaj h=>ifB (true) (some (aK [],h))))):=by kernel_rfl
theorem aKl:cM prog O L 109 [N] h=ob (aF (bV N) h) λaa h=>ob (aF (aI 0 aa) h) λab h=>ob (ldN 2 ab h) λac h=>ob (O (.func 153) [ac] h) λad h=>ob (aF (bin prog .eql 3 ad (.I 0)) h) λae h=>aN ae (some (aK [(.int .u64 0),(.bool false)],h)) (ob (aF (bV N) h) λaf h=>ob (aF (aI 0 af) h) λag h=>ob (aF (aI 0 ag) h) λah h=>ob (ld1 ah h) λai h=>ob (aF (bV N) h) λaj h=>ob (aF (aI 0 aj) h) λak h=>ob (aF (aI 0 ak) h) λal h=>ob (ld1 al h) λam h=>ob (aF (bin prog .add 55 am (.int .u64 1)) h) λan h=>ob (aF (bV N) h) λao h=>ob (aF (aI 0 ao) h) λap h=>ob (aF (aI 0 ap) h) λaq h=>ob (stN 1 aq an h) λar h=>some (aK [ai,(.bool true)],h)):=by kernel_rfl
def Nl:Code:=cC [1,1,0,1,0,0] (cF prog 136)
def Nm:KV:=(dB 0 (dO prog O L (cC [1,1,1] (cF prog 136)) (eI prog Tryz.f136)))
theorem aKq:Nm O L (.exit 0) [a,b,c,d,e,f,g,i,j,l,m,n,o,p,q,r,s,t,u] h=some (aK [d],h):=by kernel_rfl
theorem Yo:aM prog O L Nl k [a,b,c,d,e,f,g,i,j,l,m,n,o,p,q,r,s,t,u] h=ob (aF (bin prog .lss 3 j i) h) λaa h=>aN aa (ob (aF (cB 1 g j) h) λab h=>ob (ld1 ab h) λac h=>ob (aF (bin prog .shl 37 d (.int .u64 8)) h) λad h=>ob (dQ prog 5 37 ac h) λae h=>ob (aF (bin prog .or 37 ad ae) h) λaf h=>ob (aF (bin prog .add 3 j (.I 1)) h) λag h=>k .normal [a,b,c,af,e,ac,g,i,ag,aa,ab,ac,d,ad,ac,ae,af,ag,u] h) (k (.exit 0) [a,b,c,d,e,f,g,i,j,aa,m,n,o,p,q,r,s,t,u] h):=by kernel_rfl
theorem aKr:cM prog O L 136 [N] h=ob (aF (cH N) h) λaa h=>L (aM prog O L Nl) (Nm O L) [N,undef,(.int .u32 0),(.int .u32 0),undef,undef,N,aa,(.I 0),undef,undef,undef,undef,undef,undef,undef,undef,undef,undef] h:=by kernel_rfl
theorem aKs:cM prog O L 137 [N,P] h=ob (aF (bin prog .sub 55 N (.int .u64 32768)) h) λaa h=>ob (O (.func 174) [aa] h) λab h=>ob (aF (bin prog .sub 23 P ab) h) λac h=>ob (dQ prog 23 55 ac h) λad h=>ob (aF (bin prog .add 55 aa ad) h) λae h=>some (aK [ae],h):=by kernel_rfl
theorem aKt:cM prog O L 138 [N,P] h=ob (aF (bV N) h) λaa h=>ob (aF (aI 0 aa) h) λab h=>ob (ld1 ab h) λac h=>ob (O (.func 137) [ac,P] h) λad h=>ob (aF (bV N) h) λae h=>ob (aF (aI 0 ae) h) λaf h=>ob (ld1 af h) λag h=>ifB (true) (ob (aF (bin prog .sub 55 ad ag) h) λah h=>ob (aF (bV N) h) λai h=>ob (aF (aI 0 ai) h) λaj h=>ob (ld1 aj h) λak h=>ifB (true) (ob (aF (bin prog .geq 55 ad ak) h) λal h=>some (aK [ad,ah,al],h))):=by kernel_rfl
theorem aKu:cM prog O L 139 [N,P] h=ob (O (.func 138) [N,P] h) λaa h=>ob (aF (ext 0 aa) h) λab h=>ob (aF (ext 1 aa) h) λac h=>ob (aF (ext 2 aa) h) λad h=>ob (aF (un prog .not ad) h) λae h=>aN ae (some (aK [(.int .u16 60)],h)) (ob (aF (bV N) h) λaf h=>ob (aF (aI 2 af) h) λag h=>ob (ld1 ag h) λah h=>ifB (true) (ob (aF (bV N) h) λai h=>ob (aF (aI 1 ai) h) λaj h=>ob (ld1 aj h) λak h=>ifB (true) (ob (aF (bin prog .sub 3 ah ak) h) λal h=>ob (dQ prog 3 55 al h) λam h=>ob (aF (bin prog .geq 55 ac am) h) λan h=>aN an (some (aK [(.int .u16 61)],h)) (ob (aF (bin prog .add 55 ab (.int .u64 1)) h) λao h=>ob (aF (bV N) h) λap h=>ob (aF (aI 0 ap) h) λaq h=>ob (stN 1 aq ao h) λar h=>ob (aF (bV N) h) λau h=>ob (aF (aI 1 au) h) λav h=>ob (ld1 av h) λaw h=>ob (aF (bin prog .add 3 aw (.I 1)) h) λax h=>ob (aF (bV N) h) λay h=>ob (aF (aI 1 ay) h) λaz h=>ob (stN 1 az ax h) λba h=>some (aK [(.int .u16 0)],h))))):=by kernel_rfl
def Np:Code:=cC [1,1,0,0] (cF prog 140)
def Nq (O:aG)(L:LV):KV:=(dB 0 (eI prog Tryz.f140))
theorem aKx:Nq O L (.exit 0) [a,b,c,d,e,f,g,i,j,l,m,n,o,p,q,r,s] h=some (aK [],h):=by kernel_rfl
theorem Yq:aM prog O L Np k [a,b,c,d,e,f,g,i,j,l,m,n,o,p,q,r,s] h=ob (aF (bin prog .lss 3 o (.I 8)) h) λaa h=>aN aa (ob (O (.func 175) [a] h) λab h=>ob (aF (bin prog .add 3 o (.I 1)) h) λac h=>k .normal [a,b,c,d,e,f,g,i,j,l,m,n,ac,aa,a,ab,ac] h) (k (.exit 0) [a,b,c,d,e,f,g,i,j,l,m,n,o,aa,q,r,s] h):=by kernel_rfl
theorem aKy:cM prog O L 140 [N,P] h=ob (aF (bV N) h) λaa h=>ob (ld1 aa h) λab h=>ob (dQ prog 5 253 P h) λac h=>ob (aF (bin prog .shl 253 ac (.int .u64 8)) h) λad h=>ob (aF (bin prog .xor 253 ab ad) h) λae h=>ob (aF (bV N) h) λaf h=>ob (stN 1 af ae h) λag h=>L (aM prog O L Np) (Nq O L) [N,P,undef,undef,N,aa,ab,P,ac,ad,ae,af,(.I 0),undef,undef,undef,undef] h:=by kernel_rfl
theorem aKA:cM prog O L 144 [N,P] h=ob (cS 94 (Value.cells N).toList .fix h) λaa h=>ob (aF (aI 0 aa) h) λab h=>ob (ld1 ab h) λac h=>ob (ld1 P h) λad h=>ob (aF (bin prog .eql 3 ac ad) h) λae h=>some (aK [ae],h):=by kernel_rfl
theorem aKC:cM prog O L 148 [N,P] h=ob (aF (bin prog .geq 3 P (.I 0)) h) λaa h=>ob (gd aa true (cG P) h) λab h=>ob (gd aa true (aF (bin prog .lss 3 ab (.I 16))) h) λac h=>ob (aF (cL aa ac (.bool false)) h) λad h=>ob (gd ad true (cG N) h) λae h=>ob (gd ad true (cG P) h) λaf h=>ob (gd ad true (aF (bin prog .shr 23 ae af)) h) λag h=>ob (gd ad true (aF (bin prog .and 23 ag (.int .u16 1))) h) λah h=>ob (gd ad true (aF (bin prog .eql 23 ah (.int .u16 1))) h) λai h=>ob (aF (cL ad ai (.bool false)) h) λaj h=>some (aK [aj],h):=by kernel_rfl
def Nr:Code:=cC [1,1,0,1,0,0] (cF prog 150)
def Ns:KV:=(dB 0 (dO prog O L (cC [1,1,1] (cF prog 150)) (eI prog Tryz.f150)))
theorem aKE:Ns O L (.exit 0) [a,b,c,d,e,f,g,i,j,l,m,n,o,p,q,r,s,t,u,v,w,x,y,z] h=some (aK [d],h):=by kernel_rfl
theorem Yr:aM prog O L Nr k [a,b,c,d,e,f,g,i,j,l,m,n,o,p,q,r,s,t,u,v,w,x,y,z] h=ob (aF (bin prog .lss 3 n m) h) λaa h=>aN aa (ob (aF (cB 1 l n) h) λab h=>ob (ld1 ab h) λac h=>ob (aF (bin prog .gtr 3 ac (.I 0)) h) λad h=>aN ad (ob (aF (bin prog .shl 23 (.int .u16 1) n) h) λae h=>ob (aF (bin prog .or 23 d ae) h) λaf h=>ob (aF (bin prog .add 3 n (.I 1)) h) λag h=>k .normal [a,b,c,af,n,ac,g,i,j,l,m,ag,aa,n,ab,ac,ac,ad,d,n,ae,af,ag,z] h) (ob (aF (bin prog .add 3 n (.I 1)) h) λah h=>k .normal [a,b,c,d,n,ac,g,i,j,l,m,ah,aa,n,ab,ac,ac,ad,u,v,w,x,ah,z] h)) (k (.exit 0) [a,b,c,d,e,f,g,i,j,l,m,n,aa,p,q,r,s,t,u,v,w,x,y,z] h):=by kernel_rfl
theorem aKF:cM prog O L 150 [N] h=ob (aF (bV N) h) λaa h=>ob (aF (aI 1 aa) h) λab h=>ob (ld1 ab h) λac h=>ob (aF (cH ac) h) λad h=>L (aM prog O L Nr) (Ns O L) [N,undef,(.int .u16 0),(.int .u16 0),undef,undef,N,aa,ab,ac,ad,(.I 0),undef,undef,undef,undef,undef,undef,undef,undef,undef,undef,undef,undef] h:=by kernel_rfl
theorem aKH:cM prog O L 174 [N] h=ob (dQ prog 55 23 N h) λaa h=>some (aK [aa],h):=by kernel_rfl
theorem aKI:cM prog O L 175 [N] h=ob (aF (bV N) h) λaa h=>ob (ld1 aa h) λab h=>ob (aF (bin prog .and 253 ab (.int .u16 32768)) h) λac h=>ob (aF (bV N) h) λad h=>ob (ld1 ad h) λae h=>ob (aF (bin prog .shl 253 ae (.int .u64 1)) h) λaf h=>ob (aF (bV N) h) λag h=>ob (stN 1 ag af h) λah h=>ob (aF (bin prog .neq 253 ac (.int .u16 0)) h) λai h=>aN ai (ob (aF (bV N) h) λaj h=>ob (ld1 aj h) λak h=>ob (aF (bin prog .xor 253 ak (.int .u16 4129)) h) λal h=>ob (aF (bV N) h) λam h=>ob (stN 1 am al h) λan h=>some (aK [],h)) (some (aK [],h)):=by kernel_rfl
theorem aKB:cM prog O L 145 [N,P] h=aN (.bool false) (ob (dQ prog 116 37 N h) λaa h=>ob (dQ prog 116 37 P h) λab h=>ob (O (.func 176) [aa,ab] h) λac h=>ob (aF (ext 0 ac) h) λad h=>ob (aF (ext 1 ac) h) λae h=>ob (dQ prog 37 116 ad h) λaf h=>ob (dQ prog 37 116 ae h) λag h=>some (aK [af,ag],h)) (ob (O (.func 177) [N,P] h) λah h=>ob (aF (ext 0 ah) h) λai h=>ob (aF (ext 1 ah) h) λaj h=>some (aK [ai,aj],h)):=by kernel_rfl
theorem aKJ:cM prog O L 177 [N,P] h=ob (aF (bin prog .and 55 N (.int .u64 4294967295)) h) λaa h=>ob (aF (bin prog .shr 55 N (.int .u64 32)) h) λab h=>ob (aF (bin prog .and 55 P (.int .u64 4294967295)) h) λac h=>ob (aF (bin prog .shr 55 P (.int .u64 32)) h) λad h=>ob (aF (bin prog .mul 55 aa ac) h) λae h=>ob (aF (bin prog .mul 55 ab ac) h) λaf h=>ob (aF (bin prog .shr 55 ae (.int .u64 32)) h) λag h=>ob (aF (bin prog .add 55 af ag) h) λah h=>ob (aF (bin prog .and 55 ah (.int .u64 4294967295)) h) λai h=>ob (aF (bin prog .shr 55 ah (.int .u64 32)) h) λaj h=>ob (aF (bin prog .mul 55 aa ad) h) λak h=>ob (aF (bin prog .add 55 ai ak) h) λal h=>ob (aF (bin prog .mul 55 ab ad) h) λam h=>ob (aF (bin prog .add 55 am aj) h) λan h=>ob (aF (bin prog .shr 55 al (.int .u64 32)) h) λao h=>ob (aF (bin prog .add 55 an ao) h) λap h=>ob (aF (bin prog .mul 55 N P) h) λaq h=>some (aK [ap,aq],h):=by kernel_rfl
end Go.Proofs.YtkeilicinggjmaaGreatDoor
end
namespace Go.Abs
open M
theorem Za: ∀(cs:List Value)(o:Nat)(v:Value),eK cs o [v]=cs.set o v
 |[],_,_=>by simp[eK]
 |c::cs,0,v=>by simp[eK]
 |c::cs,o+1,v=>by
  rw[List.set_cons_succ,<-Za cs o v];simp[eK]
theorem dC {H:aE}{b o:Nat}{cs:List Value}{e:TypeId}{k:Kind}{v:Value}(h:H[b]? =some (.cells cs e k))(hv:cs[o]? =some v):ld1 (.pointer (some ⟨b,o,none⟩)) H=some (v,H):=by
 rw[kC,h,tR,hv,wI]
theorem Bb {H:aE}{b o n:Nat}{cs:List Value}{e:TypeId}{k:Kind}(h:H[b]? =some (.cells cs e k))(hn:o+n<=cs.length):ldN n (.pointer (some ⟨b,o,none⟩)) H=some (.agg ((cs.drop o).take n).toArray,H):=by
 rw[qU,h,rW _ _ _ _ _ hn]
theorem qH {H:aE}{b o:Nat}{cs:List Value}{e:TypeId}{k:Kind}{v:Value}(h:H[b]? =some (.cells cs e k))(hk:k≠ .ro)(ho:o<cs.length)(hv:v.cells.toList=[v])(ha:dV [v]=true):
  stN 1 (.pointer (some ⟨b,o,none⟩)) v H=some (undef,H.set b (.cells (cs.set o v) e k)):=by
 rw[mB 1 b o v (by rw[hv];rfl),h,hv,nG b cs e k o [v] hk (by simp only[aP9,List.length_nil];omega) ha,Za]
theorem yZ {H:aE}{b o n:Nat}{cs vs:List Value}{e:TypeId}{k:Kind}{v:Value}(h:H[b]? =some (.cells cs e k))(hk:k≠ .ro)(hv:v.cells.toList=vs)(hn:vs.length=n)(ho:o+n<=cs.length)(ha:dV vs=true):
  stN n (.pointer (some ⟨b,o,none⟩)) v H=some (undef,H.set b (.cells (eK cs o vs) e k)):=by
 subst hv;rw[mB n b o v hn,h,nG b cs e k o _ hk (by rw[hn];exact ho) ha]
theorem lW {H:aE}{b o:Nat}{cs:List Value}{e:TypeId}{k:Kind}{q:IntKind}{n:Int}(h:H[b]? =some (.cells cs e k))(hk:k≠ .ro)(ho:o<cs.length):
  stN 1 (.pointer (some ⟨b,o,none⟩)) (.int q n) H=some (undef,H.set b (.cells (cs.set o (.int q n)) e k)):=qH h hk ho rfl rfl
theorem iR {H:aE}{b:Nat}{x y:Blk}(h:H[b]? =some x):(H.set b y)[b]? =some y:=aPT (aPN.mp h).1
theorem On (H:aE)(b:Nat)(x y:Blk):(H.set b x).set b y=H.set b y:=by simp
theorem dS (H:aE)(x:Blk):(H++[x])[H.length]? =some x:=by simp
theorem nL (H:aE)(x y:Blk):(H++[x]).set H.length y=H++[y]:=by simp
theorem nW {H:aE}{b:Nat}{x:Blk}(h:H[b]? =some x)(y:Blk):(H++[y])[b]? =some x:=by rw[aPQ (aPN.mp h).1,h]
theorem dK {H:aE}{b:Nat}{x:Blk}(h:H[b]? =some x):b<H.length:=(aPN.mp h).1
theorem aLl (a b:Nat)(ha:a<18446744073709551616)(hb:b<18446744073709551616):IntKind.u64.wrap ((a:Int)-b)=(((a+(18446744073709551616-b))%18446744073709551616:Nat):Int):=by rw[tB];omega
theorem aLi (a b:Nat):IntKind.u64.wrap ((a:Int)+b)=(((a+b)%18446744073709551616:Nat):Int):=by rw[tB];omega
theorem aLk (a b:Nat)(ha:a<65536)(hb:b<65536):IntKind.u16.wrap ((a:Int)-b)=(((a+65536-b)%65536:Nat):Int):=by rw[Aj];omega
theorem yX (a:Nat)(ha:a<18446744073709551616):IntKind.u64.wrap (a:Int)=a:=aFd U U
theorem Y9 (a:Nat)(ha:a<4294967296):IntKind.u32.wrap (a:Int)=a:=aDF U U
theorem Ba (a:Nat):IntKind.u16.wrap (a:Int)=((a%65536:Nat):Int):=by rw[Aj];omega
theorem aLj (a:Nat):IntKind.u8.wrap (a:Int)=((a%256:Nat):Int):=by rw[Ak];omega
theorem yY (a:Nat)(ha:a<9223372036854775808):IntKind.i64.wrap (a:Int)=a:=cZ U U
theorem Br.ext {H H':aE}{u:Value}{bs:List UInt8}(h:Br H u bs)(he:Ext H H'):Br H' u bs:=by
 rcases h with h|⟨b,o,c,cs,e,k,h1,h2,h3,h4⟩
 ·exact .inl h
 ·exact .inr ⟨b,o,c,cs,e,k,h1,h2,by rw[he.2 b (dK h3) id,h3],h4⟩
theorem Rs.aLh {α:Type}{el:α->List Value}{e:TypeId}{sz:Nat}{H:aE}{v:Value}{xs:List α}{P:Program}(hsz: ∀x,(el x).length=sz)(he:P.cellsOf e=sz)(h:Rs el e H v xs)(hne:xs≠[]):
  ∃b o cap,v= .slice (some ⟨b,o,none⟩) xs.length cap/\xs.length<=cap/\ ∀(H':aE),Rs el e H' v xs-> ∀(l r:Nat)(lo hi mx:Option Value)(c:Nat),bnd 0 lo=some l->bnd xs.length hi=some r->bnd cap mx=some c->l<=r->r<=xs.length->r<=c->c<=cap->
   slc P sz v lo hi mx H'=some (.slice (some ⟨b,o+l*sz,none⟩) (r-l) (c-l),H')/\Rs el e H' (.slice (some ⟨b,o+l*sz,none⟩) (r-l) (c-l)) ((xs.take r).drop l):=by
 rcases h with⟨_,h⟩|⟨b,o,cap,rfl,h3,h4⟩
 ·exact absurd h hne
 ·refine⟨b,o,cap,rfl,h3,λH' h' l r lo hi mx c h1 h2 h5 hlr hr hrc hcc=> ?_⟩
  rcases h' with⟨_,h⟩|⟨b',o',cap',heq,h3',h4'⟩
  ·exact absurd h hne
  ·cases heq
   have hl:=qV (xs.map el) (rX hsz);have hlen:((xs.take r).drop l).length=r-l:=by simp;omega
   obtain⟨e',k,pre,post,rfl,hk,hb⟩:=h4' hne;refine⟨sY (sz:=sz) hb (λh=>by rw[hk h];exact he) h1 h2 h5 hlr hrc hcc,.inr ⟨b,_,c-l,by rw[hlen],by rw[hlen];omega,λ_=>⟨e',k,pre++((xs.take l).map el).flatten,((xs.drop r).map el).flatten++post,?_,hk,?_⟩⟩⟩
   ·have hf:=qV ((xs.take l).map el) (rX hsz)
    rw[aP1,List.length_take,Nat.min_eq_left U] at hf
    rw[aPZ,hf]
   ·rw[hb]
    have:xs=xs.take l++((xs.take r).drop l++xs.drop r):=by
     conv=>lhs;rw[<-List.take_append_drop l xs]
     congr 1
     have:=List.take_append_drop (r-l) (xs.drop l);rw[aQv,List.take_drop] at this;rw[show l+(r-l)=r by omega] at this
     exact this.symm
    congr 2
    conv=>lhs;rw[this]
    simp only[List.map_append,List.flatten_append,aPU]
structure Pkt where
 src:Int
 dst:Int
 lane:Int
 body:Int
deriving DecidableEq
def Pkt.oT (x:Pkt):List Value:=[.int .i64 x.src,.int .i64 x.dst,.int .i64 x.lane,.int .u32 x.body]
def Pkt.dR (x:Pkt):Value:= .agg ⟨x.oT⟩
def pk0:Pkt:=⟨0,0,0,0⟩
abbrev iJ:=Int×Int×Int
def wZ (r:Nat):Nat:=if r<32768 then r*2 else(r*2-65536)^^^4129
theorem Zc {r:Nat}(h:r<65536):wZ r<65536:=by
 unfold wZ;split
 ·omega
 ·exact Nat.xor_lt_two_pow (n:=16) U U
def Bc:Nat->Nat->Nat
 |0,r=>r
 |k+1,r=>Bc k (wZ r)
theorem Zf: ∀(k:Nat){r:Nat},r<65536->Bc k r<65536
 |0,_,h=>h
 |k+1,_,h=>Zf k (Zc h)
def tZ (r:Nat)(c:UInt8):Nat:=Bc 8 (r^^^c.toNat*256)
theorem Ze {r:Nat}(h:r<65536)(c:UInt8):r^^^c.toNat*256<65536:=Nat.xor_lt_two_pow (n:=16) h (by have:=c.toNat_lt;omega)
theorem aLm {r:Nat}(h:r<65536)(c:UInt8):tZ r c<65536:=Zf 8 (Ze h c)
attribute [irreducible] tZ
def crc (bs:List UInt8):Nat:=bs.foldl tZ 65535
theorem Zg (bs:List UInt8): ∀{r:Nat},r<65536->bs.foldl tZ r<65536:=by
 induction bs with
 |nil=>exact λh=>h
 |cons c bs ih=>
  intro r h;rw[List.foldl_cons];exact ih (aLm h c)
theorem Oo (bs:List UInt8):crc bs<65536:=Zg bs aC
theorem Zd {r:Nat}(h:r<65536):(r&&&32768=0)↔r<32768:=by
 have e:r&&&32768=if r<32768 then 0 else 32768:=by
  apply Nat.eq_of_testBit_eq;intro i;rw[Nat.testBit_and];have hb:Nat.testBit 32768 i=decide (15=i):=Nat.testBit_two_pow (n:=15) (m:=i);by_cases hi:15=i
  ·subst hi
   rw[hb];split
   ·rename_i hl
    rw[Nat.testBit_lt_two_pow (i:=15) U]
    rfl
   ·rename_i hl
    have:r.testBit 15=true:=by
     rw[Nat.testBit_eq_decide_div_mod_eq];have:r/2 ^ 15=1:=U
     rw[this];rfl
    rw[this];rfl
  ·rw[hb,aQx hi,Bool.and_false]
   split
   ·simp
   ·rw[hb,aQx hi]
 rw[e]
 split<;>omega
def dX (near s:Nat):Nat:=((near+18446744073709518848)%18446744073709551616+(s+65536-(near+18446744073709518848)%18446744073709551616%65536)%65536)%18446744073709551616
structure Frm where
 kind:Nat
 lane:Nat
 seq:Nat
 src:Nat
 dst:Nat
 body:Nat
deriving DecidableEq
structure Frm.ok (f:Frm):Prop where
 kind:f.kind<256
 lane:f.lane<256
 seq:f.seq<65536
 src:f.src<256
 dst:f.dst<256
 body:f.body<4294967296
def Frm.oE:Frm:=⟨0,0,0,0,0,0⟩
def gA (f:Frm):Bool:=decide (f.lane<=2)&&(if f.kind=1 then decide (f.src<=5)&&decide (f.dst<=5)&&decide (f.src≠f.dst) else(decide (f.kind=2)||decide (f.kind=3))&&decide (f.src=0)&&decide (f.dst=0)&&decide (f.body=0))
def by8 (n:Nat):UInt8:=UInt8.ofNat n
def kO (n:Nat):List UInt8:=[by8 (n/256),by8 n]
def Ot (f:Frm):List UInt8:=by8 f.kind::by8 f.lane::kO f.seq
def rC (f:Frm):List UInt8:=Ot f++if f.kind=1 then by8 f.src::by8 f.dst::(kO (f.body/65536)++kO f.body) else []
def Oq (f:Frm):List UInt8:=rC f++kO (crc (rC f))
def Fo (f:Frm):Option (List UInt8):=if gA f=true then some (Oq f) else none
def iS (bs:List UInt8):Nat:=bs.foldl (λn c=>n*256+c.toNat) 0
def nA (bs:List UInt8):Frm:=⟨(bs.getD 0 0).toNat,(bs.getD 1 0).toNat,iS [bs.getD 2 0,bs.getD 3 0],0,0,0⟩
def rD (bs:List UInt8):Frm:={nA bs with src:=(bs.getD 4 0).toNat,dst:=(bs.getD 5 0).toNat,body:=iS [bs.getD 6 0,bs.getD 7 0,bs.getD 8 0,bs.getD 9 0]}
def y6 (b s:List UInt8)(f:Frm):Option Frm:=if crc b=iS s/\gA f=true then some f else none
def pN (bs:List UInt8):Option Frm:=
 if bs.length=6/\(bs.getD 0 0).toNat≠1 then y6 (bs.take 4) (bs.drop 4) (nA bs)
 else if bs.length=12/\(bs.getD 0 0).toNat=1 then y6 (bs.take 10) (bs.drop 10) (rD bs)
 else none
theorem Fm (n:Nat):(by8 n).toNat=n%256:=by simp[by8]
theorem aLn (a b:UInt8):iS [a,b]=a.toNat*256+b.toNat:=by simp[iS]
theorem Zb {n:Nat}{c:UInt8}(h:n%256=c.toNat):by8 n=c:=by
 apply UInt8.toNat_inj.mp;rw[Fm,h]
attribute [irreducible] crc gA
structure Cfg where
 nodes:Nat
 lanes:Nat
 room:Nat
 queue:Nat
 rounds:Nat
 every:Nat
 weights:List Int
 start:Nat
 me:Nat
 by':List Nat
 port:Nat->Nat
def Cfg.aL (c:Cfg):Nat:=c.by'.length+1
structure Cfg.ok (c:Cfg):Prop where
 nodes:2<=c.nodes/\c.nodes<=6
 lanes:1<=c.lanes/\c.lanes<=3
 room:1<=c.room/\c.room<=8
 queue:1<=c.queue/\c.queue<=8
 rounds:1<=c.rounds/\c.rounds<=4
 every:1<=c.every/\c.every<=8
 wlen:c.weights.length=c.lanes
 wts: ∀x∈c.weights,1<=x/\x<=5
 start:c.start<65536
 me:c.me<c.nodes
 by':c.by'.length<=5
 byN: ∀w∈c.by',w<c.nodes/\w≠c.me
 byD:c.by'.Nodup
 port: ∀d,d<c.nodes->c.port d<c.aL
structure Snd where
 s:Nat
 l:Nat
deriving DecidableEq
structure Rcv where
 n:Nat
 h:Nat
deriving DecidableEq
def Snd.pP (x:Snd):Nat:=x.l-x.s
def Snd.rE (x:Snd)(limit:Nat):Snd:=let n:=dX x.l limit;if n<=x.l∨x.s+8<n then x else⟨x.s,n⟩
def Snd.oF (x:Snd):Nat×Snd:=if x.l=x.s then(0,x) else(x.s,⟨x.s+1,x.l⟩)
def Rcv.mC (x:Rcv)(room:Nat):Nat:=x.n+(room-x.h)
def Rcv.kP (x:Rcv)(room seq:Nat):Nat×Rcv:=let n:=dX x.n seq;if n<x.n then(60,x) else if x.mC room<=n then(61,x) else(0,⟨n+1,x.h+1⟩)
def Rcv.uA (x:Rcv):Rcv:=⟨x.n,x.h-1⟩
def Rcv.pO (x:Rcv)(room sent:Nat):Rcv:=let n:=dX x.n sent;if n<=x.n∨x.mC room<n then x else⟨n,x.h⟩
structure NS where
 hL:List Pkt
 hG:List Pkt
 rL:List (iJ×Pkt)
 snd:Nat->Nat->Snd
 rcv:Nat->Nat->Rcv
 g:List Nat
 a:List Nat
 whl:Nat->Whl
 ticks:Nat
def NS.k9 (c:Cfg):NS:=⟨[],[],[],λ_ _=>⟨c.start,c.start+c.room⟩,λ_ _=>⟨c.start,0⟩,List.replicate c.aL 0,List.replicate c.aL 0,λ_=>⟨c.weights,0⟩,0⟩
def iK (L:List Pkt)(k:Int):List Pkt:=L.filter λx=>decide (x.lane=k)
def rG (L:List Pkt)(k:Int):List Pkt:=L.eraseP λx=>decide (x.lane=k)
def pA (L:List (iJ×Pkt))(w:iJ):List Pkt:=(L.filter λe=>decide (e.1=w)).map (·.2)
def oU (L:List (iJ×Pkt))(w:iJ):List (iJ×Pkt):=L.eraseP λe=>decide (e.1=w)
def Bd (w:iJ)(ports lanes:Nat):Bool:=decide (0<=w.1)&&decide (w.1<ports)&&decide (0<=w.2.1)&&decide (w.2.1<ports)&&decide (0<=w.2.2)&&decide (w.2.2<lanes)
def tH (c:Cfg)(L:List (iJ×Pkt))(w:iJ)(x:Pkt):List (iJ×Pkt):=
 if Bd w c.aL c.lanes=true/\L.length<c.aL*c.lanes*c.room then L++[(w,x)] else L
def sD (c:Cfg)(x:Pkt)(s:NS):Nat×NS:=
 if¬(0<=x.lane/\x.lane<c.lanes) then(1,s)
 else if(iK s.hL x.lane).length=c.queue then(150,s)
 else(0,{s with hL:=s.hL++[x]})
def pQ (c:Cfg)(x:Pkt)(s:NS):Nat×NS:=
 if x.src≠c.me∨x.dst<0∨(c.nodes:Int)<=x.dst∨x.dst=c.me then(1,s) else sD c x s
def up2 {α:Type}(f:Nat->Nat->α)(i k:Nat)(x:α):Nat->Nat->α:=λj l=>if j=i/\l=k then x else f j l
def up1 {α:Type}(f:Nat->α)(i:Nat)(x:α):Nat->α:=λj=>if j=i then x else f j
def rF (c:Cfg)(i:Nat)(f:Frm)(s:NS):Nat×NS:=
 if c.nodes<=max f.src f.dst then(30,s)
 else match (s.rcv i f.lane).kP c.room f.seq with
  |(0,r)=>(0,{s with rcv:=up2 s.rcv i f.lane r,rL:=tH c s.rL ((i:Int),(c.port f.dst:Int),(f.lane:Int)) ⟨f.src,f.dst,f.lane,f.body⟩})
  |(e,_)=>(e,s)
def oI (c:Cfg)(fr:Int)(bs:List UInt8)(s:NS):Nat×NS:=
 match c.by'.findIdx? λw:Nat=>decide ((w:Int)=fr) with
 |none=>(1,s)
 |some j=>
  match pN bs with
  |none=>(30,s)
  |some f=>
   if c.lanes<=f.lane then(30,s)
   else if f.kind=2 then(0,{s with snd:=up2 s.snd (j+1) f.lane ((s.snd (j+1) f.lane).rE f.seq)})
   else if f.kind=3 then(0,{s with rcv:=up2 s.rcv (j+1) f.lane ((s.rcv (j+1) f.lane).pO c.room f.seq)})
   else rF c (j+1) f s
def pR (L:List (iJ×Pkt))(i o k:Nat):Nat:=(pA L (i,o,k)).length
def y7 (c:Cfg)(L:List (iJ×Pkt))(k:Nat):Nat:=((List.range c.aL).map λo=>pR L 0 o k).sum
def oH (c:Cfg)(s:NS)(k:Nat):NS:=
 if c.room<=y7 c s.rL k then s
 else match iK s.hL k with
  |[]=>s
  |x::_=>{s with hL:=rG s.hL k,rL:=tH c s.rL (0,(c.port x.dst.toNat:Int),k) x}
def w7 (c:Cfg)(s:NS):NS:=(List.range c.lanes).foldl (oH c) s
def jH (c:Cfg)(s:NS)(i o k:Nat):Bool:=decide (k<c.lanes)&&decide (0<pR s.rL i o k)&&(decide (o=0)||decide (0<(s.snd o k).pP))
def oG (c:Cfg)(s:NS)(i o:Nat):Bool:=decide (i<c.aL)&&decide (o<c.aL)&&(List.range c.lanes).any (jH c s i o)
def tE (f:Frm):List UInt8:=(Fo f).getD []
abbrev lG:=List (Nat×List UInt8)
def w8 (c:Cfg)(o:Nat)(f:Frm):Nat×List UInt8:=(c.by'.getD (o-1) 0,tE f)
def tG (s:NS)(i k:Nat):Nat->Nat->Rcv:=if i=0 then s.rcv else up2 s.rcv i k (s.rcv i k).uA
def qI (c:Cfg)(s:NS)(i o:Nat):NS×lG:=
 match kX c.weights (s.whl o) (jH c s i o) with
 |(none,_)=>(s,[])
 |(some k,w)=>
  let x:=(pA s.rL (i,o,k)).headD pk0
  let s1:={s with whl:=up1 s.whl o w,rL:=oU s.rL (i,o,k),rcv:=tG s i k}
  if o=0 then({s1 with hG:=s1.hG++[x]},[])
  else({s1 with snd:=up2 s1.snd o k (s1.snd o k).oF.2},[w8 c o ⟨1,k,(s1.snd o k).oF.1%65536,(x.src%256).toNat,(x.dst%256).toNat,x.body.toNat⟩])
def uB (c:Cfg)(m:List Int):List Nat->NS×lG->NS×lG
 |[],s=>s
 |i::l,s=>uB c m l (if 0<=m.getD i 0 then((qI c s.1 i (m.getD i 0).toNat).1,s.2++(qI c s.1 i (m.getD i 0).toNat).2) else s)
def tF (c:Cfg)(s:NS):lG:=
 (List.range c.by'.length).flatMap λi=>(List.range c.lanes).flatMap λk=>
  [w8 c (i+1) ⟨3,k,(s.snd (i+1) k).s%65536,0,0,0⟩,w8 c (i+1) ⟨2,k,(s.rcv (i+1) k).mC c.room%65536,0,0,0⟩]
def vH (c:Cfg)(s:NS):NS×lG:=
 let s1:=w7 c s
 let t:=rZ (oG c s1) c.aL c.rounds s1.g s1.a
 let r:=uB c t.m (List.range c.aL) ({s1 with g:=t.g,a:=t.a},[])
 ({r.1 with ticks:=s.ticks+1},if(s.ticks+1)%c.every=0 then r.2++tF c r.1 else r.2)
end Go.Abs
namespace Go.Proofs.YtkeilicinggjmaaGreatDoor
open Go.Proofs.Tryz
open Go.Abs Go.Abs.M
structure Put1 (H:aE)(b:Nat)(y:Blk)(H':aE):Prop where
 le:H.length<=H'.length
 at_:H'[b]? =some y
 keep: ∀c,c<H.length->c≠b->H'[c]? =H[c]?
theorem Put1.vI {H:aE}{b:Nat}{y:Blk}(h:H[b]? =some y):Put1 H b y H:=⟨aPS _,h,λ_ _ _=>rfl⟩
theorem Put1.Be {H:aE}{b:Nat}{x y:Blk}(h:H[b]? =some x):Put1 H b y (H.set b y):=⟨by simp,iR h,λc _ hc=>aPO (Ne.symm hc)⟩
theorem Put1.ext {H H':aE}{b:Nat}{y:Blk}(h:H[b]? =some y)(he:Ext H H'):Put1 H b y H':=⟨he.1,by rw[he.2 b (dK h) id,h],λc hc _=>he.2 c hc id⟩
theorem Put1.aLo {H H1 H':aE}{b:Nat}{y:Blk}(he:Ext H H1)(h:Put1 H1 b y H'):Put1 H b y H':=⟨aP3 he.1 h.le,h.at_,λc hc hcb=>by rw[h.keep c (aP2 hc he.1) hcb,he.2 c hc id]⟩
section
variable {H : aE} {m : Nat}
theorem qJ:prog.underlying 55=some (.int .u64):=by kernel_rfl
theorem nB:prog.underlying 23=some (.int .u16):=by kernel_rfl
theorem iU:prog.underlying 3=some (.int .i64):=by kernel_rfl
theorem u8U:prog.underlying 5=some (.int .u8):=by kernel_rfl
theorem aLs:prog.underlying 253=some (.int .u16):=by kernel_rfl
theorem aLt (hm:0<m)(n:Nat):lvl prog pkN m (.func 174) [.int .u64 n] H=some (.int .u16 ((n%65536:Nat):Int),H):=by
 refine dI (cT rfl) hm ?_;rw[aKH];simp only[gsR,fI _ _ qJ nB,Ba]
theorem Ov (near s:Nat):dX near s<18446744073709551616:=Nat.mod_lt _ U
theorem Zh (hm:1<m)(near s:Nat)(hn:near<18446744073709551616)(hs:s<65536):lvl prog pkN m (.func 137) [.int .u64 near,.int .u16 s] H=some (.int .u64 (dX near s),H):=by
 refine dI (cT rfl) U ?_
 rw[aKs];have e1:IntKind.u64.wrap ((near:Int)-32768)=(((near+18446744073709518848)%18446744073709551616:Nat):Int):=by rw[tB];omega
 have e2:=aLt (H:=H) (m:=m-1) U ((near+18446744073709518848)%18446744073709551616)
 have e3:=aLk s ((near+18446744073709518848)%18446744073709551616%65536) hs U
 have e4:=yX ((s+65536-(near+18446744073709518848)%18446744073709551616%65536)%65536) U
 simp only[gsR,iV,e1,e2,e3,fI _ _ nB qJ,e4,cO,aLi];rfl
def mD (r:Nat):Blk:= .cells [.int .u16 r] 253 .fix
theorem aLp (hm:0<m){b r:Nat}(hb:H[b]? =some (mD r))(hr:r<65536):lvl prog pkN m (.func 175) [.Q b 0] H=some (aK [],H.set b (mD (wZ r))):=by
 refine dI (cT rfl) hm ?_;rw[aKI];have e1:ld1 (.Q b 0) H=some (.int .u16 r,H):=dC hb rfl;have e2:bin prog .and 253 (.int .u16 (r:Int)) (.int .u16 32768)=some (.int .u16 ((r&&&32768:Nat):Int)):=wQ .u16 rfl _ (a:=r) (b:=32768) hr aC
 have e3:bin prog .shl 253 (.int .u16 (r:Int)) (.int .u64 1)=some (.int .u16 ((r*2%65536:Nat):Int)):=C8 .u16 .u64 rfl _ r 1 aC
 have e4:stN 1 (.Q b 0) (.int .u16 ((r*2%65536:Nat):Int)) H=some (undef,H.set b (mD (r*2%65536))):=lW hb aC Nat.zero_lt_one
 have e5:ld1 (.Q b 0) (H.set b (mD (r*2%65536)))=some (.int .u16 ((r*2%65536:Nat):Int),H.set b (mD (r*2%65536))):=dC (iR hb) rfl;have e6:bin prog .xor 253 (.int .u16 ((r*2%65536:Nat):Int)) (.int .u16 4129)=some (.int .u16 (((r*2%65536)^^^4129:Nat):Int)):=T1 .u16 rfl _ (a:=r*2%65536) (b:=4129) (by show _<65536;omega) aC
 have e7:stN 1 (.Q b 0) (.int .u16 (((r*2%65536)^^^4129:Nat):Int)) (H.set b (mD (r*2%65536)))=some (undef,(H.set b (mD (r*2%65536))).set b (mD ((r*2%65536)^^^4129))):=lW (iR hb) aC Nat.zero_lt_one
 by_cases hc:r<32768
 ·have h0:(r&&&32768:Nat)=0:=(Zd hr).mpr hc
  have k1:((((r&&&32768:Nat):Int))!=0)=false:=by rw[h0];rfl
  simp only[gsR,e1,e2,e3,e4,k1];rw[wZ,if_pos hc,aQl U]
 ·have h0: ¬(r&&&32768:Nat)=0:=λh=>hc ((Zd hr).mp h)
  have k1:((((r&&&32768:Nat):Int))!=0)=true:=by simp[h0]
  simp only[gsR,e1,e2,e3,e4,e5,e6,e7,k1,On];rw[wZ,if_neg hc,show r*2%65536=r*2-65536 by omega]
theorem aLr {b:Nat}{H0:aE}: ∀(q i k r:Nat)(H:aE),8-i=q->i<=8->q<k->10<m->H=H0.set b (mD r)->b<H0.length->r<65536->
  ∀x1 x2 x3 x4 x5 x6 x7 x8 x9 bG b9 aP aQ aO aT:Value,aJ k (aM prog (lvl prog pkN (m-1)) (aJ (m-1)) Np) (Nq (lvl prog pkN (m-1)) (aJ (m-1))) [(.Q b 0),x1,x2,x3,x4,x5,x6,x7,x8,x9,bG,b9,(.I i),aP,aQ,aO,aT] H=some (aK [],H0.set b (mD (Bc (8-i) r))):=by
 intro q;induction q with
 |zero=>
  intro i k r H hq hi hk hm hH hb hr x1 x2 x3 x4 x5 x6 x7 x8 x9 bG b9 aP aQ aO aT;obtain⟨k,rfl⟩: ∃k',k=k'+1:=⟨k-1,by omega⟩
  have hi8:i=8:=U
  subst hi8;have c1:decide (((8:Nat):Int)<8)=false:=by decide
  rw[aJ,Yq];simp only[gsR,c1];rw[aKx];rw[hH];rfl
 |succ q ih=>
  intro i k r H hq hi hk hm hH hb hr x1 x2 x3 x4 x5 x6 x7 x8 x9 bG b9 aP aQ aO aT;obtain⟨k,rfl⟩: ∃k',k=k'+1:=⟨k-1,by omega⟩
  have c1:decide ((i:Int)<8)=true:=by rw[decide_eq_true_eq];omega
  have hg:H[b]? =some (mD r):=by rw[hH,aPT hb]
  have e1:=aLp (m:=m-1) U hg hr
  have e2:=aA (i:=i) U
  rw[aJ,Yq];simp only[gsR,c1,e1,cO,e2];rw[ih (i+1) k (wZ r) _ U U U hm (by rw[hH,On]) hb (Zc hr)]
  rw[show 8-i=(8-(i+1))+1 by omega,Bc]
theorem aLq (hm:10<m){b r:Nat}(hb:H[b]? =some (mD r))(hr:r<65536)(c:UInt8):lvl prog pkN m (.func 140) [.Q b 0,lC c] H=some (aK [],H.set b (mD (tZ r c))):=by
 refine dI (cT rfl) U ?_
 rw[aKy];have hc:=c.toNat_lt;have e1:ld1 (.Q b 0) H=some (.int .u16 r,H):=dC hb rfl;have e2:dQ prog 5 253 (lC c) H=some (.int .u16 c.toNat,H):=by
  show dQ prog 5 253 (.int .u8 c.toNat) H=_
  rw[fI _ _ u8U aLs,Ju U U]
 have e3:bin prog .shl 253 (.int .u16 (c.toNat:Int)) (.int .u64 8)=some (.int .u16 ((c.toNat*256:Nat):Int)):=by
  have:=C8 (P:=prog) .u16 .u64 rfl 253 c.toNat 8 aC
  rw[show c.toNat*2 ^ 8%2 ^ IntKind.u16.bits=c.toNat*256 from by show c.toNat*256%65536=_;omega] at this
  exact this
 have e4:bin prog .xor 253 (.int .u16 (r:Int)) (.int .u16 ((c.toNat*256:Nat):Int))=some (.int .u16 ((r^^^c.toNat*256:Nat):Int)):=T1 .u16 rfl _ (a:=r) (b:=c.toNat*256) hr (by show _<65536;omega)
 have e5:stN 1 (.Q b 0) (.int .u16 ((r^^^c.toNat*256:Nat):Int)) H=some (undef,H.set b (mD (r^^^c.toNat*256))):=lW hb aC Nat.zero_lt_one
 simp only[gsR,e1,e2,e3,e4,e5];refine(aLr (m:=m) 8 0 (m-1) (r^^^c.toNat*256) _ rfl U U U rfl (dK hb) (Ze hr c) _ _ _ _ _ _ _ _ _ _ _ _ _ _ _).trans ?_
 unfold tZ;rfl
theorem aLu {u:Value}{bs:List UInt8}{H0:aE}(hu:Br H0 u bs): ∀(q i k:Nat)(H:aE),bs.length-i=q->i<=bs.length->q<k->20<m->bs.length<4611686018427387904->H=H0++[mD ((bs.take i).foldl tZ 65535)]->
  ∀x0 x1 x2 x4 x5 x9 bG b9 aS aP aQ aO:Value,aJ k (aM prog (lvl prog pkN (m-1)) (aJ (m-1)) Ol) (Om (lvl prog pkN (m-1)) (aJ (m-1))) [x0,x1,x2,(.Q H0.length 0),x4,x5,u,(.I bs.length),(.I i),x9,bG,b9,aS,aP,aQ,aO] H=some (.int .u16 (crc bs),H0++[mD (crc bs)]):=by
 intro q;induction q with
 |zero=>
  intro i k H hq hi hk hm hl hH x0 x1 x2 x4 x5 x9 bG b9 aS aP aQ aO;obtain⟨k,rfl⟩: ∃k',k=k'+1:=⟨k-1,by omega⟩
  have hi8:i=bs.length:=U
  subst hi8;have c1:decide ((bs.length:Int)<(bs.length:Int))=false:=by simp
  have hf:(bs.take bs.length).foldl tZ 65535=crc bs:=by rw[List.take_length];unfold crc;rfl
  rw[hf] at hH;have e1:ld1 (.Q H0.length 0) H=some (.int .u16 (crc bs),H):=by rw[hH];exact dC (dS _ _) rfl
  rw[aJ,Y7];simp only[gsR,c1];rw[aLe];simp only[gsR,e1];rw[hH]
 |succ q ih=>
  intro i k H hq hi hk hm hl hH x0 x1 x2 x4 x5 x9 bG b9 aS aP aQ aO;obtain⟨k,rfl⟩: ∃k',k=k'+1:=⟨k-1,by omega⟩
  have c1:decide ((i:Int)<(bs.length:Int))=true:=by rw[decide_eq_true_eq];omega
  have hx:bs[i]? =some bs[i]:=aPP U
  have hu':Br H u bs:=hu.ext (by rw[hH];exact Fr.app _ _ _)
  obtain⟨b,o,a1,a2⟩:=hu'.aEP hx .i64;have hg:H[H0.length]? =some (mD ((bs.take i).foldl tZ 65535)):=by rw[hH];exact dS _ _
  have e1:=aLq (m:=m-1) U hg (Zg _ aC) bs[i]
  have e2:=aA (i:=i) U
  rw[aJ,Y7];simp only[gsR,c1,a1,a2,e1,cO,e2];refine ih (i+1) k _ U U U hm hl ?_ _ _ _ _ _ _ _ _ _ _ _ _
  rw[hH,nL,List.take_add_one,hx,List.foldl_append];rfl
theorem Ou {u:Value}{bs:List UInt8}(hu:Br H u bs)(hm:20<m)(hl:bs.length+1<m)(hl2:bs.length<4611686018427387904):lvl prog pkN m (.func 95) [u] H=some (.int .u16 (crc bs),H++[mD (crc bs)]):=by
 refine dI (cT rfl) U ?_
 rw[aLf];have e1:stN 1 (.Q H.length 0) (.int .u16 65535) (H++[.cells [.int .u16 0] 253 .fix])=some (undef,H++[mD 65535]):=by
  rw[lW (dS _ _) aC Nat.zero_lt_one,nL]
  rfl
 simp only[gsR,e1,hu.aEQ];exact aLu hu bs.length 0 (m-1) _ U U U hm hl2 rfl _ _ _ _ _ _ _ _ _ _ _ _
end
def mE (x:Snd):Blk:= .cells [.int .u64 x.s,.int .u64 x.l] 143 .fix
def jK (x:Rcv)(room:Nat):Blk:= .cells [.int .u64 x.n,.int .i64 x.h,.int .i64 room] 174 .fix
structure SndOk (x:Snd):Prop where
 le:x.s<=x.l
 wide:x.l<=x.s+8
 big:x.l<4611686018427387904
structure RcvOk (x:Rcv)(room:Nat):Prop where
 h:x.h<=room
 room:room<=8
 big:x.n<4611686018427387904
section
variable {H : aE} {m : Nat} {b : Nat}
theorem Zk (hm:0<m){x:Snd}(hx:SndOk x):lvl prog pkN m (.func 153) [.agg #[.int .u64 x.s,.int .u64 x.l]] H=some (.I x.pP,H++[.cells [.int .u64 x.s,.int .u64 x.l] 141 .fix]):=by
 have:=hx.le;have:=hx.wide;have:=hx.big;refine dI (cT rfl) hm ?_;rw[aKG];have e0:(Value.cells (.agg #[.int .u64 x.s,.int .u64 x.l])).toList=[.int .u64 x.s,.int .u64 x.l]:=rfl;have e1:ld1 (.Q H.length 1) (H++[.cells [.int .u64 x.s,.int .u64 x.l] 141 .fix])=some (.int .u64 x.l,H++[.cells [.int .u64 x.s,.int .u64 x.l] 141 .fix]):=dC (dS _ _) rfl;have e2:ld1 (.Q H.length 0) (H++[.cells [.int .u64 x.s,.int .u64 x.l] 141 .fix])=some (.int .u64 x.s,H++[.cells [.int .u64 x.s,.int .u64 x.l] 141 .fix]):=dC (dS _ _) rfl;have e3:IntKind.u64.wrap ((x.l:Int)-x.s)=((x.pP:Nat):Int):=by rw[tB,Snd.pP];omega
 have e4:=yY x.pP (by unfold Snd.pP;omega)
 simp only[gsR,e0,e1,e2,iV,e3,fI _ _ qJ iU,e4]
theorem Ow {x:Snd}(hb:H[b]? =some (mE x)):ldN 2 (.Q b 0) H=some (.agg #[.int .u64 x.s,.int .u64 x.l],H):=Bb hb (aPS 2)
theorem aLE (hm:1<m){x:Snd}(hb:H[b]? =some (mE x))(hx:SndOk x):lvl prog pkN m (.func 149) [.Q b 0] H=some (.I x.pP,H++[.cells [.int .u64 x.s,.int .u64 x.l] 141 .fix]):=by
 refine dI (cT rfl) U ?_
 rw[aKD];simp only[gsR,Ow hb,Zk (H:=H) (m:=m-1) U hx]
theorem aLD (hm:0<m){x:Snd}(hb:H[b]? =some (mE x)):lvl prog pkN m (.func 20) [.Q b 0] H=some (.int .u64 x.s,H):=by
 refine dI (cT rfl) U ?_
 rw[aKK];have e1:ld1 (.Q b 0) H=some (.int .u64 x.s,H):=dC hb rfl;simp only[gsR,e1]
theorem aLC (hm:1<m){x:Snd}(hb:H[b]? =some (mE x))(hx:SndOk x): ∃H',lvl prog pkN m (.func 109) [.Q b 0] H=some (.tuple #[.int .u64 x.oF.1,.bool (decide (x.l≠x.s))],H')/\Put1 H b (mE x.oF.2) H':=by
 have:=hx.le;have:=hx.wide;have:=hx.big;refine jQ (cT rfl) U ?_
 rw[aKl];have e0:=Zk (H:=H) (m:=m-1) U hx
 have hx1:Ext H (H++[Blk.cells [.int .u64 x.s,.int .u64 x.l] 141 .fix]):=Fr.app _ _ _;have hb1:=nW hb (Blk.cells [.int .u64 x.s,.int .u64 x.l] 141 .fix);by_cases hc:x.l=x.s
 ·have c1:((x.pP:Int)==0)=true:=by simp[Snd.pP,hc]
  have d1:x.oF=(0,x):=by simp[Snd.oF,hc]
  have d2:decide (x.l≠x.s)=false:=by simp[hc]
  simp only[gsR,Ow hb,e0,c1,d1,d2]
  exact⟨_,rfl,Put1.ext hb hx1⟩
 ·have c1:((x.pP:Int)==0)=false:=by simp[Snd.pP];omega
  have d1:x.oF=(x.s,⟨x.s+1,x.l⟩):=by simp[Snd.oF,hc]
  have d2:decide (x.l≠x.s)=true:=by simp[hc]
  have e1:ld1 (.pointer (some ⟨b,0,none⟩)) (H++[Blk.cells [.int .u64 x.s,.int .u64 x.l] 141 .fix])=some (.int .u64 x.s,_):=dC hb1 rfl;have e2:IntKind.u64.wrap ((x.s:Int)+1)=((x.s+1:Nat):Int):=by rw[tB];omega
  have e3:stN 1 (.pointer (some ⟨b,0,none⟩)) (.int .u64 ((x.s+1:Nat):Int)) (H++[Blk.cells [.int .u64 x.s,.int .u64 x.l] 141 .fix])=some (undef,(H++[Blk.cells [.int .u64 x.s,.int .u64 x.l] 141 .fix]).set b (mE ⟨x.s+1,x.l⟩)):=lW hb1 aC (by simp)
  simp only[gsR,Ow hb,e0,c1,e1,cO,e2,e3,d1,d2]
  exact⟨_,rfl,Put1.aLo hx1 (Put1.Be hb1)⟩
theorem aLA (hm:2<m){x:Snd}(hb:H[b]? =some (mE x))(hx:SndOk x)(limit:Nat)(hl:limit<65536): ∃H' u,lvl prog pkN m (.func 88) [.Q b 0,.int .u16 limit] H=some (u,H')/\Put1 H b (mE (x.rE limit)) H':=by
 have:=hx.le;have:=hx.wide;have:=hx.big;refine fJ (cT rfl) U ?_
 rw[aK9];have e1:ld1 (.Q b 1) H=some (.int .u64 x.l,H):=dC hb rfl;have e2:ld1 (.Q b 0) H=some (.int .u64 x.s,H):=dC hb rfl;have e3:=Zh (H:=H) (m:=m-1) U x.l limit U hl
 have e4:IntKind.u64.wrap ((x.s:Int)+8)=((x.s+8:Nat):Int):=by rw[tB];omega
 by_cases c:dX x.l limit<=x.l
 ·have c1:decide ((dX x.l limit:Int)<=(x.l:Int))=true:=by rw[decide_eq_true_eq];omega
  have d:x.rE limit=x:=by unfold Snd.rE;rw[if_pos (.inl c)]
  simp only[gsR,e1,e3,c1]
  exact⟨_,_,rfl,by rw[d];exact Put1.vI hb⟩
 ·have c1:decide ((dX x.l limit:Int)<=(x.l:Int))=false:=by rw[decide_eq_false_iff_not];omega
  by_cases c':x.s+8<dX x.l limit
  ·have c2:decide (((x.s+8:Nat):Int)<(dX x.l limit:Int))=true:=by rw[decide_eq_true_eq];omega
   have d:x.rE limit=x:=by unfold Snd.rE;rw[if_pos (.inr c')]
   simp only[gsR,e1,e2,e3,c1,cO,e4,c2]
   exact⟨_,_,rfl,by rw[d];exact Put1.vI hb⟩
  ·have c2:decide (((x.s+8:Nat):Int)<(dX x.l limit:Int))=false:=by rw[decide_eq_false_iff_not];omega
   have d:x.rE limit=⟨x.s,dX x.l limit⟩:=by unfold Snd.rE;rw[if_neg U]
   have e5:stN 1 (.Q b 1) (.int .u64 (dX x.l limit)) H=some (undef,H.set b (mE ⟨x.s,dX x.l limit⟩)):=lW hb aC (by simp)
   simp only[gsR,e1,e2,e3,c1,cO,e4,c2,e5]
   exact⟨_,_,rfl,by rw[d];exact Put1.Be hb⟩
theorem aLB (hm:0<m)(start room:Nat)(h1:start<65536)(h2:1<=room/\room<=8):lvl prog pkN m (.func 38) [.int .u64 start,.I room] H=some (.Q H.length 0,H++[mE ⟨start,start+room⟩]):=by
 refine dI (cT rfl) U ?_
 rw[aKM];have c1:decide (4611686018427387904<=(start:Int))=false:=by rw[decide_eq_false_iff_not];omega
 have c2:decide ((room:Int)<1)=false:=by rw[decide_eq_false_iff_not];omega
 have c3:decide (8<(room:Int))=false:=by rw[decide_eq_false_iff_not];omega
 have e1:IntKind.u64.wrap (room:Int)=room:=yX room U
 have e2:IntKind.u64.wrap ((start:Int)+room)=((start+room:Nat):Int):=by rw[tB];omega
 have e3:bld prog 141 [(0,.int .u64 start),(1,.int .u64 ((start+room:Nat):Int))]=some (.agg #[.int .u64 start,.int .u64 ((start+room:Nat):Int)]):=rfl;have e4:bld prog 143 [(0,.agg #[.int .u64 start,.int .u64 ((start+room:Nat):Int)])]=some (.agg #[.int .u64 start,.int .u64 ((start+room:Nat):Int)]):=rfl;simp only[gsR,c1,c2,c3,fI _ _ iU qJ,e1,cO,e2,e3,e4];rfl
theorem aLz (hm:0<m)(start room:Nat)(h1:start<65536)(h2:1<=room/\room<=8):lvl prog pkN m (.func 39) [.int .u64 start,.I room] H=some (.Q H.length 0,H++[jK ⟨start,0⟩ room]):=by
 refine dI (cT rfl) U ?_
 rw[aKN];have c1:decide (4611686018427387904<=(start:Int))=false:=by rw[decide_eq_false_iff_not];omega
 have c2:decide ((room:Int)<1)=false:=by rw[decide_eq_false_iff_not];omega
 have c3:decide (8<(room:Int))=false:=by rw[decide_eq_false_iff_not];omega
 have e3:bld prog 174 [(0,.int .u64 start),(2,.I room)]=some (.agg #[.int .u64 start,.I 0,.I room]):=rfl;simp only[gsR,c1,c2,c3,e3];rfl
section
variable {x : Rcv} {room : Nat}
theorem vJ (hb:H[b]? =some (jK x room)):ld1 (.Q b 0) H=some (.int .u64 x.n,H)/\ld1 (.Q b 1) H=some (.I x.h,H)/\ld1 (.Q b 2) H=some (.I room,H):=⟨dC hb rfl,dC hb rfl,dC hb rfl⟩
theorem vK (hx:RcvOk x room):IntKind.i64.wrap ((room:Int)-x.h)=((room-x.h:Nat):Int)/\IntKind.u64.wrap ((room-x.h:Nat):Int)=((room-x.h:Nat):Int):=by
 have:=hx.h;have:=hx.room
 exact⟨by rw[cZ U U];omega,yX _ U⟩
theorem aLy (hm:0<m)(hb:H[b]? =some (jK x room))(hx:RcvOk x room):lvl prog pkN m (.func 110) [.Q b 0] H=some (.int .u64 (x.mC room),H):=by
 have:=hx.h;have:=hx.room;have:=hx.big;refine dI (cT rfl) U ?_
 rw[aKm];have e:IntKind.u64.wrap ((x.n:Int)+((room-x.h:Nat):Int))=((x.mC room:Nat):Int):=by rw[tB,Rcv.mC];omega
 simp only[gsR,(vJ hb).1,(vJ hb).2.1,(vJ hb).2.2,iV,(vK hx).1,(vK hx).2,fI _ _ iU qJ,cO,e]
def nX (n w:Nat):Nat:=(w+(18446744073709551616-n))%18446744073709551616
theorem Zj (hm:2<m)(hb:H[b]? =some (jK x room))(hx:RcvOk x room)(s:Nat)(hs:s<65536):lvl prog pkN m (.func 138) [.Q b 0,.int .u16 s] H=some (.tuple #[.int .u64 (dX x.n s),.int .u64 (nX x.n (dX x.n s)),.bool (decide (x.n<=dX x.n s))],H):=by
 have:=hx.big;refine dI (cT rfl) U ?_
 rw[aKt];have e1:=Zh (H:=H) (m:=m-1) U x.n s U hs
 have e2:IntKind.u64.wrap ((dX x.n s:Int)-x.n)=((nX x.n (dX x.n s):Nat):Int):=aLl _ _ (Ov _ _) U
 have e3:decide ((x.n:Int)<=(dX x.n s:Int))=decide (x.n<=dX x.n s):=by simp
 simp only[gsR,(vJ hb).1,e1,iV,e2,e3];rfl
theorem Zi {n w:Nat}(hn:n<18446744073709551616)(hw:w<18446744073709551616)(h:n<=w):nX n w=w-n:=by unfold nX;omega
theorem aLv (hm:3<m)(hb:H[b]? =some (jK x room))(hx:RcvOk x room)(s:Nat)(hs:s<65536): ∃H',lvl prog pkN m (.func 139) [.Q b 0,.int .u16 s] H=some (.int .u16 (x.kP room s).1,H')/\Put1 H b (jK (x.kP room s).2 room) H':=by
 have:=hx.h;have:=hx.room;have:=hx.big;have hwl:=Ov x.n s;refine jQ (cT rfl) U ?_
 rw[aKu];have e1:=Zj (m:=m-1) U hb hx s hs
 obtain⟨l0,l1,l2⟩:=vJ hb;have x0: ∀y,ext 0 (.tuple #[.int .u64 (dX x.n s),.int .u64 (nX x.n (dX x.n s)),.bool y])=some (.int .u64 (dX x.n s)):=λ_=>rfl
 have x1: ∀y,ext 1 (.tuple #[.int .u64 (dX x.n s),.int .u64 (nX x.n (dX x.n s)),.bool y])=some (.int .u64 (nX x.n (dX x.n s))):=λ_=>rfl
 have x2: ∀y,ext 2 (.tuple #[.int .u64 (dX x.n s),.int .u64 (nX x.n (dX x.n s)),.bool y])=some (.bool y):=λ_=>rfl
 by_cases c:x.n<=dX x.n s
 ·have c1:decide (x.n<=dX x.n s)=true:=aQw c
  have hf:=Zi U hwl c
  have ef:IntKind.u64.wrap (((room-x.h:Nat)):Int)=_:=(vK hx).2;by_cases c':x.mC room<=dX x.n s
  ·have c2:decide (((room-x.h:Nat):Int)<=(nX x.n (dX x.n s):Int))=true:=by rw[decide_eq_true_eq,hf];unfold Rcv.mC at c';omega
   have d:x.kP room s=(61,x):=by unfold Rcv.kP;rw[if_neg U,if_pos c']
   simp only[gsR,e1,x0,x1,x2,c1,l0,l1,l2,iV,(vK hx).1,fI _ _ iU qJ,ef,c2,d]
   exact⟨_,rfl,Put1.vI hb⟩
  ·have c2:decide (((room-x.h:Nat):Int)<=(nX x.n (dX x.n s):Int))=false:=by rw[decide_eq_false_iff_not,hf];unfold Rcv.mC at c';omega
   have d:x.kP room s=(0,⟨dX x.n s+1,x.h+1⟩):=by unfold Rcv.kP;rw[if_neg U,if_neg c']
   have hlt:dX x.n s<4611686018427387912:=by unfold Rcv.mC at c';omega
   have e2:IntKind.u64.wrap ((dX x.n s:Int)+1)=((dX x.n s+1:Nat):Int):=by rw[tB];omega
   have e3:stN 1 (.Q b 0) (.int .u64 ((dX x.n s+1:Nat):Int)) H=some (undef,H.set b (jK ⟨dX x.n s+1,x.h⟩ room)):=lW hb aC (by simp)
   have hb1:(H.set b (jK ⟨dX x.n s+1,x.h⟩ room))[b]? =some (jK ⟨dX x.n s+1,x.h⟩ room):=iR hb;have e4:=(vJ hb1).2.1;have e5:IntKind.i64.wrap ((x.h:Int)+1)=((x.h+1:Nat):Int):=by rw[cZ U U];omega
   have e6:stN 1 (.Q b 1) (.I ((x.h+1:Nat):Int)) (H.set b (jK ⟨dX x.n s+1,x.h⟩ room))=some (undef,(H.set b (jK ⟨dX x.n s+1,x.h⟩ room)).set b (jK ⟨dX x.n s+1,x.h+1⟩ room)):=lW hb1 aC (by simp)
   simp only[gsR,e1,x0,x1,x2,c1,l0,l1,l2,iV,(vK hx).1,fI _ _ iU qJ,ef,c2,cO,e2,e3,e4,e5,e6,d,On]
   exact⟨_,rfl,Put1.Be hb⟩
 ·have c1:decide (x.n<=dX x.n s)=false:=aQx c
  have d:x.kP room s=(60,x):=by unfold Rcv.kP;rw[if_pos U]
  simp only[gsR,e1,x0,x1,x2,c1,d]
  exact⟨_,rfl,Put1.vI hb⟩
theorem aLw (hm:0<m)(hb:H[b]? =some (jK x room))(hx:RcvOk x room): ∃H' u,lvl prog pkN m (.func 107) [.Q b 0] H=some (u,H')/\Put1 H b (jK x.uA room) H':=by
 have:=hx.h;have:=hx.room;refine fJ (cT rfl) U ?_
 rw[aKj];obtain⟨l0,l1,l2⟩:=vJ hb;by_cases c:x.h=0
 ·have c1:((x.h:Int)==0)=true:=by simp[c]
  simp only[gsR,l1,c1];refine⟨_,_,rfl,?_⟩;have d:x.uA=x:=by unfold Rcv.uA;rw[c];cases x;simp at c;subst c;rfl
  rw[d];exact Put1.vI hb
 ·have c1:((x.h:Int)==0)=false:=by simp[c]
  have e5:IntKind.i64.wrap ((x.h:Int)-1)=((x.h-1:Nat):Int):=by rw[cZ U U];omega
  have e6:stN 1 (.Q b 1) (.I ((x.h-1:Nat):Int)) H=some (undef,H.set b (jK x.uA room)):=lW hb aC (by simp)
  simp only[gsR,l1,c1,iV,e5,e6]
  exact⟨_,_,rfl,Put1.Be hb⟩
theorem aLx (hm:3<m)(hb:H[b]? =some (jK x room))(hx:RcvOk x room)(s:Nat)(hs:s<65536): ∃H' u,lvl prog pkN m (.func 89) [.Q b 0,.int .u16 s] H=some (u,H')/\Put1 H b (jK (x.pO room s) room) H':=by
 have:=hx.h;have:=hx.room;have:=hx.big;have hwl:=Ov x.n s;refine fJ (cT rfl) U ?_
 rw[aLa];have e1:=Zj (m:=m-1) U hb hx s hs
 obtain⟨l0,l1,l2⟩:=vJ hb;have x0: ∀y,ext 0 (.tuple #[.int .u64 (dX x.n s),.int .u64 (nX x.n (dX x.n s)),.bool y])=some (.int .u64 (dX x.n s)):=λ_=>rfl
 have x1: ∀y,ext 1 (.tuple #[.int .u64 (dX x.n s),.int .u64 (nX x.n (dX x.n s)),.bool y])=some (.int .u64 (nX x.n (dX x.n s))):=λ_=>rfl
 have x2: ∀y,ext 2 (.tuple #[.int .u64 (dX x.n s),.int .u64 (nX x.n (dX x.n s)),.bool y])=some (.bool y):=λ_=>rfl
 by_cases c:x.n<=dX x.n s
 ·have c1:decide (x.n<=dX x.n s)=true:=aQw c
  have hf:=Zi U hwl c
  have ef:IntKind.u64.wrap (((room-x.h:Nat)):Int)=_:=(vK hx).2;by_cases c0:dX x.n s=x.n
  ·have c2:((nX x.n (dX x.n s):Int)==0)=true:=by rw[hf,c0];simp
   have d:x.pO room s=x:=by unfold Rcv.pO;rw[if_pos U]
   simp only[gsR,e1,x0,x1,x2,c1,c2]
   exact⟨_,_,rfl,by rw[d];exact Put1.vI hb⟩
  ·have c2:((nX x.n (dX x.n s):Int)==0)=false:=by rw[hf];simp;omega
   by_cases c':x.mC room<dX x.n s
   ·have c3:decide (((room-x.h:Nat):Int)<(nX x.n (dX x.n s):Int))=true:=by rw[decide_eq_true_eq,hf];unfold Rcv.mC at c';omega
    have d:x.pO room s=x:=by unfold Rcv.pO;rw[if_pos U]
    simp only[gsR,e1,x0,x1,x2,c1,c2,l0,l1,l2,iV,(vK hx).1,fI _ _ iU qJ,ef,c3]
    exact⟨_,_,rfl,by rw[d];exact Put1.vI hb⟩
   ·have c3:decide (((room-x.h:Nat):Int)<(nX x.n (dX x.n s):Int))=false:=by rw[decide_eq_false_iff_not,hf];unfold Rcv.mC at c';omega
    have d:x.pO room s=⟨dX x.n s,x.h⟩:=by unfold Rcv.pO;rw[if_neg U]
    have e3:stN 1 (.Q b 0) (.int .u64 (dX x.n s)) H=some (undef,H.set b (jK ⟨dX x.n s,x.h⟩ room)):=lW hb aC (by simp)
    simp only[gsR,e1,x0,x1,x2,c1,c2,l0,l1,l2,iV,(vK hx).1,fI _ _ iU qJ,ef,c3,e3]
    exact⟨_,_,rfl,by rw[d];exact Put1.Be hb⟩
 ·have c1:decide (x.n<=dX x.n s)=false:=aQx c
  have d:x.pO room s=x:=by unfold Rcv.pO;rw[if_pos U]
  simp only[gsR,e1,x0,x1,x2,c1]
  exact⟨_,_,rfl,by rw[d];exact Put1.vI hb⟩
end
end
def frC (f:Frm):List Value:=[.int .u8 f.kind,.int .u8 f.lane,.int .u16 f.seq,.int .u8 f.src,.int .u8 f.dst,.int .u32 f.body]
def frV (f:Frm):Value:= .agg ⟨frC f⟩
def frB (f:Frm):Blk:= .cells (frC f) 39 .fix
def byC (b:UInt8):List Value:=[lC b]
theorem Fp (b:UInt8):(byC b).length=1:=rfl
theorem Zl (b:UInt8):dV (byC b)=true:=rfl
theorem uC: ∀bs:List UInt8,(bs.map byC).flatten=bs.map lC
 |[]=>rfl
 |b::bs=>by simp[byC,uC bs]
abbrev By (H:aE)(v:Value)(bs:List UInt8):Prop:=Rw byC 5 1 H v bs
theorem By.br {H:aE}{v:Value}{bs:List UInt8}(h:By H v bs):Br H v bs:=by
 rcases h.rs with⟨h1,h2⟩|⟨b,o,cap,h1,h2,h3⟩
 ·exact .inl ⟨h2,.inl h1⟩
 ·by_cases hb:bs=[]
  ·exact .inl ⟨hb,.inr ⟨b,o,cap,by rw[h1,hb];rfl⟩⟩
  ·obtain⟨e',k,pre,post,h4,_,h5⟩:=h3 hb
   refine .inr ⟨b,o,cap,_,e',k,h1,List.length_pos_iff.mpr hb,h5,?_,?_⟩
   ·rw[uC]
    simp;omega
   ·rw[uC,<-h4,aPU,List.drop_left]
    have:bs.length=(bs.map lC).length:=by simp
    rw[this,List.take_left]
section
variable {H : aE} {m : Nat}
theorem pS:prog.underlying 37=some (.int .u32):=by kernel_rfl
theorem kFr:sK prog 39=some [true,true,true,true,true,true]:=by kernel_rfl
def Fq (x y:Frm):Bool:=((x.kind:Int)==y.kind)&&(((x.lane:Int)==y.lane)&&(((x.seq:Int)==y.seq)&&(((x.src:Int)==y.src)&&(((x.dst:Int)==y.dst)&&(((x.body:Int)==y.body)&&true)))))
theorem eFr (x y:Frm):bin prog .eql 39 (frV x) (frV y)=some (.bool (Fq x y)):=by
 simp[bin,frV,eG,o5,kFr,eqT,frC,Fq]
theorem xA (a b:Int):lZ prog true [.int .u8 a,.int .u8 b]=some (.int .u8 (max a b)):=by
 simp[lZ,eG,iZ,pur,Builtin.max_,Builtin.max2,pure,bind,Sem.bind]
 split<;>omega
theorem oJ {b:Nat}{f:Frm}(hb:H[b]? =some (frB f)):ld1 (.Q b 0) H=some (.int .u8 f.kind,H)/\ld1 (.Q b 1) H=some (.int .u8 f.lane,H)/\ld1 (.Q b 2) H=some (.int .u16 f.seq,H)/\
  ld1 (.Q b 3) H=some (.int .u8 f.src,H)/\ld1 (.Q b 4) H=some (.int .u8 f.dst,H)/\ld1 (.Q b 5) H=some (.int .u32 f.body,H)/\ldN 6 (.Q b 0) H=some (frV f,H):=
 ⟨dC hb rfl,dC hb rfl,dC hb rfl,dC hb rfl,dC hb rfl,dC hb rfl,Bb hb (aPS 6)⟩
theorem xB (a b:Nat):((a:Int)==(b:Int))=decide (a=b):=by
 by_cases h:a=b
 ·simp[h]
 ·simp[h];omega
theorem Bf (a b:Nat):((a:Int)!=(b:Int))=decide (a≠b):=by
 by_cases h:a=b
 ·simp[h]
 ·simp[h];omega
theorem Zm (hm:0<m)(f:Frm):lvl prog pkN m (.func 92) [frV f] H=some (.bool (gA f),H++[frB f]):=by
 refine dI (cT rfl) hm ?_;rw[aLb];have e0:(Blk.cells (Value.cells (frV f)).toList 39 .fix)=frB f:=rfl;obtain⟨l0,l1,l2,l3,l4,l5,l6⟩:=oJ (dS H (frB f));have k1:((f.kind:Int)==1)=decide (f.kind=1):=xB f.kind 1;have k2:((f.kind:Int)==2)=decide (f.kind=2):=xB f.kind 2;have k3:((f.kind:Int)==3)=decide (f.kind=3):=xB f.kind 3;have k4:decide ((f.lane:Int)<3)=decide (f.lane<=2):=by congr 1;exact propext U
 have k5:decide (max (f.src:Int) (f.dst:Int)<6)=decide (f.src<=5/\f.dst<=5):=by congr 1;exact propext U
 have k6:((f.src:Int)!=(f.dst:Int))=decide (f.src≠f.dst):=Bf _ _;have b1:bld prog 39 [(0,.int .u8 f.kind),(1,.int .u8 f.lane),(2,.int .u16 f.seq)]=some (frV ⟨f.kind,f.lane,f.seq,0,0,0⟩):=rfl;have b2:Fq f ⟨f.kind,f.lane,f.seq,0,0,0⟩=decide (f.src=0/\f.dst=0/\f.body=0):=by
  simp only[Fq,xB,decide_true,aQa,Bool.and_true];rw[<-Bool.decide_and,<-Bool.decide_and]
 by_cases p1:f.kind=1
 ·by_cases p2:f.lane<=2
  ·by_cases p3:f.src<=5/\f.dst<=5
   ·by_cases p4:f.src≠f.dst
    ·have hs:gA f=true:=by unfold gA;simp[p1,p2,p3.1,p3.2,p4]
     simp only[gsR,e0,l0,l1,l3,l4,xA,k1,k4,k5,k6,aQw p1,aQw p2,aQw p3,aQw p4,hs]
    ·have hs:gA f=false:=by unfold gA;simp[p1,p4]
     simp only[gsR,e0,l0,l1,l3,l4,xA,k1,k4,k5,k6,aQw p1,aQw p2,aQw p3,aQx p4,hs]
   ·have hs:gA f=false:=by unfold gA;simp[p1];omega
    simp only[gsR,e0,l0,l1,l3,l4,xA,k1,k4,k5,k6,aQw p1,aQw p2,aQx p3,hs]
  ·have hs:gA f=false:=by unfold gA;simp[p2]
   simp only[gsR,e0,l0,l1,l3,l4,xA,k1,k4,k5,k6,aQw p1,aQx p2,hs]
 ·by_cases p2:f.kind=2
  ·by_cases p3:f.lane<=2
   ·by_cases p4:f.src=0/\f.dst=0/\f.body=0
    ·have hs:gA f=true:=by unfold gA;simp[p2,p3,p4.1,p4.2.1,p4.2.2]
     simp only[gsR,e0,l0,l1,l2,l6,k1,k2,k4,b1,eFr,b2,aQx p1,aQw p2,aQw p3,aQw p4,hs]
    ·have hs:gA f=false:=by unfold gA;simp[p2];omega
     simp only[gsR,e0,l0,l1,l2,l6,k1,k2,k4,b1,eFr,b2,aQx p1,aQw p2,aQw p3,aQx p4,hs]
   ·have hs:gA f=false:=by unfold gA;simp[p3]
    simp only[gsR,e0,l0,l1,l2,l6,k1,k2,k4,b1,eFr,b2,aQx p1,aQw p2,aQx p3,hs]
  ·by_cases p2':f.kind=3
   ·by_cases p3:f.lane<=2
    ·by_cases p4:f.src=0/\f.dst=0/\f.body=0
     ·have hs:gA f=true:=by unfold gA;simp[p2',p3,p4.1,p4.2.1,p4.2.2]
      simp only[gsR,e0,l0,l1,l2,l6,k1,k2,k3,k4,b1,eFr,b2,aQx p1,aQx p2,aQw p2',aQw p3,aQw p4,hs]
     ·have hs:gA f=false:=by unfold gA;simp[p2'];omega
      simp only[gsR,e0,l0,l1,l2,l6,k1,k2,k3,k4,b1,eFr,b2,aQx p1,aQx p2,aQw p2',aQw p3,aQx p4,hs]
    ·have hs:gA f=false:=by unfold gA;simp[p3]
     simp only[gsR,e0,l0,l1,l2,l6,k1,k2,k3,k4,b1,eFr,b2,aQx p1,aQx p2,aQw p2',aQx p3,hs]
   ·have hs:gA f=false:=by unfold gA;simp[p1,p2,p2']
    simp only[gsR,e0,l0,l1,l2,l6,k1,k2,k3,k4,aQx p1,aQx p2,aQx p2',hs]
theorem Ox (n:Nat):lC (by8 n)= .int .u8 ((n%256:Nat):Int):=by rw[lC,Fm]
theorem Bg (hm:0<m){H0:aE}{v:Value}{bs:List UInt8}(n:Nat)(hn:n<65536)(h:By H v bs)(hv:New H0 v)(he:Ext H0 H)(hr:j7 (bs.length+2) 1=true):
  ∃H' v',lvl prog pkN m (.func 93) [v,.int .u16 n] H=some (v',H')/\By H' v' (bs++kO n)/\New H0 v'/\Ext H0 H':=by
 refine fJ (cT rfl) hm ?_;rw[aLc];have e1:bin prog .shr 23 (.int .u16 (n:Int)) (.int .u64 8)=some (.int .u16 ((n/256:Nat):Int)):=by
  have:=C9 (P:=prog) .u16 .u64 23 n 8 aC
  rw[Nat.shiftRight_eq_div_pow] at this;exact this
 have e2:dG 5 1 2 [.int .u8 0] [(0,.int .u8 ((n/256%256:Nat):Int)),(1,.int .u8 ((n%256:Nat):Int))] H=some (.slice (some ⟨H.length,0,none⟩) 2 2,H++[.cells ((kO n).map byC).flatten 5 .row]):=by
  rw[uC];simp only[kO,aQi,List.map_nil,Ox];rfl
 have hw:Rs byC 5 (H++[.cells ((kO n).map byC).flatten 5 .row]) (.slice (some ⟨H.length,0,none⟩) 2 2) (kO n):=
  .inr ⟨H.length,0,2,rfl,aPS 2,λ_=>⟨5,.row,[],[],rfl,λ_=>rfl,by simp⟩⟩
 obtain⟨v',H',g1,g2,g3,g4⟩:=(h.tS [.cells ((kO n).map byC).flatten 5 .row]).rY Fp Zl aC (by':=1) hw hv (he.tr (Fr.app _ _ _)) hr
 simp only[gsR,e1,fI _ _ nB u8U,aLj,e2,g1]
 exact⟨_,_,rfl,g2,g3,g4⟩
theorem aLF (hm:1<m){H0:aE}{v:Value}{bs:List UInt8}(n:Nat)(hn:n<4294967296)(h:By H v bs)(hv:New H0 v)(he:Ext H0 H)(hr:j7 (bs.length+4) 1=true):
  ∃H' v',lvl prog pkN m (.func 94) [v,.int .u32 n] H=some (v',H')/\By H' v' (bs++(kO (n/65536)++kO n))/\New H0 v'/\Ext H0 H':=by
 refine fJ (cT rfl) U ?_
 rw[aLd];have e1:bin prog .shr 37 (.int .u32 (n:Int)) (.int .u64 16)=some (.int .u32 ((n/65536:Nat):Int)):=by
  have:=C9 (P:=prog) .u32 .u64 37 n 16 aC
  rw[Nat.shiftRight_eq_div_pow] at this;exact this
 have e2:IntKind.u16.wrap ((n/65536:Nat):Int)=((n/65536:Nat):Int):=Ju U U
 obtain⟨H1,v1,g1,g2,g3,g4⟩:=Bg (m:=m-1) U (n/65536) U h hv he (fV hr U)
 obtain⟨H2,v2,g5,g6,g7,g8⟩:=Bg (m:=m-1) U (n%65536) U g2 g3 g4 (fV hr (by simp[kO]))
 have e3:kO (n%65536)=kO n:=by
  simp only[kO];rw[Zb (n:=n%65536/256) (c:=by8 (n/256)) (by rw[Fm];omega),Zb (n:=n%65536) (c:=by8 n) (by rw[Fm];omega)]
 rw[e3,aPU] at g6;simp only[gsR,e1,fI _ _ pS nB,e2,g1,Ba,g5]
 exact⟨_,_,rfl,g6,g7,g8⟩
end
end Go.Proofs.YtkeilicinggjmaaGreatDoor
