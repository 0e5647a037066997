/-
  PARTS OF THIS CLAIM'S PROOF, laid together by a program of mine.
-/
import Derived.Test.YtciiopkbmjppfaaGreatDoorAbsM1
import Derived.Scope
import Derived.ProofKit
import Derived.RowKit
import Derived.RowKit3
import Derived.ChangeSame
import Derived.OpenShut
import Derived.Deep.Slices
import Derived.SizedLaws
import Derived.Test.YtciiopkbmjppfaaGreatDoorProg
import Derived.RangeFuncNested
import Derived.RangeFuncBound
import Derived.RangeFuncCalls
import Derived.RangeFuncLeaves
import Derived.Shelf.Abstract
import Derived.Shelf.RegionOpen
import Derived.WalkKit
import Derived.OwnWalkIn
import Derived.TacticsInMore
import Derived.LoopNIn
import Derived.LoopIn
import Derived.Lib.TrailingZeros
import Derived.Tactics
import Derived.Tactics2
import Derived.Sort.Grow
set_option linter.unusedVariables false
set_option linter.unusedSimpArgs false
set_option linter.unusedSectionVars false
namespace Go.Abs
open M
theorem Step.aF5 {P:Program}{W:Nat->Prop}{ρ ρ':Ren}{G:Nat->Option Blk}{m:Nat}{x:Blk}{w w':World}(hr:Rel P ρ G w)
  (h:Step P ρ (List.replicate m .dead) w ρ' (List.replicate m .dead++[x]) w')(hG:G m=some x)(hW:W m):StepN P W (λb=>b=m) ρ G w ρ' G w':=by
 have nowr: ∀b:Nat,wr (List.replicate m Blk.dead)[b]? =false:=by
  intro b;rw[aTD]
  split<;>rfl
 have old: ∀b p,b≠m->ρ' b=some p->ρ b=some p:=by
  intro b p hne hp;cases hρ:ρ b with
  |some p0=>have:=h.le b p0 hρ;rw[hp] at this;exact this.symm▸rfl
  |none=>
   rcases h.new b (by rw[hp];simp) with h1|⟨h1,h2⟩
   ·exact absurd hρ h1
   ·simp at h1 h2;omega
 have same: ∀c,c<w.heap.size->w'.heap[c]? =w.heap[c]? :=λc hc=>h.frame c hc λb p _ hw=>by rw[nowr] at hw;cases hw
 have hfree:ρ m=none:=h.free m (by simp) (by simp)
 have new: ∀p,ρ' m=some p->w.heap.size<=p.c:=by
  intro p hp;rcases h.fresh m p hfree hp with h1|⟨b0,p0,_,h4,_⟩
  ·exact h1
  ·rw[nowr] at h4;cases h4
 have htb:Tab P ρ' G w':=hr.tab.C4 (λc hc _=>same c hc) λb p hb hw=>by
  by_cases hbm:b=m
  ·subst hbm
   exact .inl (new p hb)
  ·exact .inr ⟨b,p,old b p hbm hb,hw,rfl⟩
 refine⟨⟨h.rel.lt,?_,?_,htb⟩,h.le,?_,?_,h.size,λc hc _=>same c hc,λ_ _ _=>rfl,λ_ _ h=>h,λ_ _ h=>h,?_,h.os,h.tape,h.output⟩
 ·intro b p y hp hy
  by_cases hb:b=m
  ·subst hb
   rw[hG] at hy;injection hy with hy;subst hy;exact h.rel.blk b p x hp (by simp[cE])
  ·have hρ:=old b p hb hp
   rw[same _ (hr.lt b p hρ)]
   exact(hr.blk b p y hρ hy).I2 h.le
 ·intro b1 b2 p1 p2 hne h1 h2 hw hd
  by_cases e1:b1=m
  ·have e2:b2≠m:=λe=>hne (e1.trans e.symm)
   subst e1;have:=new p1 h1;have:=hr.lt b2 p2 (old b2 p2 e2 h2);omega
  ·by_cases e2:b2=m
   ·subst e2
    have:=new p2 h2;have:=hr.lt b1 p1 (old b1 p1 e1 h1);omega
   ·exact hr.sep b1 b2 p1 p2 hne (old b1 p1 e1 h1) (old b2 p2 e2 h2) hw hd
 ·rintro b rfl;exact hW
 ·intro b hb
  rcases h.new b hb with h1|⟨h1,h2⟩
  ·exact .inl h1
  ·right;simp at h1 h2;omega
 ·intro b p hn hp
  by_cases hb:b=m
  ·subst hb;exact .inl (new p hp)
  ·rw[old b p hb hp] at hn;cases hn
theorem aF7 {P:Program}{ρ:Ren}{G:Nat->Option Blk}{w:World}(h:Rel P ρ G w)(m:Nat):Rel P ρ (cE (List.replicate m .dead)) w:=by
 have nowr: ∀b:Nat,(List.replicate m Blk.dead)[b]? =none∨(List.replicate m Blk.dead)[b]? =some .dead:=by
  intro b;rw[aTD]
  split<;>simp
 refine⟨h.lt,λb p x hp hx=> ?_,λb1 b2 p1 p2 _ _ _ hw _=> ?_,λg hg=>⟨(h.tab g hg).1,λb pl _ hw=> ?_⟩⟩
 rotate_left 2
 ·rcases nowr b with e|e<;>simp only[cE] at hw<;>rw[e] at hw<;>simp[wr] at hw
 ·rcases nowr b with e|e<;>simp only[cE] at hx<;>rw[e] at hx<;>cases hx
  trivial
 ·rcases nowr b1 with e|e<;>simp only[cE] at hw<;>rw[e] at hw<;>simp[wr] at hw
theorem Dq (p:Nat->Prop): ∀n,(∃j,j<n/\p j)-> ∃j,j<n/\p j/\ ∀j',j<j'->j'<n-> ¬p j'
 |0,⟨j,h,_⟩=>by omega
 |n+1,⟨j,h,hp⟩=>by
  by_cases hn:p n
  ·exact⟨n,by omega,hn,λj' h1 h2=>by omega⟩
  ·have:j<n:=by
    rcases Nat.lt_or_ge j n with h1|h1
    ·exact h1
    ·have:j=n:=U
     subst this;exact absurd hp hn
   obtain⟨j0,h1,h2,h3⟩:=Dq p n ⟨j,this,hp⟩;refine⟨j0,by omega,h2,λj' h4 h5=> ?_⟩
   rcases Nat.lt_or_ge j' n with h6|h6
   ·exact h3 j' h4 h6
   ·have:j'=n:=U
    subst this;exact hn
theorem J3 (p:Nat->Prop): ∀(d i n:Nat),n-i=d->i<=n-> ∃q,i<=q/\q<=n/\(q=n∨p q)/\ ∀j,i<=j->j<q-> ¬p j
 |0,i,n,hd,hi=>⟨n,by omega,aS1 _,.inl rfl,λj h1 h2=>by omega⟩
 |d+1,i,n,hd,hi=>by
  by_cases h:p i
  ·exact⟨i,aS1 _,hi,.inr h,λj h1 h2=>by omega⟩
  ·obtain⟨q,h1,h2,h3,h4⟩:=J3 p d (i+1) n U U
   refine⟨q,by omega,h2,h3,λj h5 h6=> ?_⟩
   rcases Nat.lt_or_ge i j with h7|h7
   ·exact h4 j U h6
   ·have:j=i:=U
    subst this;exact h
section
variable {P : Program} {ρ : Ren} {H : aG} {w : World}
set_option maxHeartbeats 8000000 in
theorem aF6 {O:aH}(hO:uD P O)(hM:pI O)(ops:Array Oper){r:Value×aG}{k:K (Value×aG)}(hk:qI k r){Q:Exit->Act->World->Prop}{t:cU}{a:Act}
    (hok:I0 ops.toList t.length=true)(h:oI P O ops.toList (mI ops.toList) ops.toList 0 [] [] k t H=some r)(hr:Rel P ρ (cE H) w)(ht:Srs ρ t a.tmps.toList)(hd:a.defers=[])
    (hf:Free ρ H r)(hq:KGood P ρ H w r k (Q .normal)):wpAny P .any ops Q ops.size (Array.replicate ops.size false) a w:=by
  obtain⟨T,HH,V,tr,hkn⟩:=U2 ops.toList 0 [] [] t H h;clear h
  generalize hL:ops.toList=L at*
  have hn:ops.size=L.length:=by rw[<-hL];simp
  have hget: ∀i:Nat,ops[i]? =L[i]? :=by intro i;rw[mL,hL]
  -- what the check says
  have okAll: ∀(i:Nat)(o:Oper),L[i]? =some o->(∀e∈o.after.toList,Region.binds .any e=true->e.on<i)/\(∀d,o.dst=some d->d<t.length)/\
      ∀(j:Nat)(o':Oper),L[j]? =some o'->i≠j->(dG o.op=true->dG o'.op=true->sT (mI L) i j=true)/\(∀d,o'.dst=some d->(d∈rG L o∨o.dst=some d)->sT (mI L) i j=true):=by
    intro i o hi;simp only[I0,aTB] at hok;have h1:=hok (o,i) (List.mk_mem_zipIdx_iff_getElem?.2 hi);simp only[aS4,aTB] at h1;obtain⟨⟨h1,h2⟩,h3⟩:=h1;refine⟨λe he hb=> ?_,λd hd=> ?_,λj o' hj hne=> ?_⟩
    · have:=h1 e he
      simpa[hb] using this
    · rw[hd] at h2;simpa using h2
    · have:=h3 (o',j) (List.mk_mem_zipIdx_iff_getElem?.2 hj)
      simp only[Bool.or_eq_true,beq_iff_eq,aS4] at this;rcases this with this|⟨h4,h5⟩
      · exact absurd this hne
      · refine⟨λe1 e2=> ?_,λd hd hdl=> ?_⟩
        · simpa[e1,e2] using h4
        · rw[hd] at h5
          simp only[Bool.or_eq_true,aS4,Bool.not_eq_true',bne_iff_ne,ne_eq] at h5;rcases h5 with⟨h6,h7⟩|h6
          · rcases hdl with h8|h8
            · exfalso;simp at h6;exact h6 h8
            · exact absurd h8 h7
          · exact h6
  have lenT: ∀i,i<=L.length->(T i).length=t.length:=by
    intro i;induction i with
    |zero=>intro _;rw[tr.t0]
    |succ i ih=>
      intro hi;have hi':L[i]? =some L[i]:=by simp[show i<L.length by omega]
      rw[(tr.st i _ hi').2];cases (L[i]).dst<;>simp[qH,ih U]
  have lenStep: ∀(i:Nat)(o:Oper),L[i]? =some o->(HH i).length<=(HH (i+1)).length:=λi o hi=>Jw P hM _ _ _ _ _ _ (tr.st i o hi).1
  have lenMono: ∀d i,i+d<=L.length->(HH i).length<=(HH (i+d)).length:=by
    intro d;induction d with
    |zero=>intro i _;exact aS1 _
    |succ d ih=>
      intro i hi;exact aTc (ih i U) (lenStep (i+d) _ (show L[i+d]? =some L[i+d] by simp[show i+d<L.length by omega]))
  have lenLe: ∀i j,i<=j->j<=L.length->(HH i).length<=(HH j).length:=λi j h1 h2=>by
    have:=lenMono (j-i) i U;rwa [show i+(j-i)=j by omega] at this
  -- whose is a block?
  have inter: ∀i j b,i<L.length->j<L.length->(HH i).length<=b->b<(HH (i+1)).length->(HH j).length<=b->b<(HH (j+1)).length->i=j:=by
    intro i j b hi hj h1 h2 h3 h4;rcases Nat.lt_trichotomy i j with hlt|heq|hgt
    · have:=lenLe (i+1) j U U;omega
    · exact heq
    · have:=lenLe (j+1) i U U;omega
  let OwS:Nat->Nat->Prop:=λb i=> ∃o,L[i]? =some o/\oH o.op=true/\(HH i).length=b/\(HH (i+1)).length=b+1
  have ownU: ∀b i j,OwS b i->OwS b j->i=j:=by
    rintro b i j ⟨o,h1,_,h2,h3⟩ ⟨o',h4,_,h5,h6⟩
    exact inter i j b (aSW.1 h1).1 (aSW.1 h4).1 U U U U
  classical
  let ini:Nat->Option Blk:=λb=>if hb: ∃i,OwS b i then(HH (Classical.choose hb+1))[b]? else none
  have iniOwn: ∀b i,OwS b i->ini b=(HH (i+1))[b]? :=by
    intro b i hi;have hb: ∃i,OwS b i:=⟨i,hi⟩
    show(if hb: ∃i,OwS b i then(HH (Classical.choose hb+1))[b]? else none)=_
    rw[dif_pos hb,ownU b _ i (Classical.choose_spec hb) hi]
  have iniSome: ∀b x,ini b=some x-> ∃i,OwS b i/\(HH (i+1))[b]? =some x:=by
    intro b x hx;by_cases hb: ∃i,OwS b i
    · obtain⟨i,hi⟩:=hb
      exact⟨i,hi,by rw[<-iniOwn b i hi];exact hx⟩
    · have:ini b=none:=dif_neg hb
      rw[this] at hx;cases hx
  -- what is no effect: nothing turns, or a block is made
  have noEff: ∀(i:Nat)(o:Oper),L[i]? =some o->dG o.op=false->HH (i+1)=HH i∨ ∃x:Blk,wr (some x)=true/\HH (i+1)=HH i++[x]/\oH o.op=true:=by
    intro i o hi he;have hst:=(tr.st i o hi).1;cases hn':oH o.op with
    |false=>exact .inl (U1 P O L (T i) o he hn' _ _ _ hst).1
    |true=>
      rcases U0 P O L (T i) o hn' _ _ _ hst with⟨xb,h1,h2,_⟩|⟨h1,_⟩
      · exact .inr ⟨xb,h1,h2,rfl⟩
      · exact .inl h1
  have iniOk:J1 ini:=by
    intro b x hx;obtain⟨i,⟨o,h1,h2,h3,h4⟩,h5⟩:=iniSome b x hx;rcases noEff i o h1 (Ux h2) with h6|⟨xb,h6,h7,_⟩
    · rw[h6] at h4;omega
    · rw[h7,<-h3] at h5
      have:xb=x:=by simpa using h5
      rw[<-this];exact h6
  have ext1: ∀(i:Nat)(o:Oper),L[i]? =some o->dG o.op=false->eH ini (HH (i+1))=eH ini (HH i):=by
    intro i o hi he;rcases noEff i o hi he with h1|⟨xb,h1,h2,h3⟩
    · rw[h1]
    · have hown:OwS (HH i).length i:=⟨o,hi,h3,rfl,by rw[h2];simp⟩
      funext b
      by_cases hb:b<(HH i).length
      · rw[fY hb,fY (by rw[h2];simp;omega),h2,aSZ hb]
      · by_cases hb2:b=(HH i).length
        · rw[iH hb,fY (by rw[h2,hb2];simp),hb2,iniOwn _ i hown]
        · rw[iH hb,iH (by rw[h2];simp;omega)]
  have extR: ∀d i,i+d<=L.length->(∀j o,i<=j->j<i+d->L[j]? =some o->dG o.op=false)->eH ini (HH (i+d))=eH ini (HH i):=by
    intro d;induction d with
    |zero=>intro i _ _;rfl
    |succ d ih=>
      intro i hi hno;have hg:L[i+d]? =some L[i+d]:=by simp[show i+d<L.length by omega]
      rw[<-ih i U (λj o h1 h2 h3=>hno j o h1 U h3)]
      exact ext1 (i+d) _ hg (hno (i+d) _ U U hg)
  have ext: ∀i j,i<=j->j<=L.length->(∀m o,i<=m->m<j->L[m]? =some o->dG o.op=false)->eH ini (HH j)=eH ini (HH i):=by
    intro i j h1 h2 h3;have:=extR (j-i) i U (λm o h4 h5 h6=>h3 m o h4 U h6)
    rwa [show i+(j-i)=j by omega] at this
  have extGet: ∀i j,i<=j->j<=L.length->(∀m o,i<=m->m<j->L[m]? =some o->dG o.op=false)-> ∀(b:Nat)(x:Blk),(HH i)[b]? =some x->(HH j)[b]? =some x:=by
    intro i j h1 h2 h3 b x hx;have hlt:=mW hx;have:=congrFun (ext i j h1 h2 h3) b;rw[fY hlt,fY (aTb hlt (lenLe i j h1 h2))] at this;rw[this];exact hx
  have hnL:(HH L.length).length<=r.2.length:=hk _ _ hkn
  let W:Nat->Prop:=λb=>H.length<=b/\b<(HH L.length).length
  have hW: ∀b,W b->ρ b=none:=λb hb=>hf b hb.1 (aTb hb.2 hnL)
  have hWi: ∀i,i<L.length-> ∀b,(HH i).length<=b->b<(HH (i+1)).length->W b:=by
    intro i hi b h1 h2;have h3:=lenLe 0 i U U
    rw[tr.h0] at h3
    exact⟨by omega,aTb h2 (lenLe (i+1) L.length U (aS1 _))⟩
  -- what the slots hold
  have TC: ∀i,i<=L.length-> ∀s,((∀j o,j<i->L[j]? =some o->o.dst≠some s)->gY (T i) s=gY t s)/\
      (∀j o,j<i->L[j]? =some o->o.dst=some s->(∀j' o',j<j'->j'<i->L[j']? =some o'->o'.dst≠some s)->gY (T i) s=some (V j)):=by
    intro i;induction i with
    |zero=>intro _ s;exact⟨λ_=>by rw[tr.t0],λj o hj=>by omega⟩
    |succ i ih=>
      intro hi s;have hg:L[i]? =some L[i]:=by simp[show i<L.length by omega]
      have hput:=(tr.st i _ hg).2;obtain⟨ih1,ih2⟩:=ih U s
      have hlen:=lenT i U
      have putNe:(L[i]).dst≠some s->gY (T (i+1)) s=gY (T i) s:=by
        intro hne;rw[hput];cases hdst:(L[i]).dst with
        |none=>rfl
        |some d=>
          have:d≠s:=λe=>hne (by rw[hdst,e])
          simp[qH,gY,aS0,aSX this]
      have putEq:(L[i]).dst=some s->gY (T (i+1)) s=some (V i):=by
        intro he;rw[hput,he];have:=(okAll i _ hg).2.1 s he;simp[qH,gY,aS0,hlen,this]
      refine⟨λhno=> ?_,λj o hj hjo hjd hno=> ?_⟩
      · rw[putNe (hno i _ U hg)]
        exact ih1 λj o h1 h2=>hno j o U h2
      · rcases Nat.lt_or_ge j i with h1|h1
        · rw[putNe (hno i _ h1 U hg)]
          exact ih2 j o h1 hjo hjd λj' o' h2 h3 h4=>hno j' o' h2 U h4
        · have:j=i:=U
          subst this;rw[hg] at hjo;injection hjo with e;exact putEq (by rw[e];exact hjd)
  -- the invariant
  let S:Array Bool->Nat->Prop:=λlisted i=>listed.getD i false=true
  have main: ∀(fuel:Nat)(l:List Nat)(listed:Array Bool)(a:Act)(w':World)(ρ':Ren)(p:Nat)(N:Nat->Prop),
      listed.size=L.length->(∀i,i<L.length->S listed i∨i∈l)->l.length<=fuel->
      (∀i,S listed i-> ∀j,((mI L).getD i 0).testBit j=true->S listed j)->
      p<=L.length->(p=L.length∨ ∃o,L[p]? =some o/\dG o.op=true)->(∀i o,L[i]? =some o->dG o.op=true->(S listed i↔i<p))->
      StepN P W N ρ (cE H) w ρ' (eH ini (HH p)) w'->(∀b,N b-> ∃i,i<L.length/\S listed i/\(HH i).length<=b/\b<(HH (i+1)).length)->
      (∀b x,ini b=some x->ρ' b=none->eH ini (HH p) b=some x)->
      a.defers=[]->a.tmps.size=t.length->
      (∀s,(∀j o,L[j]? =some o->o.dst=some s-> ¬S listed j)->Vo ρ' (gY t s) (a.tmps.getD s undef))->
      (∀s j o,L[j]? =some o->o.dst=some s->S listed j->(∀j' o',j<j'->L[j']? =some o'->o'.dst=some s-> ¬S listed j')->Vr ρ' (V j) (a.tmps.getD s undef))->
      wpAny P .any ops Q fuel listed a w':=by
    intro fuel;have readyI: ∀(listed:Array Bool)(i:Nat),i∈Region.ready .any ops listed↔(i<L.length/\listed.getD i true=false/\ ∃o,L[i]? =some o/\ ∀e∈o.after.toList,Region.binds .any e=true->listed.getD e.on false=true):=by
      intro listed i;simp only[Region.ready,List.mem_filter,aTA,hn,aS4,Bool.not_eq_true',hget];constructor
      · rintro ⟨h1,h2,h3⟩
        cases hi:L[i]? with
        |none=>rw[hi] at h3;simp at h3
        |some o=>
          rw[hi] at h3;simp only[Option.map_some,aTp] at h3;refine⟨h1,h2,o,rfl,λe he hb=> ?_⟩
          have:=Array.all_eq_true'.1 h3 e (by simpa using he)
          simpa[hb] using this
      · rintro ⟨h1,h2,o,hi,h3⟩
        refine⟨h1,h2,?_⟩;rw[hi];simp only[Option.map_some,aTp];refine Array.all_eq_true'.2 λe he=> ?_
        cases hb:Region.binds .any e with
        |false=>simp
        |true=>simpa using h3 e (by simpa using he) hb
    -- nothing is ready: all have run
    have allDone: ∀(listed:Array Bool),listed.size=L.length->Region.ready .any ops listed=[]-> ∀i,i<L.length->S listed i:=by
      intro listed hsz hrd i;induction i using Nat.strongRecOn with
      |_ i ih=>
        intro hi;by_cases hs:S listed i
        · exact hs
        · exfalso
          have hg:L[i]? =some L[i]:=by simp[hi]
          have:i∈Region.ready .any ops listed:=by
            rw[readyI];refine⟨hi,?_,_,hg,λe he hb=> ?_⟩
            · simp only[S] at hs
              have hi':i<listed.size:=U
              simp only[aTt,Array.getElem?_eq_getElem hi',aTp] at hs⊢;simpa using hs
            · exact ih e.on ((okAll i _ hg).1 e he hb) (by have:=(okAll i _ hg).1 e he hb;omega)
          rw[hrd] at this;cases this
    have fin: ∀(listed:Array Bool)(a:Act)(w':World)(ρ':Ren)(p:Nat)(N:Nat->Prop),(∀i,i<L.length->S listed i)->p<=L.length->(p=L.length∨ ∃o,L[p]? =some o/\dG o.op=true)->(∀i o,L[i]? =some o->dG o.op=true->(S listed i↔i<p))->
        StepN P W N ρ (cE H) w ρ' (eH ini (HH p)) w'->a.defers=[]->a.tmps.size=t.length->
        (∀s,(∀j o,L[j]? =some o->o.dst=some s-> ¬S listed j)->Vo ρ' (gY t s) (a.tmps.getD s undef))->
        (∀s j o,L[j]? =some o->o.dst=some s->S listed j->(∀j' o',j<j'->L[j']? =some o'->o'.dst=some s-> ¬S listed j')->Vr ρ' (V j) (a.tmps.getD s undef))->Q .normal a w':=by
      intro listed a w' ρ' p N hall hp hpe heff hst hdf hasz ht1 ht2;have hpn:p=L.length:=by
        rcases hpe with h1|⟨o,h1,h2⟩
        · exact h1
        · exfalso
          have:=(heff p o h1 h2).1 (hall p (aSW.1 h1).1);omega
      subst hpn;have hG:eH ini (HH L.length)=cE (HH L.length):=by
        funext b
        by_cases hb:b<(HH L.length).length
        · rw[fY hb]
        · rw[iH hb]
          simp only[cE];rw[aS7 U]
          cases hi:ini b with
          |none=>rfl
          |some x=>
            obtain⟨i,⟨o,h1,h2,h3,h4⟩,_⟩:=iniSome b x hi;have:=lenLe (i+1) L.length (by have:=(aSW.1 h1).1;omega) (aS1 _)
            omega
      rw[hG] at hst;have h0n:=lenLe 0 L.length U (aS1 _)
      rw[tr.h0] at h0n;refine hq ρ' (T L.length) (HH L.length) w' a hkn ⟨hst.rel,hst.le,λb hb=> ?_,h0n,λb h1 h2=>hW b ⟨h1,h2⟩,hst.size,hst.frame,λb hb hn=>hst.un b (λh1=>by have:=h1.1;omega) hn,
        λb hb=>hst.dead b (λh1=>by have:=h1.1;have:=mW hb;omega) hb,λb hb hw=>hst.kd b (λh1=>by have:=h1.1;omega) hw,hst.fresh,hst.os,hst.tape,hst.output⟩ ?_ hdf
      · rcases hst.new b hb with h1|h1
        · exact .inl h1
        · exact .inr (hst.sub b h1)
      · refine⟨by rw[lenT _ (aS1 _)];simpa using hasz.symm,λs u v hu hv=> ?_⟩
        have hu':gY (T L.length) s=u:=by unfold gY;rw[aS0,hu];rfl
        have hv':a.tmps.getD s undef=v:=by
          rw[Array.getElem?_toList] at hv;rw[aTt,hv];rfl
        rw[<-hu',<-hv'];obtain⟨c1,c2⟩:=TC L.length (aS1 _) s;by_cases hex: ∃j,j<L.length/\ ∃o,L[j]? =some o/\o.dst=some s
        · obtain⟨j,h1,⟨o,h2,h3⟩,h4⟩:=Dq _ _ hex
          rw[c2 j o h1 h2 h3 λj' o' h5 h6 h7 h8=>h4 j' h5 h6 ⟨o',h7,h8⟩]
          refine λu hu=> ?_
          cases hu;exact ht2 s j o h2 h3 (hall j h1) λj' o' h5 h6 h7 _=>h4 j' h5 (aSW.1 h6).1 ⟨o',h6,h7⟩
        · rw[c1 λj o h1 h2 h3=>hex ⟨j,h1,o,h2,h3⟩]
          exact ht1 s λj o h1 h2 _=>hex ⟨j,(aSW.1 h1).1,o,h1,h2⟩
    induction fuel with
    |zero=>
      intro l listed a w' ρ' p N hsz hcov hl hdc hp hpe heff hst hN hpd hdf hasz ht1 ht2;have hl0:l=[]:=by cases l<;>simp_all
      subst hl0;have hall: ∀i,i<L.length->S listed i:=λi hi=>(hcov i hi).resolve_right (by simp)
      refine⟨?_,fin listed a w' ρ' p N hall hp hpe heff hst hdf hasz ht1 ht2⟩;cases hrd:Region.ready .any ops listed with
      |nil=>rfl
      |cons i rest=>
        exfalso;have:i∈Region.ready .any ops listed:=by rw[hrd];simp
        rw[readyI] at this;obtain⟨h1,h2,_⟩:=this;have h3:=hall i h1;simp only[S] at h3;have hi':i<listed.size:=U
        simp only[aTt,Array.getElem?_eq_getElem hi',aTp] at h2 h3;rw[h2] at h3;cases h3
    |succ fuel ih=>
      intro l listed a w' ρ' p N hsz hcov hl hdc hp hpe heff hst hN hpd hdf hasz ht1 ht2;refine⟨λhrd=>fin listed a w' ρ' p N (allDone listed hsz hrd) hp hpe heff hst hdf hasz ht1 ht2,λi hi=> ?_⟩
      rw[readyI] at hi;obtain⟨hiL,hil,o,hio,hie⟩:=hi;have hiS: ¬S listed i:=by
        intro h3;simp only[S] at h3;have hi':i<listed.size:=U
        simp only[aTt,Array.getElem?_eq_getElem hi',aTp] at hil h3;rw[hil] at h3;cases h3
      obtain⟨ok1,ok2,ok3⟩:=okAll i o hio
      -- all that comes ahead of it has run
      have hpre: ∀j,((mI L).getD i 0).testBit j=true->S listed j:=by
        intro j hj;obtain⟨e,he,hb,hj'⟩:=aFM hio ok1 j hj;have hS:=hie e he hb;rcases hj' with rfl|hj'
        · exact hS
        · exact hdc e.on hS j hj'
      have hnot: ∀j,S listed j->((mI L).getD j 0).testBit i=true->False:=λj hj hb=>hiS (hdc j hj i hb)
      -- the slots that it looks at
      have hlook:Looked ρ' (T i) a (rG L o):=by
        intro s hs;obtain⟨c1,c2⟩:=TC i U s
        have ordW: ∀j o',L[j]? =some o'->o'.dst=some s->j≠i->sT (mI L) i j=true:=λj o' h1 h2 h3=>(ok3 j o' h1 (Ne.symm h3)).2 s h2 (.inl hs)
        have later: ∀j o',L[j]? =some o'->o'.dst=some s->i<j-> ¬S listed j:=by
          intro j o' h1 h2 h3 h4;have:=ordW j o' h1 h2 U
          rw[sT,if_neg U] at this
          exact hnot j h4 this
        have earlier: ∀j o',L[j]? =some o'->o'.dst=some s->j<i->S listed j:=by
          intro j o' h1 h2 h3;have:=ordW j o' h1 h2 U
          rw[sT,if_pos h3] at this;exact hpre j this
        by_cases hex: ∃j,j<i/\ ∃o',L[j]? =some o'/\o'.dst=some s
        · obtain⟨j,h1,⟨o',h2,h3⟩,h4⟩:=Dq _ _ hex
          rw[c2 j o' h1 h2 h3 λj' o'' h5 h6 h7 h8=>h4 j' h5 h6 ⟨o'',h7,h8⟩]
          refine λu hu=> ?_
          cases hu;refine ht2 s j o' h2 h3 (earlier j o' h2 h3 h1) λj' o'' h5 h6 h7 h8=> ?_
          rcases Nat.lt_trichotomy j' i with h9|h9|h9
          · exact h4 j' h5 h9 ⟨o'',h6,h7⟩
          · subst h9;exact hiS h8
          · exact later j' o'' h6 h7 h9 h8
        · rw[c1 λj o' h1 h2 h3=>hex ⟨j,h1,o',h2,h3⟩]
          refine ht1 s λj o' h1 h2 h3=> ?_
          rcases Nat.lt_trichotomy j i with h9|h9|h9
          · exact hex ⟨j,h9,o',h1,h2⟩
          · subst h9;exact hiS h3
          · exact later j o' h1 h2 h9 h3
      have hFR: ∀b,(HH i).length<=b->b<(HH (i+1)).length->ρ' b=none:=by
        intro b h1 h2;cases hb:ρ' b with
        |none=>rfl
        |some pl=>
          exfalso;rcases hst.new b (by rw[hb];simp) with h3|h3
          · exact h3 (hW b (hWi i hiL b h1 h2))
          · obtain⟨i',h4,h5,h6,h7⟩:=hN b h3
            have:=inter i i' b hiL h4 h1 h2 h6 h7;subst this;exact hiS h5
      -- what is left to do, for each way
      have S': ∀j,S (listed.setIfInBounds i true) j↔(S listed j∨j=i):=by
        intro j;simp only[S,aTt,Array.getElem?_setIfInBounds];by_cases hj:i=j
        · subst hj;simp[show i<listed.size by omega]
        · simp[hj,Ne.symm hj]
      have next: ∀(v':Value)(w'':World)(ρ'':Ren)(p':Nat)(N2:Nat->Prop),Vr ρ'' (V i) v'->p'<=L.length->(p'=L.length∨ ∃o,L[p']? =some o/\dG o.op=true)->
          (∀j o',L[j]? =some o'->dG o'.op=true->((S listed j∨j=i)↔j<p'))->StepN P W N2 ρ' (eH ini (HH p)) w' ρ'' (eH ini (HH p')) w''->(∀b,N2 b->(HH i).length<=b/\b<(HH (i+1)).length)->
          (∀b x,ini b=some x->ρ'' b=none->eH ini (HH p) b=some x->eH ini (HH p') b=some x)->
          wpAny P .any ops Q fuel (listed.setIfInBounds i true) (a.put o.dst v') w'':=by
        intro v' w'' ρ'' p' N2 hv hp' hpe' heff' hst2 hN2 hpd2;have kd2: ∀b pl,ρ b=some pl->wr (eH ini (HH p) b)=true->wr (cE H b)=true:=λb pl hb hw=>hst.kd b (λhWb=>by rw[hW b hWb] at hb;cases hb) hw
        refine ih (l.erase i) _ _ w'' ρ'' p' _ (by simpa using hsz) ?_ ?_ ?_ hp' hpe' ?_ (hst.aF0 hW hst2 kd2) ?_ ?_ (by rw[Ul];exact hdf) ?_ ?_ ?_
        · intro j hj
          rw[S'];by_cases hji:j=i
          · exact .inl (.inr hji)
          · rcases hcov j hj with h1|h1
            · exact .inl (.inl h1)
            · exact .inr ((List.mem_erase_of_ne hji).2 h1)
        · have:i∈l:=(hcov i hiL).resolve_left hiS
          rw[List.length_erase_of_mem this];omega
        · intro j hj m hm
          rw[S'] at hj⊢;rcases hj with hj|rfl
          · exact .inl (hdc j hj m hm)
          · exact .inl (hpre m hm)
        · intro j o' h1 h2
          rw[S'];exact heff' j o' h1 h2
        · intro b hb
          rcases hb with hb|hb
          · obtain⟨j,h1,h2,h3⟩:=hN b hb
            exact⟨j,h1,(S' j).2 (.inl h2),h3⟩
          · obtain⟨h1,h2⟩:=hN2 b hb
            exact⟨i,hiL,(S' i).2 (.inr rfl),h1,h2⟩
        · intro b x hx hb
          refine hpd2 b x hx hb (hpd b x hx ?_);cases hρ:ρ' b with
          |none=>rfl
          |some pl=>rw[hst2.le b pl hρ] at hb;cases hb
        · cases o.dst<;>simp[Act.put,hasz]
        · intro s hno
          have hne:o.dst≠some s:=λe=>hno i o hio e ((S' i).2 (.inr rfl))
          have:(a.put o.dst v').tmps.getD s undef=a.tmps.getD s undef:=by
            cases hdst:o.dst with
            |none=>rfl
            |some d=>
              have:d≠s:=λe=>hne (by rw[hdst,e])
              simp[Act.put,aTt,Array.getElem?_setIfInBounds_ne this]
          rw[this];exact Vo.aEt hst2.le (ht1 s λj o' h1 h2 h3=>hno j o' h1 h2 ((S' j).2 (.inl h3)))
        · intro s j o' hj hjd hjS hno
          rw[S'] at hjS;by_cases hd:o.dst=some s
          · -- it is itself the last one
            have hji:j=i:=by
              rcases hjS with hjS|hjS
              · exfalso
                have hne:j≠i:=λe=>hiS (e▸hjS)
                have hord:=(ok3 j o' hj (Ne.symm hne)).2 s hjd (.inr hd);rcases Nat.lt_or_ge j i with h1|h1
                · exact hno i o h1 hio hd ((S' i).2 (.inr rfl))
                · rw[sT,if_neg U] at hord
                  exact hnot j hjS hord
              · exact hjS
            subst hji;have:(a.put o.dst v').tmps.getD s undef=v':=by
              have hs:=ok2 s hd;rw[hd];simp[Act.put,aTt,hasz,hs]
            rw[this];exact hv
          · have:(a.put o.dst v').tmps.getD s undef=a.tmps.getD s undef:=by
              cases hdst:o.dst with
              |none=>rfl
              |some d=>
                have:d≠s:=λe=>hd (by rw[hdst,e])
                simp[Act.put,aTt,Array.getElem?_setIfInBounds_ne this]
            rw[this];have hjS':S listed j:=by
              rcases hjS with h1|rfl
              · exact h1
              · rw[hio] at hj;injection hj with e;subst e;exact absurd hjd hd
            exact(ht2 s j o' hj hjd hjS' λj' o'' h1 h2 h3 h4=>hno j' o'' h1 h2 h3 ((S' j').2 (.inl h4))).sU hst2.le
      have hrelC:Rel P ρ' (cE (HH p)) w':=hst.rel.aFZ iniOk;have hio':ops[i]? =some o:=by rw[hget];exact hio
      have hop: ∀{H1 H2:aG}{v:Value},Rel P ρ' (cE H1) w'->(∀b,H1.length<=b->b<H2.length->ρ' b=none)->fP P O L (T i) o H1=some (v,H2)->
          (∀v' w'',Post P ρ' H1 w' v H2 v' w''->wpAny P .any ops Q fuel (listed.setIfInBounds i true) (a.put o.dst v') w'')->wpOp P ops Q i (wpAny P .any ops Q fuel (listed.setIfInBounds i true)) a w':=by
        intro H1 H2 v hrel hfr hstp hK;unfold wpOp;rw[hio'];rw[<-hL] at hlook hstp;exact Uo hO hrel hlook hfr hstp hK
      have hsti:=(tr.st i o hio).1
      -- no effect, on the heap asx it stands
      have quiet:dG o.op=false->fP P O L (T i) o (HH p)=some (V i,HH p)->wpOp P ops Q i (wpAny P .any ops Q fuel (listed.setIfInBounds i true)) a w':=by
        intro he hs;refine hop hrelC (λb h1 h2=>by omega) hs λv' w'' ⟨ρ'',hv,hstep⟩=> ?_
        have hl:=hstep.Uw (W:=W) iniOk hst.rel (λb h1 h2=>by omega)
        refine next v' w'' ρ'' p _ hv hp hpe (λj o' h1 h2=> ?_) hl (λb hb=>by omega) (λb x _ _ h3=>h3)
        rw[<-heff j o' h1 h2];constructor
        · rintro (h3|rfl)
          · exact h3
          · rw[hio] at h1;injection h1 with e;subst e;rw[he] at h2;cases h2
        · exact .inl
      by_cases he:dG o.op=true
      · -- an effect: it is the next one
        have hip:i=p:=by
          have h1: ¬i<p:=λh1=>hiS ((heff i o hio he).2 h1)
          rcases Nat.lt_or_ge p i with h2|h2
          · exfalso
            rcases hpe with h3|⟨o',h3,h4⟩
            · omega
            · have:=(ok3 p o' h3 U).1 he h4
              rw[sT,if_pos h2] at this;have:=(heff p o' h3 h4).1 (hpre p this);omega
          · omega
        subst hip;refine hop hrelC hFR hsti λv' w'' ⟨ρ'',hv,hstep⟩=> ?_
        have hl:=hstep.Uw (W:=W) iniOk hst.rel (hWi i hiL);obtain⟨q,hq1,hq2,hq3,hq4⟩:=J3 (λj=> ∃o,L[j]? =some o/\dG o.op=true) _ (i+1) L.length rfl U
        have hGq:eH ini (HH q)=eH ini (HH (i+1)):=ext (i+1) q hq1 hq2 λm o' h1 h2 h3=>by
          cases hm:dG o'.op with
          |false=>rfl
          |true=>exact absurd ⟨o',h3,hm⟩ (hq4 m h1 h2)
        rw[<-hGq] at hl;refine next v' w'' ρ'' q _ hv hq2 hq3 (λj o' h1 h2=> ?_) hl (λb hb=>hb) (λb x hx hb h3=> ?_)
        · constructor
          · rintro (h3|rfl)
            · have:=(heff j o' h1 h2).1 h3;omega
            · omega
          · intro h3
            rcases Nat.lt_trichotomy j i with h4|h4|h4
            · exact .inl ((heff j o' h1 h2).2 h4)
            · exact .inr h4
            · exact absurd ⟨o',h1,h2⟩ (hq4 j h4 h3)
        · rw[hGq]
          have hb':ρ' b=none:=by
            cases hρ:ρ' b with
            |none=>rfl
            |some pl=>rw[hstep.le b pl hρ] at hb;cases hb
          by_cases hbl:b<(HH i).length
          · rw[fY hbl] at h3
            rw[fY (aTb hbl hstep.len),hstep.un b hbl hb'];exact h3
          · rw[iH hbl] at h3
            by_cases hbl2:b<(HH (i+1)).length
            · exfalso
              obtain⟨i',⟨o',h4,h5,h6,h7⟩,_⟩:=iniSome b x hx;have:=inter i i' b hiL (aSW.1 h4).1 U hbl2 U U
              subst this;rw[hio] at h4;injection h4 with e;subst e;rw[Ux h5] at he;cases he
            · rw[iH hbl2];exact h3
      · have he':dG o.op=false:=by simpa using he
        by_cases hnw:oH o.op=true
        · rcases U0 P O L (T i) o hnw _ _ _ hsti with⟨xb,hkk,hH1,hmk⟩|⟨h1,h2⟩
          · -- a new block
            have hlen1:(HH (i+1)).length=(HH i).length+1:=by rw[hH1];simp
            have hown:OwS (HH i).length i:=⟨o,hio,hnw,rfl,hlen1⟩;have hini:ini (HH i).length=some xb:=by rw[iniOwn _ i hown,hH1];simp
            have hfree:=hFR (HH i).length (aS1 _) U
            have hG:=hpd _ _ hini hfree;have hs:=hmk (List.replicate (HH i).length .dead) (by simp)
            refine hop (aF7 hst.rel (HH i).length) (λb h1 h2=> ?_) hs λv' w'' ⟨ρ'',hv,hstep⟩=> ?_
            · simp at h1 h2
              exact hFR b h1 U
            · have hl:=Step.aF5 (W:=W) hst.rel hstep hG (hWi i hiL _ (aS1 _) U)
              refine next v' w'' ρ'' p _ hv hp hpe (λj o' h1 h2=> ?_) hl (λb hb=>by omega) (λb x _ _ h3=>h3)
              rw[<-heff j o' h1 h2];constructor
              · rintro (h3|rfl)
                · exact h3
                · rw[hio] at h1;injection h1 with e;subst e;rw[he'] at h2;cases h2
              · exact .inl
          · exact quiet he' (h2 (HH p))
        · have hnw':oH o.op=false:=by simpa using hnw
          have hps:=U1 P O L (T i) o he' hnw';obtain⟨h1,h2,h3⟩:=hps _ _ _ hsti;refine quiet he' ?_;cases hlk:oG P o.op with
          |false=>exact h3 hlk (HH p)
          |true=>
            -- it reads: the checks, or what stays
            by_cases hex: ∃j,j<p/\(i<j/\ ∃o',L[j]? =some o'/\dG o'.op=true)
            · obtain⟨j,hj1,⟨hj2,o',hj3,hj4⟩,hj5⟩:=Dq _ _ hex
              have hc:=tr.le j o' hj3 hj4 i o hj2 hio he' hlk;simp only[aTh] at hc;rcases hc with hc|hc
              · exact(hnot j ((heff j o' hj3 hj4).2 hj1) hc).elim
              · obtain⟨G,hG⟩:=Uq hc
                obtain⟨g1,g2,_⟩:=hps _ _ _ hG;subst g1;exact g2 (HH p) (extGet (j+1) p U hp λm o'' m1 m2 m3=>by
                  cases hm:dG o''.op with
                  |false=>rfl
                  |true=>exact absurd ⟨by omega,o'',m3,hm⟩ (hj5 m U m2))
            · rcases Nat.lt_or_ge i p with hip|hip
              · exact h2 (HH p) (extGet i p U hp λm o'' m1 m2 m3=>by
                  cases hm:dG o''.op with
                  |false=>rfl
                  |true=>
                    exfalso;rcases Nat.lt_or_ge i m with m4|m4
                    · exact hex ⟨m,m2,m4,o'',m3,hm⟩
                    · have:m=i:=U
                      subst this;rw[hio] at m3;injection m3 with e;subst e;rw[he'] at hm;cases hm)
              · rcases hpe with hpe|⟨o',hp1,hp2⟩
                · omega
                · have hne:p≠i:=by
                    rintro rfl
                    rw[hio] at hp1;injection hp1 with e;subst e;rw[he'] at hp2;cases hp2
                  have hc:=tr.el i o hio he' hlk p o' U hp1 hp2
                  simp only[aTh] at hc;rcases hc with hc|hc
                  · have:=(heff p o' hp1 hp2).1 (hpre p hc);omega
                  · obtain⟨G,hG⟩:=Uq hc
                    obtain⟨g1,_⟩:=hps _ _ _ hG;subst g1;exact hG
  -- the start
  obtain⟨p,hp1,hp2,hp3,hp4⟩:=J3 (λj=> ∃o,L[j]? =some o/\dG o.op=true) _ 0 L.length rfl U
  have hGp:eH ini (HH p)=eH ini (HH 0):=ext 0 p U hp2 λm o' h1 h2 h3=>by
    cases hm:dG o'.op with
    |false=>rfl
    |true=>exact absurd ⟨o',h3,hm⟩ (hp4 m h1 h2)
  have hS0: ∀i,¬S (Array.replicate ops.size false) i:=by
    intro i;simp only[S,aTt,Array.getElem?_replicate]
    split<;>simp
  have hini0: ∀b x,ini b=some x-> ¬b<H.length:=by
    intro b x hx hb;obtain⟨i,⟨o,h1,h2,h3,h4⟩,_⟩:=iniSome b x hx;have:=lenLe 0 i U (by have:=(aSW.1 h1).1;omega)
    rw[tr.h0] at this;omega
  have iniW: ∀b x,ini b=some x->W b:=by
    intro b x hx;obtain⟨i,⟨o,h1,h2,h3,h4⟩,_⟩:=iniSome b x hx;exact hWi i (aSW.1 h1).1 b U U
  have hstart:StepN P W (λ_=>False) ρ (cE H) w ρ (eH ini (HH p)) w:=by
    rw[hGp,tr.h0];have mapped: ∀b pl,ρ b=some pl->eH ini H b=cE H b:=by
      intro b pl hb;by_cases hbl:b<H.length
      · rw[fY hbl]
      · rw[iH hbl]
        simp only[cE];rw[aS7 U]
        cases hi:ini b with
        |none=>rfl
        |some x=>rw[hW b (iniW b x hi)] at hb;cases hb
    have same: ∀b,¬W b->eH ini H b=cE H b:=by
      intro b hb;by_cases hbl:b<H.length
      · rw[fY hbl]
      · rw[iH hbl]
        simp only[cE];rw[aS7 U]
        cases hi:ini b with
        |none=>rfl
        |some x=>exact absurd (iniW b x hi) hb
    refine⟨⟨hr.lt,λb pl x hb hx=>hr.blk b pl x hb (by rw[<-mapped b pl hb];exact hx),λb1 b2 p1 p2 hne h1 h2 hw hd=>hr.sep b1 b2 p1 p2 hne h1 h2 (by rw[<-mapped b1 p1 h1];exact hw) (by rw[<-mapped b2 p2 h2];exact hd),λg hg=>⟨(hr.tab g hg).1,λb pl hb hw=>(hr.tab g hg).2 b pl hb (by rw[<-mapped b pl hb];exact hw)⟩⟩,
      Ren.C3 _,λ_ h=>h.elim,λb hb=> .inl hb,aS1 _,λ_ _ _=>rfl,λb hb _=>same b hb,λb hb hdd=>by rw[same b hb];exact hdd,λb hb hw=>by rw[<-same b hb];exact hw,λb pl h h'=>(by rw[h] at h';cases h'),rfl,rfl,rfl⟩
  have hlt: ∀s,Vo ρ (gY t s) (a.tmps.getD s undef):=λs=>Looked.Am ht [s] s (by simp)
  refine main ops.size (List.range L.length) _ a w ρ p (λ_=>False) (by simp[hn]) (λi hi=> .inr (by simpa using hi)) (by simp[hn]) (λi hi=>absurd hi (hS0 i)) hp2 hp3 (λi o h1 h2=>⟨λh3=>absurd h3 (hS0 i),λh3=>absurd ⟨o,h1,h2⟩ (hp4 i U h3)⟩)
    hstart (λb hb=>hb.elim) ?_ hd (by have:=ht.1;simpa using this.symm) (λs _=>hlt s) (λs j o _ _ hj=>absurd hj (hS0 j))
  intro b x hx hb;rw[hGp,tr.h0,iH (hini0 b x hx)];exact hx
end
def fQ (P:Program)(t:cU)(H:aG):List ResultVar->Option (List Value)
 |[]=>some []
 | .tmp i::r=>match gY t i with
  |some v=>(fQ P t H r).map (v:: ·)
  |none=>none
 | .cell a ty::r=>
  match eS P ty,lI P ty,gY t a with
  |some (sz,_),some g,some y=>
   match (if g=true then ldN sz y else ld1 y) H with
   |some x=>(fQ P t H r).map (x.1:: ·)
   |none=>none
  |_,_,_=>none
def aK:List Value->Value
 |[v]=>v
 |vs=> .tuple vs.toArray
def nP (P:Program)(t:cU)(H:aG):List ResultVar->List Value->Option (Value×aG)
 |[],acc=>some (aK acc.reverse,H)
 | .tmp i::r,acc=>match gY t i with
  |some v=>nP P t H r (v::acc)
  |none=>none
 | .cell a ty::r,acc=>
  match eS P ty,lI P ty,gY t a with
  |some (sz,_),some g,some y=>
   match (if g=true then ldN sz y else ld1 y) H with
   |none=>none
   |some x=>nP P t H r (x.1::acc)
  |_,_,_=>none
theorem yR (P:Program)(t:cU)(H:aG): ∀(l:List ResultVar)(acc:List Value),nP P t H l acc=(fQ P t H l).map λvs=>(aK (acc.reverse++vs),H)
 |[],acc=>by simp[nP,fQ]
 | .tmp i::r,acc=>by
  simp only[nP,fQ];cases gY t i with
  |none=>rfl
  |some v=>
   simp only;rw[yR P t H r];cases fQ P t H r<;>simp
 | .cell a ty::r,acc=>by
  simp only[nP,fQ];split
  ·rename_i sz by' g y _ _ _
   cases hx:(if g=true then ldN sz y else ld1 y) H with
   |none=>rfl
   |some x=>
    simp only;rw[yR P t H r];cases fQ P t H r<;>simp
  ·rfl
def cS (P:Program)(fn:Func):Ex->K (Value×aG):=λe=>
 match e with
 | .normal=>λt H=>nP P t H fn.results.toList []
 | .exit _=>λ_ _=>none
 | .ret=>λt H=>nP P t H fn.results.toList []
theorem Dr (P:Program)(fn:Func)(e:Ex)(he: ∀id,e≠ .exit id)(t:cU)(H:aG):cS P fn e t H=(fQ P t H fn.results.toList).map λvs=>(aK vs,H):=by
 cases e with
 |exit id=>exact absurd rfl (he id)
 |normal=>show nP P t H _ []=_;rw[yR];simp
 |ret=>show nP P t H _ []=_;rw[yR];simp
def aR (P:Program)(O:aH)(L:aI (Value×aG))(f:FuncId)(args:List Value)(H:aG):Option (Value×aG):=
 match P.funcs.toList[f]? with
 |some fn=>
  match fn.body with
  |some c=>if fn.name != "runtime.NumGoroutine" then eG P O L (aEm fn) c (cS P fn) (args.map some++List.replicate (fn.ntmps-args.length) (some undef)) H else none
  |none=>none
 |none=>none
abbrev eI:=Fn->Option (List Value->aG->Option (Value×aG))
def lvl (P:Program)(pr:eI):Nat->aH
 |0,_,_,_=>none
 |n+1,f,args,H=>
  match pr f with
  |some p=>p args H
  |none=>
   match f with
   | .func g=>aR P (lvl P pr n) (aL n) g args H
   |_=>none
section
variable {P : Program} {ρ : Ren} {H H' : aG} {w : World}
theorem Rel.aF8 {G:Nat->Option Blk}{w':World}(h:Rel P ρ G w)(e:w'.heap=w.heap):Rel P ρ G w':=
 ⟨λb pl hb=>by rw[e];exact h.lt b pl hb,λb pl x hb hx=>by rw[e];exact h.blk b pl x hb hx,h.sep,λg hg=>⟨by rw[e];exact(h.tab g hg).1,(h.tab g hg).2⟩⟩
theorem Step.aF9 {ρ':Ren}{w1 w':World}(h:Step P ρ H w1 ρ' H' w')(e:w1.heap=w.heap)(e1:w1.os=w.os)(e2:w1.tape=w.tape)(e3:w1.output=w.output):Step P ρ H w ρ' H' w':=
 ⟨h.rel,h.le,h.new,h.len,h.free,by rw[<-e];exact h.size,by rw[<-e];exact h.frame,h.un,h.dead,h.kd,by rw[<-e];exact h.fresh,by rw[<-e1];exact h.os,by rw[<-e2];exact h.tape,by rw[<-e3];exact h.output⟩
def aGb:Ex->Exit
 | .normal=> .normal
 | .exit id=> .exit id
 | .ret=> .ret
def EGood (P:Program)(ρ:Ren)(H:aG)(w:World)(r:Value×aG)(k:Ex->K (Value×aG))(Q:Exit->Act->World->Prop):Prop:=
 ∀e,KGood P ρ H w r (k e) (Q (aGb e))
theorem EGood.U3 {ρ':Ren}{w':World}{r:Value×aG}{k:Ex->K (Value×aG)}{Q:Exit->Act->World->Prop}(h:EGood P ρ H w r k Q)(hs:Step P ρ H w ρ' H' w'):EGood P ρ' H' w' r k Q:=
 λe=>(h e).Uj hs
def Dt (P:Program)(c:Code)(B:(Ex->K (Value×aG))->K (Value×aG))(r:Value×aG):Prop:=
 ∀(k:Ex->K (Value×aG)),MonoE k r-> ∀(Q:Exit->Act->World->Prop)(ρ:Ren)(t:cU)(H:aG)(w:World)(a:Act),B k t H=some r->Rel P ρ (cE H) w->Srs ρ t a.tmps.toList->a.defers=[]->Free ρ H r->
  EGood P ρ H w r k Q->c.wp P Q a w
theorem aGh {c:Code}{B:(Ex->K (Value×aG))->K (Value×aG)}{r:Value×aG}(m:Nat)(h:Dt P c B r):Dt P c (λk=>B (jL m k)) r:=
 λk hk Q ρ t H w a hB hr ht hd hf hq=>h _ (hk.clr m) Q ρ t H w a hB hr ht hd hf λe ρ' t' H' w' a' hk' hs hv hd'=>hq e ρ' _ H' w' a' hk' hs (hv.clr m) hd'
theorem U4 {c:Code}{B:(Ex->K (Value×aG))->K (Value×aG)}{r:Value×aG}(hB:Dt P c B r)(hBm: ∀k,MonoE k r->qI (B k) r): ∀(n:Nat)(k:Ex->K (Value×aG)),MonoE k r-> ∀(Q:Exit->Act->World->Prop)(ρ:Ren)(t:cU)(H:aG)(w:World)(a:Act),
  aL n B k t H=some r->Rel P ρ (cE H) w->Srs ρ t a.tmps.toList->a.defers=[]->Free ρ H r->EGood P ρ H w r k Q->Code.rounds P c Q n a w
 |0,k,hk,Q,ρ,t,H,w,a,h,_,_,_,_,_=>by cases h
 |n+1,k,hk,Q,ρ,t,H,w,a,h,hr,ht,hd,hf,hq=>by
  rw[rounds_succ];refine hB _ ?_ _ ρ t H w a h hr ht hd hf λe=> ?_
  ·intro e
   cases e with
   |normal=>exact Js hBm n k hk
   |exit id=>exact hk _
   |ret=>exact hk _
  ·cases e with
   |normal=>exact λρ' t' H' w' a' h' hs hv hd'=>U4 hB hBm n k hk Q ρ' t' H' w' a' h' hs.rel hv hd' (hf.Jy hs) (hq.U3 hs)
   |exit id=>exact hq (.exit id)
   |ret=>exact hq .ret
theorem aGg {O:aH}(hO:uD P O)(hM:pI O)(hmix:P.follows .mixedOrders=true)(n m:Nat){r:Value×aG}: ∀c:Code,Dt P c (eG P O (aL n) m c) r:=by
 intro c;induction c with
 |skip=>exact λk hk Q ρ t H w a h hr ht hd hf hq=>wp_skip (hq .normal ρ t H w a h (Step.pF hr) ht hd)
 |ret=>exact λk hk Q ρ t H w a h hr ht hd hf hq=>wp_ret (hq .ret ρ t H w a h (Step.pF hr) ht hd)
 |exit id=>exact λk hk Q ρ t H w a h hr ht hd hf hq=>wp_exit (hq (.exit id) ρ t H w a h (Step.pF hr) ht hd)
 |region id ops draw=>
  intro k hk Q ρ t H w a h hr ht hd hf hq;simp only[eG] at h;cases draw with
  |true=>
   simp only[if_true] at h
   split at h
   ·rename_i hok
    refine wp_region_any hmix ?_;refine aF6 hO hM ops (hk .normal) hok h (hr.aF8 rfl) ht hd hf ?_;exact λρ' t' H' w' a' h' hs hv hd'=>hq .normal ρ' t' H' w' a' h' (hs.aF9 rfl rfl rfl rfl) hv hd'
   ·cases h
  |false=>
   simp only[Bool.false_eq_true,if_false] at h;refine wp_region ?_;have:=Um hO hM ops (hk .normal) (Q:=Q) ops.toList 0 ρ t H w a rfl h hr ht hd hf (hq .normal);rwa [Array.length_toList,<-List.range_eq_range'] at this
 |seq x y ihx ihy=>
  intro k hk Q ρ t H w a h hr ht hd hf hq;simp only[eG] at h;refine wp_seq (ihx _ ?_ _ ρ t H w a h hr ht hd hf λe=> ?_)
  ·intro e
   cases e with
   |normal=>exact Ju P hM n _ y k hk
   |exit id=>exact hk _
   |ret=>exact hk _
  ·cases e with
   |normal=>exact λρ' t' H' w' a' h' hs hv hd'=>ihy k hk Q ρ' t' H' w' a' h' hs.rel hv hd' (hf.Jy hs) (hq.U3 hs)
   |exit id=>exact hq (.exit id)
   |ret=>exact hq .ret
 |cond c x y ihx ihy=>
  intro k hk Q ρ t H w a h hr ht hd hf hq;simp only[eG] at h
  split at h
  ·rename_i b hb
   have hev:a.eval c= .bool b:=by
    have:=Uk (ops:=[]) (o:=⟨none,.move c,0,"",#[],none⟩) (Looked.Am ht _);have h1:=this c (by simp[Op.operands]) _ hb
    exact(Dp h1).1 b rfl
   cases b with
   |true=>exact wp_cond_true hev (ihx k hk Q ρ t H w a h hr ht hd hf hq)
   |false=>exact wp_cond_false hev (ihy k hk Q ρ t H w a h hr ht hd hf hq)
  ·cases h
 |block id c ih=>
  intro k hk Q ρ t H w a h hr ht hd hf hq;simp only[eG] at h;refine wp_block (ih _ ?_ _ ρ t H w a h hr ht hd hf λe=> ?_)
  ·intro e
   cases e with
   |normal=>exact hk _
   |exit j=>simp only;split<;>exact hk _
   |ret=>exact hk _
  ·cases e with
   |normal=>exact hq .normal
   |exit j=>
    by_cases hj:j=id
    ·have e:Exit.inBlock id Q (.exit j)=Q .normal:=by funext a w;simp[Exit.inBlock,hj]
     simp only[hj,if_true];rw[hj] at e;show KGood P ρ H w r (k .normal) (Exit.inBlock id Q (.exit id))
     rw[e];exact hq .normal
    ·have e:Exit.inBlock id Q (.exit j)=Q (.exit j):=by funext a w;simp[Exit.inBlock,hj]
     simp only[hj,if_false];show KGood P ρ H w r (k (.exit j)) (Exit.inBlock id Q (.exit j))
     rw[e];exact hq (.exit j)
   |ret=>exact hq .ret
 |loop c ih=>
  intro k hk Q ρ t H w a h hr ht hd hf hq;simp only[eG] at h;exact wp_loop_rounds n (U4 (aGh m ih) (λk hk=>Ju P hM n _ c _ (hk.clr m)) n k hk Q ρ _ H w a h hr (ht.clr m) hd hf hq)
 |scope c ih=>
  intro k hk Q ρ t H w a h hr ht hd hf hq;simp only[eG] at h;refine wp_scope_straight (ih k hk (Exit.noGoto Q) ρ t H w a h hr ht hd hf λe=> ?_)
  cases e with
  |normal=>exact hq .normal
  |exit id=>exact hq (.exit id)
  |ret=>exact hq .ret
 |label l=>exact λk hk Q ρ t H w a h hr ht hd hf hq=>wp_label (hq .normal ρ t H w a h (Step.pF hr) ht hd)
 |_=>intro k hk Q ρ t H w a h;simp only[eG] at h;cases h
def Du (tmps:Array Value):ResultVar->Sem Value
 | .tmp t=>pure (tmps.getD t undef)
 | .cell x t=>do loadVar t (<-asAddr (tmps.getD x undef))
theorem aGe (fn:Func)(tmps:Array Value):results fn tmps=(do let vs<-fn.results.mapM (Du tmps);pure (if h:vs.size=1 then vs[0] else .tuple vs)):=rfl
theorem J5 (hr:Rel P ρ (cE H) w){t:cU}{a:Act}(ht:Srs ρ t a.tmps.toList): ∀(l:List ResultVar)(vs:List Value),fQ P t H l=some vs->
  ∃vs',(l.mapM (Du a.tmps)).run P w= .ok vs' w/\Vrs ρ vs vs'
 |[],vs,h=>by simp[fQ] at h;subst h;exact⟨[],by simp,.nL ρ⟩
 | .tmp i::l,vs,h=>by
  simp only[fQ] at h;cases hg:gY t i with
  |none=>rw[hg] at h;cases h
  |some u=>
  rw[hg] at h;cases hl:fQ P t H l with
  |none=>simp[hl] at h
  |some vs1=>
   simp[hl] at h;subst h;obtain⟨vs',h1,h2⟩:=J5 hr ht l vs1 hl;have hi:=Looked.Am ht [i] i (by simp) u hg
   refine⟨a.tmps.getD i undef::vs',?_,.mV hi h2⟩;simp only[List.mapM_cons,Du,Sem.run_bind,Sem.run_pure,aTk,h1]
 | .cell x ty::l,vs,h=>by
  simp only[fQ] at h
  split at h
  ·rename_i sz by' g x0 hs hg hx0
   split at h
   ·rename_i y hy
    cases hl:fQ P t H l with
    |none=>simp[hl] at h
    |some vs1=>
     simp[hl] at h;subst h;obtain⟨vs',h1,h2⟩:=J5 hr ht l vs1 hl;have hi:=Looked.Am ht [x] x (by simp) x0 hx0
     obtain⟨_,ad,v',e0,e1,e2⟩:=To (H':=y.2) (v:=y.1) hr hs hg hi hy;refine⟨v'::vs',?_,.mV e2 h2⟩;have hA:(asAddr (.pointer (some ad))).run P w= .ok ad w:=rfl;simp only[List.mapM_cons,Du,Sem.run_bind,e0,hA,Sem.run_pure,aTk,e1,h1]
   ·cases h
  ·cases h
theorem aGf (hr:Rel P ρ (cE H) w){t:cU}{a:Act}(ht:Srs ρ t a.tmps.toList){fn:Func}{vs:List Value}(h:fQ P t H fn.results.toList=some vs):
  ∃v',(results fn a.tmps).run P w= .ok v' w/\Vr ρ (aK vs) v':=by
 obtain⟨vs',h1,h2⟩:=J5 hr ht _ vs h;refine⟨aK vs',?_,?_⟩
 ·rw[aGe,Array.mapM_eq_mapM_toList]
  simp only[Sem.run_bind,Sem.run_map,h1,aTk,Sem.run_pure]
  congr 1
  match vs' with
  |[]=>rfl
  |[v]=>rfl
  |x::y::l=>simp[aK]
 ·unfold aK
  split
  ·rename_i v
   obtain⟨v',vs'',rfl,hv,hn⟩:=h2.oJ;have:=hn.nM;subst this;exact hv
  ·rename_i hne
   split
   ·rename_i v'
    exfalso;have:=h2.1
    match vs,this with
    |[v],_=>exact hne v rfl
   ·exact .tuple (by simpa using h2.1) (by simpa using h2.2)
theorem aGa {O:aH}(hO:uD P O)(hM:pI O)(hmix:P.follows .mixedOrders=true)(n:Nat){f:FuncId}{args:List Value}{v:Value}
  (h:aR P O (aL n) f args H=some (v,H'))(hr:Rel P ρ (cE H) w){args':List Value}(ha:Vrs ρ args args')(hf: ∀b,H.length<=b->b<H'.length->ρ b=none):
  vS P (.func f) args'.toArray w (Post P ρ H w v H'):=by
 unfold aR at h
 split at h
 ·rename_i fn hfn
  split at h
  ·rename_i c hc
   split at h
   ·rename_i hname
    have hfn':P.funcs[f]? =some fn:=by rw[mL];exact hfn
    have hname': ¬fn.name= "runtime.NumGoroutine":=by simpa using hname
    refine⟨by simp[callFunc,hfn',hname',hc],?_⟩
    refine calls_of_wp hfn' hc ?_;have hmono:MonoE (cS P fn) (v,H'):=by
     intro e t H1 h1;by_cases hx: ∃id,e= .exit id
     ·obtain⟨id,rfl⟩:=hx
      cases h1
     ·rw[Dr P fn e (λid he=>hx ⟨id,he⟩)] at h1
      cases hv:fQ P t H1 fn.results.toList with
      |none=>simp[hv] at h1
      |some vs=>simp[hv] at h1;rw[h1.2];exact aS1 _
    have htm0:Vrs ρ (args++List.replicate (fn.ntmps-args.length) undef) (args'.toArray++Array.replicate (fn.ntmps-args'.toArray.size) undef).toList:=by
     have:args'.length=args.length:=ha.1.symm;simp only[Array.toList_append,Array.toList_replicate,List.size_toArray,this];refine ha.C5 ⟨rfl,λi u v hu hv=> ?_⟩
     rw[hu] at hv;injection hv with e;subst e;have:=List.eq_of_mem_replicate (aS6 hu);subst this;exact .sV ρ
    have htm:=htm0.srs;rw[List.map_append,List.map_replicate] at htm;refine aGg hO hM hmix n _ c _ hmono _ ρ _ H w _ h hr htm rfl hf λe=> ?_
    have fin: ∀ρ' t' H1 w' (a':Act),((fQ P t' H1 fn.results.toList).map λvs=>(aK vs,H1))=some (v,H')->Step P ρ H w ρ' H1 w'->Srs ρ' t' a'.tmps.toList->a'.defers=[]->
      a'.defers=[]/\ ∃v',(results fn a'.tmps).run P w'= .ok v' w'/\ ∃v1,Ending.returned v'= .returned v1/\Post P ρ H w v H' v1 w':=by
     intro ρ' t' H1 w' a' h1 hs hv hd;cases hvs:fQ P t' H1 fn.results.toList with
     |none=>simp[hvs] at h1
     |some vs=>
      simp[hvs] at h1;obtain⟨rfl,rfl⟩:=h1;obtain⟨v',h2,h3⟩:=aGf hs.rel hv hvs
      exact⟨hd,v',h2,v',rfl,ρ',h3,hs⟩
    cases e with
    |exit id=>exact λρ' t' H1 w' a' h1=>by cases h1
    |normal=>exact λρ' t' H1 w' a' h1 hs hv hd=>fin ρ' t' H1 w' a' (by rw[<-Dr P fn .normal (by simp)];exact h1) hs hv hd
    |ret=>exact λρ' t' H1 w' a' h1 hs hv hd=>fin ρ' t' H1 w' a' (by rw[<-Dr P fn .ret (by simp)];exact h1) hs hv hd
   ·cases h
  ·cases h
 ·cases h
theorem aGc {O:aH}(hM:pI O)(n:Nat){f:FuncId}{args:List Value}{v:Value}(h:aR P O (aL n) f args H=some (v,H')):H.length<=H'.length:=by
 unfold aR at h
 split at h
 ·rename_i fn hfn
  split at h
  ·split at h
   ·refine Ju P hM n _ _ _ (r:=(v,H')) ?_ _ _ h
    intro e t H1 h1;by_cases hx: ∃id,e= .exit id
    ·obtain⟨id,rfl⟩:=hx
     cases h1
    ·rw[Dr P _ e (λid he=>hx ⟨id,he⟩)] at h1
     cases hv:fQ P t H1 fn.results.toList with
     |none=>simp[hv] at h1
     |some vs=>simp[hv] at h1;rw[h1.2];exact aS1 _
   ·cases h
  ·cases h
 ·cases h
structure PrimsOk (P:Program)(pr:eI):Prop where
 mono: ∀f p,pr f=some p-> ∀args H v H',p args H=some (v,H')->H.length<=H'.length
 sound: ∀f p,pr f=some p-> ∀args H v H',p args H=some (v,H')-> ∀ρ w args',Rel P ρ (cE H) w->Vrs ρ args args'->(∀b,H.length<=b->b<H'.length->ρ b=none)->
  vS P f args'.toArray w (Post P ρ H w v H')
theorem U5 {pr:eI}(hp:PrimsOk P pr): ∀n,pI (lvl P pr n)
 |0=>λ_ _ _ _ _ h=>by cases h
 |n+1=>λf args H v H' h=>by
  simp only[lvl] at h
  split at h
  ·rename_i p hpf;exact hp.mono f p hpf args H v H' h
  ·split at h
   ·exact aGc (U5 hp n) n h
   ·cases h
theorem J4 {pr:eI}(hp:PrimsOk P pr)(hmix:P.follows .mixedOrders=true): ∀n,uD P (lvl P pr n)
 |0=>λ_ _ _ _ _ h=>by cases h
 |n+1=>λf args H v H' h ρ w args' hr ha hf=>by
  simp only[lvl] at h
  split at h
  ·rename_i p hpf;exact hp.sound f p hpf args H v H' h ρ w args' hr ha hf
  ·split at h
   ·exact aGa (J4 hp hmix n) (U5 hp n) hmix n h hr ha hf
   ·cases h
theorem aGd:PrimsOk P (λ_=>none):=⟨λf p h=>(by cases h),λf p h=>(by cases h)⟩
end
end Go.Abs
namespace Go.Abs
open M
open Go.ChangeShapes Go.WideShapes
structure Kept (w w':World):Prop where
 size:w.heap.size<=w'.heap.size
 same: ∀c:Nat,c<w.heap.size->w'.heap[c]? =w.heap[c]?
 os:w'.os=w.os
 output:w'.output=w.output
theorem Kept.but {w w':World}(h:Kept w w')(may:MemPlace->Prop):w.keptBut w' may:=by
 refine⟨h.os,h.output,λi hi=> ?_⟩
 rw[h.same i hi];cases hb:w.heap[i]? with
 |none=>trivial
 |some x=>cases x with
  |cells c t fr=>exact⟨rfl,rfl,rfl,λ_ _=>rfl⟩
  |map es clock=>exact .inr ⟨rfl,rfl⟩
  |_=>rfl
theorem Kept.aGi {w w':World}(h:Kept w w')(a:Addr)(ha:a.block<w.heap.size):w'.frozen? a=w.frozen? a:=by
 simp only[World.frozen?,h.same a.block ha]
theorem Kept.aGj {P:Program}{ρ ρ':Ren}{H H':aG}{w w':World}(h:Step P ρ H w ρ' H' w')(hw: ∀b pl,ρ b=some pl->wr H[b]? =false):Kept w w':=
 ⟨h.size,λc hc=>h.frame c hc λb pl hb hwr=>(by rw[hw b pl hb] at hwr;exact absurd hwr aC),h.os,h.output⟩
theorem U9 (P:Program)(w:World)(ht:Af P w):Rel P (λ_=>none) (cE []) w:=
 ⟨λb p h=>(by cases h),λb p x h=>(by cases h),λb1 b2 p1 p2 _ h=>(by cases h),λg hg=>⟨ht g hg,λb pl h=>(by cases h)⟩⟩
theorem U8 {H:Type}{enc:TypeId×Value->H}{P:Program}{f:Func}{s:ChangeSpec}{apart fresh handsOn again:Bool}{W W':World}{args:Array Value}{v:Value}{ds gs:List (DataW H)}{before pa pv:List MemPlace}
  (hW:DataW.Whole enc P f.params.toList s.vars apart W args.toList ds gs before)
  (hres: ∀(b:Nat)(sp:Nat->Bool)(hd:Bool),DataW.TrodAll enc P W' b sp hd f.resultTypes.toList (v.resultList f.resultTypes.size) (s.fn H (ds++gs)).results [])
  (hargs: ∀sp:Nat->Bool,(∀p∈before,sp p.block=true)->DataW.TrodAll enc P W' 0 sp true f.params.toList args.toList (s.fn H (ds++gs)).args pa)
  (hvars: ∀sp:Nat->Bool,(∀p∈before,sp p.block=true)->DataW.TrodVars enc P W' sp s.vars (s.fn H (ds++gs)).vars pv)
  (hps:before=pa++pv)(hk:Kept W W')
  (hok: ∀(j:Nat)(t:TypeId)(r:Value),f.resultTypes[j]? =some t->(v.resultList f.resultTypes.size)[j]? =some r->Value.okWide P W' .any 0 t r):
  s.post enc P f apart fresh handsOn again W args v W':=by
 have hlt: ∀p∈before,p.block<W.heap.size:=λp hp=>hW.lt p hp
 have hin: ∀p∈before,p∈pa∨p∈pv:=λp hp=>by rw[hps] at hp;exact List.mem_append.mp hp
 have hcov: ∀p∈before,(λb=>decide (b<W.heap.size)) p.block=true:=λp hp=>by simpa using hlt p hp
 obtain⟨_,_,_,_,_,hz,hnd⟩:=id hW;refine⟨ds,gs,before,[],pa,pv,hW,hres _ _ _,hargs _ hcov,hvars _ hcov,hk.but _,λ_=>⟨hok,(s.fn H (ds++gs)).results++(s.fn H (ds++gs)).args,(s.fn H (ds++gs)).vars,pa++pv,?_,?_⟩⟩
 ·refine⟨pa,pv,?_,hvars _ (λ_ _=>rfl),rfl,?_,?_⟩
  ·exact trodAll_append (p':=pa) (p:=[]) (hargs _ (λ_ _=>rfl)) (hres _ _ _)
  ·intro b off hb
   rw[<-hps] at hb;rw[hk.aGi _ (hlt _ hb)];exact hz b off hb
  ·intro ha
   rw[<-hps];exact hnd ha
 ·intro p hp _
  rw[hps];exact hp
theorem Step.U6 {P:Program}{ρ:Ren}{H:aG}{w w':World}(hr:Rel P ρ (cE H) w)(hs:w.heap.size<=w'.heap.size)(same: ∀c:Nat,c<w.heap.size->w'.heap[c]? =w.heap[c]?)
  (hos:w'.os=w.os)(htape:w'.tape=w.tape)(hout:w'.output=w.output):Step P ρ H w ρ H w':=
 ⟨⟨λb p h=>aTb (hr.lt b p h) hs,λb pl x h1 h2=>(by rw[same pl.c (hr.lt b pl h1)];exact hr.blk b pl x h1 h2),hr.sep,hr.tab.C4 (λc hc _=>same c hc) λb p hb hw=> .inr ⟨b,p,hb,hw,rfl⟩⟩,Ren.C3 ρ,λb h=> .inl h,aS1 _,λb h1 h2=>absurd h1 U,
  hs,λc hc _=>same c hc,λ_ _ _=>rfl,λ_ h=>h,λ_ _ h=>h,λb pl h h'=>(by rw[h] at h';cases h'),hos,htape,hout⟩
def rJ (ids:List FuncId):eI:=λf=>match f with
 | .func g=>if ids.contains g=true then some λargs H=>if args.isEmpty=true then some (.bool true,H) else none else none
 |_=>none
theorem J6 {ids:List FuncId}{g:FuncId}(h:ids.contains g=false):rJ ids (.func g)=none:=by
 simp only[rJ,h];rfl
theorem U7 {ids:List FuncId}{g:FuncId}(h:ids.contains g=true):rJ ids (.func g)=some λargs H=>if args.isEmpty=true then some (.bool true,H) else none:=by
 simp only[rJ,h];rfl
theorem aGk {P:Program}(hmix:P.follows .mixedOrders=true){ids:List FuncId}(h: ∀g,ids.contains g=true-> ∃n,(lvl P (λ_=>none) n (.func g) [] []).map (·.1)=some (.bool true)):PrimsOk P (rJ ids):=by
 constructor
 ·intro f p hf args H v H' hp
  cases f with
  |func g=>
   by_cases hg:ids.contains g=true
   ·rw[U7 hg] at hf
    cases hf;simp only at hp
    split at hp
    ·cases hp;exact aS1 _
    ·cases hp
   ·rw[J6 (by simpa using hg)] at hf
    cases hf
  |_=>cases hf
 ·intro f p hf args H v H' hp ρ w args' hr ha _
  cases f with
  |func g=>
   by_cases hg:ids.contains g=true
   ·rw[U7 hg] at hf
    cases hf;simp only at hp
    split at hp
    ·rename_i hnil
     cases hp;have hargs:args=[]:=by simpa using hnil
     subst hargs;have:=ha.nM;subst this;obtain⟨n,hn⟩:=h g hg;obtain⟨r,hr1,hr2⟩:=aTs.mp hn;have hc:=J4 (aGd (P:=P)) hmix n (.func g) [] [] r.1 r.2 (by rw[hr1]) (λ_=>none) w [] (U9 P w hr.I3) (Vrs.nL _) (λ_ _ _=>rfl)
     refine⟨hc.1,hc.2.mono ?_⟩;intro e w' ⟨v',he,ρ',hv,hs⟩;rw[hr2] at hv;refine⟨v',he,ρ,?_,Step.U6 hr hs.size (λc hc=>hs.frame c hc λb pl hb=>(by cases hb)) hs.os hs.tape hs.output⟩
     cases hv with
     |same _=>exact .same rfl
    ·cases hp
   ·rw[J6 (by simpa using hg)] at hf
    cases hf
  |_=>cases hf
theorem vW {α β:Type}{f g:α->Option β}: ∀(l:List α)(ys:List β),l.mapM f=some ys->(∀a y,a∈l->f a=some y->y∈ys->g a=some y)->l.mapM g=some ys
 |[],ys,h,_=>by simpa using h
 |a::l,ys,h,hg=>by
  simp only[List.mapM_cons,Option.pure_def,Option.bind_eq_bind,Option.bind_eq_some_iff,aTn] at h⊢;obtain⟨y,hy,ys',hys,rfl⟩:=h
  exact⟨y,hg a y (by simp) hy (by simp),ys',vW l ys' hys λb z hb hz hm=>hg b z (by simp[hb]) hz (by simp[hm]),rfl⟩
section
variable {H : Type} {enc : TypeId × Value → H} {P : Program} {W W' : World} {base : Nat} {held : Bool}
theorem aGl (hk:Kept W W'){a:Addr}{v:Value}(h:W.cell? a=some v):W'.cell? a=some v:=by
 have hlt:a.block<W.heap.size:=by
  by_cases hl:a.block<W.heap.size
  ·exact hl
  ·rw[World.cell?,Array.getElem?_eq_none U] at h
   cases h
 rw[World.cell?,hk.same _ hlt];exact h
theorem aGm (hk:Kept W W'){a:Addr}{n:Nat}{cs:List Value}(h:W.cells? base a n=some cs):W'.cells? base a n=some cs:=by
 unfold World.cells? at h⊢
 split at h
 ·rename_i hb
  rw[if_pos hb];exact vW _ _ h λi v _ hv _=>aGl hk hv
 ·cases h
theorem aGo (a:Addr)(n:Nat)(h:0<n): ∃p∈MemPlace.row a n,p.block=a.block:=⟨.cell a.block (a.off+0),aTz.mpr ⟨0,aTA.mpr h,rfl⟩,rfl⟩
def okT (P:Program)(S:List TypeId)(t:TypeId):Bool:=match P.underlying t with
 |some (.pointer e)=>S.contains e
 |some (.slice e)=>decide (0<P.cellsOf e)&&S.contains e
 |some (.struct fs)=>fs.toList.all λf=>S.contains f.type
 |some (.array _ e)=>S.contains e
 |some (.map _ e)=>S.contains e
 |some (.interface _)=>false
 |_=>true
theorem aGn {S:List TypeId}(hz:S.all (okT P S)=true){t:TypeId}(ht:t∈S):okT P S t=true:=aTB.mp hz t ht
theorem aGp (hk:Kept W W'){S:List TypeId}(hz:S.all (okT P S)=true){sp:Nat->Bool}: ∀(fuel:Nat)(t:TypeId)(cs:List Value)(x:DataW H×List MemPlace),t∈S->
  DataW.trod enc P W base (λ_=>true) held fuel t cs=some x->(∀p∈x.2,sp p.block=true)->DataW.trod enc P W' base sp held fuel t cs=some x:=by
 intro fuel;induction fuel with
 |zero=>intro t cs x _ h;simp[DataW.trod] at h
 |succ n ih=>
  intro t cs x hS h hx;have hok:=aGn hz hS;have elem: ∀(e:TypeId)(a:Addr)(y:DataW H×List MemPlace),e∈S->(W.cells? base a (P.cellsOf e)).bind (DataW.trod enc P W base (λ_=>true) held n e)=some y->(∀p∈y.2,sp p.block=true)->
    (W'.cells? base a (P.cellsOf e)).bind (DataW.trod enc P W' base sp held n e)=some y:=by
   intro e a y he hy hp;obtain⟨cs',h1,h2⟩:=Option.bind_eq_some_iff.mp hy;exact Option.bind_eq_some_iff.mpr ⟨cs',aGm hk h1,ih e cs' y he h2 hp⟩
  unfold DataW.trod at h⊢
  split at h
  case h_6 e a hu=>
   obtain⟨y,hy,rfl⟩:=aTs.mp h;have he:e∈S:=by simpa[okT,hu] using hok
   rw[elem e a y he hy λp hp=>hx p (by simp[hp])]
   rfl
  case h_8 e a len cap hu=>
   have he:0<P.cellsOf e/\e∈S:=by simpa[okT,hu] using hok
   simp only[hu];simp only at h
   split at h
   ·rename_i hc
    rw[if_pos hc];simp only[if_true] at h;obtain⟨elems,h1,h⟩:=Option.bind_eq_some_iff.mp h;obtain⟨rest,h2,rfl⟩:=aTs.mp h;have m1:=vW (g:=λi=>(W'.cells? base (a.add (i*P.cellsOf e)) (P.cellsOf e)).bind (DataW.trod enc P W' base sp held n e)) _ _ h1 λi y _ hy hm=>elem e _ y he.2 hy λp hp=>hx p (by
     simp only[List.mem_append,List.mem_flatMap];exact .inr ⟨y,.inl hm,hp⟩)
    have m2:=vW (g:=λj=>(W'.cells? base (a.add ((len+j)*P.cellsOf e)) (P.cellsOf e)).bind (DataW.trod enc P W' base sp held n e)) _ _ h2 λi y _ hy hm=>elem e _ y he.2 hy λp hp=>hx p (by
     simp only[List.mem_append,List.mem_flatMap];exact .inr ⟨y,.inr hm,hp⟩)
    rw[m1];simp only[Option.bind_some];by_cases hs:sp a.block=true
    ·rw[if_pos hs,m2]
     rfl
    ·have h0:(elems.length+rest.length)*P.cellsOf e=0:=by
      by_cases hp:0<(elems.length+rest.length)*P.cellsOf e
      ·obtain⟨p,hp1,hp2⟩:=aGo a _ hp
       exact absurd (by rw[<-hp2];exact hx p (by simp[hp1])) hs
      ·omega
     have hpos:=he.1;have hr:rest=[]:=by
      rcases Nat.mul_eq_zero.mp h0 with h0|h0
      ·exact aTe.mp U
      ·omega
     subst hr;rw[if_neg hs];rfl
   ·cases h
  case h_9 fs hu=>
   have he: ∀f∈fs.toList,f.type∈S:=by
    simp only[okT,hu,aTB] at hok;exact λf hf=>by simpa using hok f hf
   split at h
   ·rename_i hc
    rw[if_pos hc];obtain⟨xs,h1,rfl⟩:=aTs.mp h;rw[vW _ _ h1 λf y hf hy hm=>ih _ _ y (he f hf) hy λp hp=>hx p (by simp only[List.mem_flatMap];exact⟨y,hm,hp⟩)]
    rfl
   ·cases h
  case h_10 m e hu=>
   have he:e∈S:=by simpa[okT,hu] using hok
   split at h
   ·rename_i hc
    rw[if_pos hc];obtain⟨xs,h1,rfl⟩:=aTs.mp h;rw[vW _ _ h1 λf y _ hy hm=>ih _ _ y he hy λp hp=>hx p (by simp only[List.mem_flatMap];exact⟨y,hm,hp⟩)]
    rfl
   ·cases h
  case h_12 m u v hu=>simp[okT,hu] at hok
  case h_14 k e b hu=>
   have he:e∈S:=by simpa[okT,hu] using hok
   split at h
   ·rename_i es clock hb
    have hlt:b<W.heap.size:=by
     by_cases hl:b<W.heap.size
     ·exact hl
     ·rw[Array.getElem?_eq_none U] at hb
      cases hb
    rw[hk.same b hlt,hb];simp only
    split at h
    ·rename_i hc
     rw[if_pos hc];obtain⟨entries,h1,h2⟩:=Option.bind_eq_some_iff.mp h;simp only at h2
     split at h2
     ·rename_i hr
      cases h2;have m1:=vW (g:=λx:MapEntry=>(keyOf P k x.key).bind λkey=>if Value.formed P e x.val=true then Option.map (λy=>((key,y.1),y.2)) (DataW.trod enc P W' base sp held n e x.val.cells.toList) else none) _ _ h1 λen y _ hy hm=>by
       obtain⟨key,k1,k2⟩:=Option.bind_eq_some_iff.mp hy;refine Option.bind_eq_some_iff.mpr ⟨key,k1,?_⟩
       split at k2
       ·rename_i hf
        rw[if_pos hf];obtain⟨z,hz1,rfl⟩:=aTs.mp k2;rw[ih _ _ z he hz1 λp hp=>hx p (by simp only[aTf,List.mem_flatMap];exact .inr ⟨_,hm,hp⟩)]
        rfl
       ·cases k2
      rw[m1];simp only[Option.bind_some];rw[if_pos hr]
     ·cases h2
    ·cases h
   ·cases h
  all_goals exact h
theorem J7 (hk:Kept W W'){S:List TypeId}(hz:S.all (okT P S)=true){sp:Nat->Bool}: ∀(ts:List TypeId)(vs:List Value)(ds:List (DataW H))(ps:List MemPlace),(∀t∈ts,t∈S)->
  DataW.TrodAll enc P W base (λ_=>true) held ts vs ds ps->(∀p∈ps,sp p.block=true)->DataW.TrodAll enc P W' base sp held ts vs ds ps
 |[],vs,ds,ps,_,h,hx=>by
  obtain⟨rfl,rfl,rfl⟩:=trodAll_nil h;exact trodAll_mk0
 |t::ts,vs,ds,ps,hS,h,hx=>by
  obtain⟨v,vs',d,ds',p,p',rfl,rfl,rfl,h1,h2⟩:=trodAll_cons h;refine trodAll_cons_mk ?_ (J7 hk hz ts vs' ds' p' (λu hu=>hS u (by simp[hu])) h2 λq hq=>hx q (by simp[hq]))
  obtain⟨fuel,hf⟩:=h1
  exact⟨fuel,aGp hk hz fuel t _ _ (hS t (by simp)) hf λq hq=>hx q (by simp;exact .inl hq)⟩
end
end Go.Abs
namespace Go.Abs
open M
def ob {α:Type}(x:Option (Value×aG))(f:Value->aG->Option α):Option α:=
 match x with
 |none=>none
 |some r=>f r.1 r.2
def J9 {α:Type}(v:Value)(a b:Option α):Option α:=
 match v with
 | .bool x=>if x=true then a else b
 |_=>none
def ifB {α:Type}(b:Bool)(x:Option α):Option α:=if b=true then x else none
abbrev MV:=aG->Option (Value×aG)
def aM (v:Value):MV:=λh=>some (v,h)
theorem rt_eq (v:Value)(H:aG):aM v H=some (v,H):=rfl
def bM (m:M Value)(f:Value->MV):MV:=λh=>ob (m h) f
def bO (x:Option Value)(f:Value->MV):MV:=λh=>ob (aP x h) f
def bB (P:Program)(op:BinOp)(t:TypeId)(x y:Value)(f:Value->MV):MV:=λh=>ob (aP (bin P op t x y) h) f
def bF (n:Nat)(x:Value)(f:Value->MV):MV:=λh=>ob (aP (nJ n x) h) f
def bL (x:Value)(f:Value->MV):MV:=λh=>ob (ld1 x h) f
def bC (O:aH)(g:Nat)(a:List Value)(f:Value->MV):MV:=λh=>ob (O (.func g) a h) f
def bQ (x:Value)(f:Value->MV):MV:=λh=>ob (aP (oE x) h) f
def bN (x:Value)(f:Value->MV):MV:=λh=>ob (aP (cY x) h) f
def bI (n:Nat)(x i:Value)(f:Value->MV):MV:=λh=>ob (aP (cQ n x i) h) f
def bX (i:Nat)(x:Value)(f:Value->MV):MV:=λh=>ob (aP (ext i x) h) f
def bP (a b c:Value)(f:Value->MV):MV:=λh=>ob (aP (yE a b c) h) f
def bT (a v:Value)(f:Value->MV):MV:=λh=>ob (stN 1 a v h) f
def bG (c:Value)(w:Bool)(m:M Value)(f:Value->MV):MV:=λh=>ob (gd c w m h) f
def gO (c:Value)(w:Bool)(O:aH)(g:Nat)(a:List Value)(f:Value->MV):MV:=λh=>ob (gd c w (O (.func g) a) h) f
def bR (m:M Value)(f:Value->MV):MV:=λh=>ob (m h) λv _=>f v h
def gH (f:aG->MV):MV:=λh=>f h h
def ifK (b:Bool)(m:MV):MV:=λh=>ifB b (m h)
def aN (v:Value)(a b:MV):MV:=λh=>J9 v (a h) (b h)
def bFL (n:Nat)(x:Value)(f:Value->MV):MV:=bF n x λa=>bL a f
def bQF (n:Nat)(x:Value)(f:Value->MV):MV:=bQ x λa=>bF n a f
def aY (n:Nat)(x:Value)(f:Value->MV):MV:=bQ x λa=>bF n a λb=>bL b f
def bIL (n:Nat)(x i:Value)(f:Value->MV):MV:=bI n x i λa=>bL a f
def gFL (c:Value)(w:Bool)(n:Nat)(x:Value)(f:Value->MV):MV:=bG c w (aP (nJ n x)) λa=>bG c w (ld1 a) f
def nQ (c:Value)(w:Bool)(n:Nat)(x:Value)(f:Value->MV):MV:=bG c w (aP (oE x)) λa=>gFL c w n a f
theorem bM_eq (m:M Value)(f:Value->MV)(H:aG):bM m f H=ob (m H) f:=rfl
theorem bO_eq (x:Option Value)(f:Value->MV)(H:aG):bO x f H=ob (aP x H) f:=rfl
theorem bB_eq (P:Program)(op:BinOp)(t:TypeId)(x y:Value)(f:Value->MV)(H:aG):bB P op t x y f H=ob (aP (bin P op t x y) H) f:=rfl
theorem bF_eq (n:Nat)(x:Value)(f:Value->MV)(H:aG):bF n x f H=ob (aP (nJ n x) H) f:=rfl
theorem bL_eq (x:Value)(f:Value->MV)(H:aG):bL x f H=ob (ld1 x H) f:=rfl
theorem bC_eq (O:aH)(g:Nat)(a:List Value)(f:Value->MV)(H:aG):bC O g a f H=ob (O (.func g) a H) f:=rfl
theorem bQ_eq (x:Value)(f:Value->MV)(H:aG):bQ x f H=ob (aP (oE x) H) f:=rfl
theorem bN_eq (x:Value)(f:Value->MV)(H:aG):bN x f H=ob (aP (cY x) H) f:=rfl
theorem bI_eq (n:Nat)(x i:Value)(f:Value->MV)(H:aG):bI n x i f H=ob (aP (cQ n x i) H) f:=rfl
theorem bX_eq (i:Nat)(x:Value)(f:Value->MV)(H:aG):bX i x f H=ob (aP (ext i x) H) f:=rfl
theorem bP_eq (a b c:Value)(f:Value->MV)(H:aG):bP a b c f H=ob (aP (yE a b c) H) f:=rfl
theorem bT_eq (a v:Value)(f:Value->MV)(H:aG):bT a v f H=ob (stN 1 a v H) f:=rfl
theorem bG_eq (c:Value)(w:Bool)(m:M Value)(f:Value->MV)(H:aG):bG c w m f H=ob (gd c w m H) f:=rfl
theorem gO_eq (c:Value)(w:Bool)(O:aH)(g:Nat)(a:List Value)(f:Value->MV)(H:aG):gO c w O g a f H=ob (gd c w (O (.func g) a) H) f:=rfl
theorem bR_eq (m:M Value)(f:Value->MV)(H:aG):bR m f H=ob (m H) λv _=>f v H:=rfl
theorem gH_eq (f:aG->MV)(H:aG):gH f H=f H H:=rfl
theorem ifK_true (m:MV)(H:aG):ifK true m H=m H:=rfl
theorem iteK_t (a b:MV)(H:aG):aN (.bool true) a b H=a H:=rfl
theorem iteK_f (a b:MV)(H:aG):aN (.bool false) a b H=b H:=rfl
theorem bFL_eq (n:Nat)(x:Value)(f:Value->MV)(H:aG):bFL n x f H=ob (aP (nJ n x) H) λa h=>ob (ld1 a h) f:=rfl
theorem bQF_eq (n:Nat)(x:Value)(f:Value->MV)(H:aG):bQF n x f H=ob (aP (oE x) H) λa h=>ob (aP (nJ n a) h) f:=rfl
theorem bQFL_eq (n:Nat)(x:Value)(f:Value->MV)(H:aG):aY n x f H=ob (aP (oE x) H) λa h=>ob (aP (nJ n a) h) λb h=>ob (ld1 b h) f:=rfl
theorem bIL_eq (n:Nat)(x i:Value)(f:Value->MV)(H:aG):bIL n x i f H=ob (aP (cQ n x i) H) λa h=>ob (ld1 a h) f:=rfl
theorem gFL_eq (c:Value)(w:Bool)(n:Nat)(x:Value)(f:Value->MV)(H:aG):gFL c w n x f H=ob (gd c w (aP (nJ n x)) H) λa h=>ob (gd c w (ld1 a) h) f:=rfl
theorem gQFL_eq (c:Value)(w:Bool)(n:Nat)(x:Value)(f:Value->MV)(H:aG):nQ c w n x f H=ob (gd c w (aP (oE x)) H) λa h=>gFL c w n a f h:=rfl
theorem gsB:type_of%(And.intro @gO_eq (And.intro @rt_eq (And.intro @bM_eq (And.intro @bO_eq (And.intro @bB_eq (And.intro @bF_eq (And.intro @bL_eq (And.intro @bC_eq (And.intro @bQ_eq (And.intro @bN_eq (And.intro @bI_eq (And.intro @bX_eq (And.intro @bP_eq (And.intro @bT_eq (And.intro @bG_eq (And.intro @bR_eq (And.intro @gH_eq (And.intro @ifK_true (And.intro @iteK_t (And.intro @iteK_f (And.intro @bFL_eq (And.intro @bQF_eq (And.intro @bQFL_eq (And.intro @bIL_eq (And.intro @gFL_eq @gQFL_eq))))))))))))))))))))))))):=And.intro @gO_eq (And.intro @rt_eq (And.intro @bM_eq (And.intro @bO_eq (And.intro @bB_eq (And.intro @bF_eq (And.intro @bL_eq (And.intro @bC_eq (And.intro @bQ_eq (And.intro @bN_eq (And.intro @bI_eq (And.intro @bX_eq (And.intro @bP_eq (And.intro @bT_eq (And.intro @bG_eq (And.intro @bR_eq (And.intro @gH_eq (And.intro @ifK_true (And.intro @iteK_t (And.intro @iteK_f (And.intro @bFL_eq (And.intro @bQF_eq (And.intro @bQFL_eq (And.intro @bIL_eq (And.intro @gFL_eq @gQFL_eq))))))))))))))))))))))))
def uG:List Nat->Code->Code
 |[],c=>c
 |0::l,.seq a _=>uG l a
 |1::l,.seq _ b=>uG l b
 |0::l,.cond _ a _=>uG l a
 |1::l,.cond _ _ b=>uG l b
 |0::l,.block _ c=>uG l c
 |0::l,.loop c=>uG l c
 |0::l,.scope c=>uG l c
 |_,c=>c
def aGq (P:Program)(n:Nat):Code:=
 match P.funcs.toList[n]? with
 |some f=>f.body.getD .skip
 |none=> .skip
def cc (P:Program)(m n:Nat)(p:List Nat):CC:=⟨m,uG p (aGq P n)⟩
def cJ {α:Type}(P:Program)(O:aH)(L:aI α)(b:CC)(k:Ex->K α):Ex->K α:=λe=>match e with
 | .normal=>eG P O L b.m b.c k
 | .exit id=>k (.exit id)
 | .ret=>k .ret
def bY {α:Type}(id:Nat)(k:Ex->K α):Ex->K α:=λe=>match e with
 | .normal=>k .normal
 | .exit j=>if j=id then k .normal else k (.exit j)
 | .ret=>k .ret
section
variable {α : Type} {P : Program} {H : aG}
theorem ob_some (v:Value)(H:aG)(f:Value->aG->Option α):ob (some (v,H)) f=f v H:=rfl
theorem iteV_true (x y:Option α):J9 (.bool true) x y=x:=rfl
theorem iteV_false (x y:Option α):J9 (.bool false) x y=y:=rfl
theorem ifB_true (x:Option α):ifB true x=x:=rfl
theorem r_ret (v:Value):aU v H=some (v,H):=rfl
theorem r_opt (v:Value):aP (some v) H=some (v,H):=rfl
theorem r_gdt (m:M Value):gd (.bool true) true m H=m H:=rfl
theorem aGr (m:M Value):gd (.bool false) false m H=m H:=rfl
theorem r_gdtf (m:M Value):gd (.bool true) false m H=some (undef,H):=rfl
theorem r_gdft (m:M Value):gd (.bool false) true m H=some (undef,H):=rfl
theorem r_nil (a:Addr):oE (.pointer (some a))=some (.pointer (some a)):=rfl
theorem r_fAddr (off b o:Nat):nJ off (.pointer (some ⟨b,o,none⟩))=some (.pointer (some ⟨b,o+off,none⟩)):=rfl
theorem oL (sz b o n c:Nat)(k:IntKind)(i:Int)(h0:0<=i)(h1:i<(n:Int)):cQ sz (.slice (some ⟨b,o,none⟩) n c) (.int k i)=some (.pointer (some ⟨b,o+i.toNat*sz,none⟩)):=by
 simp[cQ,h0,h1,adr]
theorem sY (a:Addr)(n c:Nat):cY (.slice (some a) n c)=some (.int .i64 n):=rfl
theorem Ka:cY (.slice none 0 0)=some (.int .i64 0):=rfl
theorem Ao {b o:Nat}{cs:List Value}{e:TypeId}{k:Kind}{x:Value}(hb:H[b]? =some (.cells cs e k))(hx:cs[o]? =some x):ld1 (.pointer (some ⟨b,o,none⟩)) H=some (x,H):=by
 simp[ld1,hb,hx]
theorem aT (t:TypeId)(k:IntKind)(a b:Int):bin P .add t (.int k a) (.int k b)=some (.int k (k.wrap (a+b))):=by simp[bin,cK,eT,pur,binOp,Op.intArith,pure]
theorem dX (t:TypeId)(k:IntKind)(a b:Int):bin P .sub t (.int k a) (.int k b)=some (.int k (k.wrap (a-b))):=by simp[bin,cK,eT,pur,binOp,Op.intArith,pure]
theorem Va (t:TypeId)(k:IntKind)(a b:Int):bin P .mul t (.int k a) (.int k b)=some (.int k (k.wrap (a*b))):=by simp[bin,cK,eT,pur,binOp,Op.intArith,pure]
theorem b_lss (t:TypeId)(k:IntKind)(a b:Int):bin P .lss t (.int k a) (.int k b)=some (.bool (decide (a<b))):=by simp[bin,cK,eT,pur,binOp,Op.intCmp,pure]
theorem b_leq (t:TypeId)(k:IntKind)(a b:Int):bin P .leq t (.int k a) (.int k b)=some (.bool (decide (a<=b))):=by simp[bin,cK,eT,pur,binOp,Op.intCmp,pure]
theorem b_gtr (t:TypeId)(k:IntKind)(a b:Int):bin P .gtr t (.int k a) (.int k b)=some (.bool (decide (b<a))):=by simp[bin,cK,eT,pur,binOp,Op.intCmp,pure]
theorem b_geq (t:TypeId)(k:IntKind)(a b:Int):bin P .geq t (.int k a) (.int k b)=some (.bool (decide (b<=a))):=by simp[bin,cK,eT,pur,binOp,Op.intCmp,pure]
theorem b_eql (t:TypeId)(k:IntKind)(a b:Int):bin P .eql t (.int k a) (.int k b)=some (.bool (a==b)):=by simp[bin,cK,eT,pur,binOp,Op.intCmp,pure]
theorem b_neq (t:TypeId)(k:IntKind)(a b:Int):bin P .neq t (.int k a) (.int k b)=some (.bool (a !=b)):=by simp[bin,cK,eT,pur,binOp,Op.intCmp,pure]
theorem J8 (t:TypeId)(k:IntKind)(a b:Int)(hb:b≠0):bin P .rem t (.int k a) (.int k b)=some (.int k (a.tmod b)):=by simp[bin,cK,eT,pur,binOp,Op.intDiv,pure,hb]
theorem Vd (t:TypeId)(k:IntKind)(a b:Int)(hb:b≠0):bin P .quo t (.int k a) (.int k b)=some (.int k (k.wrap (a.tdiv b))):=by simp[bin,cK,eT,pur,binOp,Op.intDiv,pure,hb]
theorem u_not (b:Bool):un P .not (.bool b)=some (.bool !b):=rfl
theorem Vc (t e:TypeId)(h:P.underlying t=some (.pointer e))(a:Addr):bin P .eql t (.pointer (some a)) (.pointer none)=some (.bool false)/\bin P .neq t (.pointer (some a)) (.pointer none)=some (.bool true):=by
 constructor<;>simp[bin,cK,jI,hP,h,eqV]
theorem Vb (t e:TypeId)(h:P.underlying t=some (.pointer e)):bin P .eql t (.pointer none) (.pointer none)=some (.bool true)/\bin P .neq t (.pointer none) (.pointer none)=some (.bool false):=by
 constructor<;>simp[bin,cK,jI,hP,h,eqV]
theorem dJ (s d:TypeId){k1 k2:IntKind}(hs:P.underlying s=some (.int k1))(hd:P.underlying d=some (.int k2))(k:IntKind)(n:Int):cH P s d (.int k n) H=some (.int k2 (k2.wrap n),H):=by
 simp[cH,hs,hd,aU]
theorem bJ {n:Int}(h0: -9223372036854775808<=n)(h1:n<9223372036854775808):IntKind.i64.wrap n=n:=by
 simp only[IntKind.wrap,IntKind.bits,IntKind.signed];simp;split<;>omega
theorem aGs {n:Int}(h0:0<=n)(h1:n<4294967296):IntKind.u32.wrap n=n:=by
 simp only[IntKind.wrap,IntKind.bits,IntKind.signed];simp;omega
theorem Ve {pr:eI}{f:FuncId}(h:pr (.func f)=none)(n:Nat)(args:List Value)(H:aG):lvl P pr (n+1) (.func f) args H=aR P (lvl P pr n) (aL n) f args H:=by
 simp[lvl,h]
def An {α:Type}(n:Nat)(B:(Ex->K α)->K α)(k:Ex->K α):Ex->K α:=λe=>match e with
 | .normal=>aL n B k
 | .exit id=>k (.exit id)
 | .ret=>k .ret
theorem bS {α:Type}(n:Nat)(B:(Ex->K α)->K α)(k:Ex->K α):aL (n+1) B k=B (An n B k):=rfl
theorem again_normal {α:Type}(n:Nat)(B:(Ex->K α)->K α)(k:Ex->K α):An n B k .normal=aL n B k:=rfl
theorem again_exit {α:Type}(n:Nat)(B:(Ex->K α)->K α)(k:Ex->K α)(id:Nat):An n B k (.exit id)=k (.exit id):=rfl
theorem again_ret {α:Type}(n:Nat)(B:(Ex->K α)->K α)(k:Ex->K α):An n B k .ret=k .ret:=rfl
end
section
variable {α : Type} {P : Program} {H : aG}
theorem aGt {x y:Option (Value×aG)}(h:x=y)(f:Value->aG->Option α):ob x f=ob y f:=by rw[h]
def vX (x:Option Value)(H:aG):Option (Value×aG):=match x with
 |some v=>some (v,H)
 |none=>none
def ldC (x:Option Blk)(o:Nat)(H:aG):Option (Value×aG):=match x with
 |some (.cells cs _ _)=>vX cs[o]? H
 |_=>none
def Dv (x:Option Blk)(n o:Nat)(H:aG):Option (Value×aG):=match x with
 |some (.cells cs _ _)=>if o+n<=cs.length then some (.agg ((cs.drop o).take n).toArray,H) else none
 |_=>none
def stC (x:Option Blk)(b o:Nat)(vs:List Value)(H:aG):Option (Value×aG):=match x with
 |some (.cells cs e k)=>if k≠ .ro/\o+vs.length<=cs.length/\cA vs=true then some (undef,H.set b (.cells (cT cs o vs) e k)) else none
 |_=>none
theorem fJ (b o:Nat):ld1 (.pointer (some ⟨b,o,none⟩)) H=ldC H[b]? o H:=by
 unfold ld1 ldC vX;simp only;cases H[b]? with
 |none=>rfl
 |some x=>cases x<;>rfl
theorem rK (cs:List Value)(e:TypeId)(k:Kind)(o:Nat):ldC (some (.cells cs e k)) o H=vX cs[o]? H:=rfl
theorem sZ (v:Value):vX (some v) H=some (v,H):=rfl
theorem qK (n b o:Nat):ldN n (.pointer (some ⟨b,o,none⟩)) H=Dv H[b]? n o H:=by
 unfold ldN Dv;simp only;cases H[b]? with
 |none=>rfl
 |some x=>cases x<;>rfl
theorem rM (cs:List Value)(e:TypeId)(k:Kind)(n o:Nat)(h:o+n<=cs.length):Dv (some (.cells cs e k)) n o H=some (.agg ((cs.drop o).take n).toArray,H):=if_pos h
theorem iI (n b o:Nat)(v:Value)(hn:v.cells.toList.length=n):stN n (.pointer (some ⟨b,o,none⟩)) v H=stC H[b]? b o v.cells.toList H:=by
 subst hn;unfold stN stC;simp only[true_and];cases H[b]? with
 |none=>rfl
 |some x=>cases x<;>rfl
theorem kV (b:Nat)(cs:List Value)(e:TypeId)(k:Kind)(o:Nat)(vs:List Value)(hk:k≠ .ro)(ho:o+vs.length<=cs.length)(ha:cA vs=true):
  stC (some (.cells cs e k)) b o vs H=some (undef,H.set b (.cells (cT cs o vs) e k)):=if_pos ⟨hk,ho,ha⟩
theorem x_newB (e:TypeId)(cs:List Value)(k:Kind):aX e cs k H=some (.pointer (some ⟨H.length,0,none⟩),H++[.cells cs e k]):=rfl
theorem uH (H:aG)(x:Blk):(H++[x])[H.length]? =some x:=by simp
theorem aV {pr:eI}{f:FuncId}(hp:pr (.func f)=none){n:Nat}(hn:0<n){args:List Value}{r:Option (Value×aG)}(h:aR P (lvl P pr (n-1)) (aL (n-1)) f args H=r):
  lvl P pr n (.func f) args H=r:=by
 obtain⟨m,rfl⟩: ∃m,n=m+1:=⟨n-1,by omega⟩
 rw[Ve hp];exact h
theorem Dw (t e:TypeId)(h:P.underlying t=some (.pointer e))(a:Addr):bin P .eql t (.pointer (some a)) (.pointer none)=some (.bool false):=(Vc t e h a).1
theorem aGu (t e:TypeId)(h:P.underlying t=some (.pointer e))(a:Addr):bin P .neq t (.pointer (some a)) (.pointer none)=some (.bool true):=(Vc t e h a).2
theorem Kb (t e:TypeId)(h:P.underlying t=some (.pointer e)):bin P .eql t (.pointer none) (.pointer none)=some (.bool true):=(Vb t e h).1
theorem aGv (t e:TypeId)(h:P.underlying t=some (.pointer e)):bin P .neq t (.pointer none) (.pointer none)=some (.bool false):=(Vb t e h).2
theorem uI (e:TypeId)(sz bytes:Nat)(zero:List Value)(k k':IntKind)(n:Int)(h0:0<=n)(hb:(bytes:Int)*n<=2 ^ 48)(hn:n<2 ^ 62)(hz:zero.length=sz):
  gZ e sz bytes zero (.int k n) (.int k' n) H=some (.slice (some ⟨H.length,0,none⟩) n.toNat n.toNat,H++[.cells (List.replicate n.toNat zero).flatten e .row]):=by
 simp only[gZ];rw[if_pos ⟨h0,Int.le_refl _,hb,hn,hz⟩]
end
theorem rO {sz:Nat}: ∀(rows:List (List Value)),(∀r∈rows,r.length=sz)->rows.flatten.length=rows.length*sz
 |[],_=>by simp
 |r::rs,h=>by
  rw[aTw,aS8,h r (by simp),rO rs λx hx=>h x (by simp[hx]),aTi,Nat.succ_mul]
  omega
theorem Kc {sz:Nat}: ∀(rows:List (List Value)),(∀r∈rows,r.length=sz)-> ∀(i j:Nat),j<sz->rows.flatten[i*sz+j]? =(rows[i]?).bind (·[j]?)
 |[],_,i,j,hj=>by simp
 |r::rs,h,0,j,hj=>by
  have:=h r (by simp)
  simp[aSZ (show j<r.length by omega)]
 |r::rs,h,i+1,j,hj=>by
  have hr:=h r (by simp)
  rw[aTw,aTg (by rw[hr,Nat.succ_mul];omega)]
  have e:(i+1)*sz+j-r.length=i*sz+j:=by rw[hr,Nat.succ_mul];omega
  rw[e,Kc rs (λx hx=>h x (by simp[hx])) i j hj]
  simp
theorem Vg: ∀(vs a b:List Value)(o:Nat),o+vs.length<=a.length->cT (a++b) o vs=cT a o vs++b
 |[],a,b,o,_=>by simp[cT]
 |v::vs,a,b,o,h=>by
  simp only[cT,aTi] at h⊢;rw[List.set_append_left _ _ U]
  exact Vg vs (a.set o v) b (o+1) (by simp;omega)
theorem Vh: ∀(vs a b:List Value)(o:Nat),cT (a++b) (a.length+o) vs=a++cT b o vs
 |[],a,b,o=>by simp[cT]
 |v::vs,a,b,o=>by
  simp only[cT];rw[List.set_append_right _ _ U]
  have e:a.length+o-a.length=o:=U
  rw[e,show a.length+o+1=a.length+(o+1) by omega]
  exact Vh vs a (b.set o v) (o+1)
theorem Kd {sz:Nat}: ∀(rows:List (List Value)),(∀r∈rows,r.length=sz)-> ∀(i j:Nat)(vs row:List Value),rows[i]? =some row->j+vs.length<=sz->
  cT rows.flatten (i*sz+j) vs=(rows.set i (cT row j vs)).flatten
 |[],_,i,j,vs,row,hi,_=>by simp at hi
 |r::rs,h,0,j,vs,row,hi,hj=>by
  have hr:=h r (by simp)
  simp at hi;subst hi;simp only[aTw,List.set_cons_zero,Nat.zero_mul,aTh];exact Vg vs r _ j U
 |r::rs,h,i+1,j,vs,row,hi,hj=>by
  have hr:=h r (by simp)
  simp only[aTw,List.set_cons_succ];have e:(i+1)*sz+j=r.length+(i*sz+j):=by rw[hr,Nat.succ_mul];omega
  rw[e,Vh,Kd rs (λx hx=>h x (by simp[hx])) i j vs row (by simpa using hi) hj]
theorem Vf {sz:Nat}: ∀(rows:List (List Value)),(∀r∈rows,r.length=sz)-> ∀(i:Nat)(row:List Value),rows[i]? =some row->(rows.flatten.drop (i*sz)).take sz=row
 |[],_,i,row,hi=>by simp at hi
 |r::rs,h,0,row,hi=>by
  have hr:=h r (by simp)
  simp at hi;subst hi;simp[<-hr]
 |r::rs,h,i+1,row,hi=>by
  have hr:=h r (by simp)
  have e:(i+1)*sz=r.length+i*sz:=by rw[hr,Nat.succ_mul];omega
  rw[aTw,e,<-aTF,List.drop_left];exact Vf rs (λx hx=>h x (by simp[hx])) i row (by simpa using hi)
end Go.Abs
namespace Go.Abs
open M
open Go.ChangeShapes Go.WideShapes Go.ChangeAt Go.RowKit Go.Deep
structure In (P:Program)(W:World)(H:aG)(ρ:Ren):Prop where
 rel:Rel P ρ (cE H) W
 ro: ∀b pl,ρ b=some pl->wr H[b]? =false
 dom: ∀b,H.length<=b->ρ b=none
theorem In.Vi (P:Program)(W:World)(ht:Af P W):In P W [] (λ_=>none):=⟨U9 P W ht,λb pl h=>(by cases h),λ_ _=>rfl⟩
theorem Vj {P:Program}{pr:eI}(hp:PrimsOk P pr)(hmix:P.follows .mixedOrders=true){n:Nat}{f:FuncId}{args args':List Value}{b:Bool}{H H':aG}{ρ:Ren}{W:World}(hi:In P W H ρ)
  (h:lvl P pr n (.func f) args H=some (.bool b,H'))(ha:Vrs ρ args args'):
  Calls P f args'.toArray W λe w'=>e= .returned (.bool b)/\Kept W w':=by
 refine(J4 hp hmix n (.func f) args H _ _ h ρ W args' hi.rel ha (λb h1 _=>hi.dom b h1)).2.mono ?_
 intro e w' ⟨v,he,ρ',hv,hs⟩;have hvb:v= .bool b:=by cases hv with|same _=>rfl
 subst hvb
 exact⟨he,Kept.aGj hs hi.ro⟩
end Go.Abs
namespace Go.Abs
open M
attribute [simp] ob_some iteV_true iteV_false ifB_true r_ret r_opt r_gdt aGr r_gdtf r_gdft r_nil r_fAddr oL sY Ka fJ rK sZ qK rM x_newB b_lss b_leq b_gtr b_geq b_eql b_neq u_not
section
variable {α : Type} {P : Program} {H : aG}
@[simp] theorem r_gdff (m:M Value):gd (.bool false) false m H=m H:=rfl
@[simp] theorem r_gdt2 (m:aG->Option (Value×aG)):gd (.bool true) true m H=m H:=rfl
@[simp] theorem r_gdff2 (m:aG->Option (Value×aG)):gd (.bool false) false m H=m H:=rfl
@[simp] theorem r_gdtf2 (m:aG->Option (Value×aG)):gd (.bool true) false m H=some (undef,H):=rfl
@[simp] theorem r_gdft2 (m:aG->Option (Value×aG)):gd (.bool false) true m H=some (undef,H):=rfl
@[simp] theorem oneOf_one (v:Value):aK [v]=v:=rfl
@[simp] theorem oneOf_two (v w:Value):aK [v,w]= .tuple #[v,w]:=rfl
@[simp] theorem pick_t (a b:Value):yE (.bool true) a b=some a:=rfl
@[simp] theorem pick_f (a b:Value):yE (.bool false) a b=some b:=rfl
@[simp] theorem ext_0 (a b:Value):ext 0 (.tuple #[a,b])=some a:=rfl
@[simp] theorem ext_1 (a b:Value):ext 1 (.tuple #[a,b])=some b:=rfl
@[simp] theorem Dx (b o:Nat)(k:IntKind)(i:Int):stN 1 (.pointer (some ⟨b,o,none⟩)) (.int k i) H=stC H[b]? b o [.int k i] H:=iI 1 b o _ rfl
@[simp] theorem Vm (b o:Nat)(i:Option Addr):stN 1 (.pointer (some ⟨b,o,none⟩)) (.pointer i) H=stC H[b]? b o [.pointer i] H:=iI 1 b o _ rfl
@[simp] theorem Ke (b:Nat)(cs:List Value)(e:TypeId)(o:Nat)(vs:List Value)(ha:cA vs=true)(ho:o+vs.length<=cs.length):
  stC (some (.cells cs e .row)) b o vs H=some (undef,H.set b (.cells (cT cs o vs) e .row)):=kV b cs e .row o vs aC ho ha
@[simp] theorem Vl:cA []=true:=rfl
@[simp] theorem Vk (k:IntKind)(i:Int)(vs:List Value):cA (.int k i::vs)=cA vs:=rfl
attribute [simp] cT
end
structure OwS {α:Type}(el:α->List Value)(e:TypeId)(H:aG)(v:Value)(b:Nat)(xs:List α):Prop where
 val:v= .slice (some ⟨b,0,none⟩) xs.length xs.length
 blk:H[b]? =some (.cells (xs.map el).flatten e .row)
section
variable {α : Type} {el : α → List Value} {e : TypeId} {H : aG} {v : Value} {b sz : Nat} {xs : List α}
theorem tA (hsz: ∀x,(el x).length=sz): ∀r∈xs.map el,r.length=sz:=λr hr=>by
 obtain⟨y,_,rfl⟩:=aTz.mp hr;exact hsz y
theorem OwS.aGw (h:OwS el e H v b xs)(sz:Nat)(i:Nat)(k:IntKind)(hi:i<xs.length):cQ sz v (.int k i)=some (.pointer (some ⟨b,i*sz,none⟩)):=by
 rw[h.val,oL _ _ _ _ _ _ _ U U]
 simp
theorem OwS.st (h:OwS el e H v b xs)(hsz: ∀x,(el x).length=sz)(hall: ∀x,cA (el x)=true){i:Nat}(hi:i<xs.length)(y:α):
  stC H[b]? b (i*sz) (el y) H=some (undef,H.set b (.cells ((xs.set i y).map el).flatten e .row))/\OwS el e (H.set b (.cells ((xs.set i y).map el).flatten e .row)) v b (xs.set i y):=by
 have hr:=tA (xs:=xs) hsz;have hlen:i*sz+(el y).length<=(xs.map el).flatten.length:=by
  rw[rO _ hr,aTa,hsz]
  calc i*sz+sz=(i+1)*sz:=by rw[Nat.succ_mul]
   _<=xs.length*sz:=Nat.mul_le_mul_right _ hi
 have whole: ∀(vs row:List Value),row.length=vs.length->cT row 0 vs=vs:=by
  intro vs;have gen: ∀(vs pre row:List Value),row.length=vs.length->cT (pre++row) pre.length vs=pre++vs:=by
   intro vs;induction vs with
   |nil=>intro pre row h;simp at h;subst h;simp[cT]
   |cons a vs ih=>
    intro pre row h
    match row,h with
    |c::row,h=>
     simp only[cT];have e1:(pre++c::row).set pre.length a=(pre++[a])++row:=by simp
     have:=ih (pre++[a]) row (by simpa using h)
     rw[e1];simpa using this
  intro row h;simpa using gen vs [] row h
 refine⟨?_,⟨by rw[h.val];simp,by
  have:=(aSW.mp h.blk).1;rw[aS2 this]⟩⟩
 rw[h.blk,Ke _ _ _ _ _ (hall y) hlen];have hx:(xs.map el)[i]? =some (el xs[i]):=by simp[hi]
 have:=Kd (xs.map el) hr i 0 (el y) _ hx (by rw[hsz];omega)
 rw[Nat.add_zero] at this;rw[this,whole _ _ (by rw[hsz,hsz]),List.map_set]
end
theorem r_gdu {H:aG}(w:Bool)(m:M Value):gd undef w m H=some (undef,H):=rfl
theorem r_gdu2 {H:aG}(w:Bool)(m:aG->Option (Value×aG)):gd undef w m H=some (undef,H):=rfl
end Go.Abs
namespace Go.Abs
open M
open Go.ChangeShapes Go.WideShapes Go.ChangeAt Go.RowKit Go.Deep
def Vn (P:Program):Nat->List (TypeId×Nat)->Nat->Bool
 |o,[],tot=>o==tot
 |o,(t,off)::l,tot=>off==o&&Vn P (o+P.cellsOf t) l tot
def okA (P:Program)(S:List TypeId)(t:TypeId):Bool:=match P.underlying t with
 |some .bool=>true
 |some (.int _)=>true
 |some .string=>true
 |some (.slice e)=>decide (0<P.cellsOf e)&&S.contains e
 |some (.struct fs)=>(fs.toList.all λf=>S.contains f.type)&&Vn P 0 (fs.toList.map λf=>(f.type,f.offset)) (P.cellsOf t)
 |_=>false
section
variable {Hh : Type} {enc : TypeId × Value → Hh} {P : Program} {W : World} {S : List TypeId}
end
section
variable {P : Program} {G : aG} {n : Nat} {t : TypeId} {cs : List Value}
end
theorem aGx {a:Int}(h:(Lit.int .u8 a).wf=true):0<=a/\a<256:=by
 have e: ∀z:Int,(Lit.int .u8 z).wf=(decide (0<=z)&&decide (z<=255)):=λz=>rfl
 rw[e] at h;simp only[aS4,decide_eq_true_eq] at h
 exact⟨h.1,by omega⟩
end Go.Abs
namespace Go.Proofs.YtciiopkbmjppfaaGreatDoor
open Go.Proofs.Tryz
open Go Go.RowKit Go.Shelf
attribute [local go_sem] Oper.semAt_some
set_option maxHeartbeats 1000000 in
theorem aGA (x k idx:Nat)(w:World)(hx0:((x:Int)==0)=false)
  (key:bits BinOp.and IntKind.u16 (x:Int) (IntKind.u16.wrap (-(x:Int)))%4294967296*125613361%4294967296/134217728=(idx:Int))
  (hi:idx<32)(hk:k<32)(hcell:w.cell? ⟨0,idx,none⟩=some (.int .u8 k)):
  Calls prog 173 #[.int .u16 x] w λe w'=>e= .returned (.I k)/\w'=w:=by
 go_enter Tryz.func173,Tryz.ntmps173
 go_wp2_with (simp only[key])
 go_ret
 exact⟨rfl,rfl⟩
theorem Kg (a b:Nat)(ha:a<65536)(hb:b<65536):bits .and .u16 (a:Int) (b:Int)=((a&&&b:Nat):Int):=by
 have hx:a&&&b<2 ^ 16:=Nat.and_lt_two_pow _ U
 have h1:(BitVec.ofInt 16 (a:Int)).toNat=a:=by
  rw[BitVec.ofInt_natCast,BitVec.toNat_ofNat];exact aTu U
 have h2:(BitVec.ofInt 16 (b:Int)).toNat=b:=by
  rw[BitVec.ofInt_natCast,BitVec.toNat_ofNat];exact aTu U
 show IntKind.u16.wrap ((BitVec.ofInt 16 (a:Int)&&&BitVec.ofInt 16 (b:Int)).toNat:Int)=_
 rw[BitVec.toNat_and,h1,h2];simp only[IntKind.wrap,IntKind.signed,IntKind.bits];simp;omega
theorem aGz (a:Nat)(ha:a<65536):((a:Int)%4294967296*125613361%4294967296/134217728)=((a*125613361%4294967296/134217728:Nat):Int):=U
theorem aGB (x:Nat)(hx:x<65536)(hx0:x≠0)(w:World)(hT: ∀j,j<32->w.cell? ⟨0,j,none⟩=some (.int .u8 ((Lib.deBruijn32tab.getD j 0:Nat):Int))):
  Calls prog 173 #[.int .u16 x] w λe w'=>e= .returned (.I (Lib.ctz 16 x))/\w'=w:=by
 obtain⟨hlow,hk⟩:=Lib.lowest_bit 16 x hx0 hx;obtain⟨hi,htab⟩:=Lib.deBruijn32_at (Lib.ctz 16 x) U
 have hcell:=hT _ hi;rw[htab] at hcell;refine aGA x _ _ w (by simp;omega) ?_ hi U hcell
 have e1:IntKind.u16.wrap (-(x:Int))=((65536-x:Nat):Int):=by
  simp only[IntKind.wrap,IntKind.signed,IntKind.bits];simp;omega
 rw[e1,Kg x _ hx U]
 have:x&&&(65536-x)=2 ^ Lib.ctz 16 x:=hlow;rw[this];have hp:2 ^ Lib.ctz 16 x<65536:=show 2 ^ Lib.ctz 16 x<2 ^ 16 from Nat.pow_lt_pow_right U hk
 exact aGz _ hp
attribute [local go_sem] Oper.semAt_some
def eU:Nat->Nat->List Nat
 |0,_=>[]
 |f+1,x=>if x=0 then [] else Lib.ctz 16 x::eU f (x&&&(x-1))
def TabC (w:World):Prop:= ∀j,j<32->w.cell? ⟨0,j,none⟩=some (.int .u8 ((Lib.deBruijn32tab.getD j 0:Nat):Int))
theorem V2 {x:Nat}(h:x≠0):x&&&(x-1)<x:=Nat.lt_of_le_of_lt Nat.and_le_right U
def Ap (w:World)(B:Nat):Nat:=match w.cell? ⟨B,0,none⟩ with
 |some (.int _ z)=>z.toNat
 |_=>0
set_option maxHeartbeats 2000000 in
set_option maxRecDepth 100000 in
theorem aGC (n:Nat)(hn:1<=n)(l B:Nat)(hB0:B≠0)(J Jx:List Nat->World->Prop)
  (hJm: ∀pre W v,J pre W->J pre (W.setCell ⟨B,0,none⟩ v))(hJt: ∀pre W,J pre W->TabC W)
  (x:Nat)(hx:x<65536)
  (hY: ∀pre k post W1,eU x x=pre++k::post->J pre W1->YieldAt Fence.wide (n-1) prog l #[.I (k:Nat)] W1 λe W'=>
   (e= .returned (.bool true)/\J (pre++[k]) W'/\W'.cell? ⟨B,0,none⟩=W1.cell? ⟨B,0,none⟩/\W'.frozen? ⟨B,0,none⟩=W1.frozen? ⟨B,0,none⟩)∨(e= .returned (.bool false)/\Jx (pre++[k]) W'))
  (W:World)(hc:W.cell? ⟨B,0,none⟩=some (.int .u16 x))(hf:W.frozen? ⟨B,0,none⟩=false)(h0:J [] W):
  CallsIn Fence.wide n prog 172 #[.func (.yield l) #[] #[],.pointer (some ⟨B,0,none⟩)] W λe W'=>(∃v,e= .returned v)/\
   (J (eU x x) W'∨ ∃pre k post,eU x x=pre++k::post/\Jx (pre++[k]) W'):=by
 refine callsIn_of_wp Tryz.func172 rfl trivial ?_ rfl;simp only[Tryz.ntmps172,List.size_toArray,aTi,List.length_nil,Nat.reduceAdd,Nat.reduceSub,Array.replicate_succ,Array.replicate_zero,List.push_toArray,List.append_toArray,List.nil_append,List.cons_append];gi_wp2
 gi_loopw [] (λwr=> ∃(pre:List Nat)(y f:Nat),y<65536/\y<=f/\eU x x=pre++eU f y/\wr.cell? ⟨B,0,none⟩=some (.int .u16 y)/\wr.frozen? ⟨B,0,none⟩=false/\J pre wr) (λwr=>Ap wr B)
 case atStart=>
  exact⟨[],x,x,hx,aS1 _,rfl,hc,hf,h0⟩
 case round=>
  obtain⟨pre,y,f,hy16,hyf,hbits,hcy,hfy,hJy⟩:=hrel;by_cases hy0:y=0
  ·subst hy0
   have hcy:wr.cell? ⟨B,0,none⟩=some (.int .u16 0):=hcy;have hb0:eU f 0=[]:=by cases f<;>rfl
   gi_wp2
   go_end0
   exact⟨⟨_,rfl⟩,.inl (by rw[hbits,hb0,List.append_nil];exact hJy)⟩
  ·obtain⟨f',rfl⟩: ∃f',f=f'+1:=⟨f-1,by omega⟩
   have hbs:eU (f'+1) y=Lib.ctz 16 y::eU f' (y&&&(y-1)):=by rw[eU,if_neg hy0]
   have hcond:((y:Int)!=0)=true:=by rw[bne_iff_ne];omega
   obtain⟨fn,tmps,assign,body,hy,hR⟩:=hY pre (Lib.ctz 16 y) (eU f' (y&&&(y-1))) wr (by rw[hbits,hbs]) hJy
   have htab:=hJt _ _ hJy;have hlt:=V2 hy0
   gi_wp2_with (refine⟨trivial,?_⟩;gi_at_call 173;refine(callsIn_wide.2 (aGB y hy16 hy0 _ htab)).mono ?_;rintro e w' ⟨rfl,rfl⟩)
   refine hR.mono ?_;rintro e W3 (⟨rfl,hJ3,hc3,hf3⟩|⟨rfl,hJx3⟩)
   ·have hc3:W3.cell? ⟨B,0,none⟩=some (.int .u16 y):=hc3.trans hcy
    have hf3:W3.frozen? ⟨B,0,none⟩=false:=hf3.trans hfy;have hval:bits BinOp.and IntKind.u16 (y:Int) ((y:Int)-1)=((y&&&(y-1):Nat):Int):=by
     rw[show((y:Int)-1)=((y-1:Nat):Int) from U,Kg y _ hy16 U]
    gi_wp2
    go_roundw
    case rel=>
     refine⟨pre++[Lib.ctz 16 y],y&&&(y-1),f',by omega,by omega,by rw[hbits,hbs];simp,?_,?_,hJm _ _ _ hJ3⟩
     ·exact World.cell?_setCell_same' _ _ _ (by rw[hc3];rfl)
     ·rw[World.frozen?_setCell]
      exact hf3
    case measure=>
     have e1:Ap (W3.setCell ⟨B,0,none⟩ (.int .u16 (y&&&(y-1):Nat))) B=y&&&(y-1):=by
      unfold Ap;rw[World.cell?_setCell_same' _ _ _ (by rw[hc3];rfl)]
      simp
     have e2:Ap w' B=y:=by
      unfold Ap;rw[hcy];simp
     rw[e1,e2];exact hlt
   ·gi_wp2
    refine bodyPost_ret (results_none rfl _ _ _) rfl ?_
    exact⟨⟨_,rfl⟩,.inr ⟨pre,Lib.ctz 16 y,eU f' (y&&&(y-1)),by rw[hbits,hbs],hJx3⟩⟩
attribute [local go_sem] Oper.semAt_some
theorem vY (W:World)(v:Value)(t:TypeId):(W.alloc (.cells #[v] t)).cell? ⟨W.heap.size,0,none⟩=some v/\(W.alloc (.cells #[v] t)).frozen? ⟨W.heap.size,0,none⟩=false:=
 have h:=World.alloc_heap_new W (.cells #[v] t)
 ⟨by unfold World.cell?;rw[h];rfl,by unfold World.frozen?;rw[h];simp⟩
theorem yS {W:World}{a:Addr}{v:Value}(o:Obj)(h:W.cell? a=some v):(W.alloc o).cell? a=some v:=cell_kept h (World.grownBy_alloc W o none) (λr e=>by cases e)
theorem Dy {W:World}{a:Addr}{v:Value}(o:Obj)(h:W.cell? a=some v)(hf:W.frozen? a=false):(W.alloc o).frozen? a=false:=(frozen_kept h (World.grownBy_alloc W o none) (λr e=>by cases e)).trans hf
def KpB (B:Nat)(A C:World):Prop:=C.cell? ⟨B,0,none⟩=A.cell? ⟨B,0,none⟩/\C.frozen? ⟨B,0,none⟩=A.frozen? ⟨B,0,none⟩
theorem KpB.V4 {B:Nat}{X Y Z:World}(h:KpB B X Y)(k:KpB B Y Z):KpB B X Z:=⟨k.1.trans h.1,k.2.trans h.2⟩
theorem KpB.V3 {B l:Nat}(W:World)(o:Obj)(h:B≠l):KpB B W (W.putObj l o):=by
 constructor
 ·unfold World.cell?
  rw[World.putObj_heap_other (show(⟨B,0,none⟩:Addr).block≠l from h)]
 ·unfold World.frozen?
  rw[World.putObj_heap_other (show(⟨B,0,none⟩:Addr).block≠l from h)]
theorem V5 (C:Nat)(W:World)(p:Addr)(v:Value):KeepsFrom C W (W.setCell p v):=(KeepsOthers.setCell W p v).from C
theorem aGD {n:Nat}{g:Operand}{ps:Array Tmp}{assign body:Code}{Q:Exit->Act->World->Prop}{a:Act}{w:World}
    (h1:2<=n){B x:Nat}(hg:a.eval g= .func (.func 172) #[] #[.Q B 0])(hx:x<65536)(hB:B<w.heap.size)(hB0:B≠0)
    (hc:w.cell? ⟨B,0,none⟩=some (.int .u16 x))(hf:w.frozen? ⟨B,0,none⟩=false)(hps:ps.size=1)
    (I:List Nat->World->Prop)(Ix:Code->List Nat->World->Prop)(hI:OwnFrom w.heap.size I)(hIx: ∀c,OwnFrom w.heap.size (Ix c))
    (hIB: ∀pre W v,I pre W->I pre (W.setCell ⟨B,0,none⟩ v))(hIT: ∀pre W,I pre W->TabC W)(h0:I [] w)(a₁:Nat->Act)
    (hassign: ∀(l:Nat)(k:Nat)(W:World)(K:Act->World->Prop),K (a₁ k) W->
      assign.wpIn (Fence.wide.inRound l) (n-1-1) prog (Exit.then K (λ_ _ _=>False)) {tmps:=(ps.zip #[.I (k:Nat)]).foldl (λt (p,v)=>t.setIfInBounds p v) a.tmps,defers:=[]} W)
    (hbody: ∀(l:Nat)(pre:List Nat)(k:Nat)(post:List Nat)(W:World),eU x x=pre++k::post->I pre W->
      body.wpIn (Fence.wide.inRound l) (n-1-1) prog (ownPostG w.heap.size (KpB B) I Ix (pre++[k]) W) (a₁ k) W)
    (hdone: ∀(D:Nat)(W:World),w.heap.size<=D->I (eU x x) W->W.heap[D]? =some (.deferred (some []))->Q .normal {a with defers:={target:= .collected D,args:= #[]}::a.defers} W)
    (hstop: ∀(D:Nat)(c:Code)(pre:List Nat)(k:Nat)(post:List Nat)(W:World),w.heap.size<=D->eU x x=pre++k::post->Ix c (pre++[k]) W->W.heap[D]? =some (.deferred (some []))->
      c.wpIn Fence.wide n prog Q {a with defers:={target:= .collected D,args:= #[]}::a.defers} W):
    (Code.rangeFunc g ps assign body).wpIn Fence.wide n prog Q a w:=by
  have eg: ∀args w,(callFunc 172 args).run prog w= .ok (.enter 172 args) w:=enters_of Tryz.func172 (by kernel_rfl) rfl
  refine wpIn_rangeFunc ?_;intro fn hfn;obtain⟨rec,hrec⟩: ∃rec:LoopState->Option Code->Loop,rec=λst pe=>{state:=st,pending:=pe,fn,tmps:=a.tmps,params:=ps,assign,body,defers:=w.heap.size}:=⟨_,rfl⟩
  obtain⟨W1,hW1⟩: ∃W1,(w.alloc (.deferred (some []))).alloc (.loop (rec .ready none))=W1:=⟨_,rfl⟩;have hL1:W1.heap[w.heap.size+1]? =some (.loop (rec .ready none)):=by
    rw[<-hW1];have:=World.alloc_heap_new (w.alloc (.deferred (some []))) (.loop (rec .ready none));rwa [World.size_alloc] at this
  have hK1:W1.heap[w.heap.size]? =some (.deferred (some [])):=by
    rw[<-hW1];exact(Below.heap_alloc _ _ _ (by simp)).trans (World.alloc_heap_new w _)
  have hI1:I [] W1:=by rw[<-hW1];exact hI.alloc _ (hI.alloc _ h0)
  have hc1:W1.cell? ⟨B,0,none⟩=some (.int .u16 x):=by rw[<-hW1];exact yS _ (yS _ hc)
  have hf1:W1.frozen? ⟨B,0,none⟩=false:=by rw[<-hW1];exact Dy _ (yS _ hc) (Dy _ hc hf)
  refine⟨w.heap.size+1,[{target:= .collected w.heap.size,args:= #[]}],W1,{target:= .fn (.func 172) #[.Q B 0],args:= #[.func (.yield (w.heap.size+1)) #[] #[]]},W1,172,
    #[.func (.yield (w.heap.size+1)) #[] #[],.pointer (some ⟨B,0,none⟩)],W1,?_,?_,?_,?_,λ_=>by omega,?_⟩
  · rw[<-hW1,hrec];exact run_enterLoop_outer _ _ _ _ _
  · simp only[resolve,hg]
    simp[go_sem]
  · intro f' hf';simp[Target.leads] at hf';subst hf';trivial
  · simp[invoke,go_sem,eg]
  · refine(aGC (n-1) U (w.heap.size+1) B hB0
      (λpre W=>I pre W/\W.heap[w.heap.size+1]? =some (.loop (rec .ready none))/\W.heap[w.heap.size]? =some (.deferred (some [])))
      (λpre W=> ∃c,Ix c pre W/\W.heap[w.heap.size+1]? =some (.loop (rec .done (some c)))/\W.heap[w.heap.size]? =some (.deferred (some [])))
      ?_ (λpre W h=>hIT _ _ h.1) x hx ?_ W1 hc1 hf1 ⟨hI1,hL1,hK1⟩).mono ?_
    · rintro pre W v ⟨hi,hl,hk⟩
      have hko:=KeepsOthers.setCell W ⟨B,0,none⟩ v
      exact⟨hIB _ _ _ hi,hko.same _ _ hl rfl,hko.same _ _ hk rfl⟩
    · -- ONE ROUND
      rintro pre x' post W hbits ⟨hi,hl,hk⟩
      have hlt:w.heap.size+1<W.heap.size:=(aTl.1 hl).1;have hy:=run_yield (P:=prog) (args:= #[.I (x':Nat)]) hl (by rw[hrec];exact hps.symm)
      rw[hrec] at hy;refine⟨fn,_,assign,body,hy,roundIn_of_wpIn hfn (hassign _ x' W _ ⟨_,run_beginRound hl (by rw[hrec]),?_⟩)⟩
      have hl2:(W.putObj (w.heap.size+1) (.loop {rec .ready none with state:= .busy})).heap[w.heap.size+1]? =some (.loop {rec .ready none with state:= .busy}):=World.putObj_heap_same hlt;have hk2:(W.putObj (w.heap.size+1) (.loop {rec .ready none with state:= .busy})).heap[w.heap.size]? =some (.deferred (some [])):=(World.putObj_heap_other U).trans hk
      have hw2:KpB B W (W.putObj (w.heap.size+1) (.loop {rec .ready none with state:= .busy})):=KpB.V3 _ _ U
      refine wpIn_mono (hbody _ pre x' post _ hbits (hI.putObj _ hi U hl rfl)) ?_
      have fin: ∀(jump:Option Code)(W3:World),KeepsFrom w.heap.size (W.putObj (w.heap.size+1) (.loop {rec .ready none with state:= .busy})) W3->
          (Instr.endRound (w.heap.size+1) jump).run prog W3= .ok (.bool jump.isNone) (W3.putObj (w.heap.size+1) (.loop (rec (if jump.isNone then .ready else .done) jump)))/\
          W3.heap[w.heap.size+1]? =some (.loop {rec .ready none with state:= .busy})/\
          (W3.putObj (w.heap.size+1) (.loop (rec (if jump.isNone then .ready else .done) jump))).heap[w.heap.size+1]? =some (.loop (rec (if jump.isNone then .ready else .done) jump))/\
          (W3.putObj (w.heap.size+1) (.loop (rec (if jump.isNone then .ready else .done) jump))).heap[w.heap.size]? =some (.deferred (some [])):=λjump W3 hk3=>by
        have hl3:=hk3.same _ _ U hl2 rfl
        have:=run_endRound (P:=prog) jump hl3;rw[hrec] at this⊢
        exact⟨this,by rw[hrec] at hl3;exact hl3,World.putObj_heap_same (aTl.1 hl3).1,(World.putObj_heap_other U).trans (hk3.same _ _ (aS1 _) hk2 rfl)⟩
      rintro e a3 W3 hp
      cases e with
      |normal=>
        obtain⟨hk3,hkp3,hi3⟩:=hp;obtain⟨hr,hl3,hl4,hk4⟩:=fin none W3 hk3;have hq:=(hw2.V4 hkp3).V4 (KpB.V3 W3 (.loop (rec (if(none:Option Code).isNone then .ready else .done) none)) (show B≠w.heap.size+1 by omega))
        exact⟨_,_,hr,.inl ⟨rfl,⟨hI.putObj _ hi3 U hl3 rfl,hl4,hk4⟩,hq.1,hq.2⟩⟩
      |ret=>
        obtain⟨hk3,hi3⟩:=hp;obtain⟨hr,hl3,hl4,hk4⟩:=fin (some .ret) W3 hk3
        exact⟨_,_,hr,.inr ⟨rfl,.ret,(hIx _).putObj _ hi3 U hl3 rfl,hl4,hk4⟩⟩
      |exit id=>
        obtain⟨hk3,hi3⟩:=hp;obtain⟨hr,hl3,hl4,hk4⟩:=fin (some (.exit id)) W3 hk3
        exact⟨_,_,hr,.inr ⟨rfl,.exit id,(hIx _).putObj _ hi3 U hl3 rfl,hl4,hk4⟩⟩
      |goto t=>
        obtain⟨hk3,hi3⟩:=hp;obtain⟨hr,hl3,hl4,hk4⟩:=fin (some (.goto t)) W3 hk3
        exact⟨_,_,hr,.inr ⟨rfl,.goto t,(hIx _).putObj _ hi3 U hl3 rfl,hl4,hk4⟩⟩
      |panic ch=>exact hp.elim
      |outgrown=>exact hp.elim
    · -- BEHIND THE ITERATOR
      rintro e W2 ⟨⟨v,rfl⟩,(⟨hi,hl,hk⟩|⟨pre,k,post,hbits,c,hi,hl,hk⟩)⟩
      · exact⟨none,_,by have:=run_endLoop (P:=prog) hl (by rw[hrec];simp);rw[hrec] at this;exact this,hdone _ _ (aS1 _) (hI.putObj _ hi U hl rfl) ((World.putObj_heap_other U).trans hk)⟩
      · exact⟨some c,_,by have:=run_endLoop (P:=prog) hl (by rw[hrec];simp);rw[hrec] at this;exact this,hstop _ c pre k post _ (aS1 _) hbits ((hIx c).putObj _ hi U hl rfl) ((World.putObj_heap_other U).trans hk)⟩
theorem Kh {n:Nat}{g:Operand}(p q:Tmp){assign body:Code}{Q:Exit->Act->World->Prop}{tmps:Array Value}{defers:List Deferred}{w:World}
  (h1:2<=n)(B x:Nat)(hg:Act.eval {tmps,defers} g= .func (.func 172) #[] #[.Q B 0])(hx:x<65536)(hB:B<w.heap.size)(hB0:B≠0)
  (hc:w.cell? ⟨B,0,none⟩=some (.int .u16 x))(hf:w.frozen? ⟨B,0,none⟩=false)
  (I:List Nat->World->Prop)(Ix:Code->List Nat->World->Prop)(hI:OwnFrom w.heap.size I)(hIx: ∀c,OwnFrom w.heap.size (Ix c))
  (hIB: ∀pre W v,I pre W->I pre (W.setCell ⟨B,0,none⟩ v))(hIT: ∀pre W,I pre W->TabC W)(h0:I [] w)
  (hassign: ∀(l:Nat)(k:Nat)(W:World)(K:Act->World->Prop),K {tmps:=(tmps.setIfInBounds p (.I (k:Nat))).setIfInBounds q (.I (k:Nat)),defers:=[]} W->
   assign.wpIn (Fence.wide.inRound l) (n-1-1) prog (Exit.then K (λ_ _ _=>False)) {tmps:=tmps.setIfInBounds p (.I (k:Nat)),defers:=[]} W)
  (hbody: ∀(l:Nat)(pre:List Nat)(k:Nat)(post:List Nat)(W:World),eU x x=pre++k::post->I pre W->
   body.wpIn (Fence.wide.inRound l) (n-1-1) prog (ownPostG w.heap.size (KpB B) I Ix (pre++[k]) W) {tmps:=(tmps.setIfInBounds p (.I (k:Nat))).setIfInBounds q (.I (k:Nat)),defers:=[]} W)
  (hdone: ∀(D:Nat)(W:World),w.heap.size<=D->I (eU x x) W->W.heap[D]? =some (.deferred (some []))->Q .normal {tmps,defers:={target:= .collected D,args:= #[]}::defers} W)
  (hstop: ∀(D:Nat)(c:Code)(pre:List Nat)(k:Nat)(post:List Nat)(W:World),w.heap.size<=D->eU x x=pre++k::post->Ix c (pre++[k]) W->W.heap[D]? =some (.deferred (some []))->
   c.wpIn Fence.wide n prog Q {tmps,defers:={target:= .collected D,args:= #[]}::defers} W):
  (Code.rangeFunc g #[p] assign body).wpIn Fence.wide n prog Q {tmps,defers} w:=
 aGD h1 hg hx hB hB0 hc hf rfl I Ix hI hIx hIB hIT h0 _ (λl k W K hK=>by
  have e: ∀v:Value,(#[p].zip #[v]).foldl (λt (p,v)=>t.setIfInBounds p v) tmps=tmps.setIfInBounds p v:=λv=>by simp
  have h:=hassign l k W K hK;rw[<-e] at h;exact h) hbody hdone hstop
attribute [local go_sem] Oper.semAt_some
def eK (x n:Nat):Nat:=x&&&(2 ^ n-1)
theorem Aq {x n:Nat}(h:x<65536):eK x n<65536:=Nat.lt_of_le_of_lt Nat.and_le_left h
theorem yT (x n i:Nat):(eK x n).testBit i=(x.testBit i&&decide (i<n)):=by
 unfold eK;rw[Nat.testBit_and,Nat.testBit_two_pow_sub_one]
theorem Wa (x n:Nat):eK x n<2 ^ n:=by
 have:=Nat.two_pow_pos n;exact Nat.lt_of_le_of_lt Nat.and_le_right U
theorem V9 {x:Nat}(h0:x≠0)(h:x<65536):Lib.ctz 16 x<16/\x.testBit (Lib.ctz 16 x)=true/\(∀j,j<Lib.ctz 16 x->x.testBit j=false)/\
  ∀j,(x&&&(x-1)).testBit j=(x.testBit j&&decide (j≠Lib.ctz 16 x)):=by
 obtain⟨m,hm,hk⟩:=Lib.ctzFrom_spec 16 x U h
 have e:Lib.ctz 16 x=Lib.ctzFrom 16 x:=by rw[Lib.ctz,if_neg h0]
 rw[e]
 generalize Lib.ctzFrom 16 x=c at hm hk
 have b1: ∀j,x.testBit j=(decide (c<=j)&&(2*m+1).testBit (j-c)):=by
  intro j;rw[hm,Nat.mul_comm,Nat.testBit_mul_two_pow]
 have hp:0<2 ^ c:=Nat.two_pow_pos c;have b2: ∀j,(x-1).testBit j=if j<c then true else(2*m).testBit (j-c):=by
  intro j;have:x-1=2 ^ c*(2*m)+(2 ^ c-1):=by
   rw[hm,Nat.mul_add,Nat.mul_one];omega
  rw[this,Nat.testBit_two_pow_mul_add _ U]
  split
  ·rename_i hj
   rw[Nat.testBit_two_pow_sub_one];simp[hj]
  ·rfl
 refine⟨hk,?_,?_,?_⟩
 ·rw[b1]
  simp[Nat.testBit_zero]
 ·intro j hj
  rw[b1];simp[show¬c<=j by omega]
 ·intro j
  rw[Nat.testBit_and,b2,b1];by_cases hj:j<c
  ·simp[hj,show¬c<=j by omega]
  ·rw[if_neg hj]
   by_cases hjc:j=c
   ·subst hjc
    simp[Nat.testBit_zero]
   ·obtain⟨i,rfl⟩: ∃i,j=c+(i+1):=⟨j-c-1,by omega⟩
    have e3:c+(i+1)-c=i+1:=U
    have d1:(2*m+1)/2=m:=U
    have d2:(2*m)/2=m:=U
    rw[e3,Nat.testBit_succ,Nat.testBit_succ,d1,d2];simp
theorem Dz: ∀(f x:Nat),x<=f->x<65536-> ∀k,k∈eU f x↔x.testBit k=true
 |0,x,h,_,k=>by
  have:x=0:=U
  subst this;simp[eU]
 |f+1,x,h,hx,k=>by
  rw[eU];by_cases h0:x=0
  ·subst h0
   simp
  ·rw[if_neg h0]
   obtain⟨c1,c2,c3,c4⟩:=V9 h0 hx;have hlt:=V2 h0;rw[aTf,Dz f _ U U,c4]
   by_cases hk:k=Lib.ctz 16 x
   ·subst hk
    simp[c2]
   ·simp[hk]
theorem V7 {x n k:Nat}{post:List Nat}(hx:x<65536)(hn:x<2 ^ n)(h:eU x x=k::post):(List.range n).find? x.testBit=some k:=by
 by_cases h0:x=0
 ·subst h0
  cases h
 ·obtain⟨f,hf⟩: ∃f,x=f+1:=⟨x-1,by omega⟩
  obtain⟨c1,c2,c3,c4⟩:=V9 h0 hx;have:eU x x=Lib.ctz 16 x::eU f (x&&&(x-1)):=by
   conv=>lhs;rw[show eU x x=eU (f+1) x from by rw[<-hf]]
   rw[eU,if_neg h0]
  rw[this] at h;cases h;rw[List.find?_range_eq_some];refine⟨c2,?_,λj hj=>by simp[c3 j hj]⟩
  rw[aTA];apply Nat.lt_of_not_le;intro hle;have:=Nat.testBit_lt_two_pow (aTb hn (Nat.pow_le_pow_right U hle))
  rw[c2] at this;cases this
theorem V8 {x n:Nat}(hx:x<65536)(h:eU x x=[]):(List.range n).find? x.testBit=none:=by
 rw[List.find?_eq_none];intro k _ hk;have:=(Dz x x (aS1 _) hx k).mpr hk;rw[h] at this;cases this
theorem aGE (n:Nat)(hn:n<=16):IntKind.u16.wrap (IntKind.u16.wrap ((2:Int) ^ n)-1)=((2 ^ n-1:Nat):Int):=by
 have: ∀n:Nat,n<=16->IntKind.u16.wrap (IntKind.u16.wrap ((2:Int) ^ n)-1)=((2 ^ n-1:Nat):Int):=by decide+kernel
 exact this n hn
set_option maxHeartbeats 1000000 in
theorem V6 (x n:Nat)(hx:x<65536)(hn:n<=16)(w:World):
  Calls prog 152 #[.int .u16 x,.I n] w λe w'=>e= .returned (.int .u16 (eK x n:Nat))/\w'=w:=by
 go_enter Tryz.func152,Tryz.ntmps152
 go_wp2
 have hp:(2:Nat) ^ n<=2 ^ 16:=Nat.pow_le_pow_right U hn
 rw[aGE n hn,Kg x _ hx U]
 go_ret
 exact⟨rfl,rfl⟩
set_option maxHeartbeats 1000000 in
theorem Kk (x:Nat)(hx:x<65536)(w:World):
  Calls prog 151 #[.int .u16 x] w λe w'=>e= .returned (.func (.func 172) #[] #[.Q w.heap.size 0])/\w'=w.alloc (.cells #[.int .u16 x] 23):=by
 go_enter Tryz.func151,Tryz.ntmps151
 go_wp2
 go_ret
 exact⟨rfl,rfl⟩
theorem TabC.Ki {w W:World}{N:Nat}(h:TabC w)(hN:0<N)(hB:Below N w W):TabC W:=λj hj=>(hB.cell (p:=⟨0,j,none⟩) hN).trans (h j hj)
theorem TabC.Kj {w:World}(h:TabC w):0<w.heap.size:=by
 have:=h 0 U
 unfold World.cell? at this
 split at this
 ·rename_i h1
  exact(aTl.mp h1).1
 ·cases this
end Go.Proofs.YtciiopkbmjppfaaGreatDoor
namespace Go.Abs
open M
open Go.Sort
def uK:List Value->Option (List Int)
 |[]=>some []
 | .int .i64 n::r=>(uK r).map (n:: ·)
 |_=>none
def vZ (x:Int):List Int->List Int
 |[]=>[x]
 |y::ys=>if x<=y then x::y::ys else y::vZ x ys
def srt:List Int->List Int
 |[]=>[]
 |x::xs=>vZ x (srt xs)
theorem Kl (x:Int): ∀ys,(vZ x ys).Perm (x::ys)
 |[]=>List.Perm.refl _
 |y::ys=>by
  unfold vZ;split
  ·exact List.Perm.refl _
  ·exact((Kl x ys).cons y).trans (List.Perm.swap x y ys)
theorem Ar: ∀zs,(srt zs).Perm zs
 |[]=>List.Perm.refl _
 |x::xs=>(Kl x (srt xs)).trans ((Ar xs).cons x)
theorem Wb (x:Int): ∀ys,ys.Pairwise (· <= ·)->(vZ x ys).Pairwise (· <= ·)
 |[],_=>by simp[vZ]
 |y::ys,h=>by
  obtain⟨h1,h2⟩:=List.pairwise_cons.mp h;unfold vZ;split
  ·rename_i hxy
   refine List.pairwise_cons.mpr ⟨λz hz=> ?_,h⟩
   rcases aTf.mp hz with rfl|hz
   ·exact hxy
   ·exact Int.le_trans hxy (h1 z hz)
  ·rename_i hxy
   refine List.pairwise_cons.mpr ⟨λz hz=> ?_,Wb x ys h2⟩
   rcases aTf.mp ((Kl x ys).mem_iff.mp hz) with rfl|hz
   ·omega
   ·exact h1 z hz
theorem D0: ∀zs,(srt zs).Pairwise (· <= ·)
 |[]=>List.Pairwise.nil
 |x::xs=>Wb x _ (D0 xs)
theorem aGK (zs:List Int):(zs.mergeSort λx y=>decide (x<=y))=srt zs:=by
 refine List.Perm.eq_of_pairwise (le:=λx y=>x<=y) (λa b _ _ h1 h2=>by omega) ?_ (D0 zs) ((List.mergeSort_perm zs _).trans (Ar zs).symm)
 have:=List.pairwise_mergeSort (le:=λx y:Int=>decide (x<=y)) (λa b c h1 h2=>by simp at *; omega) (λa b=>by simp;omega) zs
 exact this.imp λh=>by simpa using h
theorem Wc: ∀zs:List Int,uK (zs.map (Value.int .i64))=some zs
 |[]=>rfl
 |z::zs=>by simp[uK,Wc zs]
theorem Wd: ∀(vs:List Value)(zs:List Int),uK vs=some zs->vs=zs.map (Value.int .i64)
 |[],zs,h=>by simp[uK] at h;subst h;rfl
 |v::vs,zs,h=>by
  unfold uK at h
  split at h
  ·rename_i h1;cases h1
  ·rename_i n r h1
   cases h1;cases hr:uK vs with
   |none=>rw[hr] at h;cases h
   |some ys=>
    rw[hr] at h;cases h;rw[aTr,<-Wd vs ys hr]
  ·cases h
def pK (args:List Value)(H:aG):Option (Value×aG):=
 match args with
 |[.slice none 0 0]=>some (.tuple #[],H)
 |[.slice (some ⟨b,o,none⟩) n _]=>
  if n=0 then some (.tuple #[],H) else
  match H[b]? with
  |some (.cells cs e .row)=>
   if o+n<=cs.length/\n<4611686018427387904 then
    match uK ((cs.drop o).take n) with
    |some zs=>some (.tuple #[],H.set b (.cells (cT cs o ((srt zs).map (Value.int .i64))) e .row))
    |none=>none
   else none
  |_=>none
 |_=>none
structure SortOk (P:Program)(g:FuncId):Prop where
 ent: ∀args w,(callFunc g args).run P w= .ok (.enter g args) w
 none: ∀(p:Option Addr)(cap:Nat)(w:World),Calls P g #[.slice p 0 cap] w λe w'=>e= .returned (.tuple #[])/\w'=w
 sort: ∀(blk off cap:Nat)(zs:List Int)(w:World),Holds (Value.int .i64) w blk off zs.toArray->blk<w.heap.size->zs.length<4611686018427387904->
  Calls P g #[.slice (some ⟨blk,off,Option.none⟩) zs.length cap] w λe w'=>e= .returned (.tuple #[])/\ ∃n os,w'=grow (putRow (Value.int .i64) (Sort.ahead w n) blk off (zs.mergeSort λx y=>decide (x<=y)).toArray) os
theorem aGF {args:List Value}{H H':aG}{v:Value}(h:pK args H=some (v,H')):H.length<=H'.length:=by
 unfold pK at h
 split at h
 ·cases h;exact aS1 _
 ·split at h
  ·cases h;exact aS1 _
  ·split at h
   ·split at h
    ·split at h
     ·cases h;simp
     ·cases h
    ·cases h
   ·cases h
 ·cases h
theorem pL (zs:List Int):(srt zs).length=zs.length:=(Ar zs).length_eq
theorem aGG {P:Program}{g:FuncId}(hg:SortOk P g){args:List Value}{H H':aG}{v:Value}(h:pK args H=some (v,H')){ρ:Ren}{w:World}{args':List Value}(hr:Rel P ρ (cE H) w)(ha:Vrs ρ args args'):
  vS P (.func g) args'.toArray w (Post P ρ H w v H'):=by
 have he:=hg.ent args'.toArray w;refine⟨he,?_⟩;unfold pK at h
 split at h
 ·cases h
  obtain⟨hl,h1⟩:=ha
  match args',hl with
  |[a'],_=>
   have hv:=h1 0 _ a' rfl rfl;cases hv with
   |same _=>exact(hg.none none 0 w).mono λe w' ⟨h1,h2⟩=>⟨_,h1,h2▸Post.kE hr (.mJ rfl)⟩
 ·rename_i b o n cap
  obtain⟨hl,h1⟩:=ha
  match args',hl with
  |[a'],_=>
   have hv:=h1 0 _ a' rfl rfl
   split at h
   ·rename_i h0
    cases h;subst h0;cases hv with
    |same hls=>simp[dH] at hls
    |slice=>exact(hg.none _ _ w).mono λe w' ⟨h1,h2⟩=>⟨_,h1,h2▸Post.kE hr (.mJ rfl)⟩
    |slice0=>exact(hg.none _ _ w).mono λe w' ⟨h1,h2⟩=>⟨_,h1,h2▸Post.kE hr (.mJ rfl)⟩
   ·rename_i h0
    split at h
    ·rename_i cs e hb
     split at h
     ·rename_i hlen
      split at h
      ·rename_i zs hzs
       cases h;have hz:=Wd _ _ hzs;have hzl:zs.length=n:=by
        have:=congrArg List.length hz;simp at this;omega
       cases hv with
       |same hls=>simp[dH] at hls
       |slice0=>exact absurd rfl h0
       | @slice _ _ _ _ cap' pl hpl _ _ _=>
        have hB:=hr.blk b pl _ hpl hb;obtain⟨ccs,ce,lo,hi,ho,hcv,hfz,hrow,hro⟩:=hB;have hplt:=hr.lt b pl hpl;have hin: ∀j,j<n-> ∃z,zs[j]? =some z/\ccs[pl.base+o+j]? =some (.int .i64 z):=by
         intro j hj;have hzj:zs[j]? =some zs[j]:=aSY U
         refine⟨_,hzj,?_⟩;have h2:cs[o+j]? =some (.int .i64 zs[j]):=by
          have:=congrArg (·[j]?) hz
          simp only[List.getElem?_take,List.getElem?_drop,aS9,hzj,if_pos hj] at this;exact this
         obtain⟨v',h3,h4⟩:=hcv (o+j) _ h2;have h5:=h4.hZ rfl;subst h5;rw[Nat.add_assoc];exact h3
        have hH:Holds (Value.int .i64) w pl.c (pl.base+o) zs.toArray:=by
         intro j hj;have hj':j<n:=by simpa[hzl] using hj
         obtain⟨z,hz1,hz2⟩:=hin j hj';have hgz:zs.toArray[j]! =z:=by
          have hjz:j<zs.length:=U
          rw[getElem!_pos _ j (by simpa using hjz)]
          have:=aSW.mp hz1;simpa using this.2
         refine⟨by rw[Ah ho,hz2,hgz],?_⟩
         have hlt:pl.base+o+j<ccs.size:=(aTl.mp hz2).1;have:=hfz aC (pl.base+o+j) hlt
         simp only[World.frozen?,ho];simp;omega
        have hc:=hg.sort pl.c (pl.base+o) cap' zs w hH hplt U
        rw[hzl,aGK] at hc;refine hc.mono λe w' ⟨h1,q,os,h2⟩=>⟨_,h1,ρ,.mJ (v:= .tuple #[]) rfl,?_⟩
        have hsz:(srt zs).toArray.size=n:=by
         have:=pL zs;simp[this,hzl]
        have hheap: ∀c:Nat,c<w.heap.size->w'.heap[c]? =if c=pl.c then some (.cells (putCells (Value.int .i64) (pl.base+o) (srt zs).toArray ccs) ce (lo,hi)) else w.heap[c]? :=by
         intro c hcl;rw[h2];simp only[grow,putRow,mapBlock,Sort.ahead];rw[Array.getElem?_append_left (by simpa using hcl),Array.getElem?_modify]
         by_cases hcc:pl.c=c
         ·subst hcc
          rw[if_pos rfl,if_pos rfl,ho];rfl
         ·rw[if_neg hcc,if_neg (Ne.symm hcc)]
        refine Step.I6 hr hpl (by rw[hb];rfl) ?_ (λc hne hcl=>by rw[hheap c hcl,if_neg hne]) ?_ ?_ ?_ ?_
        ·rw[h2]
         simp[grow,putRow,mapBlock,Sort.ahead]
        ·rw[hheap pl.c hplt,if_pos rfl]
         refine⟨_,ce,lo,hi,rfl,λi v hi=> ?_,λhk off hoff=>hfz hk off (by simpa[putCells] using hoff),λhk=> ?_,hro⟩
         ·rw[Tn _ _ _ (by rw[aTa,pL];omega)] at hi
          rw[aTa,pL,hzl] at hi;by_cases hin2:o<=i/\i<o+n
          ·rw[if_pos hin2] at hi
           obtain⟨z,_,hz2⟩:=hin (i-o) U
           have hlt:pl.base+i<ccs.size:=by
            have:=(aTl.mp hz2).1;omega
           refine⟨v,?_,?_⟩
           ·unfold putCells
            rw[Array.getElem?_mapIdx,Array.getElem?_eq_getElem hlt,Option.map_some,if_pos ⟨by omega,by rw[hsz];omega⟩]
            have e1:pl.base+i-(pl.base+o)=i-o:=U
            rw[e1];have hlt2:i-o<(srt zs).length:=by rw[pL];omega
            rw[aS9,aSY hlt2] at hi;rw[<-aTy hi];have:(srt zs).toArray[i-o]! =(srt zs)[i-o]:=by
             rw[getElem!_pos _ (i-o) (by rw[hsz];omega)]
             simp
            rw[this]
           ·have hlt2:i-o<(srt zs).length:=by rw[pL];omega
            rw[aS9,aSY hlt2] at hi;rw[<-aTy hi];exact .mJ rfl
          ·rw[if_neg hin2] at hi
           obtain⟨v',h3,h4⟩:=hcv i v hi;refine⟨v',?_,h4⟩;unfold putCells;rw[Array.getElem?_mapIdx,h3,Option.map_some,if_neg (by rw[hsz];omega)]
         ·have:=hrow hk
          simpa[putCells] using this
        ·rw[h2];rfl
        ·rw[h2];rfl
        ·rw[h2];rfl
      ·cases h
     ·cases h
    ·cases h
 ·cases h
def oM (ids:List FuncId)(g:FuncId):eI:=λf=>match f with
 | .func k=>if k=g then some pK else rJ ids (.func k)
 |_=>none
theorem aGH {ids:List FuncId}{g k:FuncId}(hg:(k==g)=false)(h:ids.contains k=false):oM ids g (.func k)=none:=by
 have:k≠g:=by simpa using hg
 simp only[oM,if_neg this];exact J6 h
theorem aGJ {ids:List FuncId}{g:FuncId}:oM ids g (.func g)=some pK:=by simp[oM]
theorem aGI {P:Program}{ids:List FuncId}{g:FuncId}(h:PrimsOk P (rJ ids))(hs:SortOk P g):PrimsOk P (oM ids g):=by
 constructor
 ·intro f p hf args H v H' hp
  cases f with
  |func k=>
   by_cases hk:k=g
   ·simp only[oM,if_pos hk] at hf
    cases hf;exact aGF hp
   ·simp only[oM,if_neg hk] at hf
    exact h.mono _ _ hf _ _ _ _ hp
  |_=>cases hf
 ·intro f p hf args H v H' hp ρ w args' hr ha hfree
  cases f with
  |func k=>
   by_cases hk:k=g
   ·simp only[oM,if_pos hk] at hf
    cases hf;subst hk;exact aGG hs hp hr ha
   ·simp only[oM,if_neg hk] at hf
    exact h.sound _ _ hf _ _ _ _ hp _ _ _ hr ha hfree
  |_=>cases hf
def Km (ids:List FuncId)(pr:eI):eI:=λf=>match f with
 | .func k=>if ids.contains k=true then some λargs H=>if args.isEmpty=true then some (.bool true,H) else none else pr (.func k)
 |_=>none
theorem aGL {ids:List FuncId}{pr:eI}{g:FuncId}(h:ids.contains g=true):Km ids pr (.func g)=some λargs H=>if args.isEmpty=true then some (.bool true,H) else none:=by
 simp only[Km,h];rfl
theorem aSR {P:Program}{ids:List FuncId}{pr:eI}{g:FuncId}(h:ids.contains g=true){n:Nat}(hn:0<n)(H:aG):lvl P (Km ids pr) n (.func g) [] H=some (.bool true,H):=by
 obtain⟨m,rfl⟩: ∃m,n=m+1:=⟨n-1,by omega⟩
 simp only[lvl,aGL h];rfl
theorem Kn {P:Program}{pr:eI}{g:FuncId}{p:List Value->aG->Option (Value×aG)}(h:pr (.func g)=some p){n:Nat}(hn:0<n)(args:List Value)(H:aG):lvl P pr n (.func g) args H=p args H:=by
 obtain⟨m,rfl⟩: ∃m,n=m+1:=⟨n-1,by omega⟩
 simp only[lvl,h]
end Go.Abs
namespace Go.Abs
open M
def Sub (D H:aG):Prop:=D.length=H.length/\ ∀(b:Nat)(x:Blk),D[b]? =some x->x≠Blk.dead->H[b]? =some x
structure Fs (D H D' H':aG):Prop where
 sub:Sub D' H'
 le:D.length<=D'.length
 keep: ∀b:Nat,D[b]? =some Blk.dead->H'[b]? =H[b]?
 dead: ∀b:Nat,D[b]? =some Blk.dead->D'[b]? =some Blk.dead
theorem Sub.rP {D H:aG}(h:Sub D H){b:Nat}{cs:List Value}{e:TypeId}{k:Kind}(hb:D[b]? =some (.cells cs e k)):H[b]? =some (.cells cs e k):=h.2 b _ hb (λhh=>by cases hh)
theorem Sub.yV {D H:aG}(h:Sub D H){b:Nat}{es:List Ent}{c:Nat}(hb:D[b]? =some (.map es c)):H[b]? =some (.map es c):=h.2 b _ hb (λhh=>by cases hh)
theorem Fs.yU {D H:aG}(h:Sub D H):Fs D H D H:=⟨h,aS1 _,λ_ _=>rfl,λ_ h=>h⟩
theorem Fs.As {D H D1 H1 D2 H2:aG}(h:Fs D H D1 H1)(h':Fs D1 H1 D2 H2):Fs D H D2 H2:=
 ⟨h'.sub,aTc h.le h'.le,λb hb=>by rw[h'.keep b (h.dead b hb),h.keep b hb],λb hb=>h'.dead b (h.dead b hb)⟩
theorem Fs.Kp {D H:aG}(h:Sub D H){b:Nat}{x:Blk}(hb:D[b]? =some x)(hx:x≠Blk.dead)(y:Blk):Fs D H (D.set b y) (H.set b y):=by
 have hbl:=(aSW.mp hb).1;have other: ∀c:Nat,D[c]? =some Blk.dead->b≠c:=λc hc hh=>by
  subst hh;rw[hb] at hc;cases hc;exact hx rfl
 refine⟨⟨by simp[h.1],λc z hc hz=> ?_⟩,by simp,λc hc=>aSX (other c hc),λc hc=>by rw[aSX (other c hc)];exact hc⟩
 by_cases hcb:b=c
 ·subst hcb
  rw[aS2 hbl] at hc;rw[aS2 (by rw[<-h.1];exact hbl)]
  exact hc
 ·rw[aSX hcb] at hc⊢
  exact h.2 c z hc hz
theorem Fs.app {D H:aG}(h:Sub D H)(x:Blk):Fs D H (D++[x]) (H++[x]):=by
 refine⟨⟨by simp[h.1],λc z hc hz=> ?_⟩,by simp,λc hc=> ?_,λc hc=>by rw[aSZ (aSW.mp hc).1];exact hc⟩
 ·by_cases hl:c<D.length
  ·rw[aSZ hl] at hc
   rw[aSZ (by rw[<-h.1];exact hl)]
   exact h.2 c z hc hz
  ·rw[aTg U] at hc
   rw[aTg (by have:=h.1;omega),<-h.1]
   exact hc
 ·have hl:=(aSW.mp hc).1
  rw[aSZ (by rw[<-h.1];exact hl)]
def FrM (m:M Value):Prop:= ∀D H,Sub D H-> ∀v D',m D=some (v,D')-> ∃H',m H=some (v,H')/\Fs D H D' H'
def FrO (O:aH):Prop:= ∀fn args,FrM (O fn args)
theorem jO:FrM cG:=λD H _ v D' h=>by cases h
theorem yW (v:Value):FrM (aU v):=λD H hs r D' h=>by
 injection h with h;injection h with h1 h2;subst h1 h2
 exact⟨H,rfl,Fs.yU hs⟩
theorem Kr (x:Option Value):FrM (aP x):=by
 cases x with
 |none=>exact jO
 |some v=>exact yW v
theorem aG5 (e:TypeId)(cs:List Value)(k:Kind):FrM (aX e cs k):=λD H hs v D' h=>by
 simp only[aX,aTn,Prod.mk.injEq] at h;obtain⟨rfl,rfl⟩:=h
 exact⟨_,by simp only[aX,hs.1],Fs.app hs _⟩
theorem aG6:FrM lU:=λD H hs v D' h=>by
 simp only[lU,aTn,Prod.mk.injEq] at h;obtain⟨rfl,rfl⟩:=h
 exact⟨_,by simp only[lU,hs.1],Fs.app hs _⟩
theorem Kq (b:Nat)(f:List Value->TypeId->Kind->aG->Option (Value×aG))(hf: ∀cs e k D H,Sub D H->D[b]? =some (.cells cs e k)-> ∀v D',f cs e k D=some (v,D')-> ∃H',f cs e k H=some (v,H')/\Fs D H D' H'):
  FrM λH=>match H[b]? with
   |some (.cells cs e k)=>f cs e k H
   |_=>none:=λD H hs v D' h=>by
 dsimp only at h⊢
 cases hb:D[b]? with
 |none=>rw[hb] at h;simp at h
 |some x=>
  cases x with
  |cells cs e k=>
   rw[hb] at h;simp only at h;simp only[hs.rP hb];exact hf cs e k D H hs hb v D' h
  |map=>rw[hb] at h;simp at h
  |dead=>rw[hb] at h;simp at h
theorem aHc {o:Option Value}{D H:aG}(hs:Sub D H){v:Value}{D':aG}(h:(match o with|some x=>some (x,D)|none=>none)=some (v,D')): ∃H',(match o with|some x=>some (x,H)|none=>none)=some (v,H')/\Fs D H D' H':=by
 cases o with
 |none=>cases h
 |some x=>
  injection h with h;injection h with h1 h2;subst h1 h2
  exact⟨H,rfl,Fs.yU hs⟩
theorem Wh (a:Value):FrM (ld1 a):=by
 cases a with
 |pointer x=>
  cases x with
  |none=>exact jO
  |some ad=>
   obtain⟨b,o,s⟩:=ad;cases s with
   |some s=>exact jO
   |none=>exact Kq b (λcs _ _ H=>match cs[o]? with|some x=>some (x,H)|none=>none) λcs e k D H hs hb v D' h=>aHc hs h
 |_=>exact jO
theorem Wi (n:Nat)(a:Value):FrM (ldN n a):=by
 cases a with
 |pointer x=>
  cases x with
  |none=>exact jO
  |some ad=>
   obtain⟨b,o,s⟩:=ad;cases s with
   |some s=>exact jO
   |none=>
    refine Kq b (λcs _ _ H=>if o+n<=cs.length then some (.agg ((cs.drop o).take n).toArray,H) else none) λcs e k D H hs hb v D' h=> ?_
    try simp only at h⊢
    split at h
    ·rename_i hc
     injection h with h;injection h with h1 h2;subst h1 h2
     exact⟨H,by rw[if_pos hc],Fs.yU hs⟩
    ·cases h
 |_=>exact jO
theorem aHb (n:Nat)(a v:Value):FrM (stN n a v):=by
 cases a with
 |pointer x=>
  cases x with
  |none=>exact jO
  |some ad=>
   obtain⟨b,o,s⟩:=ad;cases s with
   |some s=>exact jO
   |none=>
    refine Kq b (λcs e k H=>if k≠ .ro/\v.cells.toList.length=n/\o+n<=cs.length/\cA v.cells.toList=true then some (undef,H.set b (.cells (cT cs o v.cells.toList) e k)) else none) λcs e k D H hs hb w D' h=> ?_
    try simp only at h⊢
    split at h
    ·rename_i hc
     injection h with h;injection h with h1 h2;subst h1 h2
     exact⟨_,by rw[if_pos hc],Fs.Kp hs hb (λhh=>by cases hh) _⟩
    ·cases h
 |_=>exact jO
theorem jQ {D H:aG}(hs:Sub D H){v r:Value}{D':aG}(h:some (v,D)=some (r,D')): ∃H',some (v,H)=some (r,H')/\Fs D H D' H':=by
 injection h with h;injection h with h1 h2;subst h1 h2
 exact⟨H,rfl,Fs.yU hs⟩
theorem rQ {D H:aG}(hs:Sub D H){b:Nat}{x:Blk}(hb:D[b]? =some x)(hx:x≠Blk.dead){v r:Value}{y:Blk}{D':aG}(h:some (v,D.set b y)=some (r,D')): ∃H',some (v,H.set b y)=some (r,H')/\Fs D H D' H':=by
 injection h with h;injection h with h1 h2;subst h1 h2
 exact⟨_,rfl,Fs.Kp hs hb hx _⟩
theorem D4 {D H:aG}(hs:Sub D H){v r:Value}{y:Blk}{D':aG}(h:some (v,D++[y])=some (r,D')): ∃H',some (v,H++[y])=some (r,H')/\Fs D H D' H':=by
 injection h with h;injection h with h1 h2;subst h1 h2
 exact⟨_,rfl,Fs.app hs _⟩
theorem aG8 (P:Program)(sz:Nat)(v:Value)(lo hi mx:Option Value):FrM (slc P sz v lo hi mx):=λD H hs r D' h=>by
 unfold slc at h⊢
 split at h
 ·try simp only
  split at h
  ·rename_i h1 h2 h3
   try rw[h1,h2,h3]
   exact jQ hs h
  ·cases h
 ·rename_i b o len cap
  try simp only
  split at h
  ·rename_i cs e k hb
   rw[hs.rP hb]
   try simp only
   split at h
   ·rename_i h1 h2 h3
    try rw[h1,h2,h3]
    try simp only
    split at h
    ·rename_i hc
     rw[if_pos hc];exact jQ hs h
    ·cases h
   ·cases h
  ·cases h
 ·cases h
theorem aG9 (n sz:Nat)(v:Value)(lo hi:Option Value):FrM (pB n sz v lo hi):=λD H hs r D' h=>by
 unfold pB at h⊢
 split at h
 ·try simp only
  split at h
  ·rename_i cs e k hb
   rw[hs.rP hb]
   try simp only
   split at h
   ·rename_i h1 h2
    try rw[h1,h2]
    try simp only
    split at h
    ·rename_i hc
     rw[if_pos hc];exact jQ hs h
    ·cases h
   ·cases h
  ·cases h
 ·cases h
theorem Wl {D H:aG}(hs:Sub D H){sz:Nat}{v:Value}{n:Nat}{cs:List Value}(h:dW sz v n D=some cs):dW sz v n H=some cs:=by
 unfold dW at h⊢
 split at h
 ·exact h
 ·try simp only
  split at h
  ·rename_i hn
   rw[if_pos hn];exact h
  ·rename_i hn
   rw[if_neg hn]
   split at h
   ·rename_i hb
    rw[hs.rP hb];exact h
   ·cases h
 ·exact h
 ·cases h
theorem aGM (e:TypeId)(sz by':Nat)(v w:Value):FrM (app e sz by' v w):=λD H hs r D' h=>by
 unfold app at h⊢;cases hn:iR w with
 |none=>rw[hn] at h;cases h
 |some n=>
  rw[hn] at h
  try simp only at h⊢
  cases hc:dW sz w n D with
  |none=>rw[hc] at h;cases h
  |some new=>
   rw[hc] at h;rw[Wl hs hc]
   try simp only at h⊢
   split at h
   ·try simp only
    split at h
    ·rename_i h0
     rw[if_pos h0];exact jQ hs h
    ·rename_i h0
     rw[if_neg h0]
     split at h
     ·rename_i h1
      rw[if_pos h1,<-hs.1];exact D4 hs h
     ·cases h
   ·rename_i b o len cap
    try simp only
    split at h
    ·rename_i cs e' k hb
     rw[hs.rP hb]
     try simp only
     split at h
     ·rename_i h1
      rw[if_pos h1]
      split at h
      ·rename_i h2
       rw[if_pos h2];exact jQ hs h
      ·rename_i h2
       rw[if_neg h2]
       split at h
       ·rename_i h3
        rw[if_pos h3];exact rQ hs hb (λhh=>by cases hh) h
       ·cases h
     ·rename_i h1
      rw[if_neg h1]
      split at h
      ·rename_i h2
       rw[if_pos h2];injection h with h;injection h with h3 h4;subst h3 h4;have f1:=Fs.Kp hs hb (λhh=>by cases hh) Blk.dead
       have f2:=Fs.app f1.sub (.cells ((cs.drop o).take (len*sz)++new) e .row);rw[<-hs.1]
       exact⟨_,rfl,f1.As f2⟩
      ·cases h
    ·cases h
   ·cases h
theorem aGT (sz:Nat)(d s:Value):FrM (cpy sz d s):=λD H hs r D' h=>by
 unfold cpy at h⊢;cases hn:iR s with
 |none=>rw[hn] at h;cases h
 |some sn=>
  rw[hn] at h
  try simp only at h⊢
  split at h
  ·exact jQ hs h
  ·rename_i b o dn cap
   try simp only
   cases hc:dW sz s (min sn dn) D with
   |none=>rw[hc] at h;cases h
   |some new=>
    rw[hc] at h;rw[Wl hs hc]
    try simp only at h⊢
    split at h
    ·rename_i cs e k hb
     rw[hs.rP hb]
     try simp only
     split at h
     ·rename_i h1
      rw[if_pos h1];exact rQ hs hb (λhh=>by cases hh) h
     ·cases h
    ·cases h
  ·cases h
theorem aGR (sz:Nat)(z:List Value)(v:Value):FrM (clr sz z v):=λD H hs r D' h=>by
 unfold clr at h⊢
 split at h
 ·exact jQ hs h
 ·try simp only
  split at h
  ·rename_i h0
   rw[if_pos h0];exact jQ hs h
  ·rename_i h0
   rw[if_neg h0]
   split at h
   ·rename_i cs e k hb
    rw[hs.rP hb]
    try simp only
    split at h
    ·rename_i h1
     rw[if_pos h1];exact rQ hs hb (λhh=>by cases hh) h
    ·cases h
   ·cases h
 ·cases h
theorem aG3 (e:TypeId)(sz by':Nat)(z:List Value)(n c:Value):FrM (gZ e sz by' z n c):=λD H hs r D' h=>by
 unfold gZ at h⊢
 split at h
 ·try simp only
  split at h
  ·rename_i h1
   rw[if_pos h1,<-hs.1];exact D4 hs h
  ·cases h
 ·cases h
theorem aGN (e:TypeId)(sz n:Nat)(z:List Value)(ps:List (Nat×Value)):FrM (bV e sz n z ps):=λD H hs r D' h=>by
 unfold bV at h⊢
 split at h
 ·rename_i cs hc
  try rw[hc]
  rw[<-hs.1];exact D4 hs h
 ·cases h
theorem aHd (v:Value):FrM (oF v):=λD H hs r D' h=>by
 unfold oF at h⊢
 split at h
 ·exact jQ hs h
 ·try simp only
  split at h
  ·rename_i h0
   rw[if_pos h0];exact jQ hs h
  ·rename_i h0
   rw[if_neg h0]
   split at h
   ·rename_i cs e k hb
    rw[hs.rP hb]
    try simp only
    split at h
    ·rename_i h1
     rw[if_pos h1]
     split at h
     ·rename_i bs hbs
      try rw[hbs]
      exact jQ hs h
     ·cases h
    ·cases h
   ·cases h
 ·cases h
theorem aG1 (kt:KeyT)(z:Value)(ok:Bool)(m k:Value):FrM (jK kt z ok m k):=λD H hs r D' h=>by
 unfold jK at h⊢
 split at h
 ·rename_i hk
  rw[if_pos hk]
  split at h
  ·exact jQ hs h
  ·try simp only
   split at h
   ·rename_i es c hb
    rw[hs.yV hb]
    try simp only
    split at h
    ·cases h
    ·rename_i hf
     try rw[hf]
     exact jQ hs h
    ·rename_i hf
     try rw[hf]
     exact jQ hs h
   ·cases h
  ·cases h
 ·cases h
theorem aG2 (kt:KeyT)(m k v:Value):FrM (kS kt m k v):=λD H hs r D' h=>by
 unfold kS at h⊢
 split at h
 ·rename_i hk
  rw[if_pos hk]
  split at h
  ·try simp only
   split at h
   ·rename_i es c hb
    rw[hs.yV hb]
    try simp only
    split at h
    ·cases h
    ·rename_i hf
     try rw[hf]
     exact rQ hs hb (λhh=>by cases hh) h
    ·rename_i hf
     try rw[hf]
     exact rQ hs hb (λhh=>by cases hh) h
   ·cases h
  ·cases h
 ·cases h
theorem aG0 (kt:KeyT)(z:Value)(m k:Value):FrM (qG kt z m k):=λD H hs r D' h=>by
 unfold qG at h⊢
 split at h
 ·rename_i hk
  rw[if_pos hk]
  split at h
  ·try simp only
   split at h
   ·rename_i es c hb
    rw[hs.yV hb]
    try simp only
    split at h
    ·cases h
    ·rename_i hf
     try rw[hf]
     exact rQ hs hb (λhh=>by cases hh) h
    ·rename_i hf
     try rw[hf]
     exact rQ hs hb (λhh=>by cases hh) h
   ·cases h
  ·cases h
 ·cases h
theorem aGZ (kt:KeyT)(m k:Value):FrM (rE kt m k):=λD H hs r D' h=>by
 unfold rE at h⊢
 split at h
 ·rename_i hk
  rw[if_pos hk]
  split at h
  ·try simp only
   split at h
   ·rename_i es c hb
    rw[hs.yV hb]
    try simp only
    split at h
    ·cases h
    ·rename_i hf
     try rw[hf]
     exact jQ hs h
    ·rename_i hf
     try rw[hf]
     exact rQ hs hb (λhh=>by cases hh) h
   ·cases h
  ·cases h
 ·cases h
theorem aGV (m s v:Value):FrM (qD m s v):=λD H hs r D' h=>by
 unfold qD at h⊢
 split at h
 ·try simp only
  split at h
  ·rename_i es c hb
   rw[hs.yV hb]
   try simp only
   split at h
   ·rename_i i hi
    try rw[hi]
    try simp only
    split at h
    ·rename_i e he
     try rw[he]
     exact rQ hs hb (λhh=>by cases hh) h
    ·cases h
   ·cases h
  ·cases h
 ·cases h
theorem aGY (v:Value):FrM (oD v):=λD H hs r D' h=>by
 unfold oD at h⊢
 split at h
 ·exact jQ hs h
 ·try simp only
  split at h
  ·rename_i es c hb
   rw[hs.yV hb];exact jQ hs h
  ·cases h
 ·cases h
theorem aGX (P:Program)(ts:Array TypeId)(v:Value):FrM (tX P ts v):=by
 unfold tX;split
 ·exact aGY _
 ·exact jO
theorem aGU (P:Program)(ts:Array TypeId)(m k:Value):FrM (tW P ts m k):=by
 unfold tW;split
 ·split
  ·exact aGZ _ _ _
  ·exact jO
 ·exact jO
theorem aG4 (P:Program)(b:Builtin)(ts:Array TypeId)(vs:List Value):FrM (vN P b ts vs):=by
 unfold vN;split
 ·unfold Cz
  split
  ·exact aGU _ _ _ _
  ·exact jO
 ·exact jO
theorem aGQ {O:aH}(hO:FrO O)(f:Value)(vs:List Value):FrM (kQ O f vs):=by
 cases f with
 |func fn x y=>exact hO _ _
 |_=>exact jO
theorem aGP (P:Program)(b:Builtin)(ts:Array TypeId)(vs:List Value):FrM (rC P b ts vs):=by
 unfold rC
 repeat' split
 all_goals first|exact jO|exact Kr _|(apply aGM;done)|(apply aGT;done)|(apply aGR;done)|(apply aGX;done)|(apply aG4;done)
theorem aGS (P:Program)(s d:TypeId)(v:Value):FrM (cH P s d v):=by
 unfold cH
 repeat' split
 all_goals first|exact jO|exact yW _|exact aHd _
theorem aHa (P:Program)(t:TypeId)(x:Value)(lo hi mx:Option Value):FrM (sS P t x lo hi mx):=by
 unfold sS
 repeat' split
 all_goals first|exact jO|exact Kr _|(apply aG8;done)|(apply aG9;done)
theorem Wf (P:Program){O:aH}(hO:FrO O)(t:cU)(o:Oper):FrM (aOp P O t o):=by
 obtain⟨dst,op,ty0,pos,after,guard⟩:=o;cases op<;>simp only[aOp]<;>repeat' split
 all_goals first
  |exact jO|exact Kr _|exact yW _|(apply aG5;done)|(apply Wi;done)|(apply Wh;done)|(apply aHb;done)|(apply aGS;done)
  |(apply aG3;done)|(apply aGN;done)|(apply aHa;done)|(apply aGQ hO;done)|(apply aGP;done)|(apply aG1;done)|(apply aG2;done)|(apply aG0;done)|(apply aGV;done)|exact aG6
theorem Ks (P:Program){O:aH}(hO:FrO O)(ops:List Oper)(t:cU)(o:Oper):FrM (fP P O ops t o):=by
 unfold fP;split
 ·exact Wf P hO t o
 ·split
  ·split
   ·unfold gd
    split
    ·split
     ·exact Wf P hO t o
     ·exact yW _
    ·exact yW _
   ·exact jO
  ·exact yW _
def FrK (k:K (Value×aG)):Prop:= ∀t D H,Sub D H-> ∀r,k t D=some r-> ∃H',k t H=some (r.1,H')/\Fs D H r.2 H'
theorem Wk (P:Program){O:aH}(hO:FrO O)(ops:List Oper): ∀(l:List Oper)(k:K (Value×aG)),FrK k->FrK (uA P O ops l k)
 |[],k,hk=>hk
 |o::l,k,hk=>λt D H hs r h=>by
  simp only[uA] at h⊢
  split at h
  ·cases h
  ·rename_i x hx
   obtain⟨v,D1⟩:=x;obtain⟨H1,h1,f1⟩:=Ks P hO ops t o D H hs v D1 hx
   try rw[h1]
   obtain⟨H2,h2,f2⟩:=Wk P hO ops l k hk _ D1 H1 f1.sub r h
   exact⟨H2,h2,f1.As f2⟩
theorem Wg (P:Program){O:aH}(hO:FrO O)(ops:List Oper)(t:cU)(o:Oper){D H:aG}(hs:Sub D H){v:Value}(h:chk (fP P O ops t o D) v=true):chk (fP P O ops t o H) v=true:=by
 unfold chk at h⊢
 split at h
 ·rename_i x hx
  obtain⟨w,D1⟩:=x;obtain⟨H1,h1,_⟩:=Ks P hO ops t o D H hs w D1 hx
  try rw[h1]
  exact h
 ·cases h
def Ko:List Ef->List Ef->Prop
 |[],[]=>True
 |a::asx,b::bs=>a.i=b.i/\Sub a.h b.h/\Ko asx bs
 |_,_=>False
theorem We: ∀{asx bs:List Ef},Ko asx bs-> ∀(p:Nat->aG->Bool),(∀i D H,Sub D H->p i D=true->p i H=true)->asx.all (λe=>p e.i e.h)=true->bs.all (λe=>p e.i e.h)=true
 |[],[],_,_,_,_=>rfl
 |a::asx,b::bs,h,p,hp,ha=>by
  rw[List.all_cons,aS4] at ha⊢;obtain⟨h1,h2,h3⟩:=h
  exact⟨by rw[<-h1];exact hp _ _ _ h2 ha.1,We h3 p hp ha.2⟩
 |[],_::_,h,_,_,_=>h.elim
 |_::_,[],h,_,_,_=>h.elim
theorem D6 (P:Program){O:aH}(hO:FrO O)(ops:List Oper)(ms:List Nat): ∀(l:List Oper)(i:Nat)(rs:List Rd)(es es':List Ef)(k:K (Value×aG)),FrK k->Ko es es'-> ∀t D H,Sub D H-> ∀r,oI P O ops ms l i rs es k t D=some r-> ∃H',oI P O ops ms l i rs es' k t H=some (r.1,H')/\Fs D H r.2 H'
 |[],_,_,_,_,k,hk,_,t,D,H,hs,r,h=>hk t D H hs r h
 |o::l,i,rs,es,es',k,hk,hes,t,D,H,hs,r,h=>by
  simp only[oI] at h⊢
  split at h
  ·cases h
  ·rename_i x hx
   obtain⟨v,D1⟩:=x;obtain⟨H1,h1,f1⟩:=Ks P hO ops t o D H hs v D1 hx
   try rw[h1]
   try simp only at h⊢
   by_cases c1:dG o.op=true
   ·rw[if_pos c1] at h⊢
    split at h
    ·rename_i hc
     have hc':rs.all (λq=>(ms.getD i 0).testBit q.i||chk (fP P O ops q.t q.o H1) q.v)=true:=by
      rw[aTB] at hc⊢;intro q hq;have:=hc q hq;rw[Bool.or_eq_true] at this⊢;exact this.imp id λh=>Wg P hO ops q.t q.o f1.sub h
     rw[if_pos hc'];obtain⟨H2,h2,f2⟩:=D6 P hO ops ms l (i+1) rs (⟨i,D⟩::es) (⟨i,H⟩::es') k hk ⟨rfl,hs,hes⟩ _ D1 H1 f1.sub r h
     exact⟨H2,h2,f1.As f2⟩
    ·cases h
   ·rw[if_neg c1] at h⊢
    by_cases c2:oG P o.op=true
    ·rw[if_pos c2] at h⊢
     split at h
     ·rename_i hc
      have hc':=We hes (λj X=>(ms.getD i 0).testBit j||chk (fP P O ops t o X) v) (λj D H hs hh=>by
       rw[Bool.or_eq_true] at hh⊢;exact hh.imp id λh=>Wg P hO ops t o hs h) hc
      rw[if_pos hc'];obtain⟨H2,h2,f2⟩:=D6 P hO ops ms l (i+1) (⟨i,o,t,v⟩::rs) es es' k hk hes _ D1 H1 f1.sub r h
      exact⟨H2,h2,f1.As f2⟩
     ·cases h
    ·rw[if_neg c2] at h⊢
     obtain⟨H2,h2,f2⟩:=D6 P hO ops ms l (i+1) rs es es' k hk hes _ D1 H1 f1.sub r h
     exact⟨H2,h2,f1.As f2⟩
def FrE (k:Ex->K (Value×aG)):Prop:= ∀e,FrK (k e)
theorem Wj {B:(Ex->K (Value×aG))->K (Value×aG)}(hB: ∀k,FrE k->FrK (B k)): ∀(n:Nat)(k:Ex->K (Value×aG)),FrE k->FrK (aL n B k)
 |0,_,_=>λt D H _ r h=>by cases h
 |n+1,k,hk=>hB _ λe=>by
  cases e with
  |normal=>exact Wj hB n k hk
  |exit id=>exact hk _
  |ret=>exact hk _
theorem FrE.clr {k:Ex->K (Value×aG)}(h:FrE k)(m:Nat):FrE (jL m k):=λe t D H hs r hh=>h e _ D H hs r hh
theorem aG7 (P:Program){O:aH}(hO:FrO O)(n m:Nat): ∀(c:Code)(k:Ex->K (Value×aG)),FrE k->FrK (eG P O (aL n) m c k):=by
 intro c;induction c with
 |skip=>exact λk hk=>hk _
 |ret=>exact λk hk=>hk _
 |exit id=>exact λk hk=>hk _
 |region id ops draw=>
  intro k hk;simp only[eG];split
  ·intro t D H hs r h
   try simp only at h⊢
   split at h
   ·rename_i hc
    rw[if_pos hc];exact D6 P hO _ _ _ _ _ [] [] _ (hk _) trivial t D H hs r h
   ·cases h
  ·exact Wk P hO _ _ _ (hk _)
 |seq a b iha ihb=>
  intro k hk;simp only[eG];refine iha _ λe=> ?_
  cases e with
  |normal=>exact ihb k hk
  |exit id=>exact hk _
  |ret=>exact hk _
 |cond c a b iha ihb=>
  intro k hk t D H hs r h;simp only[eG] at h⊢
  split at h
  ·rename_i x hx
   try rw[hx]
   try simp only
   split at h
   ·rename_i hc
    rw[if_pos hc];exact iha k hk t D H hs r h
   ·rename_i hc
    rw[if_neg hc];exact ihb k hk t D H hs r h
  ·cases h
 |block id c ih=>
  intro k hk;simp only[eG];refine ih _ λe=> ?_
  cases e with
  |normal=>exact hk _
  |exit j=>simp only;split<;>exact hk _
  |ret=>exact hk _
 |loop c ih=>
  intro k hk;simp only[eG];exact λt D H hs r h=>Wj (λk hk=>ih _ (hk.clr m)) n k hk _ D H hs r h
 |scope c ih=>
  intro k hk;simp only[eG];exact ih k hk
 |label l=>exact λk hk=>hk _
 |_=>intro k hk t D H _ r h;simp only[eG] at h;cases h
theorem D5 (P:Program)(t:cU){D H:aG}(hs:Sub D H): ∀(l:List ResultVar)(vs:List Value),fQ P t D l=some vs->fQ P t H l=some vs
 |[],vs,h=>h
 | .tmp i::l,vs,h=>by
  simp only[fQ] at h⊢;cases hg:gY t i with
  |none=>rw[hg] at h;cases h
  |some y=>
   rw[hg] at h;simp only at h⊢;cases hl:fQ P t D l with
   |none=>rw[hl] at h;cases h
   |some ws=>rw[hl] at h;rw[D5 P t hs l ws hl];exact h
 | .cell a ty::l,vs,h=>by
  simp only[fQ] at h⊢
  split at h
  ·rename_i sz by' g y h1 h2 h4
   try rw[h1,h2,h4]
   try simp only
   split at h
   ·rename_i x hx
    obtain⟨v,D1⟩:=x;have: ∃H',(if g=true then ldN sz y else ld1 y) H=some (v,H')/\Fs D H D1 H':=by
     cases g with
     |true=>exact Wi _ _ D H hs v D1 hx
     |false=>exact Wh _ D H hs v D1 hx
    obtain⟨H1,h3,_⟩:=this
    try rw[h3]
    try simp only at h⊢
    cases hl:fQ P t D l with
    |none=>rw[hl] at h;cases h
    |some ws=>rw[hl] at h;rw[D5 P t hs l ws hl];exact h
   ·cases h
  ·cases h
theorem aGW (P:Program)(fn:Func):FrE (cS P fn):=λe t D H hs r h=>by
 cases e with
 |exit id=>cases h
 |normal=>
  have h':nP P t D fn.results.toList []=some r:=h
  show∃H',nP P t H fn.results.toList []=some (r.1,H')/\_
  rw[yR] at h'⊢;cases hv:fQ P t D fn.results.toList with
  |none=>rw[hv] at h';cases h'
  |some vs=>
   rw[hv] at h';rw[D5 P t hs _ vs hv];simp only[Option.map_some,aTn] at h';subst h'
   exact⟨H,rfl,Fs.yU hs⟩
 |ret=>
  have h':nP P t D fn.results.toList []=some r:=h
  show∃H',nP P t H fn.results.toList []=some (r.1,H')/\_
  rw[yR] at h'⊢;cases hv:fQ P t D fn.results.toList with
  |none=>rw[hv] at h';cases h'
  |some vs=>
   rw[hv] at h';rw[D5 P t hs _ vs hv];simp only[Option.map_some,aTn] at h';subst h'
   exact⟨H,rfl,Fs.yU hs⟩
def FrP (pr:eI):Prop:= ∀f p,pr f=some p-> ∀args,FrM (p args)
theorem aGO (P:Program){O:aH}(hO:FrO O)(n:Nat)(f:FuncId)(args:List Value):FrM (aR P O (aL n) f args):=λD H hs v D' h=>by
 unfold aR at h⊢
 split at h
 ·rename_i fn hf
  try rw[hf]
  try simp only
  split at h
  ·rename_i c hc
   try rw[hc]
   try simp only
   split at h
   ·rename_i hn
    rw[if_pos hn];exact aG7 P hO n _ c _ (aGW P fn) _ D H hs (v,D') h
   ·cases h
  ·cases h
 ·cases h
theorem Au (P:Program){pr:eI}(hp:FrP pr): ∀n,FrO (lvl P pr n)
 |0,fn,args=>λD H _ v D' h=>by cases h
 |n+1,fn,args=>λD H hs v D' h=>by
  simp only[lvl] at h⊢
  split at h
  ·rename_i p hpf
   try rw[hpf]
   exact hp fn p hpf args D H hs v D' h
  ·rename_i hpf
   try rw[hpf]
   try simp only
   split at h
   ·rename_i g
    try simp only
    exact aGO P (Au P hp n) n g args D H hs v D' h
   ·cases h
def aS (v:Value)(b:Nat):Prop:= ∃o n c,v= .slice (some ⟨b,o,none⟩) n c
def RowC (e:TypeId)(sz:Nat)(H:aG)(v:Value)(n:Nat)(cs:List Value):Prop:=
 cs.length=n*sz/\((v= .slice none 0 0/\n=0)∨ ∃c cap rest,v= .slice (some ⟨c,0,none⟩) n cap/\n<=cap/\rest.length=(cap-n)*sz/\H[c]? =some (.cells (cs++rest) e .row))
theorem rR: ∀(new old pre post:List Value),old.length=new.length->cT (pre++old++post) pre.length new=pre++new++post
 |[],old,pre,post,h=>by
  have:old=[]:=aTe.mp h;subst this;rfl
 |a::new,[],pre,post,h=>by simp at h
 |a::new,c::old,pre,post,h=>by
  simp only[cT];have e1:(pre++c::old++post).set pre.length a=(pre++[a])++old++post:=by simp
  have:=rR new old (pre++[a]) post (by simpa using h)
  rw[e1];simpa using this
theorem Wq {sz k:Nat}{w:Value}{H:aG}{new:List Value}(h:dW sz w k H=some new):new.length=k*sz:=by
 unfold dW at h
 split at h
 ·split at h
  ·rename_i h0
   cases h;simp[h0]
  ·cases h
 ·split at h
  ·rename_i h0
   cases h;simp[h0]
  split at h
  ·split at h
   ·cases h
    simp;omega
   ·cases h
  ·cases h
 ·split at h
  ·rename_i s hc
   cases h;have:(rF s).length=s.size:=by unfold rF;rw[aTa];rfl
   simp;rw[hc.2];omega
  ·cases h
 ·cases h
theorem kX {H:aG}{b c:Nat}{x:Blk}(h:b≠c):(H.set c x)[b]? =H[b]? :=aSX (Ne.symm h)
theorem Kw {e:TypeId}{sz by':Nat}{v w:Value}{H:aG}{n k:Nat}{cs new:List Value}(h:RowC e sz H v n cs)(hs:iR w=some k)(hc:dW sz w k H=some new)(hr:eF (n+k) by'=true)(ha:cA new=true)(hsz:0<sz):
  ∃v' H',app e sz by' v w H=some (v',H')/\RowC e sz H' v' (n+k) (cs++new)/\H.length<=H'.length/\(∀b,b<H.length-> ¬aS v b->H'[b]? =H[b]?)/\(∀b,aS v' b->aS v b∨(H.length<=b/\b<H'.length)):=by
 obtain⟨hcs,h⟩:=h;have hnl:=Wq hc;have hnil:new=[]↔k=0:=by
  constructor
  ·intro h
   subst h;have h2:k*sz=0:=by rw[<-hnl];rfl
   rcases Nat.mul_eq_zero.mp h2 with h|h
   ·exact h
   ·omega
  ·intro h
   subst h;rw[Nat.zero_mul] at hnl;exact aTe.mp hnl
 rcases h with⟨rfl,rfl⟩|⟨c,cap,rest,rfl,hcap,hrest,hb⟩
 ·have:cs=[]:=by rw[Nat.zero_mul] at hcs;exact aTe.mp hcs
  subst this;by_cases hk:k=0
  ·subst hk
   refine⟨.slice none 0 0,H,?_,⟨by simp[hnil.mpr rfl],.inl ⟨rfl,rfl⟩⟩,aS1 _,λ_ _ _=>rfl,λb hb=> .inl hb⟩
   unfold app;rw[hs];simp only;rw[hc];simp
  ·rw[aTh] at hr
   refine⟨.slice (some ⟨H.length,0,none⟩) k k,H++[.cells new e .row],?_,⟨by simpa using hnl,.inr ⟨H.length,k,[],by simp,by omega,by simp,by simp⟩⟩,by simp,?_,?_⟩
   ·unfold app
    rw[hs];simp only;rw[hc];simp only;rw[if_neg hk,if_pos hr]
   ·intro b hlt _
    exact aSZ hlt
   ·rintro b ⟨o,n',c',hv⟩
    cases hv;exact .inr ⟨aS1 _,by simp⟩
 ·have hlt:=(aSW.mp hb).1
  have htot:(cs++rest).length=cap*sz:=by
   rw[aS8,hcs,hrest,<-Nat.add_mul]
   congr 1
   omega
  by_cases hroom:n+k<=cap
  ·by_cases hk:k=0
   ·subst hk
    refine⟨.slice (some ⟨c,0,none⟩) n cap,H,?_,⟨by simp[hcs,hnil.mpr rfl],.inr ⟨c,cap,rest,rfl,hcap,hrest,by simpa[hnil.mpr rfl] using hb⟩⟩,aS1 _,λ_ _ _=>rfl,λb hb=> .inl hb⟩
    unfold app;rw[hs];simp only;rw[hc];simp only;rw[hb];simp only;rw[if_pos hroom,if_pos (hnil.mpr rfl)];simp
   ·have hkr:k*sz<=rest.length:=by
     rw[hrest];exact Nat.mul_le_mul_right _ U
    have hset:cT (cs++rest) (0+n*sz) new=cs++new++rest.drop (k*sz):=by
     have:=rR new (rest.take (k*sz)) cs (rest.drop (k*sz)) (by rw[List.length_take,hnl];omega)
     rw[aS3,List.take_append_drop] at this;rw[aTh,<-hcs,this]
    refine⟨.slice (some ⟨c,0,none⟩) (n+k) cap,H.set c (.cells (cs++new++rest.drop (k*sz)) e .row),?_,⟨by rw[aS8,hcs,hnl,Nat.add_mul],.inr ⟨c,cap,rest.drop (k*sz),rfl,hroom,?_,by rw[aS2 hlt]⟩⟩,by simp,?_,?_⟩
    ·unfold app
     rw[hs];simp only;rw[hc];simp only;rw[hb];simp only;rw[if_pos hroom,if_neg (λh=>hk (hnil.mp h)),if_pos (And.intro aC (And.intro (by rw[htot,aTh,<-Nat.add_mul];exact Nat.mul_le_mul_right _ hroom) ha)),hset]
    ·rw[List.length_drop,hrest,<-Nat.sub_mul]
     congr 1
     omega
    ·intro b hlt' hh
     exact kX (λhx=>hh ⟨0,n,cap,by rw[hx]⟩)
    ·rintro b ⟨o,n',c',hv⟩
     cases hv;exact .inl ⟨0,n,cap,rfl⟩
  ·refine⟨.slice (some ⟨H.length,0,none⟩) (n+k) (n+k),H.set c .dead++[.cells (cs++new) e .row],?_,⟨by rw[aS8,hcs,hnl,Nat.add_mul],.inr ⟨H.length,n+k,[],rfl,aS1 _,by simp,by simp⟩⟩,by simp,?_,?_⟩
   ·unfold app
    rw[hs];simp only;rw[hc];simp only;rw[hb];simp only;rw[if_neg hroom,if_pos ⟨trivial,trivial,by rw[htot,aTh];exact Nat.mul_le_mul_right _ hcap,hr,ha⟩,List.drop_zero,<-hcs,List.take_left]
   ·intro b hlt' hh
    rw[aSZ (by simpa using hlt')]
    exact kX (λhx=>hh ⟨0,n,cap,by rw[hx]⟩)
   ·rintro b ⟨o,n',c',hv⟩
    cases hv;exact .inr ⟨aS1 _,by simp⟩
section
variable {e : TypeId} {sz : Nat} {H : aG} {v : Value} {n : Nat} {cs : List Value}
theorem RowC.Wp (e:TypeId)(sz:Nat)(H:aG):RowC e sz H (.slice none 0 0) 0 []:=⟨by simp,.inl ⟨rfl,rfl⟩⟩
theorem RowC.Kv (h:RowC e sz H v n cs):cY v=some (.int .i64 n):=by
 rcases h with⟨_,⟨rfl,rfl⟩|⟨c,cap,rest,rfl,_⟩⟩<;>rfl
theorem RowC.Ku {H':aG}(h:RowC e sz H v n cs)(hk: ∀b,aS v b->H'[b]? =H[b]?):RowC e sz H' v n cs:=by
 obtain⟨hcs,h|⟨c,cap,rest,rfl,h1,h2,h3⟩⟩:=h
 ·exact⟨hcs,.inl h⟩
 ·exact⟨hcs,.inr ⟨c,cap,rest,rfl,h1,h2,by rw[hk c ⟨0,n,cap,rfl⟩,h3]⟩⟩
theorem RowC.Wo (h:RowC e sz H v n cs): ∀b,aS v b->b<H.length:=by
 rintro b ⟨o,n',c',hv⟩
 obtain⟨hcs,⟨rfl,rfl⟩|⟨c,cap,rest,rfl,h1,h2,h3⟩⟩:=h
 ·cases hv
 ·cases hv
  exact(aSW.mp h3).1
theorem RowC.Wn (h:RowC e sz H v n cs)(i:Nat)(k:IntKind)(hi:i<n): ∃b,cQ sz v (.int k i)=some (.pointer (some ⟨b,i*sz,none⟩))/\aS v b/\ ∀(H':aG),H'[b]? =H[b]? -> ∀j,j<sz->ld1 (.pointer (some ⟨b,i*sz+j,none⟩)) H'=vX cs[i*sz+j]? H':=by
 obtain⟨hcs,⟨rfl,rfl⟩|⟨c,cap,rest,rfl,h1,h2,h3⟩⟩:=h
 ·omega
 ·refine⟨c,?_,⟨0,n,cap,rfl⟩,λH' hH' j hj=> ?_⟩
  ·rw[oL _ _ _ _ _ _ _ U U]
   simp
  ·have:i*sz+j<cs.length:=by
    rw[hcs]
    calc i*sz+j<i*sz+sz:=U
     _=(i+1)*sz:=by rw[Nat.succ_mul]
     _<=n*sz:=Nat.mul_le_mul_right _ hi
   rw[fJ,hH',h3,rK,aSZ this]
end
def fD (b:UInt8):Value:= .int .u8 b.toNat
theorem aHk (bs:List UInt8):cA (bs.map fD)=true:=by
 simp[cA,fD,Value.oneCell']
def mM (u:Value)(b:Nat):Prop:= ∃o n c,u= .slice (some ⟨b,o,none⟩) (n+1) c
def Br (H:aG)(u:Value)(bs:List UInt8):Prop:=
 (bs=[]/\(u= .slice none 0 0∨ ∃b o c,u= .slice (some ⟨b,o,none⟩) 0 c))∨
 ∃b o c cs e k,u= .slice (some ⟨b,o,none⟩) bs.length c/\0<bs.length/\H[b]? =some (.cells cs e k)/\o+bs.length<=cs.length/\(cs.drop o).take bs.length=bs.map fD
def Bo (e:TypeId)(H:aG)(u:Value)(bs:List UInt8):Prop:=
 (bs=[]/\(u= .slice none 0 0∨ ∃b o c,u= .slice (some ⟨b,o,none⟩) 0 c))∨ ∃b c rest,u= .slice (some ⟨b,0,none⟩) bs.length c/\(0<bs.length/\bs.length<=c)/\H[b]? =some (.cells (bs.map fD++rest) e .row)
section
variable {H H' : aG} {u : Value} {bs : List UInt8} {e : TypeId}
theorem Bo.Wm (h:Bo e H u bs):Br H u bs:=by
 rcases h with h|⟨b,c,rest,h1,h2,h3⟩
 ·exact .inl h
 ·refine .inr ⟨b,0,c,_,e,.row,h1,h2.1,h3,by simp,?_⟩
  have:bs.length=(bs.map fD).length:=by simp
  rw[List.drop_zero,this,List.take_left]
theorem Br.aHg (h:Br H u bs)(hk: ∀b,mM u b->H'[b]? =H[b]?):Br H' u bs:=by
 rcases h with h|⟨b,o,c,cs,e,k,h1,h2,h3,h4⟩
 ·exact .inl h
 ·refine .inr ⟨b,o,c,cs,e,k,h1,h2,?_,h4⟩
  rw[hk b ⟨o,bs.length-1,c,by rw[h1];congr 1;omega⟩,h3]
theorem Bo.yX (h:Bo e H u bs)(hk: ∀b,mM u b->H'[b]? =H[b]?):Bo e H' u bs:=by
 rcases h with h|⟨b,c,rest,h1,h2,h3⟩
 ·exact .inl h
 ·refine .inr ⟨b,c,rest,h1,h2,?_⟩
  rw[hk b ⟨0,bs.length-1,c,by rw[h1];congr 1;omega⟩,h3]
theorem Bo.Kt (h:Bo e H u bs): ∀b,mM u b-> ∃cs,H[b]? =some (.cells cs e .row):=by
 rintro b ⟨o,n,c,rfl⟩
 rcases h with⟨_,h|⟨_,_,_,h⟩⟩|⟨b',c',rest,h1,h2,h3⟩
 ·cases h
 ·cases h
 ·injection h1 with h1 _ _
  injection h1 with h1;injection h1 with h1;subst h1
  exact⟨_,h3⟩
theorem Br.aHh (h:Br H u bs):cY u=some (.int .i64 bs.length):=by
 rcases h with⟨rfl,rfl|⟨b,o,c,rfl⟩⟩|⟨b,o,c,cs,e,k,rfl,_⟩<;>rfl
theorem Br.aHj (h:Br H u bs):iR u=some bs.length:=by
 rcases h with⟨rfl,rfl|⟨b,o,c,rfl⟩⟩|⟨b,o,c,cs,e,k,rfl,_⟩<;>rfl
theorem Br.aHi (h:Br H u bs):dW 1 u bs.length H=some (bs.map fD):=by
 rcases h with⟨rfl,rfl|⟨b,o,c,rfl⟩⟩|⟨b,o,c,cs,e,k,rfl,h2,h3,h4,h5⟩
 ·rfl
 ·simp[dW]
 ·unfold dW
  simp only;rw[if_neg U,h3]
  simp only;rw[if_pos ⟨aS1 _,by omega⟩,Nat.mul_one,h5]
theorem Br.aHf (h:Br H u bs):u= .slice none 0 0∨ ∃b o n c,u= .slice (some ⟨b,o,none⟩) n c:=by
 rcases h with⟨rfl,rfl|⟨b,o,c,rfl⟩⟩|⟨b,o,c,cs,e,k,rfl,h2,h3,h4,h5⟩
 ·exact .inl rfl
 ·exact .inr ⟨_,_,_,_,rfl⟩
 ·exact .inr ⟨_,_,_,_,rfl⟩
theorem Br.aHe (h:Br H u bs){i:Nat}{x:UInt8}(hi:bs[i]? =some x)(k:IntKind): ∃b o,cQ 1 u (.int k i)=some (.pointer (some ⟨b,o,none⟩))/\ld1 (.pointer (some ⟨b,o,none⟩)) H=some (fD x,H):=by
 have hlt:=(aSW.mp hi).1;rcases h with⟨rfl,_⟩|⟨b,o,c,cs,e,k',rfl,h2,h3,h4,h5⟩
 ·simp at hi
 ·refine⟨b,o+i,?_,?_⟩
  ·rw[oL _ _ _ _ _ _ _ U U]
   simp
  ·have:cs[o+i]? =some (fD x):=by
    have h6:((cs.drop o).take bs.length)[i]? =some (fD x):=by rw[h5,aS9,hi];rfl
    rw[List.getElem?_take_of_lt hlt,List.getElem?_drop] at h6;exact h6
   rw[fJ,h3,rK,this,sZ]
end
def Fr (F:Nat->Prop)(H H':aG):Prop:=H.length<=H'.length/\ ∀b,b<H.length-> ¬F b->H'[b]? =H[b]?
def Up (F:Nat->Prop)(H H':aG):Nat->Prop:=λb=>F b∨(H.length<=b/\b<H'.length)
abbrev Nw (H H':aG):Nat->Prop:=λb=>H.length<=b/\b<H'.length
abbrev Ext (H H':aG):Prop:=Fr (λ_=>False) H H'
section
variable {F G : Nat → Prop} {H H' H'' : aG}
theorem Fr.dY (F:Nat->Prop)(H:aG):Fr F H H:=⟨aS1 _,λ_ _ _=>rfl⟩
theorem Fr.Wr (h:Fr F H H')(h':Fr (Up F H H') H' H''):Fr F H H'':=
 ⟨aTc h.1 h'.1,λb hb hF=>by
  rw[h'.2 b (aTb hb h.1) (λhU=>hU.elim hF λhx=>by omega),h.2 b hb hF]⟩
theorem Fr.Av (h:Fr F H H')(hG: ∀b,F b->G b):Fr G H H':=⟨h.1,λb hb hF=>h.2 b hb λhx=>hF (hG b hx)⟩
theorem Fr.app (F:Nat->Prop)(H G:aG):Fr F H (H++G):=⟨by simp,λb hb _=>aSZ hb⟩
end
section
variable (eR eB : TypeId)
structure RowI (H:aG)(v:Value)(us:List Value)(bss:List (List UInt8))(F:Nat->Prop):Prop where
 row:RowC eR 1 H v us.length us
 len:us.length=bss.length
 bo: ∀(i:Nat)(u:Value)(bs:List UInt8),us[i]? =some u->bss[i]? =some bs->Bo eB H u bs
 sep:us.Pairwise λu w=> ∀b,mM u b-> ¬mM w b
 hv: ∀b,aS v b->F b
 hu: ∀u∈us,∀b,mM u b->F b
 lt: ∀b,F b->b<H.length
def Row (H:aG)(v:Value)(bss:List (List UInt8))(F:Nat->Prop):Prop:= ∃us,RowI eR eB H v us bss F
end
section
variable {eR eB : TypeId} {H H' : aG} {v : Value} {us : List Value} {bss : List (List UInt8)} {F G : Nat → Prop}
theorem RowI.Wv (h:RowI eR eB H v us bss F)(hk: ∀b,F b->H'[b]? =H[b]?)(hl:H.length<=H'.length):RowI eR eB H' v us bss F:=
 ⟨h.row.Ku λb hb=>hk b (h.hv b hb),h.len,λi u bs hu hb=>(h.bo i u bs hu hb).yX λb hb=>hk b (h.hu u (aS6 hu) b hb),h.sep,h.hv,h.hu,λb hb=>aTb (h.lt b hb) hl⟩
theorem Row.D7 (h:Row eR eB H v bss F)(hk: ∀b,F b->H'[b]? =H[b]?)(hl:H.length<=H'.length):Row eR eB H' v bss F:=let⟨us,hi⟩:=h;⟨us,hi.Wv hk hl⟩
theorem Row.aHn (h:Row eR eB H v bss F)(hG: ∀b,F b->G b)(hl: ∀b,G b->b<H.length):Row eR eB H v bss G:=
 let⟨us,hi⟩:=h
 ⟨us,hi.row,hi.len,hi.bo,hi.sep,λb hb=>hG b (hi.hv b hb),λu hu b hb=>hG b (hi.hu u hu b hb),hl⟩
theorem Row.uL (h:Row eR eB H v bss F): ∀b,F b->b<H.length:=let⟨_,hi⟩:=h;hi.lt
theorem Row.Ws:Row eR eB H (.slice none 0 0) [] F↔ ∀b,F b->b<H.length:=
 ⟨λh=>h.uL,λh=>⟨[],RowC.Wp _ _ _,rfl,λi u bs hu=>by simp at hu,List.Pairwise.nil,λb hb=>(by obtain⟨o,n,c,hv⟩:=hb;cases hv),(λu hu=>by cases hu),h⟩⟩
theorem Row.yY (h:Row eR eB H v bss F):cY v=some (.int .i64 bss.length):=by
 obtain⟨us,hi⟩:=h;rw[hi.row.Kv,hi.len]
theorem RowI.Kz (h:RowI eR eB H v us bss F)(hne:eR≠eB){b:Nat}(hb:aS v b){u:Value}(hu:u∈us): ¬mM u b:=by
 intro hl;obtain⟨i,hi⟩:=List.getElem?_of_mem hu;have hlt:=(aSW.mp hi).1;have hlen:=h.len;obtain⟨cs,h1⟩:=(h.bo i u bss[i] hi (aSY U)).Kt b hl
 obtain⟨hcs,⟨rfl,_⟩|⟨c,cap,rest,rfl,_,_,h2⟩⟩:=h.row
 ·obtain⟨o,n,c,hv⟩:=hb
  cases hv
 ·obtain⟨o,n,c',hv⟩:=hb
  cases hv;rw[h1] at h2;injection h2 with h2;injection h2 with _ h2;exact hne h2.symm
theorem Row.Ky (h:Row eR eB H v bss F){i:Nat}{bs:List UInt8}(hb:bss[i]? =some bs)(k:IntKind):
  ∃u p,cQ 1 v (.int k i)=some (.pointer (some ⟨p,i,none⟩))/\F p/\(∀H':aG,H'[p]? =H[p]? ->ld1 (.pointer (some ⟨p,i,none⟩)) H'=some (u,H'))/\Bo eB H u bs/\ ∀b,mM u b->F b:=by
 obtain⟨us,hi⟩:=h;have hlt:i<us.length:=by
  have:=(aSW.mp hb).1;have:=hi.len;omega
 obtain⟨p,h1,h2,h3⟩:=hi.row.Wn i k hlt;have hu:us[i]? =some us[i]:=aSY hlt;refine⟨us[i],p,by simpa using h1,hi.hv p h2,λH' hH'=> ?_,hi.bo i _ bs hu hb,λb hl=>hi.hu _ (List.getElem_mem hlt) b hl⟩
 have:=h3 H' hH' 0 aC
 simp only[Nat.mul_one,Nat.add_zero] at this;rw[this,hu,sZ]
theorem Bo.Kx {e:TypeId}{u:Value}{bs:List UInt8}(h:Bo e H u bs):cA [u]=true:=by
 rcases h with⟨_,rfl|⟨_,_,_,rfl⟩⟩|⟨_,_,_,rfl,_⟩<;>rfl
theorem Ww (e:TypeId)(z u:Value)(h:cA [u]=true)(hu:u.cells= #[u])(H:aG):bV e 1 1 [z] [(0,u)] H=some (.slice (some ⟨H.length,0,none⟩) 1 1,H++[.cells [u] e .row]):=by
 unfold bV;have:Instr.fill (λi=>some (i*1,1)) (List.replicate 1 [z]).flatten.toArray [(0,u)]=some #[u]:=by
  simp[Instr.fill,hu]
  try rfl
 rw[this]
theorem Bo.aHl {e:TypeId}{u:Value}{bs:List UInt8}(h:Bo e H u bs):u.cells= #[u]:=by
 rcases h with⟨_,rfl|⟨_,_,_,rfl⟩⟩|⟨_,_,_,rfl,_⟩<;>rfl
theorem Row.Wu (h:Row eR eB H v bss F)(hne:eR≠eB){u:Value}{bs:List UInt8}(hb:Bo eB H u bs)(hf: ∀b,mM u b-> ¬F b){by':Nat}(hr:eF (bss.length+1) by'=true)(z:Value):
  ∃w H1 v' H',bV eR 1 1 [z] [(0,u)] H=some (w,H1)/\(∀b,b<H.length->H1[b]? =H[b]?)/\app eR 1 by' v w H1=some (v',H')/\Row eR eB H' v' (bss++[bs]) (Up (λb=>F b∨mM u b) H H')/\Fr F H H':=by
 obtain⟨us,hi⟩:=h;have h1:(H++[Blk.cells [u] eR .row])[H.length]? =some (.cells [u] eR .row):=by simp
 have hold: ∀b,b<H.length->(H++[Blk.cells [u] eR .row])[b]? =H[b]? :=λb hb=>aSZ hb
 have hlt:=hi.row.Wo;have hrow:RowC eR 1 (H++[Blk.cells [u] eR .row]) v us.length us:=hi.row.Ku λb hb=>hold b (hlt b hb)
 obtain⟨v',H',g1,g2,g3,g4,g5⟩:=Kw (w:= .slice (some ⟨H.length,0,none⟩) 1 1) (k:=1) (new:=[u]) hrow rfl (by simp[dW,h1]) (by rw[hi.len];exact hr) hb.Kx aC
 simp only[aS8,aTi,List.length_nil] at g3 g4 g5;have fr: ∀b,b<H.length-> ¬aS v b->H'[b]? =H[b]? :=λb hb hh=>by rw[g4 b U hh,hold b hb]
 have hulies: ∀b,mM u b->b<H.length/\ ¬aS v b:=λb hl=>by
  obtain⟨cs,hcs⟩:=hb.Kt b hl
  exact⟨(aSW.mp hcs).1,λhh=>hf b hl (hi.hv b hh)⟩
 refine⟨_,_,v',H',Ww eR z u hb.Kx hb.aHl H,hold,g1,⟨us++[u],by simpa using g2,by simp[hi.len],?_,?_,?_,?_,?_⟩,⟨by omega,λb hb hF=>fr b hb λhh=>hF (hi.hv b hh)⟩⟩
 ·intro i w ws hw hws
  by_cases hlt':i<us.length
  ·rw[aSZ hlt'] at hw
   rw[aSZ (by rw[<-hi.len];exact hlt')] at hws
   refine(hi.bo i w ws hw hws).yX λb hl=> ?_
   have hm:=aS6 hw;exact fr b (hi.lt b (hi.hu w hm b hl)) λhh=>hi.Kz hne hh hm hl
  ·have hx:i=us.length:=by
    have:=(aSW.mp hw).1;simp at this;omega
   subst hx;rw[aTg (aS1 _)] at hw;rw[aTg (by rw[hi.len];exact aS1 _),hi.len] at hws
   simp at hw hws;subst hw hws;exact hb.yX λb hl=>fr b (hulies b hl).1 (hulies b hl).2
 ·rw[List.pairwise_append]
  refine⟨hi.sep,List.pairwise_singleton _ _,λx hx y hy b hxb hyb=> ?_⟩
  rw[List.mem_singleton] at hy;subst hy;exact hf b hyb (hi.hu x hx b hxb)
 ·intro b hh
  rcases g5 b hh with hx|hx
  ·exact .inl (.inl (hi.hv b hx))
  ·exact .inr ⟨by omega,hx.2⟩
 ·intro w hw b hl
  rcases List.mem_append.mp hw with hw|hw
  ·exact .inl (.inl (hi.hu w hw b hl))
  ·rw[List.mem_singleton] at hw
   subst hw;exact .inl (.inr hl)
 ·intro b hb
  rcases hb with(hb|hb)|hb
  ·have:=hi.lt b hb
   omega
  ·have:=(hulies b hb).1
   omega
  ·exact hb.2
theorem RowI.aHo (h:RowI eR eB H v us bss F)(hne:eR≠eB){v':Value}{us':List Value}{bss':List (List UInt8)}(hrow:RowC eR 1 H' v' us'.length us')(hlen:us'.length=bss'.length)(hl:H'.length=H.length)(hv: ∀b,aS v' b->aS v b)(hk: ∀b,¬aS v b->H'[b]? =H[b]?)
  (hs:us'.Sublist us)(hb: ∀(i:Nat)(u:Value)(bs:List UInt8),us'[i]? =some u->bss'[i]? =some bs-> ∃j:Nat,us[j]? =some u/\bss[j]? =some bs):RowI eR eB H' v' us' bss' F:=by
 refine⟨hrow,hlen,λi u bs hu hbs=> ?_,h.sep.sublist hs,λb hb=>h.hv b (hv b hb),λu hu=>h.hu u (hs.subset hu),λb hb=>by rw[hl];exact h.lt b hb⟩
 obtain⟨j,h1,h2⟩:=hb i u bs hu hbs;refine(h.bo j u bs h1 h2).yX λb hl=>hk b λhh=>h.Kz hne hh (aS6 h1) hl
end
theorem Bo.aHm {e:TypeId}{H:aG}{v:Value}{bs:List UInt8}(h:RowC e 1 H v bs.length (bs.map fD)):Bo e H v bs:=by
 obtain⟨hcs,⟨rfl,h0⟩|⟨c,cap,rest,rfl,h1,h2,h3⟩⟩:=h
 ·exact .inl ⟨aTe.mp h0,.inl rfl⟩
 ·by_cases h0:bs.length=0
  ·refine .inl ⟨aTe.mp h0,.inr ⟨c,0,cap,by rw[h0]⟩⟩
  ·exact .inr ⟨c,cap,rest,rfl,by omega,h3⟩
theorem aHp {e:TypeId}{sz by' c n k cap:Nat}{w:Value}{H:aG}{pre old post new:List Value}(hb:H[c]? =some (.cells (pre++old++post) e .row))(hp:pre.length=n*sz)(ho:old.length=k*sz)(hs:iR w=some k)(hc:dW sz w k H=some new)
  (hroom:n+k<=cap)(ha:cA new=true):app e sz by' (.slice (some ⟨c,0,none⟩) n cap) w H=some (.slice (some ⟨c,0,none⟩) (n+k) cap,H.set c (.cells (pre++new++post) e .row)):=by
 have hnl:=Wq hc;unfold app;rw[hs];simp only;rw[hc];simp only;rw[hb];simp only;rw[if_pos hroom];by_cases h0:new=[]
 ·rw[if_pos h0]
  subst h0;have:old=[]:=aTe.mp (by rw[ho,<-hnl];rfl)
  subst this;rw[Df hb]
 ·rw[if_neg h0,if_pos ⟨by decide,by simp[hp,ho],ha⟩]
  have:=rR new old pre post (by rw[ho,hnl])
  rw[aTh,<-hp,this]
theorem iA (d:Nat)(k:IntKind)(i:Nat):bnd d (some (.int k i))=some i:=by
 simp[bnd]
theorem oN {P:Program}{H:aG}{cs:List Value}{e:TypeId}{k:Kind}{sz b o len cap l h m:Nat}{lo hi mx:Option Value}(hb:H[b]? =some (.cells cs e k))(hsz:k= .row->P.cellsOf e=sz)(h1:bnd 0 lo=some l)(h2:bnd len hi=some h)(h3:bnd cap mx=some m)(hlh:l<=h)(hhm:h<=m)(hmc:m<=cap):
  slc P sz (.slice (some ⟨b,o,none⟩) len cap) lo hi mx H=some (.slice (some ⟨b,o+l*sz,none⟩) (h-l) (m-l),H):=by
 unfold slc;simp only;rw[hb];simp only;rw[h1,h2,h3];simp only;rw[if_pos ⟨hlh,hhm,hmc,hsz⟩]
def RowO (e:TypeId)(H:aG)(v:Value)(cs:List Value):Prop:=
 ∃(c:Nat)(pre rest:List Value)(cap:Nat),v= .slice (some ⟨c,pre.length,none⟩) cs.length cap/\cap=cs.length+rest.length/\H[c]? =some (.cells (pre++cs++rest) e .row)
section
variable {e : TypeId} {H H' : aG} {v : Value} {cs : List Value}
theorem RowO.rS (h:RowO e H v cs)(hk: ∀b,aS v b->H'[b]? =H[b]?):RowO e H' v cs:=by
 obtain⟨c,pre,rest,cap,rfl,h1,h2⟩:=h
 exact⟨c,pre,rest,cap,rfl,h1,by rw[hk c ⟨_,_,_,rfl⟩,h2]⟩
theorem RowO.K0 (h:RowO e H v cs):cY v=some (.int .i64 cs.length):=by
 obtain⟨c,pre,rest,cap,rfl,h1,h2⟩:=h;rfl
theorem RowO.blk (h:RowO e H v cs){b:Nat}(hb:aS v b): ∃xs,H[b]? =some (.cells xs e .row):=by
 obtain⟨c,pre,rest,cap,rfl,h1,h2⟩:=h;obtain⟨o,n,k,hh⟩:=hb;cases hh
 exact⟨_,h2⟩
theorem RowO.Wy (h:RowO e H v cs){i:Nat}{x:Value}(hi:cs[i]? =some x)(k:IntKind): ∃b o,cQ 1 v (.int k i)=some (.pointer (some ⟨b,o,none⟩))/\aS v b/\ ∀H':aG,H'[b]? =H[b]? ->ld1 (.pointer (some ⟨b,o,none⟩)) H'=some (x,H'):=by
 obtain⟨c,pre,rest,cap,rfl,h1,h2⟩:=h;have hlt:=(aSW.mp hi).1;refine⟨c,pre.length+i,?_,⟨_,_,_,rfl⟩,λH' hH'=> ?_⟩
 ·rw[oL _ _ _ _ _ _ _ U U]
  simp
 ·rw[fJ,hH',h2,rK,aS3,aTg U,Nat.add_sub_cancel_left,aSZ hlt,hi,sZ]
theorem RowO.aHs {P:Program}{x:Value}(h:RowO e H v (x::cs))(hsz:P.cellsOf e=1): ∃v',slc P 1 v (some (.int .i64 1)) none none H=some (v',H)/\RowO e H v' cs/\ ∀b,aS v' b->aS v b:=by
 obtain⟨c,pre,rest,cap,rfl,h1,h2⟩:=h;have g:=oN (P:=P) (H:=H) (sz:=1) (o:=pre.length) h2 (λ_=>hsz) (len:=(x::cs).length) (cap:=cap) (hi:=none) (mx:=none) (iA 0 .i64 1) rfl rfl (by simp) U (aS1 _)
 refine⟨_,g,⟨c,pre++[x],rest,cap-1,by simp,by simp at h1 ⊢; omega,by simpa using h2⟩,?_⟩
 rintro b ⟨o,n,k,hh⟩
 cases hh
 exact⟨_,_,_,rfl⟩
theorem RowO.aHr (h:RowO e H v cs){w x:Value}{by':Nat}(hs:iR w=some 1)(hc:dW 1 w 1 H=some [x])(hr:eF (cs.length+1) by'=true)(ha:cA [x]=true):
  ∃v' H',app e 1 by' v w H=some (v',H')/\RowO e H' v' (cs++[x])/\H.length<=H'.length/\(∀b,b<H.length-> ¬aS v b->H'[b]? =H[b]?)/\(∀b,aS v' b->aS v b∨(H.length<=b/\b<H'.length))/\ ∀b,H.length<=b->b<H'.length-> ∃xs,H'[b]? =some (.cells xs e .row):=by
 obtain⟨c,pre,rest,cap,rfl,h1,h2⟩:=h;have hlt:=(aSW.mp h2).1;by_cases hroom:cs.length+1<=cap
 ·obtain⟨r0,rest',rfl⟩: ∃r0 rest',rest=r0::rest':=by
   cases rest with
   |nil=>simp at h1;omega
   |cons a b=>exact⟨a,b,rfl⟩
  have hset:=rR [x] [r0] (pre++cs) rest' rfl;refine⟨.slice (some ⟨c,pre.length,none⟩) (cs.length+1) cap,H.set c (.cells (pre++cs++[x]++rest') e .row),?_,⟨c,pre,rest',cap,by simp,by simp at h1 ⊢; omega,by rw[aS2 hlt];simp⟩,by simp,λb _ hh=>kX λhx=>hh (by subst hx;exact⟨_,_,_,rfl⟩),?_,λb h1 h2=>by simp at h2;omega⟩
  ·unfold app
   rw[hs];simp only;rw[hc];simp only;rw[h2];simp only;rw[if_pos hroom,if_neg (by simp),if_pos ⟨by decide,by simp;omega,ha⟩]
   have e1:pre.length+cs.length*1=(pre++cs).length:=by simp
   have e2:pre++cs++r0::rest'=pre++cs++[r0]++rest':=by simp
   rw[e1,e2,hset]
  ·rintro b ⟨o,n,k,hh⟩
   cases hh;exact .inl ⟨_,_,_,rfl⟩
 ·refine⟨.slice (some ⟨H.length,0,none⟩) (cs.length+1) (cs.length+1),H.set c .dead++[.cells (cs++[x]) e .row],?_,⟨H.length,[],[],cs.length+1,by simp,by simp,by simp⟩,by simp,λb hb hh=> ?_,?_,λb h1 h2=> ?_⟩
  ·unfold app
   rw[hs];simp only;rw[hc];simp only;rw[h2];simp only;rw[if_neg hroom,if_pos (And.intro trivial (And.intro trivial (And.intro (by simp[aS8]) (And.intro hr ha)))),Nat.mul_one,aS3,List.drop_left,List.take_left]
  ·rw[aSZ (by simpa using hb)]
   exact kX λhx=>hh (by subst hx;exact⟨_,_,_,rfl⟩)
  ·rintro b ⟨o,n,k,hh⟩
   cases hh;exact .inr ⟨aS1 _,by simp⟩
  ·simp at h2
   obtain rfl:b=H.length:=U
   exact⟨cs++[x],by simp⟩
theorem aHt {w x:Value}{by':Nat}(hs:iR w=some 1)(hc:dW 1 w 1 H=some [x])(hr:eF 1 by'=true):
  app e 1 by' (.slice none 0 0) w H=some (.slice (some ⟨H.length,0,none⟩) 1 1,H++[.cells [x] e .row])/\RowO e (H++[.cells [x] e .row]) (.slice (some ⟨H.length,0,none⟩) 1 1) [x]:=by
 refine⟨?_,⟨H.length,[],[],1,rfl,rfl,by simp⟩⟩
 unfold app;rw[hs];simp only;rw[hc];simp only;rw[if_neg aC,if_pos hr]
end
def Ch (A:Blk->Prop)(H H':aG):Prop:=H.length<=H'.length/\ ∀(b:Nat)(x:Blk),H[b]? =some x-> ¬A x->H'[b]? =some x
theorem Ch.aHq (A:Blk->Prop)(H:aG):Ch A H H:=⟨aS1 _,λb x h _=>h⟩
theorem Ch.wA {A:Blk->Prop}{H H' H'':aG}(h:Ch A H H')(h':Ch A H' H''):Ch A H H'':=⟨aTc h.1 h'.1,λb x hx hA=>h'.2 b x (h.2 b x hx hA) hA⟩
theorem Ch.app (A:Blk->Prop)(H G:aG):Ch A H (H++G):=⟨by simp,λb x hx _=>by rw[aSZ (aSW.mp hx).1,hx]⟩
theorem Ch.Wx {A:Blk->Prop}{H:aG}{b:Nat}{x:Blk}(hb:H[b]? =some x)(hA:A x)(y:Blk):Ch A H (H.set b y):=⟨by simp,λc z hz hn=>by
 have hne:c≠b:=λhh=>by
  subst hh;rw[hb] at hz;cases hz;exact hn hA
 rw[kX hne,hz]⟩
theorem Ch.ext {A:Blk->Prop}{H H':aG}(h:Ext H H'):Ch A H H':=⟨h.1,λb x hx _=>by rw[h.2 b (aSW.mp hx).1 id,hx]⟩
def Rr {α:Type}(el:α->List Value)(e:TypeId)(H:aG)(v:Value)(xs:List α):Prop:=
 (v= .slice none 0 0/\xs=[])∨ ∃b cap k pre post,v= .slice (some ⟨b,pre.length,none⟩) xs.length cap/\xs.length<=cap/\H[b]? =some (.cells (pre++(xs.map el).flatten++post) e k)
def Rw {α:Type}(el:α->List Value)(e:TypeId)(sz:Nat)(H:aG)(v:Value)(xs:List α):Prop:=RowC e sz H v xs.length (xs.map el).flatten
section
variable {α : Type} {el : α → List Value} {e : TypeId} {sz : Nat} {H H' : aG} {v w : Value} {xs ys : List α}
theorem W0 (hall: ∀x,cA (el x)=true): ∀xs:List α,cA (xs.map el).flatten=true
 |[]=>rfl
 |x::xs=>by
  have:=W0 hall xs;have h:=hall x;unfold cA at*;rw[aTr,aTw,List.all_append,h,this];rfl
theorem Rw.fE:Rw el e sz H (.slice none 0 0) ([]:List α):=RowC.Wp e sz H
theorem Rw.rr (h:Rw el e sz H v xs):Rr el e H v xs:=by
 obtain⟨hcs,⟨rfl,h0⟩|⟨c,cap,rest,rfl,h1,h2,h3⟩⟩:=h
 ·exact .inl ⟨rfl,aTe.mp h0⟩
 ·exact .inr ⟨c,cap,.row,[],rest,rfl,h1,by rw[h3];rfl⟩
theorem Rw.nR (h:Rw el e sz H v xs):cY v=some (.int .i64 xs.length):=RowC.Kv h
theorem Rw.cZ (h:Rw el e sz H v xs)(hk: ∀b,aS v b->H'[b]? =H[b]?):Rw el e sz H' v xs:=RowC.Ku h hk
theorem Rw.blk (h:Rw el e sz H v xs){b:Nat}(hb:aS v b): ∃cs,H[b]? =some (.cells cs e .row):=by
 obtain⟨o,n',c',hv⟩:=hb;obtain⟨hcs,⟨rfl,h0⟩|⟨c,cap,rest,rfl,h1,h2,h3⟩⟩:=h
 ·cases hv
 ·cases hv
  exact⟨_,h3⟩
theorem Rw.dZ (h:Rw el e sz H v xs){b:Nat}(hb:aS v b):b<H.length:=RowC.Wo h b hb
theorem Rw.uM (h:Rw el e sz H v xs)(G:aG):Rw el e sz (H++G) v xs:=h.cZ λb hb=>aSZ (h.dZ hb)
theorem Rr.blk (h:Rr el e H v xs){b:Nat}(hb:aS v b): ∃cs k,H[b]? =some (.cells cs e k):=by
 obtain⟨o,n',c',hv⟩:=hb;rcases h with⟨rfl,_⟩|⟨b,cap,k,pre,post,rfl,h1,h2⟩
 ·cases hv
 ·cases hv
  exact⟨_,_,h2⟩
theorem Rr.aHv (h:Rr el e H v xs){b:Nat}(hb:aS v b):b<H.length:=by
 obtain⟨cs,k,hx⟩:=h.blk hb
 exact(aSW.mp hx).1
theorem Rr.Wz (hsz: ∀x,(el x).length=sz)(h:Rr el e H v xs):dW sz v xs.length H=some (xs.map el).flatten:=by
 have hl:=rO (xs.map el) (tA hsz);rw[aTa] at hl;rcases h with⟨rfl,rfl⟩|⟨b,cap,k,pre,post,rfl,h1,h2⟩
 ·rfl
 ·unfold dW
  by_cases h0:xs.length=0
  ·obtain rfl:=aTe.mp h0
   simp
  ·simp only
   rw[if_neg h0,h2];simp only;rw[if_pos ⟨aS1 _,by simp only[aS8];omega⟩,aS3,List.drop_left,<-hl,List.take_left]
theorem Rr.aHu (hsz: ∀x,(el x).length=sz)(h:Rr el e H v xs){i:Nat}{x:α}(hx:xs[i]? =some x)(k:IntKind): ∃b o,cQ sz v (.int k i)=some (.pointer (some ⟨b,o,none⟩))/\aS v b/\
  ∀H':aG,H'[b]? =H[b]? ->ldN sz (.pointer (some ⟨b,o,none⟩)) H'=some (.agg ⟨el x⟩,H')/\
   (∀j y,(el x)[j]? =some y->ld1 (.pointer (some ⟨b,o+j,none⟩)) H'=some (y,H'))/\
   (∀j n,j+n<=sz->ldN n (.pointer (some ⟨b,o+j,none⟩)) H'=some (.agg ⟨((el x).drop j).take n⟩,H')):=by
 have hi:=(aSW.mp hx).1;have hl:=rO (xs.map el) (tA hsz);rw[aTa] at hl;have hle:i*sz+sz<=xs.length*sz:=by
  calc i*sz+sz=(i+1)*sz:=by rw[Nat.succ_mul]
   _<=xs.length*sz:=Nat.mul_le_mul_right _ hi
 rcases h with⟨rfl,rfl⟩|⟨b,cap,kk,pre,post,rfl,h1,h2⟩
 ·simp at hx
 ·have htake:=Vf (xs.map el) (tA hsz) i (el x) (by rw[aS9,hx];rfl)
  have hex:=hsz x;have hpart: ∀j n,j+n<=sz->((pre++(xs.map el).flatten++post).drop (pre.length+i*sz+j)).take n=((el x).drop j).take n:=by
   intro j n hjn;have a1:(pre++(xs.map el).flatten++post).drop (pre.length+i*sz+j)=((xs.map el).flatten++post).drop (i*sz+j):=by
    rw[aS3,Nat.add_assoc,<-aTF,List.drop_left]
   have a2:i*sz+j<=(xs.map el).flatten.length:=U
   have a3:n<=((xs.map el).flatten.drop (i*sz+j)).length:=by rw[List.length_drop];omega
   rw[a1,List.drop_append_of_le_length a2,List.take_append_of_le_length a3,<-htake,List.drop_take,aTF,List.take_take,Nat.min_eq_left U]
  refine⟨b,pre.length+i*sz,by rw[oL _ _ _ _ _ _ _ U U];simp,⟨_,_,_,rfl⟩,λH' hH'=>⟨?_,λj y hy=> ?_,λj n hjn=> ?_⟩⟩
  ·rw[qK,hH',h2,rM _ _ _ _ _ (by simp only[aS8];omega)]
   have:=hpart 0 sz U
   rw[Nat.add_zero,List.drop_zero,List.take_of_length_le (l:=el x) U] at this
   rw[this]
  ·have hj:j<sz:=by rw[<-hex];exact(aSW.mp hy).1
   rw[fJ,hH',h2,rK];have:=hpart j 1 U
   have h3:((pre++(xs.map el).flatten++post).drop (pre.length+i*sz+j))[0]? =((el x).drop j)[0]? :=by
    have:=congrArg (·[0]?) this
    simpa[List.getElem?_take] using this
   rw[List.getElem?_drop,List.getElem?_drop,Nat.add_zero,Nat.add_zero,hy] at h3;rw[h3,sZ]
  ·rw[qK,hH',h2,rM _ _ _ _ _ (by simp only[aS8];omega),hpart j n hjn]
theorem wB (x:α)(H:aG):Rr el e (H++[.cells (el x) e .row]) (.slice (some ⟨H.length,0,none⟩) 1 1) [x]:= .inr ⟨H.length,1,.row,[],[],rfl,aS1 _,by simp⟩
end
section
variable {P : Program} {H : aG} {pr : eI} {f : FuncId} {n : Nat} {args : List Value}
theorem dP (hp:pr (.func f)=none)(hn:0<n){Q:aG->Value->Prop}(h: ∃H' u,aR P (lvl P pr (n-1)) (aL (n-1)) f args H=some (u,H')/\Q H' u): ∃H' u,lvl P pr n (.func f) args H=some (u,H')/\Q H' u:=by
 obtain⟨H',u,h1,h2⟩:=h
 exact⟨H',u,aV hp hn h1,h2⟩
theorem iB (hp:pr (.func f)=none)(hn:0<n){Q:aG->Prop}{u:Value}(h: ∃H',aR P (lvl P pr (n-1)) (aL (n-1)) f args H=some (u,H')/\Q H'): ∃H',lvl P pr n (.func f) args H=some (u,H')/\Q H':=by
 obtain⟨H',h1,h2⟩:=h
 exact⟨H',aV hp hn h1,h2⟩
end
def Rs {α:Type}(el:α->List Value)(e:TypeId)(H:aG)(v:Value)(xs:List α):Prop:=
 (v= .slice none 0 0/\xs=[])∨ ∃b o cap,v= .slice (some ⟨b,o,none⟩) xs.length cap/\xs.length<=cap/\
  (xs≠[]-> ∃e' k pre post,pre.length=o/\(k= .row->e'=e)/\H[b]? =some (.cells (pre++(xs.map el).flatten++post) e' k))
section
variable {α : Type} {el : α → List Value} {e : TypeId} {sz : Nat} {H H' : aG} {v w : Value} {xs ys : List α}
theorem Rr.rs (h:Rr el e H v xs):Rs el e H v xs:=by
 rcases h with h|⟨b,cap,k,pre,post,h1,h2,h3⟩
 ·exact .inl h
 ·exact .inr ⟨b,_,cap,h1,h2,λ_=>⟨e,k,pre,post,rfl,λ_=>rfl,h3⟩⟩
theorem Rw.rs (h:Rw el e sz H v xs):Rs el e H v xs:=h.rr.rs
theorem Rs.rr (h:Rs el e H v xs)(hne:xs≠[]): ∃e',Rr el e' H v xs:=by
 rcases h with⟨_,h⟩|⟨b,o,cap,h1,h2,h3⟩
 ·exact absurd h hne
 ·obtain⟨e',k,pre,post,rfl,_,h5⟩:=h3 hne
  exact⟨e',.inr ⟨b,cap,k,pre,post,h1,h2,h5⟩⟩
theorem Rs.fR (h:Rs el e H v xs):cY v=some (.int .i64 xs.length):=by
 rcases h with⟨rfl,rfl⟩|⟨b,o,cap,rfl,_⟩<;>rfl
theorem Rs.aHy (h:Rs el e H v xs):iR v=some xs.length:=by
 rcases h with⟨rfl,rfl⟩|⟨b,o,cap,rfl,_⟩<;>rfl
theorem Rs.D8 (h:Rs el e H v xs)(hk: ∀b,aS v b->b<H.length->H'[b]? =H[b]?):Rs el e H' v xs:=by
 rcases h with h|⟨b,o,cap,rfl,h1,h2⟩
 ·exact .inl h
 ·refine .inr ⟨b,o,cap,rfl,h1,λhne=> ?_⟩
  obtain⟨e',k,pre,post,h3,h4,h5⟩:=h2 hne
  exact⟨e',k,pre,post,h3,h4,by rw[hk b ⟨_,_,_,rfl⟩ (aSW.mp h5).1,h5]⟩
theorem Rs.ext (h:Rs el e H v xs)(he:Ext H H'):Rs el e H' v xs:=h.D8 λb _ hb=>he.2 b hb id
theorem Rs.aHx (hsz: ∀x,(el x).length=sz)(h:Rs el e H v xs):dW sz v xs.length H=some (xs.map el).flatten:=by
 by_cases hne:xs=[]
 ·subst hne
  rcases h with⟨rfl,_⟩|⟨b,o,cap,rfl,_⟩<;>rfl
 ·obtain⟨e',hr⟩:=h.rr hne
  exact hr.Wz hsz
theorem Rs.dS (hsz: ∀x,(el x).length=sz)(h:Rs el e H v xs){i:Nat}{x:α}(hx:xs[i]? =some x)(k:IntKind): ∃b o,cQ sz v (.int k i)=some (.pointer (some ⟨b,o,none⟩))/\aS v b/\
  ∀H':aG,H'[b]? =H[b]? ->ldN sz (.pointer (some ⟨b,o,none⟩)) H'=some (.agg ⟨el x⟩,H')/\
   (∀j y,(el x)[j]? =some y->ld1 (.pointer (some ⟨b,o+j,none⟩)) H'=some (y,H'))/\
   (∀j n,j+n<=sz->ldN n (.pointer (some ⟨b,o+j,none⟩)) H'=some (.agg ⟨((el x).drop j).take n⟩,H')):=by
 obtain⟨e',hr⟩:=h.rr (λh=>by subst h;simp at hx)
 exact hr.aHu hsz hx k
theorem Rs.D9 {P:Program}(hsz: ∀x,(el x).length=sz)(he:P.cellsOf e=sz)(h:Rs el e H v xs)(hne:xs≠[]){l r:Nat}{lo hi:Option Value}(h1:bnd 0 lo=some l)(h2:bnd xs.length hi=some r)(hlr:l<=r)(hr:r<=xs.length):
  ∃v',slc P sz v lo hi none H=some (v',H)/\Rs el e H v' ((xs.take r).drop l)/\ ∀b,aS v' b->aS v b:=by
 have hl:=rO (xs.map el) (tA hsz);have hlen:((xs.take r).drop l).length=r-l:=by simp;omega
 rcases h with⟨_,h⟩|⟨b,o,cap,rfl,h3,h4⟩
 ·exact absurd h hne
 ·obtain⟨e',k,pre,post,rfl,hk,hb⟩:=h4 hne
  refine⟨_,oN (sz:=sz) hb (λh=>by rw[hk h];exact he) h1 h2 rfl hlr U (aS1 _),.inr ⟨b,_,cap-l,by rw[hlen],by rw[hlen];omega,λ_=>⟨e',k,pre++((xs.take l).map el).flatten,((xs.drop r).map el).flatten++post,?_,hk,?_⟩⟩,?_⟩
  ·have hf:=rO ((xs.take l).map el) (tA hsz)
   rw[aTa,List.length_take,Nat.min_eq_left U] at hf
   rw[aS8,hf]
  ·rw[hb]
   have:xs=xs.take l++((xs.take r).drop l++xs.drop r):=by
    conv=>lhs;rw[<-List.take_append_drop l xs]
    congr 1
    have:=List.take_append_drop (r-l) (xs.drop l);rw[aTF,List.take_drop] at this;rw[show l+(r-l)=r by omega] at this
    exact this.symm
   congr 2
   conv=>lhs;rw[this]
   simp only[List.map_append,List.flatten_append,aS3]
  ·rintro b' ⟨o',n,c,hv⟩
   cases hv
   exact⟨_,_,_,rfl⟩
theorem Rw.wC (hsz: ∀x,(el x).length=sz)(hall: ∀x,cA (el x)=true)(h0:0<sz){by':Nat}{e':TypeId}(h:Rw el e sz H v xs)(hw:Rs el e' H w ys)(hr:eF (xs.length+ys.length) by'=true):
  ∃v' H',Go.Abs.app e sz by' v w H=some (v',H')/\Rw el e sz H' v' (xs++ys)/\H.length<=H'.length/\(∀b,b<H.length-> ¬aS v b->H'[b]? =H[b]?)/\(∀b,aS v' b->aS v b∨(H.length<=b/\b<H'.length)):=by
 obtain⟨v',H',h1,h2,h3⟩:=Kw h hw.aHy (hw.aHx hsz) hr (W0 hall ys) h0;refine⟨v',H',h1,?_,h3⟩;unfold Rw;rw[aS8,List.map_append,List.flatten_append];exact h2
theorem Ext.tr {H0 H1 H2:aG}(h:Ext H0 H1)(h':Ext H1 H2):Ext H0 H2:=h.Wr (h'.Av λ_ h=>h.elim)
def New (H0:aG)(v:Value):Prop:= ∀b,aS v b->H0.length<=b
theorem New.iJ (H0:aG):New H0 (.slice none 0 0):=λb ⟨_,_,_,h⟩=>by cases h
theorem Rw.wD (hsz: ∀x,(el x).length=sz)(hall: ∀x,cA (el x)=true)(h0:0<sz){by':Nat}{e':TypeId}{H0:aG}(h:Rw el e sz H v xs)(hw:Rs el e' H w ys)(hn:New H0 v)(he:Ext H0 H)(hr:eF (xs.length+ys.length) by'=true):
  ∃v' H',Go.Abs.app e sz by' v w H=some (v',H')/\Rw el e sz H' v' (xs++ys)/\New H0 v'/\Ext H0 H':=by
 obtain⟨v',H',h1,h2,h3,h4,h5⟩:=h.wC hsz hall h0 hw hr;have hl:=he.1;refine⟨v',H',h1,h2,λb hb=> ?_,⟨by omega,λb hb _=> ?_⟩⟩
 ·rcases h5 b hb with h|⟨h,_⟩
  ·exact hn b h
  ·omega
 ·rw[h4 b U (λh=>by have:=hn b h;omega),he.2 b hb id]
theorem Rw.pM (hsz: ∀x,(el x).length=sz)(hall: ∀x,cA (el x)=true)(h0:0<sz){by':Nat}{H0:aG}(h:Rw el e sz H v xs)(x:α)(hn:New H0 v)(he:Ext H0 H)(hr:eF (xs.length+1) by'=true):
  ∃v' H',Go.Abs.app e sz by' v (.slice (some ⟨H.length,0,none⟩) 1 1) (H++[.cells (el x) e .row])=some (v',H')/\Rw el e sz H' v' (xs++[x])/\New H0 v'/\Ext H0 H':=by
 have hw:Rr el e (H++[.cells (el x) e .row]) (.slice (some ⟨H.length,0,none⟩) 1 1) [x]:=wB (el:=el) x H
 exact(h.uM _).wD hsz hall h0 hw.rs hn (he.Wr (Fr.app _ _ _)) hr
def Apart (H:aG)(u v:Value):Prop:= ∀b,aS u b->b<H.length/\ ¬aS v b
theorem Apart.up {u v':Value}(h:Apart H u v)(hf:Fr (aS v) H H')(hu: ∀b,aS v' b->Up (aS v) H H' b):Apart H' u v':=λb hb=>by
 obtain⟨h1,h2⟩:=h b hb;refine⟨aTb h1 hf.1,λhv=> ?_⟩
 rcases hu b hv with h3|⟨h3,_⟩
 ·exact h2 h3
 ·omega
theorem Rs.aHw {u:Value}(h:Rs el e H u xs)(ha:Apart H u v)(hf:Fr (aS v) H H'):Rs el e H' u xs:=h.D8 λb hb hl=>hf.2 b hl (ha b hb).2
theorem Rw.K1 (hsz: ∀x,(el x).length=sz)(hall: ∀x,cA (el x)=true)(h0:0<sz){by':Nat}{H0:aG}(h:Rw el e sz H v xs)(x:α)(hn:New H0 v)(he:Ext H0 H)(hr:eF (xs.length+1) by'=true):
  ∃v' H',Go.Abs.app e sz by' v (.slice (some ⟨H.length,0,none⟩) 1 1) (H++[.cells (el x) e .row])=some (v',H')/\Rw el e sz H' v' (xs++[x])/\New H0 v'/\Ext H0 H'/\Fr (aS v) H H'/\ ∀b,aS v' b->Up (aS v) H H' b:=by
 have hw:Rr el e (H++[.cells (el x) e .row]) (.slice (some ⟨H.length,0,none⟩) 1 1) [x]:=wB (el:=el) x H;obtain⟨v',H',h1,h2,h3,h4,h5⟩:=(h.uM _).wC hsz hall h0 hw.rs hr;have hl:=he.1;rw[aS8] at h3 h4 h5;simp only[aTi,List.length_nil] at h3 h4 h5;refine⟨v',H',h1,h2,λb hb=> ?_,⟨by omega,λb hb _=> ?_⟩,⟨by omega,λb hb hF=> ?_⟩,λb hb=> ?_⟩
 ·rcases h5 b hb with h|⟨h,_⟩
  ·exact hn b h
  ·omega
 ·rw[h4 b U (λh=>by have:=hn b h;omega),aSZ U,he.2 b hb id]
 ·rw[h4 b U hF,aSZ hb]
 ·rcases h5 b hb with h|⟨h,h'⟩
  ·exact .inl h
  ·exact .inr ⟨by omega,h'⟩
theorem eJ {n k by':Nat}(h:eF n by'=true)(hk:k<=n):eF k by'=true:=by
 unfold eF at*;simp only[aS4,decide_eq_true_eq] at*;refine⟨?_,by omega⟩
 have:(2*k+256)*by'<=(2*n+256)*by':=Nat.mul_le_mul_right _ U
 omega
end
theorem Rw.rT {H:aG}{α:Type}{el:α->List Value}{e:TypeId}{sz:Nat}{v:Value}{xs:List α}(h:Rw el e sz H v xs):v.cells.toList=[v]/\cA [v]=true:=by
 rcases h with⟨_,⟨rfl,_⟩|⟨_,_,_,rfl,_⟩⟩<;>exact⟨rfl,rfl⟩
def inC (n:Int):List Value:=[.int .i64 n]
theorem eM (n:Int):(inC n).length=1:=rfl
theorem mN (n:Int):cA (inC n)=true:=rfl
theorem tB: ∀zs:List Int,(zs.map inC).flatten=zs.map (Value.int .i64)
 |[]=>rfl
 |z::zs=>by rw[aTr,aTw,tB zs];rfl
theorem W4 {e:TypeId}{H H0:aG}{v:Value}{zs:List Int}(h:Rw inC e 1 H v zs)(hl:zs.length<4611686018427387904)(hn:New H0 v)(he:Ext H0 H): ∃H',pK [v] H=some (.tuple #[],H')/\Rw inC e 1 H' v (srt zs)/\Ext H0 H':=by
 obtain⟨hcs,⟨rfl,h0⟩|⟨c,cap,rest,rfl,h1,h2,h3⟩⟩:=h
 ·obtain rfl:=aTe.mp h0
  exact⟨H,rfl,Rw.fE,he⟩
 ·by_cases h0:zs.length=0
  ·obtain rfl:=aTe.mp h0
   exact⟨H,by simp[pK],⟨hcs,.inr ⟨c,cap,rest,rfl,h1,h2,h3⟩⟩,he⟩
  ·rw[tB] at hcs h3
   have hlen:(zs.map (Value.int .i64)).length=zs.length:=aTa _;refine⟨H.set c (.cells ((srt zs).map (Value.int .i64)++rest) e .row),?_,⟨by rw[tB,aTa];simp,.inr ⟨c,cap,rest,?_,?_,?_,?_⟩⟩,⟨by rw[List.length_set];exact he.1,λb hb _=> ?_⟩⟩
   ·unfold pK
    simp only;rw[if_neg h0,h3];simp only;rw[if_pos ⟨by rw[aS8,hlen];omega,hl⟩,List.drop_zero,<-hlen,List.take_left,Wc]
    have:=rR ((srt zs).map (Value.int .i64)) (zs.map (Value.int .i64)) [] rest (by rw[aTa,aTa,pL])
    simp only[List.nil_append,List.length_nil] at this;simp only;rw[this]
   ·rw[pL]
   ·rw[pL];exact h1
   ·rw[pL];exact h2
   ·rw[tB]
    exact aS2 (aSW.mp h3).1
   ·have:c≠b:=λhh=>by
     have:=hn c ⟨_,_,_,rfl⟩;omega
    rw[aSX this,he.2 b hb id]
end Go.Abs
namespace Go.Abs
open M
open Classical
theorem aHD (args:List Value):FrM (λH=>if args.isEmpty=true then some (.bool true,H) else none):=λD H hs v D' h=>by
 dsimp only at h⊢
 split at h
 ·rename_i hc
  try rw[if_pos hc]
  exact jQ hs h
 ·cases h
theorem aHA (ids:List FuncId):FrP (rJ ids):=λf p hf args=>by
 unfold rJ at hf
 split at hf
 ·split at hf
  ·cases hf
   exact aHD args
  ·cases hf
 ·cases hf
theorem aHB (args:List Value):FrM (pK args):=λD H hs v D' h=>by
 unfold pK at h⊢
 split at h
 ·exact jQ hs h
 ·rename_i b o n cap
  try dsimp only
  by_cases hn:n=0
  ·rw[if_pos hn] at h⊢
   exact jQ hs h
  ·rw[if_neg hn] at h⊢
   split at h
   ·rename_i cs e hb
    rw[hs.rP hb]
    dsimp only at h⊢
    split at h
    ·rename_i hc
     rw[if_pos hc]
     split at h
     ·rename_i zs hz
      try rw[hz]
      exact rQ hs hb (λhh=>by cases hh) h
     ·cases h
    ·cases h
   ·cases h
 ·cases h
theorem aHC (ids:List FuncId)(g:FuncId):FrP (oM ids g):=λf p hf args=>by
 unfold oM at hf
 split at hf
 ·split at hf
  ·cases hf
   exact aHB args
  ·exact aHA ids _ p hf args
 ·cases hf
noncomputable def rst (F:Nat->Prop)(H:aG):aG:=H.mapIdx λb x=>if F b then x else Blk.dead
theorem rU (F:Nat->Prop)(H:aG):(rst F H).length=H.length:=by simp[rst]
theorem W9 (F:Nat->Prop)(H:aG)(b:Nat):(rst F H)[b]? =(H[b]?).map λx=>if F b then x else Blk.dead:=by simp[rst]
theorem Aw {F:Nat->Prop}{H:aG}{b:Nat}(hb:F b):(rst F H)[b]? =H[b]? :=by
 rw[W9];cases H[b]? <;>simp[hb]
theorem uN {F:Nat->Prop}{H:aG}{b:Nat}(hb: ¬F b)(hl:b<H.length):(rst F H)[b]? =some Blk.dead:=by
 rw[W9,aSY hl];simp[hb]
theorem Eb (F:Nat->Prop)(H:aG):Sub (rst F H) H:=⟨rU F H,λb x hb hx=>by
 by_cases hF:F b
 ·rw[Aw hF] at hb
  exact hb
 ·have hl:=(aSW.mp hb).1
  rw[rU] at hl;rw[uN hF hl] at hb;cases hb;exact absurd rfl hx⟩
def liv (D:aG)(b:Nat):Prop:= ∃x,D[b]? =some x/\x≠Blk.dead
theorem aHE {D H:aG}(h:Sub D H):D=rst (liv D) H:=by
 apply aTx;intro b;by_cases hb:b<D.length
 ·by_cases hF:liv D b
  ·obtain⟨x,h1,h2⟩:=hF
   rw[Aw ⟨x,h1,h2⟩,h1,h.2 b x h1 h2]
  ·rw[uN hF (by rw[<-h.1];exact hb),aSY hb]
   congr 1
   exact Classical.byContradiction λhh=>hF ⟨_,aSY hb,hh⟩
 ·rw[aS7 U,aS7 (by rw[rU,<-h.1];omega)]
structure Mv (F F':Nat->Prop)(H H':aG):Prop where
 le:H.length<=H'.length
 own: ∀b,F' b->F b∨H.length<=b
 keep: ∀b,b<H.length-> ¬F b->H'[b]? =H[b]?
theorem Mv.W7 (F:Nat->Prop)(H:aG):Mv F F H H:=⟨aS1 _,λ_ h=> .inl h,λ_ _ _=>rfl⟩
theorem Mv.nT {F F1 F2:Nat->Prop}{H H1 H2:aG}(h:Mv F F1 H H1)(h':Mv F1 F2 H1 H2):Mv F F2 H H2:=
 ⟨aTc h.le h'.le,λb hb=>(h'.own b hb).elim (h.own b) λhl=> .inr (aTc h.le hl),
  λb hb hF=>by
   rw[h'.keep b (aTb hb h.le) λhh=>(h.own b hh).elim hF λhl=>by omega,h.keep b hb hF]⟩
theorem Mv.nS {H H':aG}(he:Ext H H')(F:Nat->Prop):Mv F F H H':=⟨he.1,λ_ h=> .inl h,λb hb _=>he.2 b hb id⟩
theorem W8 {P:Program}{pr:eI}(hp:FrP pr){n:Nat}{fn:Fn}{args:List Value}{F:Nat->Prop}{H:aG}{r:Value}{D':aG}(h:lvl P pr n fn args (rst F H)=some (r,D')):
  ∃H' F',lvl P pr n fn args H=some (r,H')/\D'=rst F' H'/\Mv F F' H H'/\ ∀b,F' b->b<H'.length:=by
 obtain⟨H',h1,f1⟩:=Au P hp n fn args _ H (Eb F H) r D' h;have hle:H.length<=H'.length:=by
  have a1:=f1.le;have a2:=f1.sub.1;rw[rU] at a1;omega
 refine⟨H',liv D',h1,aHE f1.sub,⟨hle,λb hb=> ?_,λb hb hF=>f1.keep b (uN hF hb)⟩,λb hb=> ?_⟩
 ·by_cases hF:F b
  ·exact .inl hF
  ·by_cases hl:b<H.length
   ·obtain⟨x,h2,h3⟩:=hb
    rw[f1.dead b (uN hF hl)] at h2;cases h2;exact absurd rfl h3
   ·exact .inr U
 ·obtain⟨x,h2,_⟩:=hb
  have:=(aSW.mp h2).1;rw[f1.sub.1] at this;exact this
def DX (A:aG->Prop):Prop:= ∀D D':aG,A D->Ext D D'->A D'
structure Has (A:aG->Prop)(F:Nat->Prop)(H:aG):Prop where
 at_:A (rst F H)
 lt: ∀b,F b->b<H.length
theorem Has.Ea {A:aG->Prop}{F:Nat->Prop}{H H':aG}(h:Has A F H)(hA:DX A)(hl:H.length<=H'.length)(hk: ∀b,F b->H'[b]? =H[b]?):Has A F H':=by
 refine⟨hA _ _ h.at_ ⟨by rw[rU,rU];exact hl,λb hb _=> ?_⟩,λb hb=>aTb (h.lt b hb) hl⟩
 rw[rU] at hb;by_cases hF:F b
 ·rw[Aw hF,Aw hF,hk b hF]
 ·rw[uN hF hb,uN hF U]
theorem Has.W5 {A:aG->Prop}{F N N':Nat->Prop}{H H':aG}(h:Has A F H)(hA:DX A)(hf:Mv N N' H H')(hd: ∀b,F b-> ¬N b):Has A F H':=
 h.Ea hA hf.le λb hb=>hf.keep b (h.lt b hb) (hd b hb)
def Pos (A:aG->Prop):Prop:= ∀D H,Sub D H->A D->A H
theorem Has.aHz {A:aG->Prop}{F:Nat->Prop}{H:aG}(h:Has A F H)(hA:Pos A):A H:=hA _ _ (Eb F H) h.at_
theorem Has.yZ {P:Program}{pr:eI}(hp:FrP pr){n:Nat}{fn:Fn}{args:List Value}{A:aG->Prop}{B:Value->aG->Prop}{F:Nat->Prop}{H:aG}
  (hc: ∀D,A D-> ∃r D',lvl P pr n fn args D=some (r,D')/\B r D')(h:Has A F H):
  ∃r H' F',lvl P pr n fn args H=some (r,H')/\Has (B r) F' H'/\Mv F F' H H':=by
 obtain⟨r,D',h1,h2⟩:=hc _ h.at_;obtain⟨H',F',h3,rfl,h4,h5⟩:=W8 hp h1
 exact⟨r,H',F',h3,⟨h2,h5⟩,h4⟩
theorem Mv.W6 {F':Nat->Prop}{H H':aG}(h:Mv (λ_=>False) F' H H'):(∀b,F' b->H.length<=b)/\Ext H H':=
 ⟨λb hb=>(h.own b hb).elim False.elim id,⟨h.le,λb hb _=>h.keep b hb id⟩⟩
structure Sep {ι:Type}(A:ι->aG->Prop)(F:ι->Nat->Prop)(H:aG):Prop where
 own: ∀i,Has (A i) (F i) H
 sep: ∀i j b,F i b->F j b->i=j
def Un {ι:Type}(F:ι->Nat->Prop)(b:Nat):Prop:= ∃i,F i b
noncomputable def updI {ι α:Type}(f:ι->α)(i:ι)(x:α)(j:ι):α:=if j=i then x else f j
theorem eV {ι α:Type}(f:ι->α)(i:ι)(x:α):updI f i x i=x:=if_pos rfl
theorem cL {ι α:Type}(f:ι->α){i j:ι}(x:α)(h:j≠i):updI f i x j=f j:=if_neg h
theorem Sep.nU {ι:Type}{A:ι->aG->Prop}{F:ι->Nat->Prop}{H:aG}(h:Sep A F H)(b:Nat)(hb:Un F b):b<H.length:=by
 obtain⟨i,hi⟩:=hb
 exact(h.own i).lt b hi
theorem Sep.K2 {ι:Type}{A:ι->aG->Prop}{F:ι->Nat->Prop}{H H':aG}(h:Sep A F H)(i:ι)(hA: ∀j,j≠i->DX (A j)){B:aG->Prop}{F':Nat->Prop}(hB:Has B F' H')(hf:Mv (F i) F' H H'):
  Sep (updI A i B) (updI F i F') H'/\Mv (Un F) (Un (updI F i F')) H H':=by
 refine⟨⟨λj=> ?_,λj k b hj hk=> ?_⟩,⟨hf.le,λb hb=> ?_,λb hb hF=>hf.keep b hb λhh=>hF ⟨i,hh⟩⟩⟩
 ·by_cases hj:j=i
  ·subst hj
   rw[eV,eV];exact hB
  ·rw[cL _ _ hj,cL _ _ hj]
   exact(h.own j).W5 (hA j hj) hf λb hb hi=>hj (h.sep j i b hb hi)
 ·have key: ∀j b,updI F i F' j b->j≠i-> ¬F' b:=λj b hb hj hb'=>by
   rw[cL _ _ hj] at hb;rcases hf.own b hb' with h1|h1
   ·exact hj (h.sep j i b hb h1)
   ·have:=(h.own j).lt b hb
    omega
  by_cases hji:j=i
  ·by_cases hki:k=i
   ·rw[hji,hki]
   ·exact absurd (by rw[hji,eV] at hj;exact hj) (key k b hk hki)
  ·by_cases hki:k=i
   ·exact absurd (by rw[hki,eV] at hk;exact hk) (key j b hj hji)
   ·rw[cL _ _ hji] at hj
    rw[cL _ _ hki] at hk;exact h.sep j k b hj hk
 ·obtain⟨j,hj⟩:=hb
  by_cases hji:j=i
  ·rw[hji,eV] at hj
   exact(hf.own b hj).imp (λh=>⟨i,h⟩) id
  ·rw[cL _ _ hji] at hj
   exact .inl ⟨j,hj⟩
theorem Sep.wF {ι:Type}{A:ι->aG->Prop}{F:ι->Nat->Prop}{N N':Nat->Prop}{H H':aG}(h:Sep A F H)(hA: ∀j,DX (A j))(hf:Mv N N' H H')(hd: ∀b,Un F b-> ¬N b):Sep A F H':=
 ⟨λi=>(h.own i).W5 (hA i) hf λb hb=>hd b ⟨i,hb⟩,h.sep⟩
theorem Sep.ext {ι:Type}{A:ι->aG->Prop}{F:ι->Nat->Prop}{H H':aG}(h:Sep A F H)(hA: ∀j,DX (A j))(he:Ext H H'):Sep A F H':=
 h.wF hA (Mv.nS he (λ_=>False)) λ_ _ hh=>hh
theorem Sep.wE {ι:Type}{A A':ι->aG->Prop}{F:ι->Nat->Prop}{H:aG}(h:Sep A F H)(he: ∀i D,A i D->A' i D):Sep A' F H:=
 ⟨λi=>⟨he i _ (h.own i).at_,(h.own i).lt⟩,h.sep⟩
end Go.Abs
namespace Go.Abs
open M
variable {P : Program}
theorem Ax (k:IntKind)(hk:k.signed=false)(n:Int):k.wrap n=n%2 ^ k.bits:=by simp[IntKind.wrap,hk]
theorem Az (n:Int):IntKind.u8.wrap n=n%256:=Ax .u8 rfl n
theorem Ay (n:Int):IntKind.u16.wrap n=n%65536:=Ax .u16 rfl n
theorem rW (n:Int):IntKind.u64.wrap n=n%18446744073709551616:=Ax .u64 rfl n
theorem K5 {n:Int}(h0:0<=n)(h1:n<65536):IntKind.u16.wrap n=n:=by rw[Ay,Int.emod_eq_of_lt h0 h1]
theorem aHH {n:Int}(h0:0<=n)(h1:n<18446744073709551616):IntKind.u64.wrap n=n:=by rw[rW,Int.emod_eq_of_lt h0 h1]
theorem rV {n a:Nat}(h:a<2 ^ n):(BitVec.ofInt n (a:Int)).toNat=a:=by
 rw[BitVec.ofInt_natCast,BitVec.toNat_ofNat,aTu h]
theorem Eh (k:IntKind)(hk:k.signed=false)(x:BitVec k.bits):k.wrap (x.toNat:Int)=x.toNat:=by
 have h1:=x.isLt;rw[Ax k hk,Int.emod_eq_of_lt U (by exact_mod_cast h1)]
theorem wG (k:IntKind)(hk:k.signed=false)(t:TypeId){a b:Nat}(ha:a<2 ^ k.bits)(hb:b<2 ^ k.bits):bin P .and t (.int k a) (.int k b)=some (.int k ((a&&&b:Nat):Int)):=by
 have e:=Eh k hk (BitVec.ofInt k.bits (a:Int)&&&BitVec.ofInt k.bits (b:Int));rw[BitVec.toNat_and,rV ha,rV hb] at e;simp[bin,cK,eT,pur,binOp,Op.intBits,pure,Int.natCast_inj];rw[aTu ha,aTu hb,e]
theorem K4 (k:IntKind)(hk:k.signed=false)(t:TypeId){a b:Nat}(ha:a<2 ^ k.bits)(hb:b<2 ^ k.bits):bin P .or t (.int k a) (.int k b)=some (.int k ((a|||b:Nat):Int)):=by
 have e:=Eh k hk (BitVec.ofInt k.bits (a:Int)|||BitVec.ofInt k.bits (b:Int));rw[BitVec.toNat_or,rV ha,rV hb] at e;simp[bin,cK,eT,pur,binOp,Op.intBits,pure];rw[aTu ha,aTu hb,e]
theorem Xb (k:IntKind)(hk:k.signed=false)(t:TypeId){a b:Nat}(ha:a<2 ^ k.bits)(hb:b<2 ^ k.bits):bin P .xor t (.int k a) (.int k b)=some (.int k ((a^^^b:Nat):Int)):=by
 have e:=Eh k hk (BitVec.ofInt k.bits (a:Int)^^^BitVec.ofInt k.bits (b:Int));rw[BitVec.toNat_xor,rV ha,rV hb] at e;simp[bin,cK,eT,pur,binOp,Op.intBits,pure];rw[aTu ha,aTu hb,e]
def iK (a b:Nat):Nat:=a^^^(a&&&b)
theorem K3 (a b i:Nat):(iK a b).testBit i=(a.testBit i&& !b.testBit i):=by
 simp only[iK,Nat.testBit_xor,Nat.testBit_and];cases a.testBit i<;>cases b.testBit i<;>rfl
theorem Xa (k:IntKind)(hk:k.signed=false)(t:TypeId){a b:Nat}(ha:a<2 ^ k.bits)(hb:b<2 ^ k.bits):bin P .andNot t (.int k a) (.int k b)=some (.int k ((iK a b:Nat):Int)):=by
 have e:=Eh k hk (BitVec.ofInt k.bits (a:Int)&&& ~~~BitVec.ofInt k.bits (b:Int));have e1:(BitVec.ofInt k.bits (a:Int)&&& ~~~BitVec.ofInt k.bits (b:Int))=(BitVec.ofInt k.bits (a:Int)^^^(BitVec.ofInt k.bits (a:Int)&&&BitVec.ofInt k.bits (b:Int))):=by
  apply BitVec.eq_of_getLsbD_eq;intro i hi;simp only[BitVec.getLsbD_and,BitVec.getLsbD_not,BitVec.getLsbD_xor,hi,decide_true,aTj];cases (BitVec.ofInt k.bits (a:Int)).getLsbD i<;>cases (BitVec.ofInt k.bits (b:Int)).getLsbD i<;>rfl
 rw[e1,BitVec.toNat_xor,BitVec.toNat_and,rV ha,rV hb] at e;have e2:bin P .andNot t (.int k (a:Int)) (.int k b)=some (.int k (k.wrap ((BitVec.ofInt k.bits (a:Int)&&& ~~~BitVec.ofInt k.bits (b:Int)).toNat:Int))):=by
  simp[bin,cK,eT,pur,binOp,Op.intBits,pure]
 rw[e2,e1,BitVec.toNat_xor,BitVec.toNat_and,rV ha,rV hb,e];rfl
theorem aHF (k k':IntKind)(t:TypeId)(a n:Int)(hn:0<=n):bin P .shl t (.int k a) (.int k' n)=some (.int k (k.wrap (a*2 ^ (min n.toNat k.bits)))):=by
 have: ¬n<0:=U
 simp[bin,cK,eT,pur,binOp,Op.shift,pure,this]
theorem aHG (k k':IntKind)(t:TypeId)(a n:Int)(hn:0<=n):bin P .shr t (.int k a) (.int k' n)=some (.int k (a.fdiv (2 ^ (min n.toNat k.bits)))):=by
 have: ¬n<0:=U
 simp[bin,cK,eT,pur,binOp,Op.shift,pure,this]
theorem Ee (k k':IntKind)(t:TypeId)(a n:Nat)(hn:n<=k.bits):bin P .shr t (.int k a) (.int k' n)=some (.int k ((a>>>n:Nat):Int)):=by
 rw[aHG k k' t _ _ U]
 have h1:min (n:Int).toNat k.bits=n:=by simp[hn]
 rw[h1,Nat.shiftRight_eq_div_pow]
 congr 2
 rw[Int.fdiv_eq_ediv_of_nonneg _ (by exact_mod_cast Nat.zero_le _)]
 norm_cast
theorem Ec (k k':IntKind)(hk:k.signed=false)(t:TypeId)(a n:Nat)(hn:n<=k.bits):bin P .shl t (.int k a) (.int k' n)=some (.int k ((a*2 ^ n%2 ^ k.bits:Nat):Int)):=by
 rw[aHF k k' t _ _ U,Ax k hk]
 have h1:min (n:Int).toNat k.bits=n:=by simp[hn]
 rw[h1]
 norm_cast
def fF (p:Nat->Bool)(fr n:Nat):Option Nat:=((List.range n).map λk=>(fr+k)%n).find? p
theorem uO {p:Nat->Bool}{fr n i:Nat}(h:fF p fr n=some i):i<n/\p i=true:=by
 unfold fF at h;have h1:=List.find?_some h;have h2:=List.mem_of_find?_eq_some h;rw[aTz] at h2;obtain⟨k,hk,rfl⟩:=h2;rw[aTA] at hk
 exact⟨Nat.mod_lt _ U,h1⟩
theorem Ej {p:Nat->Bool}{fr n:Nat}:fF p fr n=none↔ ∀i,i<n->p i=false:=by
 unfold fF;rw[List.find?_eq_none];constructor
 ·intro h i hi
  have:i∈(List.range n).map λk=>(fr+k)%n:=by
   rw[aTz];refine⟨(i+n-fr%n)%n,aTA.mpr (Nat.mod_lt _ U),?_⟩
   have h1:fr%n<n:=Nat.mod_lt _ U
   rw[Nat.add_mod_mod,<-Nat.mod_add_mod,show fr%n+(i+n-fr%n)=i+n by omega,Nat.add_mod_right,aTu hi]
  simpa using h i this
 ·intro h x hx
  rw[aTz] at hx;obtain⟨k,hk,rfl⟩:=hx;rw[aTA] at hk;rw[h _ (Nat.mod_lt _ U)]
  simp
theorem Ei {p q:Nat->Bool}{fr n:Nat}(h: ∀i,i<n->p i=q i):fF p fr n=fF q fr n:=by
 unfold fF;have key: ∀l:List Nat,(∀x∈l,x<n)->l.find? p=l.find? q:=by
  intro l;induction l with
  |nil=>intro _;rfl
  |cons x l ih=>
   intro hl;rw[List.find?_cons,List.find?_cons,h x (hl x (aS5 ..)),ih λy hy=>hl y (aTd _ hy)]
 refine key _ λx hx=> ?_
 rw[aTz] at hx;obtain⟨k,hk,rfl⟩:=hx;rw[aTA] at hk;exact Nat.mod_lt _ U
theorem aHN {p:Nat->Bool}{fr n:Nat}(hf:fr<n):fF p fr n=((List.range n).find? λi=>p i&&decide (fr<=i)).or ((List.range n).find? p):=by
 have e:(List.range n).map (λk=>(fr+k)%n)=(List.range' fr (n-fr))++List.range fr:=by
  apply List.ext_getElem
  ·simp;omega
  ·intro i h1 h2
   simp only[aTa,aTq] at h1;rw[List.getElem_map,List.getElem_range];by_cases hi:i<n-fr
   ·rw[List.getElem_append_left (by simpa using hi),List.getElem_range',aTu U]
    omega
   ·rw[List.getElem_append_right (by simpa using hi),List.getElem_range,List.length_range']
    rw[show fr+i=(i-(n-fr))+n by omega,Nat.add_mod_right,aTu U]
 have e2:List.range n=List.range fr++List.range' fr (n-fr):=by
  apply List.ext_getElem
  ·simp;omega
  ·intro i h1 h2
   rw[List.getElem_range];by_cases hi:i<fr
   ·rw[List.getElem_append_left (by simpa using hi),List.getElem_range]
   ·rw[List.getElem_append_right (by simpa using hi),List.getElem_range',aTq]
    omega
 have k1:(List.range fr).find? (λi=>p i&&decide (fr<=i))=none:=by
  rw[List.find?_eq_none];intro x hx;rw[aTA] at hx;simp;intro _;omega
 have k2:(List.range' fr (n-fr)).find? (λi=>p i&&decide (fr<=i))=(List.range' fr (n-fr)).find? p:=by
  have key: ∀l:List Nat,(∀x∈l,fr<=x)->l.find? (λi=>p i&&decide (fr<=i))=l.find? p:=by
   intro l;induction l with
   |nil=>intro _;rfl
   |cons x l ih=>
    intro hl;rw[List.find?_cons,List.find?_cons,aTG (hl x (aS5 ..)),Bool.and_true,ih λy hy=>hl y (aTd _ hy)]
  refine key _ λx hx=> ?_
  rw[List.mem_range'] at hx;obtain⟨i,_,rfl⟩:=hx;omega
 unfold fF;rw[e,List.find?_append,e2,List.find?_append,List.find?_append,k1,Option.none_or,k2];cases (List.range' fr (n-fr)).find? p with
 |some x=>rfl
 |none=>simp
def iS (req:Nat->Nat->Bool)(m:List Int)(G:List Nat)(n out:Nat):Option Nat:=
 if(out:Int)∈m then none else fF (λi=>decide (m.getD i 0= -1)&&req i out) (G.getD out 0) n
structure Mat where
 m:List Int
 g:List Nat
 a:List Nat
deriving DecidableEq
def acc (gr:Nat->Option Nat)(n:Nat)(first:Bool)(s:Mat)(i:Nat):Mat:=
 if s.m.getD i 0= -1 then
  match fF (λk=>gr k==some i) (s.a.getD i 0) n with
  |none=>s
  |some k=>⟨s.m.set i (k:Int),if first=true then s.g.set k ((i+1)%n) else s.g,if first=true then s.a.set i ((k+1)%n) else s.a⟩
 else s
def rnd (req:Nat->Nat->Bool)(n:Nat)(first:Bool)(s:Mat):Mat:=(List.range n).foldl (acc (iS req s.m s.g n) n first) s
def tC (req:Nat->Nat->Bool)(n:Nat):Nat->Mat->Mat
 |0,s=>s
 |k+1,s=>tC req n k (rnd req n false s)
def jV (req:Nat->Nat->Bool)(n rounds:Nat)(g a:List Nat):Mat:=tC req n (rounds-1) (rnd req n true ⟨List.replicate n (-1),g,a⟩)
theorem aHJ (gr:Nat->Option Nat)(n:Nat)(first:Bool)(s:Mat)(i:Nat):(acc gr n first s i).m.length=s.m.length/\(acc gr n first s i).g.length=s.g.length/\(acc gr n first s i).a.length=s.a.length:=by
 unfold acc;split
 ·split
  ·exact⟨rfl,rfl,rfl⟩
  ·cases first<;>simp
 ·exact⟨rfl,rfl,rfl⟩
theorem aHL {gr:Nat->Option Nat}{n:Nat}{first:Bool}{s:Mat}{i:Nat}(hi:i<s.m.length)(h:(acc gr n first s i).m=s.m):acc gr n first s i=s:=by
 unfold acc at h⊢;split
 ·rename_i hc
  rw[if_pos hc] at h;split
  ·rfl
  ·rename_i k hk
   rw[hk] at h
   dsimp only at h
   have:(s.m.set i (k:Int)).getD i 0=s.m.getD i 0:=by rw[h]
   rw[hc,aS0,aS2 hi,aTp] at this;omega
 ·rfl
theorem K6 {gr:Nat->Option Nat}{n:Nat}{first:Bool}{s:Mat}{i:Nat}(hi:i<s.m.length):acc gr n first s i=s∨(acc gr n first s i).m.getD i 0≠ -1/\s.m.getD i 0= -1:=by
 unfold acc;split
 ·rename_i hc
  split
  ·exact .inl rfl
  ·rename_i k hk
   refine .inr ⟨?_,hc⟩
   dsimp only
   rw[aS0,aS2 hi,aTp];omega
 ·exact .inl rfl
theorem aHK {gr:Nat->Option Nat}{n:Nat}{first:Bool}{s:Mat}{i j:Nat}(hj:j≠i):(acc gr n first s i).m.getD j 0=s.m.getD j 0:=by
 unfold acc;split
 ·split
  ·rfl
  ·dsimp only
   rw[aS0,aSX (λh=>hj h.symm),<-aS0]
 ·rfl
theorem A4 {gr:Nat->Option Nat}{n:Nat}{first:Bool}{j:Nat}: ∀(l:List Nat)(s:Mat),j∉l->(l.foldl (acc gr n first) s).m.getD j 0=s.m.getD j 0
 |[],s,_=>rfl
 |i::l,s,h=>by
  rw[List.foldl_cons,A4 l _ λhh=>h (aTd _ hh),aHK λhh=>h (by rw[hh];exact aS5 ..)]
theorem Xc {gr:Nat->Option Nat}{n:Nat}{first:Bool}: ∀(l:List Nat)(s:Mat),l.Nodup->(∀i∈l,i<s.m.length)->(l.foldl (acc gr n first) s).m=s.m->l.foldl (acc gr n first) s=s
 |[],s,_,_,_=>rfl
 |i::l,s,hn,hl,h=>by
  rw[List.foldl_cons] at h⊢;have hi:=hl i (aS5 ..);rw[List.nodup_cons] at hn;rcases K6 (gr:=gr) (n:=n) (first:=first) (s:=s) hi with h1|⟨h1,h2⟩
  ·rw[h1] at h⊢
   exact Xc l s hn.2 (λj hj=>hl j (aTd _ hj)) h
  ·have h3:=A4 (gr:=gr) (n:=n) (first:=first) (j:=i) l (acc gr n first s i) hn.1
   rw[h] at h3;exact absurd (h3.symm.trans h2) h1
theorem aSS {req:Nat->Nat->Bool}{n:Nat}{first:Bool}{s:Mat}(hl:n<=s.m.length)(h:(rnd req n first s).m=s.m):rnd req n first s=s:=
 Xc _ _ List.nodup_range (λi hi=>by rw[aTA] at hi;omega) h
theorem aHI {gr:Nat->Option Nat}{n:Nat}{s:Mat}{i:Nat}(f f':Bool):(acc gr n f s i).m=(acc gr n f' s i).m:=by
 unfold acc;split
 ·split<;>rfl
 ·rfl
theorem aHM {gr:Nat->Option Nat}{n:Nat}{f:Bool}{s:Mat}{i:Nat}(hi:i<s.m.length)(f':Bool)(h:acc gr n f s i=s):acc gr n f' s i=s:=
 aHL hi ((aHI f' f).trans (by rw[h]))
theorem Xd {gr:Nat->Option Nat}{n:Nat}{f:Bool}(f':Bool): ∀(l:List Nat)(s:Mat),l.Nodup->(∀i∈l,i<s.m.length)->l.foldl (acc gr n f) s=s->l.foldl (acc gr n f') s=s
 |[],s,_,_,_=>rfl
 |i::l,s,hn,hl,h=>by
  rw[List.foldl_cons] at h⊢;have hi:=hl i (aS5 ..);rw[List.nodup_cons] at hn;rcases K6 (gr:=gr) (n:=n) (first:=f) (s:=s) hi with h1|⟨h1,h2⟩
  ·rw[h1] at h
   rw[aHM hi f' h1];exact Xd f' l s hn.2 (λj hj=>hl j (aTd _ hj)) h
  ·have h3:=A4 (gr:=gr) (n:=n) (first:=f) (j:=i) l (acc gr n f s i) hn.1
   rw[h] at h3;exact absurd (h3.symm.trans h2) h1
theorem aHO {req:Nat->Nat->Bool}{n:Nat}{f:Bool}{s:Mat}(hl:n<=s.m.length)(f':Bool)(h:rnd req n f s=s):rnd req n f' s=s:=
 Xd f' _ _ List.nodup_range (λi hi=>by rw[aTA] at hi;omega) h
structure Whl where
 l:List Int
 fr:Nat
deriving DecidableEq
def lL (may:Nat->Bool)(n:Nat):Bool:=(List.range n).any may
def kG (l:List Int)(may:Nat->Bool)(i:Nat):Bool:=may i&&decide (0<l.getD i 0)
def iT (W:List Int)(s:Whl)(may:Nat->Bool):List Int:=if lL (kG s.l may) W.length=true then s.l else W
def fZ (W:List Int)(s:Whl)(may:Nat->Bool):Option Nat×Whl:=
 if lL may W.length=true then
  match fF (kG (iT W s may) may) s.fr W.length with
  |some i=>(some i,⟨(iT W s may).set i ((iT W s may).getD i 0-1),(i+1)%W.length⟩)
  |none=>(none,s)
 else(none,s)
theorem wH {may:Nat->Bool}{n:Nat}:lL may n=true↔ ∃i,i<n/\may i=true:=by
 simp[lL,List.any_eq_true]
theorem Xe {W:List Int}{s:Whl}{may:Nat->Bool}(hW: ∀x∈W,0<x)(h:lL may W.length=true): ∃i,fF (kG (iT W s may) may) s.fr W.length=some i/\i<W.length/\may i=true/\0<(iT W s may).getD i 0:=by
 cases hp:fF (kG (iT W s may) may) s.fr W.length with
 |some i=>
  have h1:=uO hp;have h2:=h1.2;unfold kG at h2;rw[aS4,decide_eq_true_eq] at h2
  exact⟨i,rfl,h1.1,h2.1,h2.2⟩
 |none=>
  rw[Ej] at hp;exfalso;unfold iT at hp;by_cases hc:lL (kG s.l may) W.length=true
  ·rw[if_pos hc] at hp
   obtain⟨i,h1,h2⟩:=wH.mp hc;rw[hp i h1] at h2;cases h2
  ·rw[if_neg hc] at hp
   obtain⟨i,h1,h2⟩:=wH.mp h;have h3:=hp i h1;unfold kG at h3;rw[h2,aTj,decide_eq_false_iff_not,aS0,aSY h1] at h3;exact h3 (hW _ (List.getElem_mem h1))
def cC (p:Nat->Bool):Nat->Nat
 |0=>0
 |n+1=>cC p n+if p n=true then 2 ^ n else 0
theorem A5 (p:Nat->Bool): ∀n,cC p n<2 ^ n
 |0=>by simp[cC]
 |n+1=>by
  have:=A5 p n;rw[cC,Nat.pow_succ]
  split<;>omega
theorem iC (p:Nat->Bool)(i:Nat): ∀n,(cC p n).testBit i=(decide (i<n)&&p i)
 |0=>by simp[cC]
 |n+1=>by
  have hl:=A5 p n;have ih:=iC p i n;rw[cC];by_cases hp:p n=true
  ·rw[if_pos hp,Nat.add_comm]
   by_cases hi:i=n
   ·subst hi
    rw[Nat.testBit_two_pow_add_eq,Nat.testBit_lt_two_pow hl];simp[hp]
   ·by_cases hlt:i<n
    ·rw[Nat.testBit_two_pow_add_gt hlt,ih]
     simp[hlt,show i<n+1 by omega]
    ·rw[Nat.testBit_lt_two_pow]
     ·simp[show¬i<n+1 by omega]
     ·have:2 ^ (n+1)<=2 ^ i:=Nat.pow_le_pow_right U U
      rw[Nat.pow_succ] at this;omega
  ·rw[if_neg hp,Nat.add_zero,ih]
   by_cases hi:i=n
   ·subst hi
    simp[hp]
   ·by_cases hlt:i<n
    ·simp[hlt,show i<n+1 by omega]
    ·simp[hlt,show¬i<n+1 by omega]
theorem Ek {p q:Nat->Bool}: ∀{n:Nat},(∀i,i<n->p i=q i)->cC p n=cC q n
 |0,_=>rfl
 |n+1,h=>by rw[cC,cC,Ek λi hi=>h i U,h n U]
theorem aHS {p:Nat->Bool}{n:Nat}:cC p n=0↔ ∀i,i<n->p i=false:=by
 constructor
 ·intro h i hi
  have:=iC p i n;rw[h] at this;simp[hi] at this;exact this
 ·intro h
  rw[Ek (q:=λ_=>false) h]
  have: ∀n,cC (λ_=>false) n=0:=by
   intro n;induction n with
   |zero=>rfl
   |succ n ih=>simp[cC,ih]
  exact this n
theorem Xg (m i j:Nat):(m|||2 ^ i).testBit j=(m.testBit j||decide (i=j)):=by rw[Nat.testBit_or,Nat.testBit_two_pow]
theorem El {i:Nat}(hi:i<16):2 ^ i<65536:=Nat.pow_lt_pow_right (a:=2) (m:=i) (n:=16) U hi
def pN (m fr n:Int):Int:=
 if n<1∨16<n∨fr<0∨n<=fr then -1 else match fF (λi=>m.toNat.testBit i) fr.toNat n.toNat with
  |some i=>(i:Int)
  |none=> -1
def rX (args:List Value)(H:aG):Option (Value×aG):=
 match args with
 |[.int .u16 m,.int .i64 fr,.int .i64 n]=>if 0<=m/\m<65536 then some (.int .i64 (pN m fr n),H) else none
 |_=>none
theorem aHQ (args:List Value):FrM (rX args):=λD H hs v D' h=>by
 unfold rX at h⊢
 split at h
 ·split at h
  ·rename_i hc
   rw[if_pos hc];exact jQ hs h
  ·cases h
 ·cases h
theorem K7 {m fr n:Nat}(hm:m<65536)(hn:n<=16)(hf:fr<n)(H:aG):
  rX [.int .u16 m,.int .i64 fr,.int .i64 n] H=some (.int .i64 (match fF (λi=>m.testBit i) fr n with|some i=>(i:Int)|none=> -1),H):=by
 unfold rX;simp only;rw[if_pos U]
 unfold pN;rw[if_neg U]
 simp only[aTo]
def uP:List Value->Option (List Nat)
 |[]=>some []
 | .int .u16 z::vs=>if 0<=z/\z<65536 then(uP vs).map (z.toNat:: ·) else none
 |_=>none
theorem Xh: ∀zs:List Nat,(∀z∈zs,z<65536)->uP (zs.map λz:Nat=>Value.int .u16 (z:Int))=some zs
 |[],_=>rfl
 |z::zs,h=>by
  have h1:=h z (aS5 ..);rw[aTr,uP,if_pos U,Xh zs λy hy=>h y (aTd _ hy)]
  simp
theorem Xi: ∀(vs:List Value)(zs:List Nat),uP vs=some zs->vs=zs.map (λz:Nat=>Value.int .u16 (z:Int))/\ ∀z∈zs,z<65536
 |[],zs,h=>by
  simp only[uP,aTn] at h;subst h
  exact⟨rfl,by simp⟩
 |v::vs,zs,h=>by
  unfold uP at h
  split at h
  ·cases ‹_=[]›
  ·rename_i z vs' he
   cases he
   split at h
   ·rename_i hc
    cases hv:uP vs with
    |none=>rw[hv] at h;cases h
    |some ys=>
     rw[hv] at h;simp only[Option.map_some,aTn] at h;subst h;obtain⟨h1,h2⟩:=Xi vs ys hv;have e:((z.toNat:Nat):Int)=z:=Int.toNat_of_nonneg hc.1;refine⟨by rw[aTr,e,<-h1],λy hy=> ?_⟩
     rcases aTf.mp hy with rfl|hy
     ·omega
     ·exact h2 y hy
   ·cases h
  ·cases h
def fK (rows:List Nat)(n:Nat):List Nat:=(List.range n).map λk=>cC (λi=>(rows.getD i 0).testBit k) rows.length
theorem aHP (rows:List Nat)(n:Nat):(fK rows n).length=n:=by simp[fK]
def tD (t:TypeId)(args:List Value)(H:aG):Option (Value×aG):=
 match args with
 |[.slice (some ⟨b,o,none⟩) len cap,.int .i64 n]=>
  if 1<=n/\n<=16/\1<=len/\len<=16 then
   match H[b]? with
   |some (.cells cs e k)=>
    if o+len<=cs.length then
     match uP ((cs.drop o).take len) with
     |some rows=>some (.slice (some ⟨H.length,0,none⟩) n.toNat n.toNat,H++[.cells ((fK rows n.toNat).map λz:Nat=> .int .u16 (z:Int)) t .row])
     |none=>none
    else none
   |_=>none
  else none
 |_=>none
theorem aHR (t:TypeId)(args:List Value):FrM (tD t args):=λD H hs v D' h=>by
 unfold tD at h⊢
 split at h
 ·rename_i b o len cap n
  try dsimp only
  split at h
  ·rename_i hc
   rw[if_pos hc]
   split at h
   ·rename_i cs e k hb
    rw[hs.rP hb]
    try dsimp only
    split at h
    ·rename_i hc2
     rw[if_pos hc2]
     split at h
     ·rename_i rows hr
      try rw[hr]
      rw[<-hs.1];exact D4 hs h
     ·cases h
    ·cases h
   ·cases h
  ·cases h
 ·cases h
def oO (g:FuncId)(p:List Value->aG->Option (Value×aG))(pr:eI):eI:=λf=>match f with
 | .func k=>if k=g then some p else pr (.func k)
 |_=>none
theorem Xj {g:FuncId}{p:List Value->aG->Option (Value×aG)}{pr:eI}:oO g p pr (.func g)=some p:=by simp[oO]
theorem A6 {g k:FuncId}{p:List Value->aG->Option (Value×aG)}{pr:eI}(h:(k==g)=false):oO g p pr (.func k)=pr (.func k):=by
 have:k≠g:=by simpa using h
 simp[oO,this]
theorem Xf {g:FuncId}{p:List Value->aG->Option (Value×aG)}{pr:eI}(hp: ∀args,FrM (p args))(hpr:FrP pr):FrP (oO g p pr):=λf q hf args=>by
 unfold oO at hf
 split at hf
 ·split at hf
  ·cases hf
   exact hp args
  ·exact hpr _ q hf args
 ·cases hf
end Go.Abs
namespace Go.Proofs.YtciiopkbmjppfaaGreatDoor
open Go.Proofs.Tryz
open Go Go.RowKit Go.Shelf
attribute [local go_sem] Oper.semAt_some
theorem aHT {a b:Nat}(ha:a<65536):Abs.iK a b<65536:=by
 unfold Abs.iK;exact Nat.xor_lt_two_pow (n:=16) ha (Nat.lt_of_le_of_lt Nat.and_le_left ha)
theorem aHU (a b:Nat)(ha:a<65536)(hb:b<65536):bits .andNot .u16 (a:Int) (b:Int)=((Abs.iK a b:Nat):Int):=by
 have h:=Abs.Xa (P:=prog) .u16 rfl 0 (a:=a) (b:=b) ha hb;have e2:Abs.bin prog .andNot 0 (.int .u16 (a:Int)) (.int .u16 b)=some (.int .u16 (bits .andNot .u16 (a:Int) (b:Int))):=by
  simp[Abs.bin,Abs.cK,Abs.eT,Abs.pur,binOp,Op.intBits,pure,bits]
 rw[e2] at h;injection h with h;injection h with _ h
def PkI (N:Nat)(w:World)(D:Option Nat)(W:World):Prop:=W.cell? ⟨N,0,none⟩=some (.I 0)/\W.frozen? ⟨N,0,none⟩=false/\Below N w W/\ ∀d,D=some d->W.heap[d]? =some (.deferred (some []))
def PkX (N:Nat)(w:World)(D:Option Nat)(c:Code)(pre:List Nat)(W:World):Prop:=c= .ret/\(∃k:Nat,pre=[k]/\W.cell? ⟨N,0,none⟩=some (.I k))/\W.frozen? ⟨N,0,none⟩=false/\Below N w W/\ ∀d,D=some d->W.heap[d]? =some (.deferred (some []))
theorem Xo {N:Nat}{w:World}{D:Option Nat}{B:Nat}(hN:N<=w.heap.size)(hB:N<B)(hD: ∀d,D=some d->d<B):OwnFrom B (λ(pre:List Nat) W=>pre=[]/\PkI N w D W):=by
 rintro s A C row ⟨h0,h1,h2,h3,h4⟩ hg hr
 refine⟨h0,cell_kept h1 hg λr e=>(hr r e).2,(frozen_kept h1 hg λr e=>(hr r e).2).trans h2,h3.grown hg (aTc hN h3.size) (λk e=>aTc U (hr k e).1),λd hd=> ?_⟩
 have:=h4 d hd
 exact(hg.block d (aTl.1 this).1 (λe=>by have:=(hr d e.symm).1;have:=hD d hd;omega)).trans this
theorem Xp {N:Nat}{w:World}{D:Option Nat}{B:Nat}{c:Code}(hN:N<=w.heap.size)(hB:N<B)(hD: ∀d,D=some d->d<B):OwnFrom B (PkX N w D c):=by
 rintro s A C row ⟨h0,⟨k,hk,h1⟩,h2,h3,h4⟩ hg hr
 refine⟨h0,⟨k,hk,cell_kept h1 hg λr e=>(hr r e).2⟩,(frozen_kept h1 hg λr e=>(hr r e).2).trans h2,h3.grown hg (aTc hN h3.size) (λk e=>aTc U (hr k e).1),λd hd=> ?_⟩
 have:=h4 d hd
 exact(hg.block d (aTl.1 this).1 (λe=>by have:=(hr d e.symm).1;have:=hD d hd;omega)).trans this
theorem PkI.Xk {N:Nat}{w:World}{D:Option Nat}{W:World}{B:Nat}(v:Value)(hB:N<B)(h:PkI N w D W):PkI N w D (W.setCell ⟨B,0,none⟩ v):=by
 obtain⟨h1,h2,h3,h4⟩:=h;refine⟨(World.cell?_setCell_other _ _ _ _ (λe=>by injection e with e;omega)).trans h1,(World.frozen?_setCell _ _ _ _).trans h2,h3.setCell (p:=⟨B,0,none⟩) (by show N<=B;omega) _,λd hd=>(KeepsOthers.setCell W ⟨B,0,none⟩ v).same d _ (h4 d hd) rfl⟩
theorem PkI.Xl {N:Nat}{w:World}{D:Option Nat}{W:World}{k:Nat}(h:PkI N w D W):PkX N w D .ret [k] (W.setCell ⟨N,0,none⟩ (.I k)):=by
 obtain⟨h1,h2,h3,h4⟩:=h;refine⟨rfl,⟨k,rfl,World.cell?_setCell_same' _ _ _ (by rw[h1];rfl)⟩,(World.frozen?_setCell _ _ _ _).trans h2,h3.setCell (p:=⟨N,0,none⟩) (aS1 _) _,λd hd=>(KeepsOthers.setCell W ⟨N,0,none⟩ _).same d _ (h4 d hd) rfl⟩
theorem Xm {p q:Nat->Bool}{n:Nat}(h: ∀i,i<n->p i=q i):(List.range n).find? p=(List.range n).find? q:=by
 cases hq:(List.range n).find? q with
 |none=>
  rw[List.find?_eq_none] at hq⊢;intro k hk;rw[h k (aTA.mp hk)];exact hq k hk
 |some k=>
  rw[List.find?_range_eq_some] at hq⊢;obtain⟨h1,h2,h3⟩:=hq;have hk:=aTA.mp h2
  exact⟨(h k hk).trans h1,h2,λj hj=>by rw[h j U];exact h3 j hj⟩
theorem aHX (m fr nn:Nat)(hm:m<65536): ∃A:Nat,A<65536/\A<2 ^ nn/\bits BinOp.andNot IntKind.u16 ((eK m nn:Nat):Int) ((eK (eK m nn) fr:Nat):Int)=(A:Int)/\
  (List.range nn).find? A.testBit=(List.range nn).find? (λi=>m.testBit i&&decide (fr<=i)):=by
 have hl:eK m nn<65536:=Aq hm;refine⟨Abs.iK (eK m nn) (eK (eK m nn) fr),aHT hl,?_,aHU _ _ hl (Aq hl),Xm λi hi=> ?_⟩
 ·have:=Wa m nn
  unfold Abs.iK;exact Nat.xor_lt_two_pow this (Nat.lt_of_le_of_lt Nat.and_le_left this)
 ·rw[Abs.K3,yT,yT,yT]
  by_cases h:i<fr
  ·simp[h,show¬fr<=i by omega,hi]
  ·simp[h,show fr<=i by omega,hi]
theorem aHV (m fr nn:Nat)(hn0:nn<=16)(hfr:fr<nn):Abs.pN m fr nn=match ((List.range nn).find? (λi=>m.testBit i&&decide (fr<=i))).or ((List.range nn).find? m.testBit) with
  |some i=>(i:Int)
  |none=> -1:=by
 unfold Abs.pN;simp only[aTo];rw[if_neg U,Abs.aHN hfr]
 try rfl
theorem Xn (m nn:Nat):(List.range nn).find? (eK m nn).testBit=(List.range nn).find? m.testBit:=Xm λi hi=>by rw[yT];simp[hi]
set_option maxRecDepth 100000 in
set_option maxHeartbeats 4000000 in
theorem aHW (m fr nn:Nat)(hm:m<65536)(hn0:nn<=16)(hfr:fr<nn)(w:World)(hT:TabC w):
  CallsIn Fence.wide 6 prog 129 #[.int .u16 m,.I fr,.I nn] w λe W=>e= .returned (.I (Abs.pN m fr nn))/\Below w.heap.size w W:=by
 have hpos:=hT.Kj;have hpk:=aHV m fr nn hn0 hfr;refine callsIn_of_wp_marks Tryz.func129 rfl trivial ?_ rfl;simp only[Tryz.ntmps129,List.size_toArray,aTi,List.length_nil,Nat.reduceAdd,Nat.reduceSub,Array.replicate_succ,Array.replicate_zero,List.push_toArray,List.append_toArray,List.nil_append,List.cons_append];have c1:decide ((nn:Int)<1)=false:=by simp;omega
 have c2:decide ((16:Int)<nn)=false:=by simp;omega
 have c3:decide ((fr:Int)<0)=false:=by simp
 have c4:decide ((nn:Int)<=fr)=false:=by simp;omega
 have hl:eK m nn<65536:=Aq hm;have hl2:eK (eK m nn) fr<65536:=Aq hl;have hfr16:fr<=16:=U
 obtain⟨A,hA,hAn,hval,hfd⟩:=aHX m fr nn hm
 gi_wp2_with (refine⟨trivial,?_⟩;first|(gi_at_call 152;refine(callsIn_wide.2 (V6 _ _ (by assumption) (by assumption) _)).mono ?_;rintro e w' ⟨rfl,rfl⟩)|(gi_at_call 151;refine(callsIn_wide.2 (Kk _ (by assumption) _)).mono ?_;rintro e w' ⟨rfl,rfl⟩))
 have hB0:Below w.heap.size w ((w.alloc (.cells #[.I 0] 3)).alloc (.cells #[.int .u16 A] 23)):=((Below.refl _ w).alloc (aS1 _) _).alloc (by simp) _
 have r0:=vY w (.I 0) 3;have b0:=vY (w.alloc (.cells #[.I 0] 3)) (.int .u16 A) 23;rw[World.size_alloc] at b0;refine Kh 33 7 U (w.heap.size+1) A rfl hA (by simp) U b0.1 b0.2
  (λpre W=>pre=[]/\PkI w.heap.size w none W) (PkX w.heap.size w none)
  (Xo (aS1 _) (by simp;omega) (λd e=>by cases e)) (λc=>Xp (aS1 _) (by simp;omega) (λd e=>by cases e))
  (λpre W v h=>⟨h.1,h.2.Xk v U⟩) (λpre W h=>hT.Ki hpos h.2.2.2.1)
  ⟨rfl,yS _ r0.1,Dy _ r0.1 r0.2,hB0,λd e=>by cases e⟩ ?assign ?body ?done ?stop
 case assign=>
  intro l k W K hK;simp only[List.setIfInBounds_toArray,List.set_cons_succ,List.set_cons_zero] at hK⊢;gi_wp2;exact hK
 case body=>
  rintro l pre k post W hb ⟨rfl,hPk⟩
  have hc:=hPk.1;have hf:=hPk.2.1;simp only[List.setIfInBounds_toArray,List.set_cons_succ,List.set_cons_zero];gi_wp2
  exact⟨V5 _ _ _ _,hPk.Xl⟩
 case stop=>
  rintro D c pre k post W hD hb ⟨rfl,⟨k',hk',hc⟩,hf,hB,_⟩ hK
  obtain⟨rfl,rfl⟩:pre=[]/\k=k':=by
   cases pre with
   |nil=>cases hk';exact⟨rfl,rfl⟩
   |cons a l=>cases l<;>cases hk'
  have hfk:=V7 hA hAn hb;have hv:Abs.pN m fr nn=(k:Int):=by rw[hpk,<-hfd,hfk];rfl
  gi_wp2;refine⟨by simp,.inl ⟨_,_,rfl,run_takeDeferred hK,?_⟩⟩
  have hc5:=cell_kept hc (grownBy_putObj' _ D (.deferred none)) (λr e=>by cases e;exact⟨_,hK,rfl⟩)
  refine⟨.I k,?_,by rw[hv],hB.trans (belowK_b (w:=w) (aS1 _) W D _ _ (by simp at hD;omega) hK rfl rfl)⟩
  simp[results,Tryz.f129,go_sem,hc5]
 case done=>
  rintro D W hD ⟨hnil,hPk⟩ hK
  have hfn:=V8 (n:=nn) hA hnil
  gi_wp2_with (refine⟨trivial,?_⟩;gi_at_call 151;refine(callsIn_wide.2 (Kk _ (by assumption) _)).mono ?_;rintro e w' ⟨rfl,rfl⟩)
  obtain⟨q1,q2,q3,_⟩:=hPk;have hsz:w.heap.size+2<=D:=by simpa using hD
  have hDW:D<W.heap.size:=(aTl.1 hK).1;have b1:=vY W (.int .u16 (eK m nn:Nat)) 23;refine Kh 37 8 U W.heap.size (eK m nn) rfl hl (by simp) U b1.1 b1.2
   (λpre W'=>pre=[]/\PkI w.heap.size w (some D) W') (PkX w.heap.size w (some D))
   (Xo (aS1 _) (by simp;omega) (λd e=>by cases e;simp;omega)) (λc=>Xp (aS1 _) (by simp;omega) (λd e=>by cases e;simp;omega))
   (λpre W v h=>⟨h.1,h.2.Xk v U⟩) (λpre W h=>hT.Ki hpos h.2.2.2.1)
   ⟨rfl,yS _ q1,Dy _ q1 q2,q3.alloc U _,λd e=>by cases e;exact(Below.heap_alloc _ _ _ hDW).trans hK⟩ ?assign2 ?body2 ?done2 ?stop2
  case assign2=>
   intro l k W K hK;simp only[List.setIfInBounds_toArray,List.set_cons_succ,List.set_cons_zero] at hK⊢;gi_wp2;exact hK
  case body2=>
   rintro l pre k post W hb ⟨rfl,hPk⟩
   have hc:=hPk.1;have hf:=hPk.2.1;simp only[List.setIfInBounds_toArray,List.set_cons_succ,List.set_cons_zero];gi_wp2
   exact⟨V5 _ _ _ _,hPk.Xl⟩
  case stop2=>
   rintro D2 c pre k post W2 hD2 hb ⟨rfl,⟨k',hk',hc⟩,hf,hB,hKD⟩ hK2
   obtain⟨rfl,rfl⟩:pre=[]/\k=k':=by
    cases pre with
    |nil=>cases hk';exact⟨rfl,rfl⟩
    |cons a l=>cases l<;>cases hk'
   have hfk:=V7 hl (Wa m nn) hb;have hv:Abs.pN m fr nn=(k:Int):=by rw[hpk,<-hfd,hfn,<-Xn,hfk];rfl
   have hsz2:W.heap.size+1<=D2:=by simpa using hD2
   gi_wp2;have hKD1:(W2.putObj D2 (.deferred none)).heap[D]? =some (.deferred (some [])):=(World.putObj_heap_other U).trans (hKD D rfl)
   refine⟨by simp,.inl ⟨_,_,rfl,run_takeDeferred hK2,by simp,.inl ⟨_,_,rfl,run_takeDeferred hKD1,?_⟩⟩⟩
   have hc5:=cell_kept (cell_kept hc (grownBy_putObj' _ D2 (.deferred none)) (λr e=>by cases e;exact⟨_,hK2,rfl⟩)) (grownBy_putObj' _ D (.deferred none)) (λr e=>by cases e;exact⟨_,hKD1,rfl⟩)
   refine⟨.I k,?_,by rw[hv],(hB.trans (belowK_b (w:=w) (aS1 _) W2 D2 _ _ U hK2 rfl rfl)).trans (belowK_b (w:=w) (aS1 _) _ D _ _ U hKD1 rfl rfl)⟩
   simp[results,Tryz.f129,go_sem,hc5]
  case done2=>
   rintro D2 W2 hD2 ⟨hnil2,hc,hf,hB,hKD⟩ hK2
   have hfn2:=V8 (n:=nn) hl hnil2;have hv:Abs.pN m fr nn= -1:=by rw[hpk,<-hfd,hfn,<-Xn,hfn2];rfl
   have hsz2:W.heap.size+1<=D2:=by simpa using hD2
   gi_wp2;have hko:=KeepsOthers.setCell W2 ⟨w.heap.size,0,none⟩ (.I (-1));have hK2':=hko.same D2 _ hK2 rfl;have hKD1:((W2.setCell ⟨w.heap.size,0,none⟩ (.I (-1))).putObj D2 (.deferred none)).heap[D]? =some (.deferred (some [])):=(World.putObj_heap_other U).trans (hko.same D _ (hKD D rfl) rfl)
   refine⟨by simp,.inl ⟨_,_,rfl,run_takeDeferred hK2',by simp,.inl ⟨_,_,rfl,run_takeDeferred hKD1,?_⟩⟩⟩
   have hc5:=cell_kept (cell_kept (World.cell?_setCell_same' W2 ⟨w.heap.size,0,none⟩ (.I (-1)) (by rw[hc];rfl)) (grownBy_putObj' _ D2 (.deferred none)) (λr e=>by cases e;exact⟨_,hK2',rfl⟩)) (grownBy_putObj' _ D (.deferred none)) (λr e=>by cases e;exact⟨_,hKD1,rfl⟩)
   refine⟨.I (-1),?_,by rw[hv],((hB.setCell (p:=⟨w.heap.size,0,none⟩) (aS1 _) _).trans (belowK_b (w:=w) (aS1 _) _ D2 _ _ U hK2' rfl rfl)).trans (belowK_b (w:=w) (aS1 _) _ D _ _ U hKD1 rfl rfl)⟩
   simp[results,Tryz.f129,go_sem,hc5]
attribute [local go_sem] Oper.semAt_some
set_option maxRecDepth 100000 in
set_option maxHeartbeats 4000000 in
theorem aHZ (m fr nn:Int)(h:nn<1∨16<nn∨fr<0∨nn<=fr)(w:World):
  Calls prog 129 #[.int .u16 m,.I fr,.I nn] w λe W=>e= .returned (.I (Abs.pN m fr nn))/\Below w.heap.size w W:=by
 have hv:Abs.pN m fr nn= -1:=by
  unfold Abs.pN;rw[if_pos h]
 have hc5:=(vY w (.I (-1)) 3).1;have hBe:=(Below.refl _ w).alloc (aS1 _) (.cells #[.I (-1)] 3);by_cases c1:nn<1
 ·have d1:decide (nn<1)=true:=by simp[c1]
  go_enter Tryz.func129,Tryz.ntmps129
  go_wp2
  refine⟨rfl,.I (-1),?_,by first|rfl|rw[hv],hBe⟩
  simp[results,Tryz.f129,go_sem,hc5]
 ·have d1:decide (nn<1)=false:=by simp;omega
  by_cases c2:16<nn
  ·have d2:decide ((16:Int)<nn)=true:=by simp[c2]
   go_enter Tryz.func129,Tryz.ntmps129
   go_wp2
   refine⟨rfl,.I (-1),?_,by first|rfl|rw[hv],hBe⟩
   simp[results,Tryz.f129,go_sem,hc5]
  ·have d2:decide ((16:Int)<nn)=false:=by simp;omega
   by_cases c3:fr<0
   ·have d3:decide (fr<0)=true:=by simp[c3]
    go_enter Tryz.func129,Tryz.ntmps129
    go_wp2
    refine⟨rfl,.I (-1),?_,by first|rfl|rw[hv],hBe⟩
    simp[results,Tryz.f129,go_sem,hc5]
   ·have d3:decide (fr<0)=false:=by simp;omega
    have c4:nn<=fr:=U
    have d4:decide (nn<=fr)=true:=by simp[c4]
    go_enter Tryz.func129,Tryz.ntmps129
    go_wp2
    refine⟨rfl,.I (-1),?_,by first|rfl|rw[hv],hBe⟩
    simp[results,Tryz.f129,go_sem,hc5]
theorem aHY (m fr nn:Int)(h0:0<=m)(h1:m<65536)(w:World)(hT:TabC w):
  Calls prog 129 #[.int .u16 m,.I fr,.I nn] w λe W=>e= .returned (.I (Abs.pN m fr nn))/\Below w.heap.size w W:=by
 by_cases h:nn<1∨16<nn∨fr<0∨nn<=fr
 ·exact aHZ m fr nn h w
 ·obtain⟨m',rfl⟩: ∃m':Nat,m=m':=⟨m.toNat,by omega⟩
  obtain⟨f',rfl⟩: ∃f':Nat,fr=f':=⟨fr.toNat,by omega⟩
  obtain⟨n',rfl⟩: ∃n':Nat,nn=n':=⟨nn.toNat,by omega⟩
  exact(callsIn_wide (n:=6)).1 (aHW m' f' n' U U U w hT)
attribute [local go_sem] Oper.semAt_some
def A7:Code->Option Code
 | .loop c=>some c
 | .seq a b=>(A7 a).or (A7 b)
 | .block _ c=>A7 c
 |_=>none
def fS (F:Nat->Nat)(n:Nat):Array Value:=((List.range n).map λk=>Value.int .u16 (F k:Nat)).toArray
theorem Xq (F:Nat->Nat)(n:Nat):(fS F n).size=n:=by simp[fS]
theorem aH6:(prog.info? 23).map (λi=>(i.zero,i.size,i.bytes))=some (some (.int .u16 0),1,2):=by kernel_rfl
theorem aH7 (n:Nat):madeCells (Value.int .u16 0).cells (n*1)=fS (λ_=>0) n:=by
 unfold madeCells fS;apply Array.ext
 ·simp
 ·intro i h1 h2
  simp[Value.cells,Nat.mod_one]
theorem aH8 (w:World)(n:Nat)(hn:n<=16):(Instr.makeSlice 162 (.I (n:Nat)) (.I (n:Nat))).run prog w= .ok (.slice (some ⟨w.heap.size,0,none⟩) n n) (w.alloc (.cells (fS (λ_=>0) n) 23)):=by
 obtain⟨i0,hi,hz0,hz1,hz2⟩:=info_parts aH6;have h:=run_make (P:=prog) w 162 23 i0 _ (by kernel_rfl) hi hz0 .i64 .i64 n n U U (by rw[hz2];omega) U
 rw[hz1,aTo,aH7] at h;exact h
def K8 (Ds:List Nat):List Deferred:=Ds.map λD=>{target:= .collected D,args:= #[]}
structure TS (R:List Nat)(nn:Nat)(w:World)(r:Nat)(Ds:List Nat)(W:World):Prop where
 below:Below w.heap.size w W
 row:W.heap[w.heap.size]? =some (.cells (fS (λk=>Abs.cC (λi=>(R.getD i 0).testBit k) r) nn) 23 (0,0))
 box:W.cell? ⟨w.heap.size+1,0,none⟩=some (.slice (some ⟨w.heap.size,0,none⟩) nn nn)
 mks:Ds.Pairwise (· ≠ ·)/\ ∀D∈Ds,w.heap.size+2<=D/\W.heap[D]? =some (.deferred (some []))
theorem aIa (F:Nat->Nat)(n k:Nat)(hk:k<n):(fS F n)[k]? =some (.int .u16 (F k:Nat)):=by
 unfold fS;simp[hk]
theorem aIc {W:World}{b:Nat}{F:Nat->Nat}{n t k:Nat}(h:W.heap[b]? =some (.cells (fS F n) t (0,0)))(hk:k<n):W.cell? ⟨b,k,none⟩=some (.int .u16 (F k:Nat)):=by
 unfold World.cell?;rw[h];exact aIa F n k hk
theorem aId {W:World}{b:Nat}{F:Nat->Nat}{n t k:Nat}(h:W.heap[b]? =some (.cells (fS F n) t (0,0))):W.frozen? ⟨b,k,none⟩=false:=by
 unfold World.frozen?;rw[h];simp
theorem aIe {W:World}{b:Nat}{F:Nat->Nat}{n t k v:Nat}(h:W.heap[b]? =some (.cells (fS F n) t (0,0))):
  (W.setCell ⟨b,k,none⟩ (.int .u16 (v:Nat))).heap[b]? =some (.cells (fS (λj=>if j=k then v else F j) n) t (0,0)):=by
 unfold World.setCell;simp only[Array.getElem?_modify,if_true,h,Option.map_some]
 congr 2
 apply Array.ext
 ·simp[Xq]
 ·intro j h1 h2
  simp only[fS,Option.isSome_none,Bool.false_eq_true,if_false,List.setIfInBounds_toArray,List.getElem_toArray,List.getElem_set,List.getElem_map,List.getElem_range];by_cases hj:j=k
  ·subst hj
   simp
  ·rw[if_neg hj,if_neg (Ne.symm hj)]
theorem y5 {W:World}{p:Addr}{v:Value}{b:Nat}(h:b≠p.block):(W.setCell p v).heap[b]? =W.heap[b]? :=by
 unfold World.setCell;simp only[Array.getElem?_modify];rw[if_neg (Ne.symm h)]
structure TI (nn:Nat)(w:World)(base:Nat->Nat)(r BI:Nat)(Ds:List Nat)(pre:List Nat)(W:World):Prop where
 below:Below w.heap.size w W
 row:W.heap[w.heap.size]? =some (.cells (fS (λk=>if k∈pre then base k|||2 ^ r else base k) nn) 23 (0,0))
 box:W.cell? ⟨w.heap.size+1,0,none⟩=some (.slice (some ⟨w.heap.size,0,none⟩) nn nn)
 bi:W.cell? ⟨BI,0,none⟩=some (.I (r:Nat))
 mks: ∀D∈Ds,W.heap[D]? =some (.deferred (some []))
theorem aIf {nn:Nat}{w:World}{base:Nat->Nat}{r BI:Nat}{Ds:List Nat}{B:Nat}(h1:w.heap.size+1<B)(h2:BI<B)(h3: ∀D∈Ds,D<B):OwnFrom B (TI nn w base r BI Ds):=by
 rintro s A C row ⟨a1,a2,a3,a4,a5⟩ hg hr
 have kp: ∀b,b<A.heap.size->b<B->C.heap[b]? =A.heap[b]? :=λb hb hbB=>hg.block b hb (λe=>by have:=(hr b e.symm).1;omega)
 have lt: ∀{b:Nat}{x:Value},A.cell? ⟨b,0,none⟩=some x->b<A.heap.size:=λ{b x} h=>by
  unfold World.cell? at h
  split at h
  ·rename_i h1
   exact(aTl.mp h1).1
  ·cases h
 refine⟨a1.grown hg (aTc (aS1 _) a1.size) (λk e=>aTc U (hr k e).1),?_,?_,?_,λD hD=> ?_⟩
 ·exact(kp _ (aTl.mp a2).1 U).trans a2
 ·exact(World.cell?_of_block (kp _ (lt a3) (by show w.heap.size+1<B;omega))).trans a3
 ·exact(World.cell?_of_block (kp _ (lt a4) h2)).trans a4
 ·exact(kp _ (aTl.mp (a5 D hD)).1 (h3 D hD)).trans (a5 D hD)
theorem TI.aH1 {nn:Nat}{w:World}{base:Nat->Nat}{r BI:Nat}{Ds:List Nat}{pre:List Nat}{W:World}{B:Nat}(v:Value)(h1:w.heap.size+1<B)(h2:BI≠B)(h:TI nn w base r BI Ds pre W):
  TI nn w base r BI Ds pre (W.setCell ⟨B,0,none⟩ v):=by
 obtain⟨a1,a2,a3,a4,a5⟩:=h
 exact⟨a1.setCell (p:=⟨B,0,none⟩) (by show w.heap.size<=B;omega) _,(y5 (by show w.heap.size≠B;omega)).trans a2,
  (World.cell?_of_block (y5 (by show w.heap.size+1≠B;omega))).trans a3,(World.cell?_of_block (y5 h2)).trans a4,λD hD=>(KeepsOthers.setCell W ⟨B,0,none⟩ v).same D _ (a5 D hD) rfl⟩
theorem TI.aH2 {nn:Nat}{w:World}{base:Nat->Nat}{r BI:Nat}{Ds:List Nat}{pre:List Nat}{W:World}{k:Nat}(h2:BI≠w.heap.size)(h:TI nn w base r BI Ds pre W):
  TI nn w base r BI Ds (pre++[k]) (W.setCell ⟨w.heap.size,k,none⟩ (.int .u16 (((if k∈pre then base k|||2 ^ r else base k)|||2 ^ r:Nat)))):=by
 obtain⟨a1,a2,a3,a4,a5⟩:=h;refine⟨a1.setCell (p:=⟨w.heap.size,k,none⟩) (aS1 _) _,?_,
  (World.cell?_of_block (y5 (by show w.heap.size+1≠w.heap.size;omega))).trans a3,(World.cell?_of_block (y5 h2)).trans a4,λD hD=>(KeepsOthers.setCell W ⟨w.heap.size,k,none⟩ _).same D _ (a5 D hD) rfl⟩
 rw[aIe a2]
 congr 3
 funext j
 by_cases hj:j=k
 ·subst hj
  have hm:j∈pre++[j]:=by simp
  rw[if_pos rfl,if_pos hm];split
  ·rw[Nat.or_assoc,Nat.or_self]
  ·rfl
 ·rw[if_neg hj]
  simp[hj]
theorem aH4 (a b:Nat)(ha:a<65536)(hb:b<65536):bits .or .u16 (a:Int) (b:Int)=((a|||b:Nat):Int):=by
 have h:=Abs.K4 (P:=prog) .u16 rfl 0 (a:=a) (b:=b) ha hb;have e2:Abs.bin prog .or 0 (.int .u16 (a:Int)) (.int .u16 b)=some (.int .u16 (bits .or .u16 (a:Int) (b:Int))):=by
  simp[Abs.bin,Abs.cK,Abs.eT,Abs.pur,binOp,Op.intBits,pure,bits]
 rw[e2] at h;injection h with h;injection h with _ h
theorem aIh (r:Nat)(hr:r<=15):IntKind.u16.wrap ((2:Int) ^ r)=((2 ^ r:Nat):Int):=by
 have: ∀r:Nat,r<=15->IntKind.u16.wrap ((2:Int) ^ r)=((2 ^ r:Nat):Int):=by decide+kernel
 exact this r hr
theorem aH9 {a r:Nat}(h:a<2 ^ r):a|||2 ^ r=a+2 ^ r:=by
 apply Nat.eq_of_testBit_eq;intro i;rw[Nat.testBit_or,Nat.testBit_two_pow,Nat.add_comm];by_cases hi:r=i
 ·subst hi
  rw[Nat.testBit_two_pow_add_eq,Nat.testBit_lt_two_pow h];simp
 ·by_cases hlt:i<r
  ·rw[Nat.testBit_two_pow_add_gt hlt]
   simp[hi]
  ·have:2 ^ (r+1)<=2 ^ i:=Nat.pow_le_pow_right U U
   rw[Nat.pow_succ] at this;rw[Nat.testBit_lt_two_pow U,Nat.testBit_lt_two_pow (show 2 ^ r+a<2 ^ i by omega)]
   simp[hi]
theorem aH5 (R:List Nat)(nn r m:Nat)(hm:R.getD r 0=m)(hm16:eK m nn<65536):
  fS (λk=>if k∈eU (eK m nn) (eK m nn) then Abs.cC (λi=>(R.getD i 0).testBit k) r|||2 ^ r else Abs.cC (λi=>(R.getD i 0).testBit k) r) nn=
   fS (λk=>Abs.cC (λi=>(R.getD i 0).testBit k) (r+1)) nn:=by
 unfold fS
 congr 1
 apply List.map_congr_left;intro k hk;have hk:=aTA.mp hk
 congr 2
 have hb:k∈eU (eK m nn) (eK m nn)↔m.testBit k=true:=by
  rw[Dz _ _ (aS1 _) hm16,yT];simp[hk]
 show(if k∈eU (eK m nn) (eK m nn) then _ else _)=Abs.cC _ (r+1)
 rw[Abs.cC,hm];by_cases h:m.testBit k=true
 ·rw[if_pos (hb.mpr h),if_pos h,aH9 (Abs.A5 _ _)]
 ·rw[if_neg (λh'=>h (hb.mp h')),if_neg h]
  rfl
theorem aIb (R:List Nat)(nn r m:Nat)(hm:R.getD r 0=m)(hr:r<=15)(hm16:eK m nn<65536): ∃base:Nat->Nat,(∀k,base k<65536)/\
  fS (λk=>Abs.cC (λi=>(R.getD i 0).testBit k) r) nn=fS base nn/\
  fS (λk=>if k∈eU (eK m nn) (eK m nn) then base k|||2 ^ r else base k) nn=fS (λk=>Abs.cC (λi=>(R.getD i 0).testBit k) (r+1)) nn:=by
 refine⟨λk=>Abs.cC (λi=>(R.getD i 0).testBit k) r,λk=> ?_,rfl,aH5 R nn r m hm hm16⟩
 have h1:=Abs.A5 (λi=>(R.getD i 0).testBit k) r
 have h2:2 ^ r<=2 ^ 15:=Nat.pow_le_pow_right U hr
 show Abs.cC (λi=>(R.getD i 0).testBit k) r<65536
 omega
theorem TI.aH3 {nn:Nat}{w:World}{base:Nat->Nat}{r BI:Nat}{Ds:List Nat}{pre:List Nat}{W:World}{k:Nat}(hbase: ∀k,base k<65536)(hr:r<=15)(hk:k<nn)(h2:BI≠w.heap.size)
  (h:TI nn w base r BI Ds pre W): ∃F:Nat,F<65536/\W.cell? ⟨w.heap.size,k,none⟩=some (.int .u16 (F:Nat))/\bits BinOp.or IntKind.u16 (F:Int) (IntKind.u16.wrap ((2:Int) ^ r))=((F|||2 ^ r:Nat):Int)/\
   TI nn w base r BI Ds (pre++[k]) (W.setCell ⟨w.heap.size,k,none⟩ (.int .u16 ((F|||2 ^ r:Nat)))):=by
 have hp:2 ^ r<=2 ^ 15:=Nat.pow_le_pow_right U hr
 have h16:(if k∈pre then base k|||2 ^ r else base k)<65536:=by
  split
  ·exact Nat.or_lt_two_pow (n:=16) (hbase k) U
  ·exact hbase k
 refine⟨_,h16,aIc h.row hk,?_,h.aH2 h2⟩;rw[aIh r hr,aH4 _ _ h16 U]
theorem TI.aH0 {nn:Nat}{w:World}{base:Nat->Nat}{r BI:Nat}{Ds:List Nat}{pre:List Nat}{W:World}(h:TI nn w base r BI Ds pre W):TI nn w base r BI Ds pre W.drew:=
 ⟨h.below.drew,h.row,h.box,h.bi,h.mks⟩
set_option maxRecDepth 100000 in
set_option maxHeartbeats 4000000 in
theorem aIg (c:Code)(hcode:(Tryz.f127.body).bind A7=some c)(Q:Exit->Act->World->Prop)(blk off len cap nn:Nat)(h1:1<=nn)(h2:nn<=16)(h4:len<=16)(hcap:len<=cap)(w:World)(hT:TabC w)
  (R:List Nat)(hR:R.length=len)(hR16: ∀z∈R,z<65536)(hblk:blk<w.heap.size)(hrows: ∀i,i<len->w.cell? ⟨blk,off+i,none⟩=some (.int .u16 (R.getD i 0:Nat)))
  (hQ: ∀r Ds W,r=len->TS R nn w r Ds W-> ∀x0 x2 x3 x4 x6 x7 x8 x9 iW lH eQ kC mH kD fC eE gM dR gN q9 rA xS xT xU xV xW xX qY qZ tU tV iG nI xY xZ yA o6 o7:Value,Q (.exit 0) {tmps:= #[x0,.I nn,x2,x3,x4,.Q (w.heap.size+1) 0,x6,x7,x8,x9,iW,lH,eQ,kC,mH,kD,fC,eE,gM,dR,gN,.slice (some ⟨blk,off,none⟩) len cap,.I len,.I (r:Nat),q9,rA,xS,xT,xU,xV,xW,xX,qY,qZ,tU,tV,iG,nI,xY,xZ,yA,o6,o7],defers:=K8 Ds} W):
  ∀(q r:Nat),r+q=len-> ∀(Ds:List Nat)(W:World),TS R nn w r Ds W-> ∀x0 x2 x3 x4 x6 x7 x8 x9 iW lH eQ kC mH kD fC eE gM dR gN q9 rA xS xT xU xV xW xX qY qZ tU tV iG nI xY xZ yA o6 o7:Value,Code.roundsIn Fence.wide 6 prog c Q (q+1) {tmps:= #[x0,.I nn,x2,x3,x4,.Q (w.heap.size+1) 0,x6,x7,x8,x9,iW,lH,eQ,kC,mH,kD,fC,eE,gM,dR,gN,.slice (some ⟨blk,off,none⟩) len cap,.I len,.I (r:Nat),q9,rA,xS,xT,xU,xV,xW,xX,qY,qZ,tU,tV,iG,nI,xY,xZ,yA,o6,o7],defers:=K8 Ds} W:=by
 have hpos:=hT.Kj;simp only[Tryz.f127,A7,Option.bind_some,Option.none_or,Option.or_none,Option.some_or,aTn] at hcode;subst hcode;intro q;induction q with
 |zero=>
  intro r hr Ds W hts x0 x2 x3 x4 x6 x7 x8 x9 iW lH eQ kC mH kD fC eE gM dR gN q9 rA xS xT xU xV xW xX qY qZ tU tV iG nI xY xZ yA o6 o7;have hlt:decide ((r:Int)<len)=false:=by simp;omega
  rw[roundsIn_succ];gi_wp2;exact hQ r Ds W U hts ..
 |succ q ih=>
  intro r hr Ds W hts x0 x2 x3 x4 x6 x7 x8 x9 iW lH eQ kC mH kD fC eE gM dR gN q9 rA xS xT xU xV xW xX qY qZ tU tV iG nI xY xZ yA o6 o7;have hlt:decide ((r:Int)<len)=true:=by simp;omega
  have hcr:=(hts.below.cell (p:=⟨blk,off+r,none⟩) hblk).trans (hrows r U)
  have hm16:R.getD r 0<65536:=by
   rw[aS0,aSY U]
   exact hR16 _ (List.getElem_mem _)
  obtain⟨m,hme⟩: ∃m,R.getD r 0=m:=⟨_,rfl⟩;rw[hme] at hcr hm16;have hl16:eK m nn<65536:=Aq hm16;rw[roundsIn_succ]
  gi_wp2_with (refine⟨trivial,?_⟩;first|(gi_at_call 152;refine(callsIn_wide.2 (V6 _ _ (by assumption) (by assumption) _)).mono ?_;rintro e w' ⟨rfl,rfl⟩)|(gi_at_call 151;refine(callsIn_wide.2 (Kk _ (by assumption) _)).mono ?_;rintro e w' ⟨rfl,rfl⟩))
  obtain⟨q1,q2,q3,q4,q5⟩:=hts;have hWs:w.heap.size+1<W.heap.size:=by
   have h:=q3;unfold World.cell? at h
   split at h
   ·rename_i h1
    exact(aTl.mp h1).1
   ·cases h
  have b1:=vY (W.alloc (.cells #[.I r] 3)) (.int .u16 (eK m nn:Nat)) 23;rw[World.size_alloc] at b1;have b0:=vY W (.I r) 3;have hDs: ∀D∈Ds,D<W.heap.size:=λD hD=>(aTl.mp (q5 D hD).2).1
  have old: ∀b,b<W.heap.size->((W.alloc (.cells #[.I r] 3)).alloc (.cells #[.int .u16 (eK m nn:Nat)] 23)).heap[b]? =W.heap[b]? :=λb hb=>
   (Below.heap_alloc _ _ _ (by simp;omega)).trans (Below.heap_alloc _ _ _ hb)
  have hr15:r<=15:=U
  obtain⟨base,hbase,hq2,hfin⟩:=aIb R nn r m hme hr15 hl16;rw[hq2] at q2;refine Kh 32 8 U (W.heap.size+1) (eK m nn) rfl hl16 (by simp) U b1.1 b1.2
   (TI nn w base r W.heap.size Ds) (λ_ _ _=>False)
   (aIf (by simp;omega) (by simp;omega) (λD hD=>by have:=hDs D hD;simp;omega)) (λc s A C row h=>h.elim)
   (λpre W' v h=>h.aH1 v U U) (λpre W h=>hT.Ki hpos h.below)
   ⟨(q1.alloc U _).alloc (by simp;omega) _,(old _ U).trans (by simpa using q2),(World.cell?_of_block (old (w.heap.size+1) hWs)).trans q3,yS _ b0.1,λD hD=>(old D (hDs D hD)).trans (q5 D hD).2⟩ ?assign ?body ?done ?stop
  case assign=>
   intro l k W K hK;simp only[List.setIfInBounds_toArray,List.set_cons_succ,List.set_cons_zero] at hK⊢;gi_wp2;exact hK
  case body=>
   intro l pre k post W' hb hTI;have hkb:(eK m nn).testBit k=true:=(Dz _ _ (aS1 _) hl16 k).mp (by rw[hb];simp)
   have hkn:k<nn:=by
    rw[yT] at hkb;simp at hkb;exact hkb.2
   obtain⟨F,hF16,hcell,hval,hput⟩:=hTI.aH3 hbase hr15 hkn (show W.heap.size≠w.heap.size by omega)
   have hfroz:=aId (k:=k) hTI.row;have hbx:=hTI.box;have hbi:=hTI.bi;have hne:(W'.setCell ⟨w.heap.size,k,none⟩ (.int .u16 ((F|||2 ^ r:Nat)))).heap[W.heap.size+1]? =W'.heap[W.heap.size+1]? :=y5 (by show W.heap.size+1≠w.heap.size;omega)
   have hkp:KpB (W.heap.size+1) W' (W'.setCell ⟨w.heap.size,k,none⟩ (.int .u16 ((F|||2 ^ r:Nat)))).drew:=⟨World.cell?_of_block hne,World.frozen?_of_block hne⟩;have hkf: ∀B,KeepsFrom B W' (W'.setCell ⟨w.heap.size,k,none⟩ (.int .u16 ((F|||2 ^ r:Nat)))).drew:=λB=>((KeepsOthers.setCell _ _ _).trans (KeepsOthers.drew _)).from _
   simp only[List.setIfInBounds_toArray,List.set_cons_succ,List.set_cons_zero];have hmx:prog.follows .mixedOrders=true:=by kernel_rfl
   clear hTI hfin hne ih hrows hR16 hb hkb hbase;gi_wp2
   gi_region_o
   all_goals gi_wp2
   all_goals exact⟨hkf _,hkp,hput.aH0⟩
  case done=>
   intro D W2 hD hTI hK;obtain⟨p1,p2,p3,p4,p5⟩:=hTI;rw[hfin] at p2;have hD2:W.heap.size+1+1<=D:=by simpa using hD
   gi_wp2;refine ih (r+1) U (D::Ds) W2 ⟨p1,p2,p3,?_,?_⟩ _ _ _ _ _ _ _ _ _ _ _ _ _ _ _ _ _ _ _ _ _ _ _ _ _ _ _ _ _ _ _ _ _ _ _ _ _ _
   ·refine List.pairwise_cons.mpr ⟨λE hE=> ?_,q4⟩
    have:=hDs E hE;omega
   ·intro E hE
    rcases aTf.mp hE with rfl|hE
    ·exact⟨by omega,hK⟩
    ·exact⟨(q5 E hE).1,p5 E hE⟩
  case stop=>
   intro D c pre k post W2 hD hb h;exact h.elim
attribute [local go_sem] Oper.semAt_some
theorem Xr {F:Fence}{n:Nat}{P:Program}{fn:Func}{tmps:Array Value}{R:Ending->World->Prop}(J:World->Prop)(N:Nat)
  (hJ: ∀W D,J W->N<=D->W.heap[D]? =some (.deferred (some []))->J (W.putObj D (.deferred none)))(hend: ∀W,J W->LeavesInM F n P fn tmps R [] .returning W):
  ∀(Ds:List Nat)(W:World),Ds.Pairwise (· ≠ ·)->(∀D∈Ds,N<=D/\W.heap[D]? =some (.deferred (some [])))->J W->LeavesInM F n P fn tmps R (K8 Ds) .returning W
 |[],W,_,_,h=>hend W h
 |D::Ds,W,hp,hD,h=>by
  obtain⟨hp1,hp2⟩:=List.pairwise_cons.mp hp;obtain⟨h1,h2⟩:=hD D (aS5 ..);refine⟨by simp,.inl ⟨_,_,rfl,run_takeDeferred h2,?_⟩⟩
  refine Xr J N hJ hend Ds _ hp2 (λE hE=> ?_) (hJ W D h h1 h2)
  obtain⟨e1,e2⟩:=hD E (aTd _ hE)
  exact⟨e1,(World.putObj_heap_other (Ne.symm (hp1 E hE))).trans e2⟩
set_option maxRecDepth 100000 in
set_option maxHeartbeats 4000000 in
theorem aIi (blk off len cap nn:Nat)(h1:1<=nn)(h2:nn<=16)(h3:1<=len)(h4:len<=16)(hcap:len<=cap)(w:World)(hT:TabC w)
  (R:List Nat)(hR:R.length=len)(hR16: ∀z∈R,z<65536)(hblk:blk<w.heap.size)(hrows: ∀i,i<len->w.cell? ⟨blk,off+i,none⟩=some (.int .u16 (R.getD i 0:Nat))):
  CallsIn Fence.wide 6 prog 127 #[.slice (some ⟨blk,off,none⟩) len cap,.I nn] w λe W=>
   e= .returned (.slice (some ⟨w.heap.size,0,none⟩) nn nn)/\Below w.heap.size w W/\W.heap[w.heap.size]? =some (.cells (fS (λk=>Abs.cC (λi=>(R.getD i 0).testBit k) len) nn) 23 (0,0)):=by
 have hpos:=hT.Kj;refine callsIn_of_wp_marks Tryz.func127 rfl trivial ?_ rfl;simp only[Tryz.ntmps127,List.size_toArray,aTi,List.length_nil,Nat.reduceAdd,Nat.reduceSub,Array.replicate_succ,Array.replicate_zero,List.push_toArray,List.append_toArray,List.nil_append,List.cons_append];have c1:decide ((nn:Int)<1)=false:=by simp;omega
 have c2:decide ((16:Int)<nn)=false:=by simp;omega
 have hmk:=aH8 w nn h2;gi_wp2;have hb:=vY (w.alloc (.cells (fS (λ_=>0) nn) 23)) (.slice (some ⟨w.heap.size,0,none⟩) nn nn) 162
 rw[World.size_alloc] at hb;have hrow0:((w.alloc (.cells (fS (λ_=>0) nn) 23)).alloc (.cells #[.slice (some ⟨w.heap.size,0,none⟩) nn nn] 162)).heap[w.heap.size]? =some (.cells (fS (λk=>Abs.cC (λi=>(R.getD i 0).testBit k) 0) nn) 23 (0,0)):=
  (Below.heap_alloc _ _ _ (by simp)).trans (World.alloc_heap_new w _)
 refine wpIn_loop_rounds (len+1) (aIg _ rfl _ blk off len cap nn h1 h2 h4 hcap w hT R hR hR16 hblk hrows ?fin len 0 U [] _
  ⟨((Below.refl _ w).alloc (aS1 _) _).alloc (by simp) _,hrow0,hb.1,List.Pairwise.nil,λD hD=>by cases hD⟩ _ _ _ _ _ _ _ _ _ _ _ _ _ _ _ _ _ _ _ _ _ _ _ _ _ _ _ _ _ _ _ _ _ _ _ _ _ _)
 intro r Ds W hr hts x0 x2 x3 x4 x6 x7 x8 x9 iW lH eQ kC mH kD fC eE gM dR gN q9 rA xS xT xU xV xW xX qY qZ tU tV iG nI xY xZ yA o6 o7;subst hr;obtain⟨q1,q2,q3,q4,q5⟩:=hts;gi_wp2;refine Xr (λW=>Below w.heap.size w W/\W.heap[w.heap.size]? =some (.cells (fS (λk=>Abs.cC (λi=>(R.getD i 0).testBit k) r) nn) 23 (0,0))) (w.heap.size+2) ?_ ?_ Ds W q4 q5 ⟨q1,q2⟩
 ·rintro W D ⟨a1,a2⟩ hD hK
  exact⟨a1.trans (belowK_b (w:=w) (aS1 _) W D _ _ U hK rfl rfl),(World.putObj_heap_other U).trans a2⟩
 ·rintro W ⟨a1,a2⟩
  exact⟨_,results_tmp rfl _ _ _,rfl,a1,a2⟩
end Go.Proofs.YtciiopkbmjppfaaGreatDoor
