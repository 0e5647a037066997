/-
  PARTS OF THIS CLAIM'S PROOF, laid together by a program of mine.
-/
import Derived.Test.YtciiopkbmjppfaaGreatDoorAbsM1
import Derived.Scope
import Derived.ProofKit
import Derived.RowKit
import Derived.RowKit3
import Derived.ChangeSame
import Derived.OpenShut
import Derived.Deep.Slices
import Derived.SizedLaws
import Derived.Test.YtciiopkbmjppfaaGreatDoorProg
import Derived.RangeFuncNested
import Derived.RangeFuncBound
import Derived.RangeFuncCalls
import Derived.RangeFuncLeaves
import Derived.Shelf.Abstract
import Derived.Shelf.RegionOpen
import Derived.WalkKit
import Derived.OwnWalkIn
import Derived.TacticsInMore
import Derived.LoopNIn
import Derived.LoopIn
import Derived.Lib.TrailingZeros
import Derived.Tactics
import Derived.Tactics2
import Derived.Sort.Grow
set_option linter.unusedVariables false
set_option linter.unusedSimpArgs false
set_option linter.unusedSectionVars false
namespace Go.Abs
open M
def fO (P:Program)(t:cY)(H:aF):List ResultVar->Option (List Value)
 |[]=>some []
 | .tmp i::r=>match gT t i with
  |some v=>(fO P t H r).map (v:: ·)
  |none=>none
 | .cell a ty::r=>
  match eW P ty,lI P ty,gT t a with
  |some (sz,_),some g,some y=>
   match (if g=true then ldN sz y else ld1 y) H with
   |some x=>(fO P t H r).map (x.1:: ·)
   |none=>none
  |_,_,_=>none
def aK:List Value->Value
 |[v]=>v
 |vs=> .tuple vs.toArray
def nW (P:Program)(t:cY)(H:aF):List ResultVar->List Value->Option (Value×aF)
 |[],acc=>some (aK acc.reverse,H)
 | .tmp i::r,acc=>match gT t i with
  |some v=>nW P t H r (v::acc)
  |none=>none
 | .cell a ty::r,acc=>
  match eW P ty,lI P ty,gT t a with
  |some (sz,_),some g,some y=>
   match (if g=true then ldN sz y else ld1 y) H with
   |none=>none
   |some x=>nW P t H r (x.1::acc)
  |_,_,_=>none
theorem zA (P:Program)(t:cY)(H:aF): ∀(l:List ResultVar)(acc:List Value),nW P t H l acc=(fO P t H l).map λvs=>(aK (acc.reverse++vs),H)
 |[],acc=>by simp[nW,fO]
 | .tmp i::r,acc=>by
  simp only[nW,fO];cases gT t i with
  |none=>rfl
  |some v=>
   simp only;rw[zA P t H r];cases fO P t H r<;>simp
 | .cell a ty::r,acc=>by
  simp only[nW,fO];split
  ·rename_i sz by' g y _ _ _
   cases hx:(if g=true then ldN sz y else ld1 y) H with
   |none=>rfl
   |some x=>
    simp only;rw[zA P t H r];cases fO P t H r<;>simp
  ·rfl
def cS (P:Program)(fn:Func):Ex->K (Value×aF):=λe=>
 match e with
 | .normal=>λt H=>nW P t H fn.results.toList []
 | .exit _=>λ_ _=>none
 | .ret=>λt H=>nW P t H fn.results.toList []
theorem Ec (P:Program)(fn:Func)(e:Ex)(he: ∀id,e≠ .exit id)(t:cY)(H:aF):cS P fn e t H=(fO P t H fn.results.toList).map λvs=>(aK vs,H):=by
 cases e with
 |exit id=>exact absurd rfl (he id)
 |normal=>show nW P t H _ []=_;rw[zA];simp
 |ret=>show nW P t H _ []=_;rw[zA];simp
def aR (P:Program)(O:aH)(L:aI (Value×aF))(f:FuncId)(args:List Value)(H:aF):Option (Value×aF):=
 match P.funcs.toList[f]? with
 |some fn=>
  match fn.body with
  |some c=>if fn.name != "runtime.NumGoroutine" then eI P O L (aEN fn) c (cS P fn) (args.map some++List.replicate (fn.ntmps-args.length) (some undef)) H else none
  |none=>none
 |none=>none
abbrev eK:=Fn->Option (List Value->aF->Option (Value×aF))
def lvl (P:Program)(pr:eK):Nat->aH
 |0,_,_,_=>none
 |n+1,f,args,H=>
  match pr f with
  |some p=>p args H
  |none=>
   match f with
   | .func g=>aR P (lvl P pr n) (aL n) g args H
   |_=>none
section
variable {P : Program} {ρ : Ren} {H H' : aF} {w : World}
theorem Rel.aGA {G:Nat->Option Blk}{w':World}(h:Rel P ρ G w)(e:w'.heap=w.heap):Rel P ρ G w':=
 ⟨λb pl hb=>by rw[e];exact h.lt b pl hb,λb pl x hb hx=>by rw[e];exact h.blk b pl x hb hx,h.sep,λg hg=>⟨by rw[e];exact(h.tab g hg).1,(h.tab g hg).2⟩⟩
theorem Step.aGB {ρ':Ren}{w1 w':World}(h:Step P ρ H w1 ρ' H' w')(e:w1.heap=w.heap)(e1:w1.os=w.os)(e2:w1.tape=w.tape)(e3:w1.output=w.output):Step P ρ H w ρ' H' w':=
 ⟨h.rel,h.le,h.new,h.len,h.free,by rw[<-e];exact h.size,by rw[<-e];exact h.frame,h.un,h.dead,h.kd,by rw[<-e];exact h.fresh,by rw[<-e1];exact h.os,by rw[<-e2];exact h.tape,by rw[<-e3];exact h.output⟩
def aGD:Ex->Exit
 | .normal=> .normal
 | .exit id=> .exit id
 | .ret=> .ret
def EGood (P:Program)(ρ:Ren)(H:aF)(w:World)(r:Value×aF)(k:Ex->K (Value×aF))(Q:Exit->Act->World->Prop):Prop:=
 ∀e,KGood P ρ H w r (k e) (Q (aGD e))
theorem EGood.V7 {ρ':Ren}{w':World}{r:Value×aF}{k:Ex->K (Value×aF)}{Q:Exit->Act->World->Prop}(h:EGood P ρ H w r k Q)(hs:Step P ρ H w ρ' H' w'):EGood P ρ' H' w' r k Q:=
 λe=>(h e).Vp hs
def Ee (P:Program)(c:Code)(B:(Ex->K (Value×aF))->K (Value×aF))(r:Value×aF):Prop:=
 ∀(k:Ex->K (Value×aF)),MonoE k r-> ∀(Q:Exit->Act->World->Prop)(ρ:Ren)(t:cY)(H:aF)(w:World)(a:Act),B k t H=some r->Rel P ρ (cF H) w->Srs ρ t a.tmps.toList->a.defers=[]->Free ρ H r->
  EGood P ρ H w r k Q->c.wp P Q a w
theorem aGJ {c:Code}{B:(Ex->K (Value×aF))->K (Value×aF)}{r:Value×aF}(m:Nat)(h:Ee P c B r):Ee P c (λk=>B (iO m k)) r:=
 λk hk Q ρ t H w a hB hr ht hd hf hq=>h _ (hk.clr m) Q ρ t H w a hB hr ht hd hf λe ρ' t' H' w' a' hk' hs hv hd'=>hq e ρ' _ H' w' a' hk' hs (hv.clr m) hd'
theorem V8 {c:Code}{B:(Ex->K (Value×aF))->K (Value×aF)}{r:Value×aF}(hB:Ee P c B r)(hBm: ∀k,MonoE k r->qQ (B k) r): ∀(n:Nat)(k:Ex->K (Value×aF)),MonoE k r-> ∀(Q:Exit->Act->World->Prop)(ρ:Ren)(t:cY)(H:aF)(w:World)(a:Act),
  aL n B k t H=some r->Rel P ρ (cF H) w->Srs ρ t a.tmps.toList->a.defers=[]->Free ρ H r->EGood P ρ H w r k Q->Code.rounds P c Q n a w
 |0,k,hk,Q,ρ,t,H,w,a,h,_,_,_,_,_=>by cases h
 |n+1,k,hk,Q,ρ,t,H,w,a,h,hr,ht,hd,hf,hq=>by
  rw[rounds_succ];refine hB _ ?_ _ ρ t H w a h hr ht hd hf λe=> ?_
  ·intro e
   cases e with
   |normal=>exact Ki hBm n k hk
   |exit id=>exact hk _
   |ret=>exact hk _
  ·cases e with
   |normal=>exact λρ' t' H' w' a' h' hs hv hd'=>V8 hB hBm n k hk Q ρ' t' H' w' a' h' hs.rel hv hd' (hf.Kn hs) (hq.V7 hs)
   |exit id=>exact hq (.exit id)
   |ret=>exact hq .ret
theorem aGI {O:aH}(hO:uL P O)(hM:pO O)(hmix:P.follows .mixedOrders=true)(n m:Nat){r:Value×aF}: ∀c:Code,Ee P c (eI P O (aL n) m c) r:=by
 intro c;induction c with
 |skip=>exact λk hk Q ρ t H w a h hr ht hd hf hq=>wp_skip (hq .normal ρ t H w a h (Step.pK hr) ht hd)
 |ret=>exact λk hk Q ρ t H w a h hr ht hd hf hq=>wp_ret (hq .ret ρ t H w a h (Step.pK hr) ht hd)
 |exit id=>exact λk hk Q ρ t H w a h hr ht hd hf hq=>wp_exit (hq (.exit id) ρ t H w a h (Step.pK hr) ht hd)
 |region id ops draw=>
  intro k hk Q ρ t H w a h hr ht hd hf hq;simp only[eI] at h;cases draw with
  |true=>
   simp only[if_true] at h
   split at h
   ·rename_i hok
    refine wp_region_any hmix ?_;refine aGy hO hM ops (hk .normal) hok h (hr.aGA rfl) ht hd hf ?_;exact λρ' t' H' w' a' h' hs hv hd'=>hq .normal ρ' t' H' w' a' h' (hs.aGB rfl rfl rfl rfl) hv hd'
   ·cases h
  |false=>
   simp only[Bool.false_eq_true,if_false] at h;refine wp_region ?_;have:=Vt hO hM ops (hk .normal) (Q:=Q) ops.toList 0 ρ t H w a rfl h hr ht hd hf (hq .normal);rwa [Array.length_toList,<-List.range_eq_range'] at this
 |seq x y ihx ihy=>
  intro k hk Q ρ t H w a h hr ht hd hf hq;simp only[eI] at h;refine wp_seq (ihx _ ?_ _ ρ t H w a h hr ht hd hf λe=> ?_)
  ·intro e
   cases e with
   |normal=>exact Kk P hM n _ y k hk
   |exit id=>exact hk _
   |ret=>exact hk _
  ·cases e with
   |normal=>exact λρ' t' H' w' a' h' hs hv hd'=>ihy k hk Q ρ' t' H' w' a' h' hs.rel hv hd' (hf.Kn hs) (hq.V7 hs)
   |exit id=>exact hq (.exit id)
   |ret=>exact hq .ret
 |cond c x y ihx ihy=>
  intro k hk Q ρ t H w a h hr ht hd hf hq;simp only[eI] at h
  split at h
  ·rename_i b hb
   have hev:a.eval c= .bool b:=by
    have:=Vq (ops:=[]) (o:=⟨none,.move c,0,"",#[],none⟩) (Looked.Bb ht _);have h1:=this c (by simp[Op.operands]) _ hb
    exact(Ea h1).1 b rfl
   cases b with
   |true=>exact wp_cond_true hev (ihx k hk Q ρ t H w a h hr ht hd hf hq)
   |false=>exact wp_cond_false hev (ihy k hk Q ρ t H w a h hr ht hd hf hq)
  ·cases h
 |block id c ih=>
  intro k hk Q ρ t H w a h hr ht hd hf hq;simp only[eI] at h;refine wp_block (ih _ ?_ _ ρ t H w a h hr ht hd hf λe=> ?_)
  ·intro e
   cases e with
   |normal=>exact hk _
   |exit j=>simp only;split<;>exact hk _
   |ret=>exact hk _
  ·cases e with
   |normal=>exact hq .normal
   |exit j=>
    by_cases hj:j=id
    ·have e:Exit.inBlock id Q (.exit j)=Q .normal:=by funext a w;simp[Exit.inBlock,hj]
     simp only[hj,if_true];rw[hj] at e;show KGood P ρ H w r (k .normal) (Exit.inBlock id Q (.exit id))
     rw[e];exact hq .normal
    ·have e:Exit.inBlock id Q (.exit j)=Q (.exit j):=by funext a w;simp[Exit.inBlock,hj]
     simp only[hj,if_false];show KGood P ρ H w r (k (.exit j)) (Exit.inBlock id Q (.exit j))
     rw[e];exact hq (.exit j)
   |ret=>exact hq .ret
 |loop c ih=>
  intro k hk Q ρ t H w a h hr ht hd hf hq;simp only[eI] at h;exact wp_loop_rounds n (V8 (aGJ m ih) (λk hk=>Kk P hM n _ c _ (hk.clr m)) n k hk Q ρ _ H w a h hr (ht.clr m) hd hf hq)
 |scope c ih=>
  intro k hk Q ρ t H w a h hr ht hd hf hq;simp only[eI] at h;refine wp_scope_straight (ih k hk (Exit.noGoto Q) ρ t H w a h hr ht hd hf λe=> ?_)
  cases e with
  |normal=>exact hq .normal
  |exit id=>exact hq (.exit id)
  |ret=>exact hq .ret
 |label l=>exact λk hk Q ρ t H w a h hr ht hd hf hq=>wp_label (hq .normal ρ t H w a h (Step.pK hr) ht hd)
 |_=>intro k hk Q ρ t H w a h;simp only[eI] at h;cases h
def Eh (tmps:Array Value):ResultVar->Sem Value
 | .tmp t=>pure (tmps.getD t undef)
 | .cell x t=>do loadVar t (<-asAddr (tmps.getD x undef))
theorem aGG (fn:Func)(tmps:Array Value):results fn tmps=(do let vs<-fn.results.mapM (Eh tmps);pure (if h:vs.size=1 then vs[0] else .tuple vs)):=rfl
theorem Ku (hr:Rel P ρ (cF H) w){t:cY}{a:Act}(ht:Srs ρ t a.tmps.toList): ∀(l:List ResultVar)(vs:List Value),fO P t H l=some vs->
  ∃vs',(l.mapM (Eh a.tmps)).run P w= .ok vs' w/\Vrs ρ vs vs'
 |[],vs,h=>by simp[fO] at h;subst h;exact⟨[],by simp,.j6 ρ⟩
 | .tmp i::l,vs,h=>by
  simp only[fO] at h;cases hg:gT t i with
  |none=>rw[hg] at h;cases h
  |some u=>
  rw[hg] at h;cases hl:fO P t H l with
  |none=>simp[hl] at h
  |some vs1=>
   simp[hl] at h;subst h;obtain⟨vs',h1,h2⟩:=Ku hr ht l vs1 hl;have hi:=Looked.Bb ht [i] i (by simp) u hg
   refine⟨a.tmps.getD i undef::vs',?_,.kV hi h2⟩;simp only[List.mapM_cons,Eh,Sem.run_bind,Sem.run_pure,aUB,h1]
 | .cell x ty::l,vs,h=>by
  simp only[fO] at h
  split at h
  ·rename_i sz by' g x0 hs hg hx0
   split at h
   ·rename_i y hy
    cases hl:fO P t H l with
    |none=>simp[hl] at h
    |some vs1=>
     simp[hl] at h;subst h;obtain⟨vs',h1,h2⟩:=Ku hr ht l vs1 hl;have hi:=Looked.Bb ht [x] x (by simp) x0 hx0
     obtain⟨_,ad,v',e0,e1,e2⟩:=Uy (H':=y.2) (v:=y.1) hr hs hg hi hy;refine⟨v'::vs',?_,.kV e2 h2⟩;have hA:(asAddr (.pointer (some ad))).run P w= .ok ad w:=rfl;simp only[List.mapM_cons,Eh,Sem.run_bind,e0,hA,Sem.run_pure,aUB,e1,h1]
   ·cases h
  ·cases h
theorem aGH (hr:Rel P ρ (cF H) w){t:cY}{a:Act}(ht:Srs ρ t a.tmps.toList){fn:Func}{vs:List Value}(h:fO P t H fn.results.toList=some vs):
  ∃v',(results fn a.tmps).run P w= .ok v' w/\Vr ρ (aK vs) v':=by
 obtain⟨vs',h1,h2⟩:=Ku hr ht _ vs h;refine⟨aK vs',?_,?_⟩
 ·rw[aGG,Array.mapM_eq_mapM_toList]
  simp only[Sem.run_bind,Sem.run_map,h1,aUB,Sem.run_pure]
  congr 1
  match vs' with
  |[]=>rfl
  |[v]=>rfl
  |x::y::l=>simp[aK]
 ·unfold aK
  split
  ·rename_i v
   obtain⟨v',vs'',rfl,hv,hn⟩:=h2.oR;have:=hn.nU;subst this;exact hv
  ·rename_i hne
   split
   ·rename_i v'
    exfalso;have:=h2.1
    match vs,this with
    |[v],_=>exact hne v rfl
   ·exact .tuple (by simpa using h2.1) (by simpa using h2.2)
theorem aGC {O:aH}(hO:uL P O)(hM:pO O)(hmix:P.follows .mixedOrders=true)(n:Nat){f:FuncId}{args:List Value}{v:Value}
  (h:aR P O (aL n) f args H=some (v,H'))(hr:Rel P ρ (cF H) w){args':List Value}(ha:Vrs ρ args args')(hf: ∀b,H.length<=b->b<H'.length->ρ b=none):
  wA P (.func f) args'.toArray w (Post P ρ H w v H'):=by
 unfold aR at h
 split at h
 ·rename_i fn hfn
  split at h
  ·rename_i c hc
   split at h
   ·rename_i hname
    have hfn':P.funcs[f]? =some fn:=by rw[mO];exact hfn
    have hname': ¬fn.name= "runtime.NumGoroutine":=by simpa using hname
    refine⟨by simp[callFunc,hfn',hname',hc],?_⟩
    refine calls_of_wp hfn' hc ?_;have hmono:MonoE (cS P fn) (v,H'):=by
     intro e t H1 h1;by_cases hx: ∃id,e= .exit id
     ·obtain⟨id,rfl⟩:=hx
      cases h1
     ·rw[Ec P fn e (λid he=>hx ⟨id,he⟩)] at h1
      cases hv:fO P t H1 fn.results.toList with
      |none=>simp[hv] at h1
      |some vs=>simp[hv] at h1;rw[h1.2];exact aUi _
    have htm0:Vrs ρ (args++List.replicate (fn.ntmps-args.length) undef) (args'.toArray++Array.replicate (fn.ntmps-args'.toArray.size) undef).toList:=by
     have:args'.length=args.length:=ha.1.symm;simp only[Array.toList_append,Array.toList_replicate,List.size_toArray,this];refine ha.A5 ⟨rfl,λi u v hu hv=> ?_⟩
     rw[hu] at hv;injection hv with e;subst e;have:=List.eq_of_mem_replicate (aUn hu);subst this;exact .tF ρ
    have htm:=htm0.srs;rw[List.map_append,List.map_replicate] at htm;refine aGI hO hM hmix n _ c _ hmono _ ρ _ H w _ h hr htm rfl hf λe=> ?_
    have fin: ∀ρ' t' H1 w' (a':Act),((fO P t' H1 fn.results.toList).map λvs=>(aK vs,H1))=some (v,H')->Step P ρ H w ρ' H1 w'->Srs ρ' t' a'.tmps.toList->a'.defers=[]->
      a'.defers=[]/\ ∃v',(results fn a'.tmps).run P w'= .ok v' w'/\ ∃v1,Ending.returned v'= .returned v1/\Post P ρ H w v H' v1 w':=by
     intro ρ' t' H1 w' a' h1 hs hv hd;cases hvs:fO P t' H1 fn.results.toList with
     |none=>simp[hvs] at h1
     |some vs=>
      simp[hvs] at h1;obtain⟨rfl,rfl⟩:=h1;obtain⟨v',h2,h3⟩:=aGH hs.rel hv hvs
      exact⟨hd,v',h2,v',rfl,ρ',h3,hs⟩
    cases e with
    |exit id=>exact λρ' t' H1 w' a' h1=>by cases h1
    |normal=>exact λρ' t' H1 w' a' h1 hs hv hd=>fin ρ' t' H1 w' a' (by rw[<-Ec P fn .normal (by simp)];exact h1) hs hv hd
    |ret=>exact λρ' t' H1 w' a' h1 hs hv hd=>fin ρ' t' H1 w' a' (by rw[<-Ec P fn .ret (by simp)];exact h1) hs hv hd
   ·cases h
  ·cases h
 ·cases h
theorem aGE {O:aH}(hM:pO O)(n:Nat){f:FuncId}{args:List Value}{v:Value}(h:aR P O (aL n) f args H=some (v,H')):H.length<=H'.length:=by
 unfold aR at h
 split at h
 ·rename_i fn hfn
  split at h
  ·split at h
   ·refine Kk P hM n _ _ _ (r:=(v,H')) ?_ _ _ h
    intro e t H1 h1;by_cases hx: ∃id,e= .exit id
    ·obtain⟨id,rfl⟩:=hx
     cases h1
    ·rw[Ec P _ e (λid he=>hx ⟨id,he⟩)] at h1
     cases hv:fO P t H1 fn.results.toList with
     |none=>simp[hv] at h1
     |some vs=>simp[hv] at h1;rw[h1.2];exact aUi _
   ·cases h
  ·cases h
 ·cases h
structure PrimsOk (P:Program)(pr:eK):Prop where
 mono: ∀f p,pr f=some p-> ∀args H v H',p args H=some (v,H')->H.length<=H'.length
 sound: ∀f p,pr f=some p-> ∀args H v H',p args H=some (v,H')-> ∀ρ w args',Rel P ρ (cF H) w->Vrs ρ args args'->(∀b,H.length<=b->b<H'.length->ρ b=none)->
  wA P f args'.toArray w (Post P ρ H w v H')
theorem V9 {pr:eK}(hp:PrimsOk P pr): ∀n,pO (lvl P pr n)
 |0=>λ_ _ _ _ _ h=>by cases h
 |n+1=>λf args H v H' h=>by
  simp only[lvl] at h
  split at h
  ·rename_i p hpf;exact hp.mono f p hpf args H v H' h
  ·split at h
   ·exact aGE (V9 hp n) n h
   ·cases h
theorem Kt {pr:eK}(hp:PrimsOk P pr)(hmix:P.follows .mixedOrders=true): ∀n,uL P (lvl P pr n)
 |0=>λ_ _ _ _ _ h=>by cases h
 |n+1=>λf args H v H' h ρ w args' hr ha hf=>by
  simp only[lvl] at h
  split at h
  ·rename_i p hpf;exact hp.sound f p hpf args H v H' h ρ w args' hr ha hf
  ·split at h
   ·exact aGC (Kt hp hmix n) (V9 hp n) hmix n h hr ha hf
   ·cases h
theorem aGF:PrimsOk P (λ_=>none):=⟨λf p h=>(by cases h),λf p h=>(by cases h)⟩
end
end Go.Abs
namespace Go.Abs
open M
open Go.ChangeShapes Go.WideShapes
structure Kept (w w':World):Prop where
 size:w.heap.size<=w'.heap.size
 same: ∀c:Nat,c<w.heap.size->w'.heap[c]? =w.heap[c]?
 os:w'.os=w.os
 output:w'.output=w.output
theorem Kept.but {w w':World}(h:Kept w w')(may:MemPlace->Prop):w.keptBut w' may:=by
 refine⟨h.os,h.output,λi hi=> ?_⟩
 rw[h.same i hi];cases hb:w.heap[i]? with
 |none=>trivial
 |some x=>cases x with
  |cells c t fr=>exact⟨rfl,rfl,rfl,λ_ _=>rfl⟩
  |map es clock=>exact .inr ⟨rfl,rfl⟩
  |_=>rfl
theorem Kept.aGK {w w':World}(h:Kept w w')(a:Addr)(ha:a.block<w.heap.size):w'.frozen? a=w.frozen? a:=by
 simp only[World.frozen?,h.same a.block ha]
theorem Kept.aGL {P:Program}{ρ ρ':Ren}{H H':aF}{w w':World}(h:Step P ρ H w ρ' H' w')(hw: ∀b pl,ρ b=some pl->wr H[b]? =false):Kept w w':=
 ⟨h.size,λc hc=>h.frame c hc λb pl hb hwr=>(by rw[hw b pl hb] at hwr;exact absurd hwr aC),h.os,h.output⟩
theorem Wc (P:Program)(w:World)(ht:A0 P w):Rel P (λ_=>none) (cF []) w:=
 ⟨λb p h=>(by cases h),λb p x h=>(by cases h),λb1 b2 p1 p2 _ h=>(by cases h),λg hg=>⟨ht g hg,λb pl h=>(by cases h)⟩⟩
theorem aGN {H:Type}{enc:TypeId×Value->H}{P:Program}{f:Func}{s:ChangeSpec}{apart fresh handsOn again:Bool}{W W':World}{args:Array Value}{v:Value}{ds gs:List (DataW H)}{before pa pv:List MemPlace}
  (hW:DataW.Whole enc P f.params.toList s.vars apart W args.toList ds gs before)
  (hres: ∀(b:Nat)(sp:Nat->Bool)(hd:Bool),DataW.TrodAll enc P W' b sp hd f.resultTypes.toList (v.resultList f.resultTypes.size) (s.fn H (ds++gs)).results [])
  (hargs: ∀sp:Nat->Bool,(∀p∈before,sp p.block=true)->DataW.TrodAll enc P W' 0 sp true f.params.toList args.toList (s.fn H (ds++gs)).args pa)
  (hvars: ∀sp:Nat->Bool,(∀p∈before,sp p.block=true)->DataW.TrodVars enc P W' sp s.vars (s.fn H (ds++gs)).vars pv)
  (hps:before=pa++pv)(hk:Kept W W')
  (hok: ∀(j:Nat)(t:TypeId)(r:Value),f.resultTypes[j]? =some t->(v.resultList f.resultTypes.size)[j]? =some r->Value.okWide P W' .any 0 t r):
  s.post enc P f apart fresh handsOn again W args v W':=by
 have hlt: ∀p∈before,p.block<W.heap.size:=λp hp=>hW.lt p hp
 have hin: ∀p∈before,p∈pa∨p∈pv:=λp hp=>by rw[hps] at hp;exact List.mem_append.mp hp
 have hcov: ∀p∈before,(λb=>decide (b<W.heap.size)) p.block=true:=λp hp=>by simpa using hlt p hp
 obtain⟨_,_,_,_,_,hz,hnd⟩:=id hW;refine⟨ds,gs,before,[],pa,pv,hW,hres _ _ _,hargs _ hcov,hvars _ hcov,hk.but _,λ_=>⟨hok,(s.fn H (ds++gs)).results++(s.fn H (ds++gs)).args,(s.fn H (ds++gs)).vars,pa++pv,?_,?_⟩⟩
 ·refine⟨pa,pv,?_,hvars _ (λ_ _=>rfl),rfl,?_,?_⟩
  ·exact trodAll_append (p':=pa) (p:=[]) (hargs _ (λ_ _=>rfl)) (hres _ _ _)
  ·intro b off hb
   rw[<-hps] at hb;rw[hk.aGK _ (hlt _ hb)];exact hz b off hb
  ·intro ha
   rw[<-hps];exact hnd ha
 ·intro p hp _
  rw[hps];exact hp
theorem Step.Wa {P:Program}{ρ:Ren}{H:aF}{w w':World}(hr:Rel P ρ (cF H) w)(hs:w.heap.size<=w'.heap.size)(same: ∀c:Nat,c<w.heap.size->w'.heap[c]? =w.heap[c]?)
  (hos:w'.os=w.os)(htape:w'.tape=w.tape)(hout:w'.output=w.output):Step P ρ H w ρ H w':=
 ⟨⟨λb p h=>aUs (hr.lt b p h) hs,λb pl x h1 h2=>(by rw[same pl.c (hr.lt b pl h1)];exact hr.blk b pl x h1 h2),hr.sep,hr.tab.Do (λc hc _=>same c hc) λb p hb hw=> .inr ⟨b,p,hb,hw,rfl⟩⟩,Ren.rR ρ,λb h=> .inl h,aUi _,λb h1 h2=>absurd h1 U,
  hs,λc hc _=>same c hc,λ_ _ _=>rfl,λ_ h=>h,λ_ _ h=>h,λb pl h h'=>(by rw[h] at h';cases h'),hos,htape,hout⟩
def rT (ids:List FuncId):eK:=λf=>match f with
 | .func g=>if ids.contains g=true then some λargs H=>if args.isEmpty=true then some (.bool true,H) else none else none
 |_=>none
theorem Kv {ids:List FuncId}{g:FuncId}(h:ids.contains g=false):rT ids (.func g)=none:=by
 simp only[rT,h];rfl
theorem Wb {ids:List FuncId}{g:FuncId}(h:ids.contains g=true):rT ids (.func g)=some λargs H=>if args.isEmpty=true then some (.bool true,H) else none:=by
 simp only[rT,h];rfl
theorem aGM {P:Program}(hmix:P.follows .mixedOrders=true){ids:List FuncId}(h: ∀g,ids.contains g=true-> ∃n,(lvl P (λ_=>none) n (.func g) [] []).map (·.1)=some (.bool true)):PrimsOk P (rT ids):=by
 constructor
 ·intro f p hf args H v H' hp
  cases f with
  |func g=>
   by_cases hg:ids.contains g=true
   ·rw[Wb hg] at hf
    cases hf;simp only at hp
    split at hp
    ·cases hp;exact aUi _
    ·cases hp
   ·rw[Kv (by simpa using hg)] at hf
    cases hf
  |_=>cases hf
 ·intro f p hf args H v H' hp ρ w args' hr ha _
  cases f with
  |func g=>
   by_cases hg:ids.contains g=true
   ·rw[Wb hg] at hf
    cases hf;simp only at hp
    split at hp
    ·rename_i hnil
     cases hp;have hargs:args=[]:=by simpa using hnil
     subst hargs;have:=ha.nU;subst this;obtain⟨n,hn⟩:=h g hg;obtain⟨r,hr1,hr2⟩:=aUJ.mp hn;have hc:=Kt (aGF (P:=P)) hmix n (.func g) [] [] r.1 r.2 (by rw[hr1]) (λ_=>none) w [] (Wc P w hr.Js) (Vrs.j6 _) (λ_ _ _=>rfl)
     refine⟨hc.1,hc.2.mono ?_⟩;intro e w' ⟨v',he,ρ',hv,hs⟩;rw[hr2] at hv;refine⟨v',he,ρ,?_,Step.Wa hr hs.size (λc hc=>hs.frame c hc λb pl hb=>(by cases hb)) hs.os hs.tape hs.output⟩
     cases hv with
     |same _=>exact .same rfl
    ·cases hp
   ·rw[Kv (by simpa using hg)] at hf
    cases hf
  |_=>cases hf
theorem wE {α β:Type}{f g:α->Option β}: ∀(l:List α)(ys:List β),l.mapM f=some ys->(∀a y,a∈l->f a=some y->y∈ys->g a=some y)->l.mapM g=some ys
 |[],ys,h,_=>by simpa using h
 |a::l,ys,h,hg=>by
  simp only[List.mapM_cons,Option.pure_def,Option.bind_eq_bind,Option.bind_eq_some_iff,aUE] at h⊢;obtain⟨y,hy,ys',hys,rfl⟩:=h
  exact⟨y,hg a y (by simp) hy (by simp),ys',wE l ys' hys λb z hb hz hm=>hg b z (by simp[hb]) hz (by simp[hm]),rfl⟩
section
variable {H : Type} {enc : TypeId × Value → H} {P : Program} {W W' : World} {base : Nat} {held : Bool}
theorem aGO (hk:Kept W W'){a:Addr}{v:Value}(h:W.cell? a=some v):W'.cell? a=some v:=by
 have hlt:a.block<W.heap.size:=by
  by_cases hl:a.block<W.heap.size
  ·exact hl
  ·rw[World.cell?,Array.getElem?_eq_none U] at h
   cases h
 rw[World.cell?,hk.same _ hlt];exact h
theorem aGP (hk:Kept W W'){a:Addr}{n:Nat}{cs:List Value}(h:W.cells? base a n=some cs):W'.cells? base a n=some cs:=by
 unfold World.cells? at h⊢
 split at h
 ·rename_i hb
  rw[if_pos hb];exact wE _ _ h λi v _ hv _=>aGO hk hv
 ·cases h
theorem aGR (a:Addr)(n:Nat)(h:0<n): ∃p∈MemPlace.row a n,p.block=a.block:=⟨.cell a.block (a.off+0),aUQ.mpr ⟨0,aUR.mpr h,rfl⟩,rfl⟩
def okT (P:Program)(S:List TypeId)(t:TypeId):Bool:=match P.underlying t with
 |some (.pointer e)=>S.contains e
 |some (.slice e)=>decide (0<P.cellsOf e)&&S.contains e
 |some (.struct fs)=>fs.toList.all λf=>S.contains f.type
 |some (.array _ e)=>S.contains e
 |some (.map _ e)=>S.contains e
 |some (.interface _)=>false
 |_=>true
theorem aGQ {S:List TypeId}(hz:S.all (okT P S)=true){t:TypeId}(ht:t∈S):okT P S t=true:=aUS.mp hz t ht
theorem aGS (hk:Kept W W'){S:List TypeId}(hz:S.all (okT P S)=true){sp:Nat->Bool}: ∀(fuel:Nat)(t:TypeId)(cs:List Value)(x:DataW H×List MemPlace),t∈S->
  DataW.trod enc P W base (λ_=>true) held fuel t cs=some x->(∀p∈x.2,sp p.block=true)->DataW.trod enc P W' base sp held fuel t cs=some x:=by
 intro fuel;induction fuel with
 |zero=>intro t cs x _ h;simp[DataW.trod] at h
 |succ n ih=>
  intro t cs x hS h hx;have hok:=aGQ hz hS;have elem: ∀(e:TypeId)(a:Addr)(y:DataW H×List MemPlace),e∈S->(W.cells? base a (P.cellsOf e)).bind (DataW.trod enc P W base (λ_=>true) held n e)=some y->(∀p∈y.2,sp p.block=true)->
    (W'.cells? base a (P.cellsOf e)).bind (DataW.trod enc P W' base sp held n e)=some y:=by
   intro e a y he hy hp;obtain⟨cs',h1,h2⟩:=Option.bind_eq_some_iff.mp hy;exact Option.bind_eq_some_iff.mpr ⟨cs',aGP hk h1,ih e cs' y he h2 hp⟩
  unfold DataW.trod at h⊢
  split at h
  case h_6 e a hu=>
   obtain⟨y,hy,rfl⟩:=aUJ.mp h;have he:e∈S:=by simpa[okT,hu] using hok
   rw[elem e a y he hy λp hp=>hx p (by simp[hp])]
   rfl
  case h_8 e a len cap hu=>
   have he:0<P.cellsOf e/\e∈S:=by simpa[okT,hu] using hok
   simp only[hu];simp only at h
   split at h
   ·rename_i hc
    rw[if_pos hc];simp only[if_true] at h;obtain⟨elems,h1,h⟩:=Option.bind_eq_some_iff.mp h;obtain⟨rest,h2,rfl⟩:=aUJ.mp h;have m1:=wE (g:=λi=>(W'.cells? base (a.add (i*P.cellsOf e)) (P.cellsOf e)).bind (DataW.trod enc P W' base sp held n e)) _ _ h1 λi y _ hy hm=>elem e _ y he.2 hy λp hp=>hx p (by
     simp only[List.mem_append,List.mem_flatMap];exact .inr ⟨y,.inl hm,hp⟩)
    have m2:=wE (g:=λj=>(W'.cells? base (a.add ((len+j)*P.cellsOf e)) (P.cellsOf e)).bind (DataW.trod enc P W' base sp held n e)) _ _ h2 λi y _ hy hm=>elem e _ y he.2 hy λp hp=>hx p (by
     simp only[List.mem_append,List.mem_flatMap];exact .inr ⟨y,.inr hm,hp⟩)
    rw[m1];simp only[Option.bind_some];by_cases hs:sp a.block=true
    ·rw[if_pos hs,m2]
     rfl
    ·have h0:(elems.length+rest.length)*P.cellsOf e=0:=by
      by_cases hp:0<(elems.length+rest.length)*P.cellsOf e
      ·obtain⟨p,hp1,hp2⟩:=aGR a _ hp
       exact absurd (by rw[<-hp2];exact hx p (by simp[hp1])) hs
      ·omega
     have hpos:=he.1;have hr:rest=[]:=by
      rcases Nat.mul_eq_zero.mp h0 with h0|h0
      ·exact aUv.mp U
      ·omega
     subst hr;rw[if_neg hs];rfl
   ·cases h
  case h_9 fs hu=>
   have he: ∀f∈fs.toList,f.type∈S:=by
    simp only[okT,hu,aUS] at hok;exact λf hf=>by simpa using hok f hf
   split at h
   ·rename_i hc
    rw[if_pos hc];obtain⟨xs,h1,rfl⟩:=aUJ.mp h;rw[wE _ _ h1 λf y hf hy hm=>ih _ _ y (he f hf) hy λp hp=>hx p (by simp only[List.mem_flatMap];exact⟨y,hm,hp⟩)]
    rfl
   ·cases h
  case h_10 m e hu=>
   have he:e∈S:=by simpa[okT,hu] using hok
   split at h
   ·rename_i hc
    rw[if_pos hc];obtain⟨xs,h1,rfl⟩:=aUJ.mp h;rw[wE _ _ h1 λf y _ hy hm=>ih _ _ y he hy λp hp=>hx p (by simp only[List.mem_flatMap];exact⟨y,hm,hp⟩)]
    rfl
   ·cases h
  case h_12 m u v hu=>simp[okT,hu] at hok
  case h_14 k e b hu=>
   have he:e∈S:=by simpa[okT,hu] using hok
   split at h
   ·rename_i es clock hb
    have hlt:b<W.heap.size:=by
     by_cases hl:b<W.heap.size
     ·exact hl
     ·rw[Array.getElem?_eq_none U] at hb
      cases hb
    rw[hk.same b hlt,hb];simp only
    split at h
    ·rename_i hc
     rw[if_pos hc];obtain⟨entries,h1,h2⟩:=Option.bind_eq_some_iff.mp h;simp only at h2
     split at h2
     ·rename_i hr
      cases h2;have m1:=wE (g:=λx:MapEntry=>(keyOf P k x.key).bind λkey=>if Value.formed P e x.val=true then Option.map (λy=>((key,y.1),y.2)) (DataW.trod enc P W' base sp held n e x.val.cells.toList) else none) _ _ h1 λen y _ hy hm=>by
       obtain⟨key,k1,k2⟩:=Option.bind_eq_some_iff.mp hy;refine Option.bind_eq_some_iff.mpr ⟨key,k1,?_⟩
       split at k2
       ·rename_i hf
        rw[if_pos hf];obtain⟨z,hz1,rfl⟩:=aUJ.mp k2;rw[ih _ _ z he hz1 λp hp=>hx p (by simp only[aUw,List.mem_flatMap];exact .inr ⟨_,hm,hp⟩)]
        rfl
       ·cases k2
      rw[m1];simp only[Option.bind_some];rw[if_pos hr]
     ·cases h2
    ·cases h
   ·cases h
  all_goals exact h
theorem Wd (hk:Kept W W'){S:List TypeId}(hz:S.all (okT P S)=true){sp:Nat->Bool}: ∀(ts:List TypeId)(vs:List Value)(ds:List (DataW H))(ps:List MemPlace),(∀t∈ts,t∈S)->
  DataW.TrodAll enc P W base (λ_=>true) held ts vs ds ps->(∀p∈ps,sp p.block=true)->DataW.TrodAll enc P W' base sp held ts vs ds ps
 |[],vs,ds,ps,_,h,hx=>by
  obtain⟨rfl,rfl,rfl⟩:=trodAll_nil h;exact trodAll_mk0
 |t::ts,vs,ds,ps,hS,h,hx=>by
  obtain⟨v,vs',d,ds',p,p',rfl,rfl,rfl,h1,h2⟩:=trodAll_cons h;refine trodAll_cons_mk ?_ (Wd hk hz ts vs' ds' p' (λu hu=>hS u (by simp[hu])) h2 λq hq=>hx q (by simp[hq]))
  obtain⟨fuel,hf⟩:=h1
  exact⟨fuel,aGS hk hz fuel t _ _ (hS t (by simp)) hf λq hq=>hx q (by simp;exact .inl hq)⟩
def Ei (P:Program)(t:TypeId):Option (List (TypeId×Nat)):=match P.underlying t with
 |some (.struct fs)=>some (fs.toList.map λf=>(f.type,f.offset))
 |_=>none
end
end Go.Abs
namespace Go.Abs
open M
def ob {α:Type}(x:Option (Value×aF))(f:Value->aF->Option α):Option α:=
 match x with
 |none=>none
 |some r=>f r.1 r.2
def Kw {α:Type}(v:Value)(a b:Option α):Option α:=
 match v with
 | .bool x=>if x=true then a else b
 |_=>none
def ifB {α:Type}(b:Bool)(x:Option α):Option α:=if b=true then x else none
abbrev MV:=aF->Option (Value×aF)
def aM (v:Value):MV:=λh=>some (v,h)
theorem rt_eq (v:Value)(H:aF):aM v H=some (v,H):=rfl
def bM (m:M Value)(f:Value->MV):MV:=λh=>ob (m h) f
def bO (x:Option Value)(f:Value->MV):MV:=λh=>ob (aP x h) f
def bB (P:Program)(op:BinOp)(t:TypeId)(x y:Value)(f:Value->MV):MV:=λh=>ob (aP (bin P op t x y) h) f
def bF (n:Nat)(x:Value)(f:Value->MV):MV:=λh=>ob (aP (mJ n x) h) f
def bL (x:Value)(f:Value->MV):MV:=λh=>ob (ld1 x h) f
def bC (O:aH)(g:Nat)(a:List Value)(f:Value->MV):MV:=λh=>ob (O (.func g) a h) f
def bQ (x:Value)(f:Value->MV):MV:=λh=>ob (aP (nC x) h) f
def bN (x:Value)(f:Value->MV):MV:=λh=>ob (aP (cX x) h) f
def bI (n:Nat)(x i:Value)(f:Value->MV):MV:=λh=>ob (aP (cN n x i) h) f
def bX (i:Nat)(x:Value)(f:Value->MV):MV:=λh=>ob (aP (ext i x) h) f
def bP (a b c:Value)(f:Value->MV):MV:=λh=>ob (aP (yS a b c) h) f
def bT (a v:Value)(f:Value->MV):MV:=λh=>ob (stN 1 a v h) f
def bG (c:Value)(w:Bool)(m:M Value)(f:Value->MV):MV:=λh=>ob (gd c w m h) f
def gO (c:Value)(w:Bool)(O:aH)(g:Nat)(a:List Value)(f:Value->MV):MV:=λh=>ob (gd c w (O (.func g) a) h) f
def bR (m:M Value)(f:Value->MV):MV:=λh=>ob (m h) λv _=>f v h
def gH (f:aF->MV):MV:=λh=>f h h
def ifK (b:Bool)(m:MV):MV:=λh=>ifB b (m h)
def aN (v:Value)(a b:MV):MV:=λh=>Kw v (a h) (b h)
def bFL (n:Nat)(x:Value)(f:Value->MV):MV:=bF n x λa=>bL a f
def bQF (n:Nat)(x:Value)(f:Value->MV):MV:=bQ x λa=>bF n a f
def aW (n:Nat)(x:Value)(f:Value->MV):MV:=bQ x λa=>bF n a λb=>bL b f
def bIL (n:Nat)(x i:Value)(f:Value->MV):MV:=bI n x i λa=>bL a f
def gFL (c:Value)(w:Bool)(n:Nat)(x:Value)(f:Value->MV):MV:=bG c w (aP (mJ n x)) λa=>bG c w (ld1 a) f
def nX (c:Value)(w:Bool)(n:Nat)(x:Value)(f:Value->MV):MV:=bG c w (aP (nC x)) λa=>gFL c w n a f
theorem bM_eq (m:M Value)(f:Value->MV)(H:aF):bM m f H=ob (m H) f:=rfl
theorem bO_eq (x:Option Value)(f:Value->MV)(H:aF):bO x f H=ob (aP x H) f:=rfl
theorem bB_eq (P:Program)(op:BinOp)(t:TypeId)(x y:Value)(f:Value->MV)(H:aF):bB P op t x y f H=ob (aP (bin P op t x y) H) f:=rfl
theorem bF_eq (n:Nat)(x:Value)(f:Value->MV)(H:aF):bF n x f H=ob (aP (mJ n x) H) f:=rfl
theorem bL_eq (x:Value)(f:Value->MV)(H:aF):bL x f H=ob (ld1 x H) f:=rfl
theorem bC_eq (O:aH)(g:Nat)(a:List Value)(f:Value->MV)(H:aF):bC O g a f H=ob (O (.func g) a H) f:=rfl
theorem bQ_eq (x:Value)(f:Value->MV)(H:aF):bQ x f H=ob (aP (nC x) H) f:=rfl
theorem bN_eq (x:Value)(f:Value->MV)(H:aF):bN x f H=ob (aP (cX x) H) f:=rfl
theorem bI_eq (n:Nat)(x i:Value)(f:Value->MV)(H:aF):bI n x i f H=ob (aP (cN n x i) H) f:=rfl
theorem bX_eq (i:Nat)(x:Value)(f:Value->MV)(H:aF):bX i x f H=ob (aP (ext i x) H) f:=rfl
theorem bP_eq (a b c:Value)(f:Value->MV)(H:aF):bP a b c f H=ob (aP (yS a b c) H) f:=rfl
theorem bT_eq (a v:Value)(f:Value->MV)(H:aF):bT a v f H=ob (stN 1 a v H) f:=rfl
theorem bG_eq (c:Value)(w:Bool)(m:M Value)(f:Value->MV)(H:aF):bG c w m f H=ob (gd c w m H) f:=rfl
theorem gO_eq (c:Value)(w:Bool)(O:aH)(g:Nat)(a:List Value)(f:Value->MV)(H:aF):gO c w O g a f H=ob (gd c w (O (.func g) a) H) f:=rfl
theorem bR_eq (m:M Value)(f:Value->MV)(H:aF):bR m f H=ob (m H) λv _=>f v H:=rfl
theorem gH_eq (f:aF->MV)(H:aF):gH f H=f H H:=rfl
theorem ifK_true (m:MV)(H:aF):ifK true m H=m H:=rfl
theorem iteK_t (a b:MV)(H:aF):aN (.bool true) a b H=a H:=rfl
theorem iteK_f (a b:MV)(H:aF):aN (.bool false) a b H=b H:=rfl
theorem bFL_eq (n:Nat)(x:Value)(f:Value->MV)(H:aF):bFL n x f H=ob (aP (mJ n x) H) λa h=>ob (ld1 a h) f:=rfl
theorem bQF_eq (n:Nat)(x:Value)(f:Value->MV)(H:aF):bQF n x f H=ob (aP (nC x) H) λa h=>ob (aP (mJ n a) h) f:=rfl
theorem bQFL_eq (n:Nat)(x:Value)(f:Value->MV)(H:aF):aW n x f H=ob (aP (nC x) H) λa h=>ob (aP (mJ n a) h) λb h=>ob (ld1 b h) f:=rfl
theorem bIL_eq (n:Nat)(x i:Value)(f:Value->MV)(H:aF):bIL n x i f H=ob (aP (cN n x i) H) λa h=>ob (ld1 a h) f:=rfl
theorem gFL_eq (c:Value)(w:Bool)(n:Nat)(x:Value)(f:Value->MV)(H:aF):gFL c w n x f H=ob (gd c w (aP (mJ n x)) H) λa h=>ob (gd c w (ld1 a) h) f:=rfl
theorem gQFL_eq (c:Value)(w:Bool)(n:Nat)(x:Value)(f:Value->MV)(H:aF):nX c w n x f H=ob (gd c w (aP (nC x)) H) λa h=>gFL c w n a f h:=rfl
theorem gsB:type_of%(And.intro @gO_eq (And.intro @rt_eq (And.intro @bM_eq (And.intro @bO_eq (And.intro @bB_eq (And.intro @bF_eq (And.intro @bL_eq (And.intro @bC_eq (And.intro @bQ_eq (And.intro @bN_eq (And.intro @bI_eq (And.intro @bX_eq (And.intro @bP_eq (And.intro @bT_eq (And.intro @bG_eq (And.intro @bR_eq (And.intro @gH_eq (And.intro @ifK_true (And.intro @iteK_t (And.intro @iteK_f (And.intro @bFL_eq (And.intro @bQF_eq (And.intro @bQFL_eq (And.intro @bIL_eq (And.intro @gFL_eq @gQFL_eq))))))))))))))))))))))))):=And.intro @gO_eq (And.intro @rt_eq (And.intro @bM_eq (And.intro @bO_eq (And.intro @bB_eq (And.intro @bF_eq (And.intro @bL_eq (And.intro @bC_eq (And.intro @bQ_eq (And.intro @bN_eq (And.intro @bI_eq (And.intro @bX_eq (And.intro @bP_eq (And.intro @bT_eq (And.intro @bG_eq (And.intro @bR_eq (And.intro @gH_eq (And.intro @ifK_true (And.intro @iteK_t (And.intro @iteK_f (And.intro @bFL_eq (And.intro @bQF_eq (And.intro @bQFL_eq (And.intro @bIL_eq (And.intro @gFL_eq @gQFL_eq))))))))))))))))))))))))
def uO:List Nat->Code->Code
 |[],c=>c
 |0::l,.seq a _=>uO l a
 |1::l,.seq _ b=>uO l b
 |0::l,.cond _ a _=>uO l a
 |1::l,.cond _ _ b=>uO l b
 |0::l,.block _ c=>uO l c
 |0::l,.loop c=>uO l c
 |0::l,.scope c=>uO l c
 |_,c=>c
def aGT (P:Program)(n:Nat):Code:=
 match P.funcs.toList[n]? with
 |some f=>f.body.getD .skip
 |none=> .skip
def cc (P:Program)(m n:Nat)(p:List Nat):CC:=⟨m,uO p (aGT P n)⟩
def cJ {α:Type}(P:Program)(O:aH)(L:aI α)(b:CC)(k:Ex->K α):Ex->K α:=λe=>match e with
 | .normal=>eI P O L b.m b.c k
 | .exit id=>k (.exit id)
 | .ret=>k .ret
def bV {α:Type}(id:Nat)(k:Ex->K α):Ex->K α:=λe=>match e with
 | .normal=>k .normal
 | .exit j=>if j=id then k .normal else k (.exit j)
 | .ret=>k .ret
section
variable {α : Type} {P : Program} {H : aF}
theorem ob_some (v:Value)(H:aF)(f:Value->aF->Option α):ob (some (v,H)) f=f v H:=rfl
theorem iteV_true (x y:Option α):Kw (.bool true) x y=x:=rfl
theorem iteV_false (x y:Option α):Kw (.bool false) x y=y:=rfl
theorem ifB_true (x:Option α):ifB true x=x:=rfl
theorem r_ret (v:Value):aX v H=some (v,H):=rfl
theorem r_opt (v:Value):aP (some v) H=some (v,H):=rfl
theorem r_gdt (m:M Value):gd (.bool true) true m H=m H:=rfl
theorem aGU (m:M Value):gd (.bool false) false m H=m H:=rfl
theorem r_gdtf (m:M Value):gd (.bool true) false m H=some (undef,H):=rfl
theorem r_gdft (m:M Value):gd (.bool false) true m H=some (undef,H):=rfl
theorem r_nil (a:Addr):nC (.pointer (some a))=some (.pointer (some a)):=rfl
theorem r_fAddr (off b o:Nat):mJ off (.pointer (some ⟨b,o,none⟩))=some (.pointer (some ⟨b,o+off,none⟩)):=rfl
theorem mP (sz b o n c:Nat)(k:IntKind)(i:Int)(h0:0<=i)(h1:i<(n:Int)):cN sz (.slice (some ⟨b,o,none⟩) n c) (.int k i)=some (.pointer (some ⟨b,o+i.toNat*sz,none⟩)):=by
 simp[cN,h0,h1,adr]
theorem tI (a:Addr)(n c:Nat):cX (.slice (some a) n c)=some (.int .i64 n):=rfl
theorem Kx:cX (.slice none 0 0)=some (.int .i64 0):=rfl
theorem Be {b o:Nat}{cs:List Value}{e:TypeId}{k:Kind}{x:Value}(hb:H[b]? =some (.cells cs e k))(hx:cs[o]? =some x):ld1 (.pointer (some ⟨b,o,none⟩)) H=some (x,H):=by
 simp[ld1,hb,hx]
theorem aV (t:TypeId)(k:IntKind)(a b:Int):bin P .add t (.int k a) (.int k b)=some (.int k (k.wrap (a+b))):=by simp[bin,cL,eN,pur,binOp,Op.intArith,pure]
theorem eM (t:TypeId)(k:IntKind)(a b:Int):bin P .sub t (.int k a) (.int k b)=some (.int k (k.wrap (a-b))):=by simp[bin,cL,eN,pur,binOp,Op.intArith,pure]
theorem We (t:TypeId)(k:IntKind)(a b:Int):bin P .mul t (.int k a) (.int k b)=some (.int k (k.wrap (a*b))):=by simp[bin,cL,eN,pur,binOp,Op.intArith,pure]
theorem b_lss (t:TypeId)(k:IntKind)(a b:Int):bin P .lss t (.int k a) (.int k b)=some (.bool (decide (a<b))):=by simp[bin,cL,eN,pur,binOp,Op.intCmp,pure]
theorem b_leq (t:TypeId)(k:IntKind)(a b:Int):bin P .leq t (.int k a) (.int k b)=some (.bool (decide (a<=b))):=by simp[bin,cL,eN,pur,binOp,Op.intCmp,pure]
theorem b_gtr (t:TypeId)(k:IntKind)(a b:Int):bin P .gtr t (.int k a) (.int k b)=some (.bool (decide (b<a))):=by simp[bin,cL,eN,pur,binOp,Op.intCmp,pure]
theorem b_geq (t:TypeId)(k:IntKind)(a b:Int):bin P .geq t (.int k a) (.int k b)=some (.bool (decide (b<=a))):=by simp[bin,cL,eN,pur,binOp,Op.intCmp,pure]
theorem b_eql (t:TypeId)(k:IntKind)(a b:Int):bin P .eql t (.int k a) (.int k b)=some (.bool (a==b)):=by simp[bin,cL,eN,pur,binOp,Op.intCmp,pure]
theorem b_neq (t:TypeId)(k:IntKind)(a b:Int):bin P .neq t (.int k a) (.int k b)=some (.bool (a !=b)):=by simp[bin,cL,eN,pur,binOp,Op.intCmp,pure]
theorem Bd (t:TypeId)(k:IntKind)(a b:Int)(hb:b≠0):bin P .rem t (.int k a) (.int k b)=some (.int k (a.tmod b)):=by simp[bin,cL,eN,pur,binOp,Op.intDiv,pure,hb]
theorem Wh (t:TypeId)(k:IntKind)(a b:Int)(hb:b≠0):bin P .quo t (.int k a) (.int k b)=some (.int k (k.wrap (a.tdiv b))):=by simp[bin,cL,eN,pur,binOp,Op.intDiv,pure,hb]
theorem u_not (b:Bool):un P .not (.bool b)=some (.bool !b):=rfl
theorem Wg (t e:TypeId)(h:P.underlying t=some (.pointer e))(a:Addr):bin P .eql t (.pointer (some a)) (.pointer none)=some (.bool false)/\bin P .neq t (.pointer (some a)) (.pointer none)=some (.bool true):=by
 constructor<;>simp[bin,cL,jZ,gV,h,eqV]
theorem Wf (t e:TypeId)(h:P.underlying t=some (.pointer e)):bin P .eql t (.pointer none) (.pointer none)=some (.bool true)/\bin P .neq t (.pointer none) (.pointer none)=some (.bool false):=by
 constructor<;>simp[bin,cL,jZ,gV,h,eqV]
theorem dJ (s d:TypeId){k1 k2:IntKind}(hs:P.underlying s=some (.int k1))(hd:P.underlying d=some (.int k2))(k:IntKind)(n:Int):cK P s d (.int k n) H=some (.int k2 (k2.wrap n),H):=by
 simp[cK,hs,hd,aX]
theorem bJ {n:Int}(h0: -9223372036854775808<=n)(h1:n<9223372036854775808):IntKind.i64.wrap n=n:=by
 simp only[IntKind.wrap,IntKind.bits,IntKind.signed];simp;split<;>omega
theorem aGW {n:Int}(h0:0<=n)(h1:n<256):IntKind.u8.wrap n=n:=by
 simp only[IntKind.wrap,IntKind.bits,IntKind.signed];simp;omega
theorem aGV {n:Int}(h0:0<=n)(h1:n<4294967296):IntKind.u32.wrap n=n:=by
 simp only[IntKind.wrap,IntKind.bits,IntKind.signed];simp;omega
theorem Wi {pr:eK}{f:FuncId}(h:pr (.func f)=none)(n:Nat)(args:List Value)(H:aF):lvl P pr (n+1) (.func f) args H=aR P (lvl P pr n) (aL n) f args H:=by
 simp[lvl,h]
def Bc {α:Type}(n:Nat)(B:(Ex->K α)->K α)(k:Ex->K α):Ex->K α:=λe=>match e with
 | .normal=>aL n B k
 | .exit id=>k (.exit id)
 | .ret=>k .ret
theorem bS {α:Type}(n:Nat)(B:(Ex->K α)->K α)(k:Ex->K α):aL (n+1) B k=B (Bc n B k):=rfl
theorem again_normal {α:Type}(n:Nat)(B:(Ex->K α)->K α)(k:Ex->K α):Bc n B k .normal=aL n B k:=rfl
theorem again_exit {α:Type}(n:Nat)(B:(Ex->K α)->K α)(k:Ex->K α)(id:Nat):Bc n B k (.exit id)=k (.exit id):=rfl
theorem again_ret {α:Type}(n:Nat)(B:(Ex->K α)->K α)(k:Ex->K α):Bc n B k .ret=k .ret:=rfl
end
section
variable {α : Type} {P : Program} {H : aF}
theorem aGX {x y:Option (Value×aF)}(h:x=y)(f:Value->aF->Option α):ob x f=ob y f:=by rw[h]
def wF (x:Option Value)(H:aF):Option (Value×aF):=match x with
 |some v=>some (v,H)
 |none=>none
def ldC (x:Option Blk)(o:Nat)(H:aF):Option (Value×aF):=match x with
 |some (.cells cs _ _)=>wF cs[o]? H
 |_=>none
def Ej (x:Option Blk)(n o:Nat)(H:aF):Option (Value×aF):=match x with
 |some (.cells cs _ _)=>if o+n<=cs.length then some (.agg ((cs.drop o).take n).toArray,H) else none
 |_=>none
def stC (x:Option Blk)(b o:Nat)(vs:List Value)(H:aF):Option (Value×aF):=match x with
 |some (.cells cs e k)=>if k≠ .ro/\o+vs.length<=cs.length/\cA vs=true then some (undef,H.set b (.cells (cU cs o vs) e k)) else none
 |_=>none
theorem fI (b o:Nat):ld1 (.pointer (some ⟨b,o,none⟩)) H=ldC H[b]? o H:=by
 unfold ld1 ldC wF;simp only;cases H[b]? with
 |none=>rfl
 |some x=>cases x<;>rfl
theorem rV (cs:List Value)(e:TypeId)(k:Kind)(o:Nat):ldC (some (.cells cs e k)) o H=wF cs[o]? H:=rfl
theorem rU (v:Value):wF (some v) H=some (v,H):=rfl
theorem qS (n b o:Nat):ldN n (.pointer (some ⟨b,o,none⟩)) H=Ej H[b]? n o H:=by
 unfold ldN Ej;simp only;cases H[b]? with
 |none=>rfl
 |some x=>cases x<;>rfl
theorem rW (cs:List Value)(e:TypeId)(k:Kind)(n o:Nat)(h:o+n<=cs.length):Ej (some (.cells cs e k)) n o H=some (.agg ((cs.drop o).take n).toArray,H):=if_pos h
theorem fV (n b o:Nat)(v:Value)(hn:v.cells.toList.length=n):stN n (.pointer (some ⟨b,o,none⟩)) v H=stC H[b]? b o v.cells.toList H:=by
 subst hn;unfold stN stC;simp only[true_and];cases H[b]? with
 |none=>rfl
 |some x=>cases x<;>rfl
theorem iW (b:Nat)(cs:List Value)(e:TypeId)(k:Kind)(o:Nat)(vs:List Value)(hk:k≠ .ro)(ho:o+vs.length<=cs.length)(ha:cA vs=true):
  stC (some (.cells cs e k)) b o vs H=some (undef,H.set b (.cells (cU cs o vs) e k)):=if_pos ⟨hk,ho,ha⟩
theorem x_newB (e:TypeId)(cs:List Value)(k:Kind):aZ e cs k H=some (.pointer (some ⟨H.length,0,none⟩),H++[.cells cs e k]):=rfl
theorem uP (H:aF)(x:Blk):(H++[x])[H.length]? =some x:=by simp
theorem aS {pr:eK}{f:FuncId}(hp:pr (.func f)=none){n:Nat}(hn:0<n){args:List Value}{r:Option (Value×aF)}(h:aR P (lvl P pr (n-1)) (aL (n-1)) f args H=r):
  lvl P pr n (.func f) args H=r:=by
 obtain⟨m,rfl⟩: ∃m,n=m+1:=⟨n-1,by omega⟩
 rw[Wi hp];exact h
theorem Ek (t e:TypeId)(h:P.underlying t=some (.pointer e))(a:Addr):bin P .eql t (.pointer (some a)) (.pointer none)=some (.bool false):=(Wg t e h a).1
theorem aGY (t e:TypeId)(h:P.underlying t=some (.pointer e))(a:Addr):bin P .neq t (.pointer (some a)) (.pointer none)=some (.bool true):=(Wg t e h a).2
theorem Ky (t e:TypeId)(h:P.underlying t=some (.pointer e)):bin P .eql t (.pointer none) (.pointer none)=some (.bool true):=(Wf t e h).1
theorem aGZ (t e:TypeId)(h:P.underlying t=some (.pointer e)):bin P .neq t (.pointer none) (.pointer none)=some (.bool false):=(Wf t e h).2
theorem uQ (e:TypeId)(sz bytes:Nat)(zero:List Value)(k k':IntKind)(n:Int)(h0:0<=n)(hb:(bytes:Int)*n<=2 ^ 48)(hn:n<2 ^ 62)(hz:zero.length=sz):
  gU e sz bytes zero (.int k n) (.int k' n) H=some (.slice (some ⟨H.length,0,none⟩) n.toNat n.toNat,H++[.cells (List.replicate n.toNat zero).flatten e .row]):=by
 simp only[gU];rw[if_pos ⟨h0,Int.le_refl _,hb,hn,hz⟩]
end
theorem rX {sz:Nat}: ∀(rows:List (List Value)),(∀r∈rows,r.length=sz)->rows.flatten.length=rows.length*sz
 |[],_=>by simp
 |r::rs,h=>by
  rw[aUN,aUp,h r (by simp),rX rs λx hx=>h x (by simp[hx]),aUz,Nat.succ_mul]
  omega
theorem El {sz:Nat}: ∀(rows:List (List Value)),(∀r∈rows,r.length=sz)-> ∀(i j:Nat),j<sz->rows.flatten[i*sz+j]? =(rows[i]?).bind (·[j]?)
 |[],_,i,j,hj=>by simp
 |r::rs,h,0,j,hj=>by
  have:=h r (by simp)
  simp[aUg (show j<r.length by omega)]
 |r::rs,h,i+1,j,hj=>by
  have hr:=h r (by simp)
  rw[aUN,aUx (by rw[hr,Nat.succ_mul];omega)]
  have e:(i+1)*sz+j-r.length=i*sz+j:=by rw[hr,Nat.succ_mul];omega
  rw[e,El rs (λx hx=>h x (by simp[hx])) i j hj]
  simp
theorem Wk: ∀(vs a b:List Value)(o:Nat),o+vs.length<=a.length->cU (a++b) o vs=cU a o vs++b
 |[],a,b,o,_=>by simp[cU]
 |v::vs,a,b,o,h=>by
  simp only[cU,aUz] at h⊢;rw[List.set_append_left _ _ U]
  exact Wk vs (a.set o v) b (o+1) (by simp;omega)
theorem Wl: ∀(vs a b:List Value)(o:Nat),cU (a++b) (a.length+o) vs=a++cU b o vs
 |[],a,b,o=>by simp[cU]
 |v::vs,a,b,o=>by
  simp only[cU];rw[List.set_append_right _ _ U]
  have e:a.length+o-a.length=o:=U
  rw[e,show a.length+o+1=a.length+(o+1) by omega]
  exact Wl vs a (b.set o v) (o+1)
theorem Kz {sz:Nat}: ∀(rows:List (List Value)),(∀r∈rows,r.length=sz)-> ∀(i j:Nat)(vs row:List Value),rows[i]? =some row->j+vs.length<=sz->
  cU rows.flatten (i*sz+j) vs=(rows.set i (cU row j vs)).flatten
 |[],_,i,j,vs,row,hi,_=>by simp at hi
 |r::rs,h,0,j,vs,row,hi,hj=>by
  have hr:=h r (by simp)
  simp at hi;subst hi;simp only[aUN,List.set_cons_zero,Nat.zero_mul,aUy];exact Wk vs r _ j U
 |r::rs,h,i+1,j,vs,row,hi,hj=>by
  have hr:=h r (by simp)
  simp only[aUN,List.set_cons_succ];have e:(i+1)*sz+j=r.length+(i*sz+j):=by rw[hr,Nat.succ_mul];omega
  rw[e,Wl,Kz rs (λx hx=>h x (by simp[hx])) i j vs row (by simpa using hi) hj]
theorem Wj {sz:Nat}: ∀(rows:List (List Value)),(∀r∈rows,r.length=sz)-> ∀(i:Nat)(row:List Value),rows[i]? =some row->(rows.flatten.drop (i*sz)).take sz=row
 |[],_,i,row,hi=>by simp at hi
 |r::rs,h,0,row,hi=>by
  have hr:=h r (by simp)
  simp at hi;subst hi;simp[<-hr]
 |r::rs,h,i+1,row,hi=>by
  have hr:=h r (by simp)
  have e:(i+1)*sz=r.length+i*sz:=by rw[hr,Nat.succ_mul];omega
  rw[aUN,e,<-aUW,List.drop_left];exact Wj rs (λx hx=>h x (by simp[hx])) i row (by simpa using hi)
end Go.Abs
namespace Go.Abs
open M
open Go.ChangeShapes Go.WideShapes Go.ChangeAt Go.RowKit Go.Deep
structure In (P:Program)(W:World)(H:aF)(ρ:Ren):Prop where
 rel:Rel P ρ (cF H) W
 ro: ∀b pl,ρ b=some pl->wr H[b]? =false
 dom: ∀b,H.length<=b->ρ b=none
theorem In.aG0 (P:Program)(W:World)(ht:A0 P W):In P W [] (λ_=>none):=⟨Wc P W ht,λb pl h=>(by cases h),λ_ _=>rfl⟩
theorem aG1 {P:Program}{pr:eK}(hp:PrimsOk P pr)(hmix:P.follows .mixedOrders=true){n:Nat}{f:FuncId}{args args':List Value}{b:Bool}{H H':aF}{ρ:Ren}{W:World}(hi:In P W H ρ)
  (h:lvl P pr n (.func f) args H=some (.bool b,H'))(ha:Vrs ρ args args'):
  Calls P f args'.toArray W λe w'=>e= .returned (.bool b)/\Kept W w':=by
 refine(Kt hp hmix n (.func f) args H _ _ h ρ W args' hi.rel ha (λb h1 _=>hi.dom b h1)).2.mono ?_
 intro e w' ⟨v,he,ρ',hv,hs⟩;have hvb:v= .bool b:=by cases hv with|same _=>rfl
 subst hvb
 exact⟨he,Kept.aGL hs hi.ro⟩
theorem Em (c o k:Nat):Addr.add ⟨c,o,none⟩ k=⟨c,o+k,none⟩:=by
 unfold Addr.add;split
 ·simp_all
 ·rfl
structure Sl (H:aF)(v:Value)(sz b:Nat)(rows:List (List Value)):Prop where
 len:cX v=some (.int .i64 rows.length)
 at_: ∀(i:Nat)(k:IntKind),i<rows.length->cN sz v (.int k i)=some (.pointer (some ⟨b,i*sz,none⟩))
 blk:0<rows.length-> ∃e,H[b]? =some (.cells rows.flatten e .ro)
end Go.Abs
namespace Go.Abs
open M
attribute [simp] ob_some iteV_true iteV_false ifB_true r_ret r_opt r_gdt aGU r_gdtf r_gdft r_nil r_fAddr mP tI Kx fI rV rU qS rW x_newB b_lss b_leq b_gtr b_geq b_eql b_neq u_not
section
variable {α : Type} {P : Program} {H : aF}
@[simp] theorem r_gdff (m:M Value):gd (.bool false) false m H=m H:=rfl
@[simp] theorem r_gdt2 (m:aF->Option (Value×aF)):gd (.bool true) true m H=m H:=rfl
@[simp] theorem r_gdff2 (m:aF->Option (Value×aF)):gd (.bool false) false m H=m H:=rfl
@[simp] theorem r_gdtf2 (m:aF->Option (Value×aF)):gd (.bool true) false m H=some (undef,H):=rfl
@[simp] theorem r_gdft2 (m:aF->Option (Value×aF)):gd (.bool false) true m H=some (undef,H):=rfl
@[simp] theorem oneOf_one (v:Value):aK [v]=v:=rfl
@[simp] theorem oneOf_two (v w:Value):aK [v,w]= .tuple #[v,w]:=rfl
@[simp] theorem pick_t (a b:Value):yS (.bool true) a b=some a:=rfl
@[simp] theorem pick_f (a b:Value):yS (.bool false) a b=some b:=rfl
@[simp] theorem ext_0 (a b:Value):ext 0 (.tuple #[a,b])=some a:=rfl
@[simp] theorem ext_1 (a b:Value):ext 1 (.tuple #[a,b])=some b:=rfl
@[simp] theorem Eo (b o:Nat)(k:IntKind)(i:Int):stN 1 (.pointer (some ⟨b,o,none⟩)) (.int k i) H=stC H[b]? b o [.int k i] H:=fV 1 b o _ rfl
@[simp] theorem Wo (b o:Nat)(i:Option Addr):stN 1 (.pointer (some ⟨b,o,none⟩)) (.pointer i) H=stC H[b]? b o [.pointer i] H:=fV 1 b o _ rfl
@[simp] theorem K0 (b:Nat)(cs:List Value)(e:TypeId)(o:Nat)(vs:List Value)(ha:cA vs=true)(ho:o+vs.length<=cs.length):
  stC (some (.cells cs e .row)) b o vs H=some (undef,H.set b (.cells (cU cs o vs) e .row)):=iW b cs e .row o vs aC ho ha
@[simp] theorem Wn:cA []=true:=rfl
@[simp] theorem Wm (k:IntKind)(i:Int)(vs:List Value):cA (.int k i::vs)=cA vs:=rfl
attribute [simp] cU
end
structure OwS {α:Type}(el:α->List Value)(e:TypeId)(H:aF)(v:Value)(b:Nat)(xs:List α):Prop where
 val:v= .slice (some ⟨b,0,none⟩) xs.length xs.length
 blk:H[b]? =some (.cells (xs.map el).flatten e .row)
section
variable {α : Type} {el : α → List Value} {e : TypeId} {H : aF} {v : Value} {b sz : Nat} {xs : List α}
theorem tJ (hsz: ∀x,(el x).length=sz): ∀r∈xs.map el,r.length=sz:=λr hr=>by
 obtain⟨y,_,rfl⟩:=aUQ.mp hr;exact hsz y
theorem OwS.aG2 (h:OwS el e H v b xs)(sz:Nat)(i:Nat)(k:IntKind)(hi:i<xs.length):cN sz v (.int k i)=some (.pointer (some ⟨b,i*sz,none⟩)):=by
 rw[h.val,mP _ _ _ _ _ _ _ U U]
 simp
theorem OwS.st (h:OwS el e H v b xs)(hsz: ∀x,(el x).length=sz)(hall: ∀x,cA (el x)=true){i:Nat}(hi:i<xs.length)(y:α):
  stC H[b]? b (i*sz) (el y) H=some (undef,H.set b (.cells ((xs.set i y).map el).flatten e .row))/\OwS el e (H.set b (.cells ((xs.set i y).map el).flatten e .row)) v b (xs.set i y):=by
 have hr:=tJ (xs:=xs) hsz;have hlen:i*sz+(el y).length<=(xs.map el).flatten.length:=by
  rw[rX _ hr,aUr,hsz]
  calc i*sz+sz=(i+1)*sz:=by rw[Nat.succ_mul]
   _<=xs.length*sz:=Nat.mul_le_mul_right _ hi
 have whole: ∀(vs row:List Value),row.length=vs.length->cU row 0 vs=vs:=by
  intro vs;have gen: ∀(vs pre row:List Value),row.length=vs.length->cU (pre++row) pre.length vs=pre++vs:=by
   intro vs;induction vs with
   |nil=>intro pre row h;simp at h;subst h;simp[cU]
   |cons a vs ih=>
    intro pre row h
    match row,h with
    |c::row,h=>
     simp only[cU];have e1:(pre++c::row).set pre.length a=(pre++[a])++row:=by simp
     have:=ih (pre++[a]) row (by simpa using h)
     rw[e1];simpa using this
  intro row h;simpa using gen vs [] row h
 refine⟨?_,⟨by rw[h.val];simp,by
  have:=(aUd.mp h.blk).1;rw[aUj this]⟩⟩
 rw[h.blk,K0 _ _ _ _ _ (hall y) hlen];have hx:(xs.map el)[i]? =some (el xs[i]):=by simp[hi]
 have:=Kz (xs.map el) hr i 0 (el y) _ hx (by rw[hsz];omega)
 rw[Nat.add_zero] at this;rw[this,whole _ _ (by rw[hsz,hsz]),List.map_set]
end
theorem r_gdu {H:aF}(w:Bool)(m:M Value):gd undef w m H=some (undef,H):=rfl
theorem r_gdu2 {H:aF}(w:Bool)(m:aF->Option (Value×aF)):gd undef w m H=some (undef,H):=rfl
end Go.Abs
namespace Go.Abs
open M
open Go.ChangeShapes Go.WideShapes Go.ChangeAt Go.RowKit Go.Deep
theorem In.aG3 {P:Program}{W:World}{H:aF}{ρ:Ren}(h:In P W H ρ)(c o:Nat)(cs:List Value)(e:TypeId){ccs:Array Value}{ce:TypeId}{fr:Nat×Nat}(hb:W.heap[c]? =some (.cells ccs ce fr))
  (hc: ∀(i:Nat)(v:Value),cs[i]? =some v-> ∃v',ccs[o+i]? =some v'/\Vr ρ v v'):In P W (H++[.cells cs e .ro]) (ρ.upd H.length ⟨c,o,none⟩):=by
 have hlt:c<W.heap.size:=by
  by_cases hx:c<W.heap.size
  ·exact hx
  ·rw[Array.getElem?_eq_none U] at hb
   cases hb
 have hle:ρ.jH (ρ.upd H.length ⟨c,o,none⟩):=Ren.vX _ (h.dom _ (aUi _));have hblk: ∀b,b<H.length->(H++[.cells cs e .ro])[b]? =H[b]? :=λb hb=>aUg hb
 have hnew:(H++[Blk.cells cs e .ro])[H.length]? =some (.cells cs e .ro):=by simp
 have old: ∀b pl,ρ b=some pl->b<H.length:=λb pl hp=>by
  by_cases hx:b<H.length
  ·exact hx
  ·rw[h.dom b U] at hp
   cases hp
 have hro: ∀b pl,ρ.upd H.length ⟨c,o,none⟩ b=some pl->wr (H++[.cells cs e .ro])[b]? =false:=by
  intro b pl hp;unfold Ren.upd at hp
  split at hp
  ·rename_i hbl
   subst hbl;rw[hnew];rfl
  ·rw[hblk b (old b pl hp)]
   exact h.ro b pl hp
 refine⟨⟨?_,?_,?_,λg hg=>⟨(h.rel.tab g hg).1,λb pl hb hw=>absurd (hw.symm.trans (hro b pl hb)) aC⟩⟩,hro,?_⟩
 ·intro b pl hp
  unfold Ren.upd at hp
  split at hp
  ·cases hp
   exact hlt
  ·exact h.rel.lt b pl hp
 ·intro b pl x hp hx
  unfold Ren.upd at hp
  split at hp
  ·rename_i hbl
   subst hbl;cases hp;have hx':(H++[Blk.cells cs e .ro])[H.length]? =some x:=hx;rw[hnew] at hx';cases hx';obtain⟨lo,hi⟩:=fr
   exact⟨ccs,ce,lo,hi,hb,λi v hi=>(let⟨v',h1,h2⟩:=hc i v hi;⟨v',h1,h2.pL hle⟩),λhk=>absurd rfl hk,λhk=>(by cases hk),λ_=>rfl⟩
  ·have hx':(H++[Blk.cells cs e .ro])[b]? =some x:=hx
   rw[hblk b (old b pl hp)] at hx'
   exact(h.rel.blk b pl x hp hx').Az hle
 ·intro b1 b2 p1 p2 hne h1 h2 hw
  rw[hro b1 p1 h1] at hw;cases hw
 ·intro b hb
  unfold Ren.upd;simp only[aUp,aUz,List.length_nil] at hb;rw[if_neg U]
  exact h.dom b U
def rY (P:Program):Nat->List (TypeId×Nat)->Nat->Bool
 |o,[],tot=>o==tot
 |o,(t,off)::l,tot=>off==o&&rY P (o+P.cellsOf t) l tot
def okA (P:Program)(S:List TypeId)(t:TypeId):Bool:=match P.underlying t with
 |some .bool=>true
 |some (.int _)=>true
 |some .string=>true
 |some (.slice e)=>decide (0<P.cellsOf e)&&S.contains e
 |some (.struct fs)=>(fs.toList.all λf=>S.contains f.type)&&rY P 0 (fs.toList.map λf=>(f.type,f.offset)) (P.cellsOf t)
 |_=>false
def Rp (P:Program)(G:aF):Nat->TypeId->List Value->Prop
 |0,_,_=>False
 |n+1,t,cs=>match P.underlying t with
  |some .bool=> ∃b,cs=[.bool b]
  |some (.int k)=> ∃i,cs=[.int k i]/\(Lit.int k i).wf=true
  |some .string=> ∃s:ByteArray,cs=[.string s]/\s.size<=reachBytes
  |some (.slice e)=> ∃u b rows,cs=[u]/\Sl G u (P.cellsOf e) b rows/\rows.length*P.bytesOf e<=reachBytes/\(u= .slice none 0 0∨ ∃c,u= .slice (some ⟨c,0,none⟩) rows.length rows.length)/\ ∀r∈rows,r.length=P.cellsOf e/\Rp P G n e r
  |some (.struct fs)=>cs.length=P.cellsOf t/\ ∀f∈fs.toList,Rp P G n f.type ((cs.drop f.offset).take (P.cellsOf f.type))
  |_=>False
def KeepRO (H H':aF):Prop:= ∀(b:Nat)(cs:List Value)(e:TypeId),H[b]? =some (.cells cs e .ro)->H'[b]? =some (.cells cs e .ro)
theorem KeepRO.app (H G:aF):KeepRO H (H++G):=λb cs e h=>by
 rw[aUg (aUd.mp h).1,h]
theorem Sl.aG5 {H H':aF}{v:Value}{sz b:Nat}{rows:List (List Value)}(h:Sl H v sz b rows)(hk:KeepRO H H'):Sl H' v sz b rows:=
 ⟨h.len,h.at_,λh0=>by
  obtain⟨e,he⟩:=h.blk h0
  exact⟨e,hk _ _ _ he⟩⟩
theorem Rp.Bf {P:Program}{G G':aF}(hk:KeepRO G G'): ∀(n:Nat)(t:TypeId)(cs:List Value),Rp P G n t cs->Rp P G' n t cs
 |0,_,_,h=>h
 |n+1,t,cs,h=>by
  unfold Rp at h⊢
  split at h
  ·exact h
  ·exact h
  ·exact h
  ·obtain⟨u,b,rows,h1,h2,h4,h5,h3⟩:=h
   exact⟨u,b,rows,h1,h2.aG5 hk,h4,h5,λr hr=>⟨(h3 r hr).1,Rp.Bf hk n _ r (h3 r hr).2⟩⟩
  ·exact⟨h.1,λf hf=>Rp.Bf hk n _ _ (h.2 f hf)⟩
  ·exact h
theorem In.aG4 {P:Program}{W:World}{H:aF}{ρ:Ren}(h:In P W H ρ)(hW:0<W.heap.size):In P W (H++[.dead]) (ρ.upd H.length ⟨0,0,none⟩):=by
 have hle:ρ.jH (ρ.upd H.length ⟨0,0,none⟩):=Ren.vX _ (h.dom _ (aUi _));have hblk: ∀b,b<H.length->(H++[Blk.dead])[b]? =H[b]? :=λb hb=>aUg hb
 have hnew:(H++[Blk.dead])[H.length]? =some .dead:=by simp
 have old: ∀b pl,ρ b=some pl->b<H.length:=λb pl hp=>by
  by_cases hx:b<H.length
  ·exact hx
  ·rw[h.dom b U] at hp
   cases hp
 have hro: ∀b pl,ρ.upd H.length ⟨0,0,none⟩ b=some pl->wr (H++[Blk.dead])[b]? =false:=by
  intro b pl hp;unfold Ren.upd at hp
  split at hp
  ·rename_i hbl
   subst hbl;rw[hnew];rfl
  ·rw[hblk b (old b pl hp)]
   exact h.ro b pl hp
 refine⟨⟨?_,?_,?_,λg hg=>⟨(h.rel.tab g hg).1,λb pl hb hw=>absurd (hw.symm.trans (hro b pl hb)) aC⟩⟩,hro,?_⟩
 ·intro b pl hp
  unfold Ren.upd at hp
  split at hp
  ·cases hp
   exact hW
  ·exact h.rel.lt b pl hp
 ·intro b pl x hp hx
  unfold Ren.upd at hp
  split at hp
  ·rename_i hbl
   subst hbl;have hx':(H++[Blk.dead])[H.length]? =some x:=hx;rw[hnew] at hx';cases hx'
   trivial
  ·have hx':(H++[Blk.dead])[b]? =some x:=hx
   rw[hblk b (old b pl hp)] at hx'
   exact(h.rel.blk b pl x hp hx').Az hle
 ·intro b1 b2 p1 p2 hne h1 h2 hw
  rw[hro b1 p1 h1] at hw;cases hw
 ·intro b hb
  unfold Ren.upd;simp only[aUp,aUz,List.length_nil] at hb;rw[if_neg U]
  exact h.dom b U
def Hok (W:World)(cs:List Value):Prop:=0<W.heap.size∨ ∀v∈cs,∀a n c,v≠ .slice (some a) n c
theorem Ww {H:Type}{P:Program}{e:TypeId}: ∀{ds:List (DataW H)}{d:DataW H},d∈ds-> ∀n∈d.weights P e,n∈DataW.weightsAll P e ds
 |d0::ds,d,hd,n,hn=>by
  simp only[DataW.weightsAll,List.mem_append];rcases aUw.mp hd with rfl|hd
  ·exact .inl hn
  ·exact .inr (Ww hd n hn)
 |[],_,hd,_,_=>by cases hd
def tK {H:Type}(P:Program)(t:TypeId)(d:DataW H):Prop:= ∀n∈d.weights P t,n<=reachBytes
section
variable {Hh : Type} {enc : TypeId × Value → Hh} {P : Program} {W : World} {S : List TypeId}
theorem Wv {n:Nat}(ih: ∀(t:TypeId)(cs:List Value)(x:DataW Hh×List MemPlace),t∈S->DataW.trod enc P W 0 (λ_=>true) true n t cs=some x->tK P t x.1->Hok W cs-> ∀(H:aF)(ρ:Ren),In P W H ρ->
   ∃(G:aF)(ρ':Ren)(cs':List Value),In P W (H++G) ρ'/\ρ.jH ρ'/\Vrs ρ' cs' cs/\Rp P (H++G) n t cs'):
  ∀(l:List (TypeId×List Value)),(∀p∈l,p.1∈S/\ ∃x,DataW.trod enc P W 0 (λ_=>true) true n p.1 p.2=some x/\tK P p.1 x.1/\Hok W p.2)-> ∀(H:aF)(ρ:Ren),In P W H ρ->
   ∃(G:aF)(ρ':Ren)(l':List (List Value)),In P W (H++G) ρ'/\ρ.jH ρ'/\l'.length=l.length/\ ∀(i:Nat)(p:TypeId×List Value)(c:List Value),l[i]? =some p->l'[i]? =some c->Vrs ρ' c p.2/\Rp P (H++G) n p.1 c
 |[],_,H,ρ,hi=>⟨[],ρ,[],by simpa using hi,Ren.rR _,rfl,λi p c h=>by simp at h⟩
 |p::l,hl,H,ρ,hi=>by
  obtain⟨hp,x,hx,hw,hk⟩:=hl p (by simp)
  obtain⟨G1,ρ1,c1,i1,le1,v1,r1⟩:=ih p.1 p.2 x hp hx hw hk H ρ hi;obtain⟨G2,ρ2,l2,i2,le2,hlen,hr⟩:=Wv ih l (λq hq=>hl q (by simp[hq])) (H++G1) ρ1 i1
  refine⟨G1++G2,ρ2,c1::l2,by rw[<-aUk];exact i2,Ren.Dm le1 le2,by simp[hlen],?_⟩
  rw[<-aUk];intro i q c hq hc;cases i with
  |zero=>
   simp only[List.getElem?_cons_zero,aUE] at hq hc;subst hq hc
   exact⟨v1.aEX le2,Rp.Bf (KeepRO.app _ _) _ _ _ r1⟩
  |succ i=>
   simp only[List.getElem?_cons_succ] at hq hc;exact hr i q c hq hc
theorem Vrs.Wp {ρ:Ren}: ∀(xs ys:List (List Value)),xs.length=ys.length->(∀(i:Nat)(x y:List Value),xs[i]? =some x->ys[i]? =some y->Vrs ρ x y)->Vrs ρ xs.flatten ys.flatten
 |[],[],_,_=>Vrs.j6 ρ
 |x::xs,y::ys,h,hv=>by
  simp only[aUN];exact Vrs.A5 (hv 0 x y rfl rfl) (Vrs.Wp xs ys (by simpa using h) λi a b ha hb=>hv (i+1) a b ha hb)
 |[],_::_,h,_=>by simp at h
 |_::_,[],h,_=>by simp at h
theorem Wr (P:Program)(cs:List Value): ∀(l:List (TypeId×Nat))(o tot:Nat),rY P o l tot=true->cs.length=tot->(l.map λf=>(cs.drop f.2).take (P.cellsOf f.1)).flatten=cs.drop o
 |[],o,tot,h,hl=>by
  simp only[rY,beq_iff_eq] at h;simp[h,<-hl]
 |(t,off)::l,o,tot,h,hl=>by
  simp only[rY,aUl,beq_iff_eq] at h;obtain⟨rfl,h⟩:=h;simp only[aUI,aUN];rw[Wr P cs l _ tot h hl,<-aUW,List.take_append_drop]
theorem Wu (P:Program): ∀(l:List (TypeId×Nat))(o tot:Nat)(css:List (List Value)),rY P o l tot=true->css.length=l.length->
  (∀(i:Nat)(f:TypeId×Nat)(c:List Value),l[i]? =some f->css[i]? =some c->c.length=P.cellsOf f.1)->
  ∀(i:Nat)(f:TypeId×Nat)(c:List Value),l[i]? =some f->css[i]? =some c->o<=f.2/\(css.flatten.drop (f.2-o)).take (P.cellsOf f.1)=c
 |[],_,_,_,_,_,_,i,f,c,hf,_=>by simp at hf
 |(t,off)::l,o,tot,[],_,h,_,i,f,c,_,hc=>by simp at h
 |(t,off)::l,o,tot,c0::css,h,hl,hlen,i,f,c,hf,hc=>by
  simp only[rY,aUl,beq_iff_eq] at h;obtain⟨rfl,h⟩:=h;have h0:c0.length=P.cellsOf t:=hlen 0 (t,off) c0 rfl rfl;cases i with
  |zero=>
   simp only[List.getElem?_cons_zero,aUE] at hf hc;subst hf hc;refine⟨aUi _,?_⟩;simp only[Nat.sub_self,List.drop_zero,aUN];rw[<-h0,List.take_left]
  |succ i=>
   simp only[List.getElem?_cons_succ] at hf hc;obtain⟨h1,h2⟩:=Wu P l _ tot css h (by simpa using hl) (λi f c hf hc=>hlen (i+1) f c hf hc) i f c hf hc
   refine⟨by omega,?_⟩
   rw[aUN,show f.2-off=c0.length+(f.2-(off+P.cellsOf t)) by omega,<-aUW,List.drop_left]
   exact h2
theorem Ws (P:Program): ∀(l:List (TypeId×Nat))(o tot:Nat),rY P o l tot=true->o<=tot/\ ∀f∈l,f.2+P.cellsOf f.1<=tot
 |[],o,tot,h=>by
  simp only[rY,beq_iff_eq] at h
  exact⟨by omega,λf hf=>by cases hf⟩
 |(t,off)::l,o,tot,h=>by
  simp only[rY,aUl,beq_iff_eq] at h;obtain⟨rfl,h⟩:=h;obtain⟨h1,h2⟩:=Ws P l _ tot h;refine⟨by omega,λf hf=> ?_⟩
  rcases aUw.mp hf with rfl|hf
  ·exact h1
  ·exact h2 f hf
theorem aG6 {S:List TypeId}(hz:S.all (okA P S)=true){t:TypeId}(ht:t∈S):okA P S t=true:=aUS.mp hz t ht
theorem Wq {a:Addr}{v:Value}(h:W.cell? a=some v):a.spot=none/\ ∃(ccs:Array Value)(ce:TypeId)(fr:Nat×Nat),W.heap[a.block]? =some (.cells ccs ce fr)/\ccs[a.off]? =some v:=by
 unfold World.cell? at h
 split at h
 ·rename_i c e fr hb
  split at h
  ·cases h
  ·rename_i hs
   exact⟨by simpa using hs,c,e,fr,hb,h⟩
 ·cases h
theorem aG9 {fuel:Nat}{t:TypeId}{cs:List Value}{x:DataW Hh×List MemPlace}(ht:P.underlying t=some .string)(h:DataW.trod enc P W 0 (λ_=>true) true fuel t cs=some x)(hw:tK P t x.1): ∃s:ByteArray,cs=[.string s]/\s.size<=reachBytes:=by
 obtain⟨s,h1,rfl,h2⟩:=DataW.trod_string ht h;refine⟨s,h1,?_⟩;have:=hw s.data.toList.length (by simp[DataW.weights])
 simpa using this
theorem aG8 (hz:S.all (okA P S)=true): ∀(n:Nat)(t:TypeId)(cs:List Value)(x:DataW Hh×List MemPlace),t∈S->DataW.trod enc P W 0 (λ_=>true) true n t cs=some x->tK P t x.1->Hok W cs-> ∀(H:aF)(ρ:Ren),In P W H ρ->
   ∃(G:aF)(ρ':Ren)(cs':List Value),In P W (H++G) ρ'/\ρ.jH ρ'/\Vrs ρ' cs' cs/\Rp P (H++G) n t cs':=by
 intro n;induction n with
 |zero=>intro t cs x _ h;simp[DataW.trod] at h
 |succ n ih=>
  intro t cs x hS h hw hW H ρ hi;have hok:=aG6 hz hS;have rl:=Wv (S:=S) (W:=W) (P:=P) (enc:=enc) (n:=n) ih;cases hu:P.underlying t with
  |none=>simp[okA,hu] at hok
  |some d=>
   cases d with
   |bool=>
    obtain⟨b,rfl,_⟩:=DataW.trod_bool hu h
    exact⟨[],ρ,[.bool b],by simpa using hi,Ren.rR _,Vrs.kV (.same rfl) (Vrs.j6 _),by unfold Rp;rw[hu];exact⟨b,rfl⟩⟩
   |int k=>
    obtain⟨i,rfl,_,hw⟩:=DataW.trod_int hu h
    exact⟨[],ρ,[.int k i],by simpa using hi,Ren.rR _,Vrs.kV (.same rfl) (Vrs.j6 _),by unfold Rp;rw[hu];exact⟨i,rfl,hw⟩⟩
   |struct fs=>
    obtain⟨xs,m,hm,hx,hl,hlen,hf⟩:=DataW.trod_struct hu h;cases hm;subst hx;simp only[okA,hu,aUl,aUS,List.contains_iff_mem] at hok;obtain⟨hin,hcon⟩:=hok;obtain⟨G,ρ',l',i',le',hlen',hr⟩:=rl (fs.toList.map λf=>(f.type,(cs.drop f.offset).take (P.cellsOf f.type))) (λq hq=>by
     obtain⟨f,hfm,rfl⟩:=aUQ.mp hq;obtain⟨i,hi'⟩:=List.getElem?_of_mem hfm;refine⟨hin f hfm,?_⟩;have hfi:fs[i]? =some f:=by simpa using hi'
     have hlt:i<xs.length:=by
      have:=(aUC.mp hfi).1;omega
     refine⟨xs[i],by rw[hf i f hfi];exact aUf hlt,λn hn=>hw n ?_,hW.imp id λh v hv=>h v (List.mem_of_mem_drop (List.mem_of_mem_take hv))⟩
     simp only[DataW.weights,hu];exact DataW.weights_mem_each (j:=i) (by rw[aUq];simp[hfi]) (by rw[aUq,aUf hlt];rfl) n hn) H ρ hi
    rw[aUr] at hlen';have hflat:=Wr P cs _ 0 _ hcon hl;rw[List.map_map,List.drop_zero] at hflat;have hv:Vrs ρ' l'.flatten cs:=by
     rw[<-hflat];refine Vrs.Wp _ _ (by simp[hlen']) λi a b ha hb=> ?_
     rw[aUq] at hb;obtain⟨f,hf1,rfl⟩:=aUJ.mp hb
     exact(hr i _ a (by rw[aUq,hf1];rfl) ha).1
    refine⟨G,ρ',l'.flatten,i',le',hv,?_⟩;unfold Rp;rw[hu];refine⟨by rw[hv.1,hl],λf hfm=> ?_⟩
    obtain⟨i,hi'⟩:=List.getElem?_of_mem hfm;have hlt:i<l'.length:=by
     have:=(aUd.mp hi').1;omega
    have hri:=hr i _ l'[i] (by rw[aUq,hi'];rfl) (aUf hlt)
    have hlens: ∀(i:Nat)(g:TypeId×Nat)(c:List Value),(fs.toList.map λf=>(f.type,f.offset))[i]? =some g->l'[i]? =some c->c.length=P.cellsOf g.1:=by
     intro i g c hg hc;rw[aUq] at hg;obtain⟨f,hf1,rfl⟩:=aUJ.mp hg;have:=(hr i _ c (by rw[aUq,hf1];rfl) hc).1.1
     rw[this];have hle:=(Ws P _ 0 _ hcon).2 (f.type,f.offset) (aUQ.mpr ⟨f,aUn hf1,rfl⟩);simp only[List.length_take,List.length_drop];simp only at hle;omega
    have hp:=(Wu P _ 0 _ l' hcon (by simp[hlen']) hlens i (f.type,f.offset) l'[i] (by rw[aUq,hi'];rfl) (aUf hlt)).2
    rw[Nat.sub_zero] at hp;rw[hp];exact hri.2
   |string=>
    obtain⟨b,rfl,hb⟩:=aG9 hu h hw
    exact⟨[],ρ,[.string b],by simpa using hi,Ren.rR _,Vrs.kV (.same rfl) (Vrs.j6 _),by unfold Rp;rw[hu];exact⟨b,rfl,hb⟩⟩
   |slice e=>
    simp only[okA,hu,aUl,decide_eq_true_eq,List.contains_iff_mem] at hok;obtain⟨hpos,heS⟩:=hok;rcases DataW.trod_slice hu h with⟨rfl,_⟩|⟨a,len,cap,elems,rest,m,hm,rfl,hx,_,hlc,_,hlen,hel,hsp,_⟩
    ·exact⟨[],ρ,[.slice none 0 0],by simpa using hi,Ren.rR _,Vrs.kV (.same rfl) (Vrs.j6 _),by
      unfold Rp;rw[hu];exact⟨_,0,[],rfl,⟨rfl,λi k h=>absurd h (by simp),λh=>absurd h (by simp)⟩,by simp,.inl rfl,λr hr=>by cases hr⟩⟩
    ·cases hm
     subst hx;have hfit:len*P.bytesOf e<=reachBytes:=by
      have:=hw _ (by simp only[DataW.weights,hu];exact aUm ..)
      simp only[aUr] at this;refine aUt (Nat.mul_le_mul_right _ ?_) this;omega
     by_cases hcap:cap=0
     ·obtain rfl:len=0:=U
      subst hcap;refine⟨[.dead],ρ.upd H.length ⟨0,0,none⟩,[.slice (some ⟨H.length,0,none⟩) 0 0],hi.aG4 (hW.resolve_right λh=>h _ (List.mem_singleton.mpr rfl) _ _ _ rfl),Ren.vX _ (hi.dom _ (aUi _)),Vrs.kV (.slice0 (Ren.mM ρ H.length ⟨0,0,none⟩)) (Vrs.j6 _),?_⟩
      unfold Rp;rw[hu]
      exact⟨_,0,[],rfl,⟨rfl,λi k h=>absurd h (by simp),λh=>absurd h (by simp)⟩,by simp,.inr ⟨_,rfl⟩,λr hr=>by cases hr⟩
     ·
      have read: ∀i,i<cap-> ∃c,W.cells? 0 (a.add (i*P.cellsOf e)) (P.cellsOf e)=some c/\(i<len-> ∃y,DataW.trod enc P W 0 (λ_=>true) true n e c=some y/\tK P e y.1):=by
       intro i hi';by_cases hil:i<len
       ·have:=hel i hil
        rw[aUf (show i<elems.length by omega)] at this
        obtain⟨c,h1,h2⟩:=Option.bind_eq_some_iff.mp this;refine⟨c,h1,λ_=>⟨_,h2,λn hn=>hw n ?_⟩⟩
        simp only[DataW.weights,hu];exact aUu _ (List.mem_append_left _ (Ww (List.mem_map_of_mem (List.getElem_mem _)) n hn))
       ·obtain⟨h1,h2⟩:=hsp rfl
        have:=h2 (i-len) U
        rw[aUf (show i-len<rest.length by omega),show len+(i-len)=i by omega] at this
        obtain⟨c,h3,h4⟩:=Option.bind_eq_some_iff.mp this
        exact⟨c,h3,λhh=>absurd hh hil⟩
      obtain⟨c0,h0,_⟩:=read 0 U
      have hc0:=(World.cells?_some h0).2.2 0 hpos;have hc0l:=(World.cells?_some h0).2.1;rw[aUf (show 0<c0.length by omega)] at hc0
      have hspot:a.spot=none:=by
       have:=(Wq hc0).1;simpa[Addr.add] using this
      obtain⟨c,o,sp⟩:=a;simp only at hspot;subst hspot;rw[Em,Em] at hc0;obtain⟨_,ccs,ce,fr,hblk,_⟩:=Wq hc0;simp only at hblk;obtain⟨V,hV⟩:=choose_lt (α:=List Value) (p:=λi cs=>W.cells? 0 (Addr.add ⟨c,o,none⟩ (i*P.cellsOf e)) (P.cellsOf e)=some cs/\(i<len-> ∃x,DataW.trod enc P W 0 (λ_=>true) true n e cs=some x/\tK P e x.1)) (n:=cap) read
      obtain⟨G,ρ',l',i',le',hlen',hr⟩:=rl ((List.range len).map λi=>(e,V i)) (λq hq=>by
       obtain⟨i,hi',rfl⟩:=aUQ.mp hq;have hil:=aUR.mp hi';obtain⟨x,hx1,hx2⟩:=(hV i U).2 hil
       exact⟨heS,x,hx1,hx2,.inl (by
        by_cases hx:0<W.heap.size
        ·exact hx
        ·rw[Array.getElem?_eq_none U] at hblk
         cases hblk)⟩) H ρ hi
      simp only[aUr,aUH] at hlen';have hrow: ∀(i:Nat)(r:List Value),l'[i]? =some r->i<len/\Vrs ρ' r (V i)/\Rp P (H++G) n e r/\r.length=P.cellsOf e:=by
       intro i r hr';have hil:i<len:=by
        have:=(aUd.mp hr').1;omega
       obtain⟨h1,h2⟩:=hr i (e,V i) r (by simp[hil]) hr'
       exact⟨hil,h1,h2,by rw[h1.1];exact(World.cells?_some (hV i U).1).2.1⟩
      have hsz: ∀r∈l',r.length=P.cellsOf e:=λr hr'=>by
       obtain⟨i,hi'⟩:=List.getElem?_of_mem hr'
       exact(hrow i r hi').2.2.2
      have hin:=i'.aG3 c o l'.flatten e hblk (λj v hj=>by
       have hjs:j%P.cellsOf e<P.cellsOf e:=Nat.mod_lt _ hpos;have hjj:j=(j/P.cellsOf e)*P.cellsOf e+j%P.cellsOf e:=by rw[Nat.mul_comm];exact(Nat.div_add_mod _ _).symm
       rw[hjj,El _ hsz _ _ hjs] at hj;obtain⟨r,hr1,hr2⟩:=Option.bind_eq_some_iff.mp hj;obtain⟨hil,hvr,_,_⟩:=hrow _ r hr1;obtain⟨v',hv1,hv2⟩:=hvr.vV hr2;refine⟨v',?_,hv2⟩;have:=(World.cells?_some (hV _ (by omega:j/P.cellsOf e<cap)).1).2.2 _ hjs
       rw[hv1,Em,Em] at this;simp only[World.cell?,hblk] at this;rw[show o+j=o+j/P.cellsOf e*P.cellsOf e+j%P.cellsOf e by omega]
       simpa using this)
      refine⟨G++[.cells l'.flatten e .ro],ρ'.upd (H++G).length ⟨c,o,none⟩,[.slice (some ⟨(H++G).length,0,none⟩) len len],by rw[<-aUk];exact hin,Ren.Dm le' (Ren.vX _ (i'.dom _ (aUi _))),?_,?_⟩
      ·have:=Vr.slice (ρ:=ρ'.upd (H++G).length ⟨c,o,none⟩) (o:=0) (Ren.mM ρ' (H++G).length ⟨c,o,none⟩) (aUi len) hlc (λe T h=>(by cases h))
       exact Vrs.kV (by simpa using this) (Vrs.j6 _)
      ·unfold Rp
       rw[hu,<-aUk];refine⟨_,(H++G).length,l',rfl,⟨by rw[hlen'];rfl,λi k h=> ?_,λ_=>⟨e,by simp⟩⟩,by rw[hlen'];exact hfit,.inr ⟨_,by rw[hlen']⟩,λr hr'=> ?_⟩
       ·rw[mP _ _ _ _ _ _ _ U U]
        simp
       ·obtain⟨i,hi'⟩:=List.getElem?_of_mem hr'
        obtain⟨_,_,h3,h4⟩:=hrow i r hi'
        exact⟨h4,Rp.Bf (KeepRO.app _ _) _ _ _ h3⟩
   |_=>simp[okA,hu] at hok
theorem aG7 (hz:S.all (okA P S)=true)(hW:0<W.heap.size)(n:Nat)(t:TypeId)(cs:List Value)(x:DataW Hh×List MemPlace)(hS:t∈S)(h:DataW.trod enc P W 0 (λ_=>true) true n t cs=some x)(hw:tK P t x.1)(H:aF)(ρ:Ren)(hi:In P W H ρ):
   ∃(G:aF)(ρ':Ren)(cs':List Value),In P W (H++G) ρ'/\ρ.jH ρ'/\Vrs ρ' cs' cs/\Rp P (H++G) n t cs':=aG8 hz n t cs x hS h hw (.inl hW) H ρ hi
end
theorem Wz {Hh:Type}{enc:TypeId×Value->Hh}{P:Program}{W:World}{S:List TypeId}{t e:TypeId}{b0:Nat}{v:Value}{d:DataW Hh}{p:List MemPlace}(hz:S.all (okA P S)=true)(hS:t∈S)(ht:P.underlying t=some (.slice e))
  (hv:Value.okWide P W .any b0 t v)(hd:DataW.Trod enc P W 0 (λ_=>true) true t v d p)(hw:tK P t d){H:aF}{ρ:Ren}(hi:In P W H ρ):
  ∃(G:aF)(ρ':Ren)(u:Value)(n:Nat),In P W (H++G) ρ'/\ρ.jH ρ'/\Vr ρ' u v/\Rp P (H++G) n t [u]:=by
 obtain⟨fuel,hf⟩:=hd;have hcell:v.cells.toList=[v]∨ ∃cs,v= .agg cs:=by
  cases v with
  |agg cs=>exact .inr ⟨cs,rfl⟩
  |_=>exact .inl rfl
 rcases hcell with hc|⟨cs,rfl⟩
 ·rw[hc] at hf
  have fin:0<W.heap.size-> ∃(G:aF)(ρ':Ren)(u:Value)(n:Nat),In P W (H++G) ρ'/\ρ.jH ρ'/\Vr ρ' u v/\Rp P (H++G) n t [u]:=by
   intro hW;obtain⟨G,ρ',cs',i',le',vs',rp⟩:=aG7 hz hW fuel t [v] _ hS hf hw H ρ hi
   match cs',vs',rp with
   |[u],vs',rp=>exact⟨G,ρ',u,fuel,i',le',vs'.Jt,rp⟩
   |[],vs',_=>exact absurd vs'.1 (by simp)
   |_::_::_,vs',_=>exact absurd vs'.1 (by simp)
  rcases DataW.trod_slice ht hf with⟨h0,_⟩|⟨a,len,cap,elems,rest,m,hm,h0,_⟩
  ·cases h0
   refine⟨[],ρ,.slice none 0 0,1,by simpa using hi,Ren.rR _,.same rfl,?_⟩
   unfold Rp;rw[ht]
   exact⟨_,0,[],rfl,⟨rfl,λi k h=>absurd h (by simp),λh=>absurd h (by simp)⟩,by simp,.inl rfl,λr hr=>by cases hr⟩
  ·cases h0
   apply fin;simp only[Value.okWide,ht,Cell.okWide,Cell.ok,World.has] at hv;obtain⟨_,_,_,hspot,row,cells,hsh,_⟩:=hv;simp only[World.shape?] at hsh;by_cases hx:0<W.heap.size
   ·exact hx
   ·rw[Array.getElem?_eq_none U] at hsh
    cases hsh
 ·simp[Value.okWide,ht,Cell.okWide,Cell.ok] at hv
section
variable {P : Program} {G : aF} {n : Nat} {t : TypeId} {cs : List Value}
theorem Rp.Wy {e:TypeId}(ht:P.underlying t=some (.slice e))(h:Rp P G n t cs): ∃m u b rows,cs=[u]/\Sl G u (P.cellsOf e) b rows/\rows.length*P.bytesOf e<=reachBytes/\(u= .slice none 0 0∨ ∃c,u= .slice (some ⟨c,0,none⟩) rows.length rows.length)/\ ∀r∈rows,r.length=P.cellsOf e/\Rp P G m e r:=by
 cases n with
 |zero=>exact absurd h (by unfold Rp;exact id)
 |succ m=>
  unfold Rp at h;rw[ht] at h
  exact⟨m,h⟩
theorem Rp.Wx {l:List (TypeId×Nat)}(hl:Ei P t=some l)(h:Rp P G n t cs): ∃m,cs.length=P.cellsOf t/\ ∀f∈l,Rp P G m f.1 ((cs.drop f.2).take (P.cellsOf f.1)):=by
 cases n with
 |zero=>exact absurd h (by unfold Rp;exact id)
 |succ m=>
  unfold Ei at hl
  split at hl
  ·rename_i fs hu
   cases hl;unfold Rp at h;rw[hu] at h;refine⟨m,h.1,λf hf=> ?_⟩
   obtain⟨g,hg,rfl⟩:=aUQ.mp hf;exact h.2 g hg
  ·cases hl
theorem Rp.rZ {k:IntKind}(ht:P.underlying t=some (.int k))(h:Rp P G n t cs): ∃i,cs=[.int k i]/\(Lit.int k i).wf=true:=by
 cases n with
 |zero=>exact absurd h (by unfold Rp;exact id)
 |succ m=>
  unfold Rp at h;rw[ht] at h;exact h
theorem Rp.aHa (ht:P.underlying t=some .bool)(h:Rp P G n t cs): ∃b,cs=[.bool b]:=by
 cases n with
 |zero=>exact absurd h (by unfold Rp;exact id)
 |succ m=>
  unfold Rp at h;rw[ht] at h;exact h
end
theorem aHb {a:Int}(h:(Lit.int .u8 a).wf=true):0<=a/\a<256:=by
 have e: ∀z:Int,(Lit.int .u8 z).wf=(decide (0<=z)&&decide (z<=255)):=λz=>rfl
 rw[e] at h;simp only[aUl,decide_eq_true_eq] at h
 exact⟨h.1,by omega⟩
theorem W0 {H:Type}{P:Program}{ts:List TypeId}{ds:List (DataW H)}(h:(DataW.weightsEach P ts ds).all (· <=reachBytes)=true){j:Nat}{t:TypeId}{d:DataW H}(ht:ts[j]? =some t)(hd:ds[j]? =some d):tK P t d:=λn hn=>by
 have:=aUS.1 h n (DataW.weights_mem_each ht hd n hn);simpa using this
end Go.Abs
namespace Go.Proofs.YtciiopkbmjppfaaGreatDoor
open Go.Proofs.Tryz
open Go Go.RowKit Go.Shelf
attribute [local go_sem] Oper.semAt_some
set_option maxHeartbeats 1000000 in
theorem aHq (x k idx:Nat)(w:World)(hx0:((x:Int)==0)=false)
  (key:bits BinOp.and IntKind.u16 (x:Int) (IntKind.u16.wrap (-(x:Int)))%4294967296*125613361%4294967296/134217728=(idx:Int))
  (hi:idx<32)(hk:k<32)(hcell:w.cell? ⟨0,idx,none⟩=some (.int .u8 k)):
  Calls prog 173 #[.int .u16 x] w λe w'=>e= .returned (.I k)/\w'=w:=by
 go_enter Tryz.func173,Tryz.ntmps173
 go_wp2_with (simp only[key])
 go_ret
 exact⟨rfl,rfl⟩
theorem K2 (a b:Nat)(ha:a<65536)(hb:b<65536):bits .and .u16 (a:Int) (b:Int)=((a&&&b:Nat):Int):=by
 have hx:a&&&b<2 ^ 16:=Nat.and_lt_two_pow _ U
 have h1:(BitVec.ofInt 16 (a:Int)).toNat=a:=by
  rw[BitVec.ofInt_natCast,BitVec.toNat_ofNat];exact aUL U
 have h2:(BitVec.ofInt 16 (b:Int)).toNat=b:=by
  rw[BitVec.ofInt_natCast,BitVec.toNat_ofNat];exact aUL U
 show IntKind.u16.wrap ((BitVec.ofInt 16 (a:Int)&&&BitVec.ofInt 16 (b:Int)).toNat:Int)=_
 rw[BitVec.toNat_and,h1,h2];simp only[IntKind.wrap,IntKind.signed,IntKind.bits];simp;omega
theorem aHp (a:Nat)(ha:a<65536):((a:Int)%4294967296*125613361%4294967296/134217728)=((a*125613361%4294967296/134217728:Nat):Int):=U
theorem aHr (x:Nat)(hx:x<65536)(hx0:x≠0)(w:World)(hT: ∀j,j<32->w.cell? ⟨0,j,none⟩=some (.int .u8 ((Lib.deBruijn32tab.getD j 0:Nat):Int))):
  Calls prog 173 #[.int .u16 x] w λe w'=>e= .returned (.I (Lib.ctz 16 x))/\w'=w:=by
 obtain⟨hlow,hk⟩:=Lib.lowest_bit 16 x hx0 hx;obtain⟨hi,htab⟩:=Lib.deBruijn32_at (Lib.ctz 16 x) U
 have hcell:=hT _ hi;rw[htab] at hcell;refine aHq x _ _ w (by simp;omega) ?_ hi U hcell
 have e1:IntKind.u16.wrap (-(x:Int))=((65536-x:Nat):Int):=by
  simp only[IntKind.wrap,IntKind.signed,IntKind.bits];simp;omega
 rw[e1,K2 x _ hx U]
 have:x&&&(65536-x)=2 ^ Lib.ctz 16 x:=hlow;rw[this];have hp:2 ^ Lib.ctz 16 x<65536:=show 2 ^ Lib.ctz 16 x<2 ^ 16 from Nat.pow_lt_pow_right U hk
 exact aHp _ hp
attribute [local go_sem] Oper.semAt_some
def eX:Nat->Nat->List Nat
 |0,_=>[]
 |f+1,x=>if x=0 then [] else Lib.ctz 16 x::eX f (x&&&(x-1))
def TabC (w:World):Prop:= ∀j,j<32->w.cell? ⟨0,j,none⟩=some (.int .u8 ((Lib.deBruijn32tab.getD j 0:Nat):Int))
theorem W4 {x:Nat}(h:x≠0):x&&&(x-1)<x:=Nat.lt_of_le_of_lt Nat.and_le_right U
def Bh (w:World)(B:Nat):Nat:=match w.cell? ⟨B,0,none⟩ with
 |some (.int _ z)=>z.toNat
 |_=>0
set_option maxHeartbeats 2000000 in
set_option maxRecDepth 100000 in
theorem aHs (n:Nat)(hn:1<=n)(l B:Nat)(hB0:B≠0)(J Jx:List Nat->World->Prop)
  (hJm: ∀pre W v,J pre W->J pre (W.setCell ⟨B,0,none⟩ v))(hJt: ∀pre W,J pre W->TabC W)
  (x:Nat)(hx:x<65536)
  (hY: ∀pre k post W1,eX x x=pre++k::post->J pre W1->YieldAt Fence.wide (n-1) prog l #[.I (k:Nat)] W1 λe W'=>
   (e= .returned (.bool true)/\J (pre++[k]) W'/\W'.cell? ⟨B,0,none⟩=W1.cell? ⟨B,0,none⟩/\W'.frozen? ⟨B,0,none⟩=W1.frozen? ⟨B,0,none⟩)∨(e= .returned (.bool false)/\Jx (pre++[k]) W'))
  (W:World)(hc:W.cell? ⟨B,0,none⟩=some (.int .u16 x))(hf:W.frozen? ⟨B,0,none⟩=false)(h0:J [] W):
  CallsIn Fence.wide n prog 172 #[.func (.yield l) #[] #[],.pointer (some ⟨B,0,none⟩)] W λe W'=>(∃v,e= .returned v)/\
   (J (eX x x) W'∨ ∃pre k post,eX x x=pre++k::post/\Jx (pre++[k]) W'):=by
 refine callsIn_of_wp Tryz.func172 rfl trivial ?_ rfl;simp only[Tryz.ntmps172,List.size_toArray,aUz,List.length_nil,Nat.reduceAdd,Nat.reduceSub,Array.replicate_succ,Array.replicate_zero,List.push_toArray,List.append_toArray,List.nil_append,List.cons_append];gi_wp2
 gi_loopw [] (λwr=> ∃(pre:List Nat)(y f:Nat),y<65536/\y<=f/\eX x x=pre++eX f y/\wr.cell? ⟨B,0,none⟩=some (.int .u16 y)/\wr.frozen? ⟨B,0,none⟩=false/\J pre wr) (λwr=>Bh wr B)
 case atStart=>
  exact⟨[],x,x,hx,aUi _,rfl,hc,hf,h0⟩
 case round=>
  obtain⟨pre,y,f,hy16,hyf,hbits,hcy,hfy,hJy⟩:=hrel;by_cases hy0:y=0
  ·subst hy0
   have hcy:wr.cell? ⟨B,0,none⟩=some (.int .u16 0):=hcy;have hb0:eX f 0=[]:=by cases f<;>rfl
   gi_wp2
   go_end0
   exact⟨⟨_,rfl⟩,.inl (by rw[hbits,hb0,List.append_nil];exact hJy)⟩
  ·obtain⟨f',rfl⟩: ∃f',f=f'+1:=⟨f-1,by omega⟩
   have hbs:eX (f'+1) y=Lib.ctz 16 y::eX f' (y&&&(y-1)):=by rw[eX,if_neg hy0]
   have hcond:((y:Int)!=0)=true:=by rw[bne_iff_ne];omega
   obtain⟨fn,tmps,assign,body,hy,hR⟩:=hY pre (Lib.ctz 16 y) (eX f' (y&&&(y-1))) wr (by rw[hbits,hbs]) hJy
   have htab:=hJt _ _ hJy;have hlt:=W4 hy0
   gi_wp2_with (refine⟨trivial,?_⟩;gi_at_call 173;refine(callsIn_wide.2 (aHr y hy16 hy0 _ htab)).mono ?_;rintro e w' ⟨rfl,rfl⟩)
   refine hR.mono ?_;rintro e W3 (⟨rfl,hJ3,hc3,hf3⟩|⟨rfl,hJx3⟩)
   ·have hc3:W3.cell? ⟨B,0,none⟩=some (.int .u16 y):=hc3.trans hcy
    have hf3:W3.frozen? ⟨B,0,none⟩=false:=hf3.trans hfy;have hval:bits BinOp.and IntKind.u16 (y:Int) ((y:Int)-1)=((y&&&(y-1):Nat):Int):=by
     rw[show((y:Int)-1)=((y-1:Nat):Int) from U,K2 y _ hy16 U]
    gi_wp2
    go_roundw
    case rel=>
     refine⟨pre++[Lib.ctz 16 y],y&&&(y-1),f',by omega,by omega,by rw[hbits,hbs];simp,?_,?_,hJm _ _ _ hJ3⟩
     ·exact World.cell?_setCell_same' _ _ _ (by rw[hc3];rfl)
     ·rw[World.frozen?_setCell]
      exact hf3
    case measure=>
     have e1:Bh (W3.setCell ⟨B,0,none⟩ (.int .u16 (y&&&(y-1):Nat))) B=y&&&(y-1):=by
      unfold Bh;rw[World.cell?_setCell_same' _ _ _ (by rw[hc3];rfl)]
      simp
     have e2:Bh w' B=y:=by
      unfold Bh;rw[hcy];simp
     rw[e1,e2];exact hlt
   ·gi_wp2
    refine bodyPost_ret (results_none rfl _ _ _) rfl ?_
    exact⟨⟨_,rfl⟩,.inr ⟨pre,Lib.ctz 16 y,eX f' (y&&&(y-1)),by rw[hbits,hbs],hJx3⟩⟩
attribute [local go_sem] Oper.semAt_some
theorem wG (W:World)(v:Value)(t:TypeId):(W.alloc (.cells #[v] t)).cell? ⟨W.heap.size,0,none⟩=some v/\(W.alloc (.cells #[v] t)).frozen? ⟨W.heap.size,0,none⟩=false:=
 have h:=World.alloc_heap_new W (.cells #[v] t)
 ⟨by unfold World.cell?;rw[h];rfl,by unfold World.frozen?;rw[h];simp⟩
theorem zB {W:World}{a:Addr}{v:Value}(o:Obj)(h:W.cell? a=some v):(W.alloc o).cell? a=some v:=cell_kept h (World.grownBy_alloc W o none) (λr e=>by cases e)
theorem Ep {W:World}{a:Addr}{v:Value}(o:Obj)(h:W.cell? a=some v)(hf:W.frozen? a=false):(W.alloc o).frozen? a=false:=(frozen_kept h (World.grownBy_alloc W o none) (λr e=>by cases e)).trans hf
def KpB (B:Nat)(A C:World):Prop:=C.cell? ⟨B,0,none⟩=A.cell? ⟨B,0,none⟩/\C.frozen? ⟨B,0,none⟩=A.frozen? ⟨B,0,none⟩
theorem KpB.W6 {B:Nat}{X Y Z:World}(h:KpB B X Y)(k:KpB B Y Z):KpB B X Z:=⟨k.1.trans h.1,k.2.trans h.2⟩
theorem KpB.W5 {B l:Nat}(W:World)(o:Obj)(h:B≠l):KpB B W (W.putObj l o):=by
 constructor
 ·unfold World.cell?
  rw[World.putObj_heap_other (show(⟨B,0,none⟩:Addr).block≠l from h)]
 ·unfold World.frozen?
  rw[World.putObj_heap_other (show(⟨B,0,none⟩:Addr).block≠l from h)]
theorem W7 (C:Nat)(W:World)(p:Addr)(v:Value):KeepsFrom C W (W.setCell p v):=(KeepsOthers.setCell W p v).from C
theorem aHt {n:Nat}{g:Operand}{ps:Array Tmp}{assign body:Code}{Q:Exit->Act->World->Prop}{a:Act}{w:World}
  (h1:2<=n){B x:Nat}(hg:a.eval g= .func (.func 172) #[] #[.Q B 0])(hx:x<65536)(hB:B<w.heap.size)(hB0:B≠0)
  (hc:w.cell? ⟨B,0,none⟩=some (.int .u16 x))(hf:w.frozen? ⟨B,0,none⟩=false)(hps:ps.size=1)
  (I:List Nat->World->Prop)(Ix:Code->List Nat->World->Prop)(hI:OwnFrom w.heap.size I)(hIx: ∀c,OwnFrom w.heap.size (Ix c))
  (hIB: ∀pre W v,I pre W->I pre (W.setCell ⟨B,0,none⟩ v))(hIT: ∀pre W,I pre W->TabC W)(h0:I [] w)(a₁:Nat->Act)
  (hassign: ∀(l:Nat)(k:Nat)(W:World)(K:Act->World->Prop),K (a₁ k) W->
   assign.wpIn (Fence.wide.inRound l) (n-1-1) prog (Exit.then K (λ_ _ _=>False)) {tmps:=(ps.zip #[.I (k:Nat)]).foldl (λt (p,v)=>t.setIfInBounds p v) a.tmps,defers:=[]} W)
  (hbody: ∀(l:Nat)(pre:List Nat)(k:Nat)(post:List Nat)(W:World),eX x x=pre++k::post->I pre W->
   body.wpIn (Fence.wide.inRound l) (n-1-1) prog (ownPostG w.heap.size (KpB B) I Ix (pre++[k]) W) (a₁ k) W)
  (hdone: ∀(D:Nat)(W:World),w.heap.size<=D->I (eX x x) W->W.heap[D]? =some (.deferred (some []))->Q .normal {a with defers:={target:= .collected D,args:= #[]}::a.defers} W)
  (hstop: ∀(D:Nat)(c:Code)(pre:List Nat)(k:Nat)(post:List Nat)(W:World),w.heap.size<=D->eX x x=pre++k::post->Ix c (pre++[k]) W->W.heap[D]? =some (.deferred (some []))->
   c.wpIn Fence.wide n prog Q {a with defers:={target:= .collected D,args:= #[]}::a.defers} W):
  (Code.rangeFunc g ps assign body).wpIn Fence.wide n prog Q a w:=by
 have eg: ∀args w,(callFunc 172 args).run prog w= .ok (.enter 172 args) w:=enters_of Tryz.func172 (by kernel_rfl) rfl
 refine wpIn_rangeFunc ?_;intro fn hfn;obtain⟨rec,hrec⟩: ∃rec:LoopState->Option Code->Loop,rec=λst pe=>{state:=st,pending:=pe,fn,tmps:=a.tmps,params:=ps,assign,body,defers:=w.heap.size}:=⟨_,rfl⟩
 obtain⟨W1,hW1⟩: ∃W1,(w.alloc (.deferred (some []))).alloc (.loop (rec .ready none))=W1:=⟨_,rfl⟩;have hL1:W1.heap[w.heap.size+1]? =some (.loop (rec .ready none)):=by
  rw[<-hW1];have:=World.alloc_heap_new (w.alloc (.deferred (some []))) (.loop (rec .ready none));rwa [World.size_alloc] at this
 have hK1:W1.heap[w.heap.size]? =some (.deferred (some [])):=by
  rw[<-hW1];exact(Below.heap_alloc _ _ _ (by simp)).trans (World.alloc_heap_new w _)
 have hI1:I [] W1:=by rw[<-hW1];exact hI.alloc _ (hI.alloc _ h0)
 have hc1:W1.cell? ⟨B,0,none⟩=some (.int .u16 x):=by rw[<-hW1];exact zB _ (zB _ hc)
 have hf1:W1.frozen? ⟨B,0,none⟩=false:=by rw[<-hW1];exact Ep _ (zB _ hc) (Ep _ hc hf)
 refine⟨w.heap.size+1,[{target:= .collected w.heap.size,args:= #[]}],W1,{target:= .fn (.func 172) #[.Q B 0],args:= #[.func (.yield (w.heap.size+1)) #[] #[]]},W1,172,
  #[.func (.yield (w.heap.size+1)) #[] #[],.pointer (some ⟨B,0,none⟩)],W1,?_,?_,?_,?_,λ_=>by omega,?_⟩
 ·rw[<-hW1,hrec];exact run_enterLoop_outer _ _ _ _ _
 ·simp only[resolve,hg]
  simp[go_sem]
 ·intro f' hf';simp[Target.leads] at hf';subst hf';trivial
 ·simp[invoke,go_sem,eg]
 ·refine(aHs (n-1) U (w.heap.size+1) B hB0
   (λpre W=>I pre W/\W.heap[w.heap.size+1]? =some (.loop (rec .ready none))/\W.heap[w.heap.size]? =some (.deferred (some [])))
   (λpre W=> ∃c,Ix c pre W/\W.heap[w.heap.size+1]? =some (.loop (rec .done (some c)))/\W.heap[w.heap.size]? =some (.deferred (some [])))
   ?_ (λpre W h=>hIT _ _ h.1) x hx ?_ W1 hc1 hf1 ⟨hI1,hL1,hK1⟩).mono ?_
  ·rintro pre W v ⟨hi,hl,hk⟩
   have hko:=KeepsOthers.setCell W ⟨B,0,none⟩ v
   exact⟨hIB _ _ _ hi,hko.same _ _ hl rfl,hko.same _ _ hk rfl⟩
  ·
   rintro pre x' post W hbits ⟨hi,hl,hk⟩
   have hlt:w.heap.size+1<W.heap.size:=(aUC.1 hl).1;have hy:=run_yield (P:=prog) (args:= #[.I (x':Nat)]) hl (by rw[hrec];exact hps.symm)
   rw[hrec] at hy;refine⟨fn,_,assign,body,hy,roundIn_of_wpIn hfn (hassign _ x' W _ ⟨_,run_beginRound hl (by rw[hrec]),?_⟩)⟩
   have hl2:(W.putObj (w.heap.size+1) (.loop {rec .ready none with state:= .busy})).heap[w.heap.size+1]? =some (.loop {rec .ready none with state:= .busy}):=World.putObj_heap_same hlt;have hk2:(W.putObj (w.heap.size+1) (.loop {rec .ready none with state:= .busy})).heap[w.heap.size]? =some (.deferred (some [])):=(World.putObj_heap_other U).trans hk
   have hw2:KpB B W (W.putObj (w.heap.size+1) (.loop {rec .ready none with state:= .busy})):=KpB.W5 _ _ U
   refine wpIn_mono (hbody _ pre x' post _ hbits (hI.putObj _ hi U hl rfl)) ?_
   have fin: ∀(jump:Option Code)(W3:World),KeepsFrom w.heap.size (W.putObj (w.heap.size+1) (.loop {rec .ready none with state:= .busy})) W3->
     (Instr.endRound (w.heap.size+1) jump).run prog W3= .ok (.bool jump.isNone) (W3.putObj (w.heap.size+1) (.loop (rec (if jump.isNone then .ready else .done) jump)))/\
     W3.heap[w.heap.size+1]? =some (.loop {rec .ready none with state:= .busy})/\
     (W3.putObj (w.heap.size+1) (.loop (rec (if jump.isNone then .ready else .done) jump))).heap[w.heap.size+1]? =some (.loop (rec (if jump.isNone then .ready else .done) jump))/\
     (W3.putObj (w.heap.size+1) (.loop (rec (if jump.isNone then .ready else .done) jump))).heap[w.heap.size]? =some (.deferred (some [])):=λjump W3 hk3=>by
    have hl3:=hk3.same _ _ U hl2 rfl
    have:=run_endRound (P:=prog) jump hl3;rw[hrec] at this⊢
    exact⟨this,by rw[hrec] at hl3;exact hl3,World.putObj_heap_same (aUC.1 hl3).1,(World.putObj_heap_other U).trans (hk3.same _ _ (aUi _) hk2 rfl)⟩
   rintro e a3 W3 hp
   cases e with
   |normal=>
    obtain⟨hk3,hkp3,hi3⟩:=hp;obtain⟨hr,hl3,hl4,hk4⟩:=fin none W3 hk3;have hq:=(hw2.W6 hkp3).W6 (KpB.W5 W3 (.loop (rec (if(none:Option Code).isNone then .ready else .done) none)) (show B≠w.heap.size+1 by omega))
    exact⟨_,_,hr,.inl ⟨rfl,⟨hI.putObj _ hi3 U hl3 rfl,hl4,hk4⟩,hq.1,hq.2⟩⟩
   |ret=>
    obtain⟨hk3,hi3⟩:=hp;obtain⟨hr,hl3,hl4,hk4⟩:=fin (some .ret) W3 hk3
    exact⟨_,_,hr,.inr ⟨rfl,.ret,(hIx _).putObj _ hi3 U hl3 rfl,hl4,hk4⟩⟩
   |exit id=>
    obtain⟨hk3,hi3⟩:=hp;obtain⟨hr,hl3,hl4,hk4⟩:=fin (some (.exit id)) W3 hk3
    exact⟨_,_,hr,.inr ⟨rfl,.exit id,(hIx _).putObj _ hi3 U hl3 rfl,hl4,hk4⟩⟩
   |goto t=>
    obtain⟨hk3,hi3⟩:=hp;obtain⟨hr,hl3,hl4,hk4⟩:=fin (some (.goto t)) W3 hk3
    exact⟨_,_,hr,.inr ⟨rfl,.goto t,(hIx _).putObj _ hi3 U hl3 rfl,hl4,hk4⟩⟩
   |panic ch=>exact hp.elim
   |outgrown=>exact hp.elim
  ·
   rintro e W2 ⟨⟨v,rfl⟩,(⟨hi,hl,hk⟩|⟨pre,k,post,hbits,c,hi,hl,hk⟩)⟩
   ·exact⟨none,_,by have:=run_endLoop (P:=prog) hl (by rw[hrec];simp);rw[hrec] at this;exact this,hdone _ _ (aUi _) (hI.putObj _ hi U hl rfl) ((World.putObj_heap_other U).trans hk)⟩
   ·exact⟨some c,_,by have:=run_endLoop (P:=prog) hl (by rw[hrec];simp);rw[hrec] at this;exact this,hstop _ c pre k post _ (aUi _) hbits ((hIx c).putObj _ hi U hl rfl) ((World.putObj_heap_other U).trans hk)⟩
theorem K3 {n:Nat}{g:Operand}(p q:Tmp){assign body:Code}{Q:Exit->Act->World->Prop}{tmps:Array Value}{defers:List Deferred}{w:World}
  (h1:2<=n)(B x:Nat)(hg:Act.eval {tmps,defers} g= .func (.func 172) #[] #[.Q B 0])(hx:x<65536)(hB:B<w.heap.size)(hB0:B≠0)
  (hc:w.cell? ⟨B,0,none⟩=some (.int .u16 x))(hf:w.frozen? ⟨B,0,none⟩=false)
  (I:List Nat->World->Prop)(Ix:Code->List Nat->World->Prop)(hI:OwnFrom w.heap.size I)(hIx: ∀c,OwnFrom w.heap.size (Ix c))
  (hIB: ∀pre W v,I pre W->I pre (W.setCell ⟨B,0,none⟩ v))(hIT: ∀pre W,I pre W->TabC W)(h0:I [] w)
  (hassign: ∀(l:Nat)(k:Nat)(W:World)(K:Act->World->Prop),K {tmps:=(tmps.setIfInBounds p (.I (k:Nat))).setIfInBounds q (.I (k:Nat)),defers:=[]} W->
   assign.wpIn (Fence.wide.inRound l) (n-1-1) prog (Exit.then K (λ_ _ _=>False)) {tmps:=tmps.setIfInBounds p (.I (k:Nat)),defers:=[]} W)
  (hbody: ∀(l:Nat)(pre:List Nat)(k:Nat)(post:List Nat)(W:World),eX x x=pre++k::post->I pre W->
   body.wpIn (Fence.wide.inRound l) (n-1-1) prog (ownPostG w.heap.size (KpB B) I Ix (pre++[k]) W) {tmps:=(tmps.setIfInBounds p (.I (k:Nat))).setIfInBounds q (.I (k:Nat)),defers:=[]} W)
  (hdone: ∀(D:Nat)(W:World),w.heap.size<=D->I (eX x x) W->W.heap[D]? =some (.deferred (some []))->Q .normal {tmps,defers:={target:= .collected D,args:= #[]}::defers} W)
  (hstop: ∀(D:Nat)(c:Code)(pre:List Nat)(k:Nat)(post:List Nat)(W:World),w.heap.size<=D->eX x x=pre++k::post->Ix c (pre++[k]) W->W.heap[D]? =some (.deferred (some []))->
   c.wpIn Fence.wide n prog Q {tmps,defers:={target:= .collected D,args:= #[]}::defers} W):
  (Code.rangeFunc g #[p] assign body).wpIn Fence.wide n prog Q {tmps,defers} w:=
 aHt h1 hg hx hB hB0 hc hf rfl I Ix hI hIx hIB hIT h0 _ (λl k W K hK=>by
  have e: ∀v:Value,(#[p].zip #[v]).foldl (λt (p,v)=>t.setIfInBounds p v) tmps=tmps.setIfInBounds p v:=λv=>by simp
  have h:=hassign l k W K hK;rw[<-e] at h;exact h) hbody hdone hstop
attribute [local go_sem] Oper.semAt_some
def eO (x n:Nat):Nat:=x&&&(2 ^ n-1)
theorem Bi {x n:Nat}(h:x<65536):eO x n<65536:=Nat.lt_of_le_of_lt Nat.and_le_left h
theorem zC (x n i:Nat):(eO x n).testBit i=(x.testBit i&&decide (i<n)):=by
 unfold eO;rw[Nat.testBit_and,Nat.testBit_two_pow_sub_one]
theorem Xc (x n:Nat):eO x n<2 ^ n:=by
 have:=Nat.two_pow_pos n;exact Nat.lt_of_le_of_lt Nat.and_le_right U
theorem Xb {x:Nat}(h0:x≠0)(h:x<65536):Lib.ctz 16 x<16/\x.testBit (Lib.ctz 16 x)=true/\(∀j,j<Lib.ctz 16 x->x.testBit j=false)/\
  ∀j,(x&&&(x-1)).testBit j=(x.testBit j&&decide (j≠Lib.ctz 16 x)):=by
 obtain⟨m,hm,hk⟩:=Lib.ctzFrom_spec 16 x U h
 have e:Lib.ctz 16 x=Lib.ctzFrom 16 x:=by rw[Lib.ctz,if_neg h0]
 rw[e]
 generalize Lib.ctzFrom 16 x=c at hm hk
 have b1: ∀j,x.testBit j=(decide (c<=j)&&(2*m+1).testBit (j-c)):=by
  intro j;rw[hm,Nat.mul_comm,Nat.testBit_mul_two_pow]
 have hp:0<2 ^ c:=Nat.two_pow_pos c;have b2: ∀j,(x-1).testBit j=if j<c then true else(2*m).testBit (j-c):=by
  intro j;have:x-1=2 ^ c*(2*m)+(2 ^ c-1):=by
   rw[hm,Nat.mul_add,Nat.mul_one];omega
  rw[this,Nat.testBit_two_pow_mul_add _ U]
  split
  ·rename_i hj
   rw[Nat.testBit_two_pow_sub_one];simp[hj]
  ·rfl
 refine⟨hk,?_,?_,?_⟩
 ·rw[b1]
  simp[Nat.testBit_zero]
 ·intro j hj
  rw[b1];simp[show¬c<=j by omega]
 ·intro j
  rw[Nat.testBit_and,b2,b1];by_cases hj:j<c
  ·simp[hj,show¬c<=j by omega]
  ·rw[if_neg hj]
   by_cases hjc:j=c
   ·subst hjc
    simp[Nat.testBit_zero]
   ·obtain⟨i,rfl⟩: ∃i,j=c+(i+1):=⟨j-c-1,by omega⟩
    have e3:c+(i+1)-c=i+1:=U
    have d1:(2*m+1)/2=m:=U
    have d2:(2*m)/2=m:=U
    rw[e3,Nat.testBit_succ,Nat.testBit_succ,d1,d2];simp
theorem Er: ∀(f x:Nat),x<=f->x<65536-> ∀k,k∈eX f x↔x.testBit k=true
 |0,x,h,_,k=>by
  have:x=0:=U
  subst this;simp[eX]
 |f+1,x,h,hx,k=>by
  rw[eX];by_cases h0:x=0
  ·subst h0
   simp
  ·rw[if_neg h0]
   obtain⟨c1,c2,c3,c4⟩:=Xb h0 hx;have hlt:=W4 h0;rw[aUw,Er f _ U U,c4]
   by_cases hk:k=Lib.ctz 16 x
   ·subst hk
    simp[c2]
   ·simp[hk]
theorem W9 {x n k:Nat}{post:List Nat}(hx:x<65536)(hn:x<2 ^ n)(h:eX x x=k::post):(List.range n).find? x.testBit=some k:=by
 by_cases h0:x=0
 ·subst h0
  cases h
 ·obtain⟨f,hf⟩: ∃f,x=f+1:=⟨x-1,by omega⟩
  obtain⟨c1,c2,c3,c4⟩:=Xb h0 hx;have:eX x x=Lib.ctz 16 x::eX f (x&&&(x-1)):=by
   conv=>lhs;rw[show eX x x=eX (f+1) x from by rw[<-hf]]
   rw[eX,if_neg h0]
  rw[this] at h;cases h;rw[List.find?_range_eq_some];refine⟨c2,?_,λj hj=>by simp[c3 j hj]⟩
  rw[aUR];apply Nat.lt_of_not_le;intro hle;have:=Nat.testBit_lt_two_pow (aUs hn (Nat.pow_le_pow_right U hle))
  rw[c2] at this;cases this
theorem Xa {x n:Nat}(hx:x<65536)(h:eX x x=[]):(List.range n).find? x.testBit=none:=by
 rw[List.find?_eq_none];intro k _ hk;have:=(Er x x (aUi _) hx k).mpr hk;rw[h] at this;cases this
theorem aHu (n:Nat)(hn:n<=16):IntKind.u16.wrap (IntKind.u16.wrap ((2:Int) ^ n)-1)=((2 ^ n-1:Nat):Int):=by
 have: ∀n:Nat,n<=16->IntKind.u16.wrap (IntKind.u16.wrap ((2:Int) ^ n)-1)=((2 ^ n-1:Nat):Int):=by decide+kernel
 exact this n hn
set_option maxHeartbeats 1000000 in
theorem W8 (x n:Nat)(hx:x<65536)(hn:n<=16)(w:World):
  Calls prog 152 #[.int .u16 x,.I n] w λe w'=>e= .returned (.int .u16 (eO x n:Nat))/\w'=w:=by
 go_enter Tryz.func152,Tryz.ntmps152
 go_wp2
 have hp:(2:Nat) ^ n<=2 ^ 16:=Nat.pow_le_pow_right U hn
 rw[aHu n hn,K2 x _ hx U]
 go_ret
 exact⟨rfl,rfl⟩
set_option maxHeartbeats 1000000 in
theorem K6 (x:Nat)(hx:x<65536)(w:World):
  Calls prog 151 #[.int .u16 x] w λe w'=>e= .returned (.func (.func 172) #[] #[.Q w.heap.size 0])/\w'=w.alloc (.cells #[.int .u16 x] 23):=by
 go_enter Tryz.func151,Tryz.ntmps151
 go_wp2
 go_ret
 exact⟨rfl,rfl⟩
theorem TabC.K4 {w W:World}{N:Nat}(h:TabC w)(hN:0<N)(hB:Below N w W):TabC W:=λj hj=>(hB.cell (p:=⟨0,j,none⟩) hN).trans (h j hj)
theorem TabC.K5 {w:World}(h:TabC w):0<w.heap.size:=by
 have:=h 0 U
 unfold World.cell? at this
 split at this
 ·rename_i h1
  exact(aUC.mp h1).1
 ·cases this
end Go.Proofs.YtciiopkbmjppfaaGreatDoor
namespace Go.Abs
open M
open Go.Sort
def uR:List Value->Option (List Int)
 |[]=>some []
 | .int .i64 n::r=>(uR r).map (n:: ·)
 |_=>none
def wH (x:Int):List Int->List Int
 |[]=>[x]
 |y::ys=>if x<=y then x::y::ys else y::wH x ys
def srt:List Int->List Int
 |[]=>[]
 |x::xs=>wH x (srt xs)
theorem K7 (x:Int): ∀ys,(wH x ys).Perm (x::ys)
 |[]=>List.Perm.refl _
 |y::ys=>by
  unfold wH;split
  ·exact List.Perm.refl _
  ·exact((K7 x ys).cons y).trans (List.Perm.swap x y ys)
theorem Bj: ∀zs,(srt zs).Perm zs
 |[]=>List.Perm.refl _
 |x::xs=>(K7 x (srt xs)).trans ((Bj xs).cons x)
theorem Xd (x:Int): ∀ys,ys.Pairwise (· <= ·)->(wH x ys).Pairwise (· <= ·)
 |[],_=>by simp[wH]
 |y::ys,h=>by
  obtain⟨h1,h2⟩:=List.pairwise_cons.mp h;unfold wH;split
  ·rename_i hxy
   refine List.pairwise_cons.mpr ⟨λz hz=> ?_,h⟩
   rcases aUw.mp hz with rfl|hz
   ·exact hxy
   ·exact Int.le_trans hxy (h1 z hz)
  ·rename_i hxy
   refine List.pairwise_cons.mpr ⟨λz hz=> ?_,Xd x ys h2⟩
   rcases aUw.mp ((K7 x ys).mem_iff.mp hz) with rfl|hz
   ·omega
   ·exact h1 z hz
theorem Et: ∀zs,(srt zs).Pairwise (· <= ·)
 |[]=>List.Pairwise.nil
 |x::xs=>Xd x _ (Et xs)
theorem aHA (zs:List Int):(zs.mergeSort λx y=>decide (x<=y))=srt zs:=by
 refine List.Perm.eq_of_pairwise (le:=λx y=>x<=y) (λa b _ _ h1 h2=>by omega) ?_ (Et zs) ((List.mergeSort_perm zs _).trans (Bj zs).symm)
 have:=List.pairwise_mergeSort (le:=λx y:Int=>decide (x<=y)) (λa b c h1 h2=>by simp at *; omega) (λa b=>by simp;omega) zs
 exact this.imp λh=>by simpa using h
theorem Xe: ∀zs:List Int,uR (zs.map (Value.int .i64))=some zs
 |[]=>rfl
 |z::zs=>by simp[uR,Xe zs]
theorem Xf: ∀(vs:List Value)(zs:List Int),uR vs=some zs->vs=zs.map (Value.int .i64)
 |[],zs,h=>by simp[uR] at h;subst h;rfl
 |v::vs,zs,h=>by
  unfold uR at h
  split at h
  ·rename_i h1;cases h1
  ·rename_i n r h1
   cases h1;cases hr:uR vs with
   |none=>rw[hr] at h;cases h
   |some ys=>
    rw[hr] at h;cases h;rw[aUI,<-Xf vs ys hr]
  ·cases h
def pQ (args:List Value)(H:aF):Option (Value×aF):=
 match args with
 |[.slice none 0 0]=>some (.tuple #[],H)
 |[.slice (some ⟨b,o,none⟩) n _]=>
  if n=0 then some (.tuple #[],H) else
  match H[b]? with
  |some (.cells cs e .row)=>
   if o+n<=cs.length/\n<4611686018427387904 then
    match uR ((cs.drop o).take n) with
    |some zs=>some (.tuple #[],H.set b (.cells (cU cs o ((srt zs).map (Value.int .i64))) e .row))
    |none=>none
   else none
  |_=>none
 |_=>none
structure SortOk (P:Program)(g:FuncId):Prop where
 ent: ∀args w,(callFunc g args).run P w= .ok (.enter g args) w
 none: ∀(p:Option Addr)(cap:Nat)(w:World),Calls P g #[.slice p 0 cap] w λe w'=>e= .returned (.tuple #[])/\w'=w
 sort: ∀(blk off cap:Nat)(zs:List Int)(w:World),Holds (Value.int .i64) w blk off zs.toArray->blk<w.heap.size->zs.length<4611686018427387904->
  Calls P g #[.slice (some ⟨blk,off,Option.none⟩) zs.length cap] w λe w'=>e= .returned (.tuple #[])/\ ∃n os,w'=grow (putRow (Value.int .i64) (Sort.ahead w n) blk off (zs.mergeSort λx y=>decide (x<=y)).toArray) os
theorem aHv {args:List Value}{H H':aF}{v:Value}(h:pQ args H=some (v,H')):H.length<=H'.length:=by
 unfold pQ at h
 split at h
 ·cases h;exact aUi _
 ·split at h
  ·cases h;exact aUi _
  ·split at h
   ·split at h
    ·split at h
     ·cases h;simp
     ·cases h
    ·cases h
   ·cases h
 ·cases h
theorem pR (zs:List Int):(srt zs).length=zs.length:=(Bj zs).length_eq
theorem aHw {P:Program}{g:FuncId}(hg:SortOk P g){args:List Value}{H H':aF}{v:Value}(h:pQ args H=some (v,H')){ρ:Ren}{w:World}{args':List Value}(hr:Rel P ρ (cF H) w)(ha:Vrs ρ args args'):
  wA P (.func g) args'.toArray w (Post P ρ H w v H'):=by
 have he:=hg.ent args'.toArray w;refine⟨he,?_⟩;unfold pQ at h
 split at h
 ·cases h
  obtain⟨hl,h1⟩:=ha
  match args',hl with
  |[a'],_=>
   have hv:=h1 0 _ a' rfl rfl;cases hv with
   |same _=>exact(hg.none none 0 w).mono λe w' ⟨h1,h2⟩=>⟨_,h1,h2▸Post.j7 hr (.mL rfl)⟩
 ·rename_i b o n cap
  obtain⟨hl,h1⟩:=ha
  match args',hl with
  |[a'],_=>
   have hv:=h1 0 _ a' rfl rfl
   split at h
   ·rename_i h0
    cases h;subst h0;cases hv with
    |same hls=>simp[dI] at hls
    |slice=>exact(hg.none _ _ w).mono λe w' ⟨h1,h2⟩=>⟨_,h1,h2▸Post.j7 hr (.mL rfl)⟩
    |slice0=>exact(hg.none _ _ w).mono λe w' ⟨h1,h2⟩=>⟨_,h1,h2▸Post.j7 hr (.mL rfl)⟩
   ·rename_i h0
    split at h
    ·rename_i cs e hb
     split at h
     ·rename_i hlen
      split at h
      ·rename_i zs hzs
       cases h;have hz:=Xf _ _ hzs;have hzl:zs.length=n:=by
        have:=congrArg List.length hz;simp at this;omega
       cases hv with
       |same hls=>simp[dI] at hls
       |slice0=>exact absurd rfl h0
       | @slice _ _ _ _ cap' pl hpl _ _ _=>
        have hB:=hr.blk b pl _ hpl hb;obtain⟨ccs,ce,lo,hi,ho,hcv,hfz,hrow,hro⟩:=hB;have hplt:=hr.lt b pl hpl;have hin: ∀j,j<n-> ∃z,zs[j]? =some z/\ccs[pl.base+o+j]? =some (.int .i64 z):=by
         intro j hj;have hzj:zs[j]? =some zs[j]:=aUf U
         refine⟨_,hzj,?_⟩;have h2:cs[o+j]? =some (.int .i64 zs[j]):=by
          have:=congrArg (·[j]?) hz
          simp only[List.getElem?_take,List.getElem?_drop,aUq,hzj,if_pos hj] at this;exact this
         obtain⟨v',h3,h4⟩:=hcv (o+j) _ h2;have h5:=h4.gW rfl;subst h5;rw[Nat.add_assoc];exact h3
        have hH:Holds (Value.int .i64) w pl.c (pl.base+o) zs.toArray:=by
         intro j hj;have hj':j<n:=by simpa[hzl] using hj
         obtain⟨z,hz1,hz2⟩:=hin j hj';have hgz:zs.toArray[j]! =z:=by
          have hjz:j<zs.length:=U
          rw[getElem!_pos _ j (by simpa using hjz)]
          have:=aUd.mp hz1;simpa using this.2
         refine⟨by rw[A6 ho,hz2,hgz],?_⟩
         have hlt:pl.base+o+j<ccs.size:=(aUC.mp hz2).1;have:=hfz aC (pl.base+o+j) hlt
         simp only[World.frozen?,ho];simp;omega
        have hc:=hg.sort pl.c (pl.base+o) cap' zs w hH hplt U
        rw[hzl,aHA] at hc;refine hc.mono λe w' ⟨h1,q,os,h2⟩=>⟨_,h1,ρ,.mL (v:= .tuple #[]) rfl,?_⟩
        have hsz:(srt zs).toArray.size=n:=by
         have:=pR zs;simp[this,hzl]
        have hheap: ∀c:Nat,c<w.heap.size->w'.heap[c]? =if c=pl.c then some (.cells (putCells (Value.int .i64) (pl.base+o) (srt zs).toArray ccs) ce (lo,hi)) else w.heap[c]? :=by
         intro c hcl;rw[h2];simp only[grow,putRow,mapBlock,Sort.ahead];rw[Array.getElem?_append_left (by simpa using hcl),Array.getElem?_modify]
         by_cases hcc:pl.c=c
         ·subst hcc
          rw[if_pos rfl,if_pos rfl,ho];rfl
         ·rw[if_neg hcc,if_neg (Ne.symm hcc)]
        refine Step.Jv hr hpl (by rw[hb];rfl) ?_ (λc hne hcl=>by rw[hheap c hcl,if_neg hne]) ?_ ?_ ?_ ?_
        ·rw[h2]
         simp[grow,putRow,mapBlock,Sort.ahead]
        ·rw[hheap pl.c hplt,if_pos rfl]
         refine⟨_,ce,lo,hi,rfl,λi v hi=> ?_,λhk off hoff=>hfz hk off (by simpa[putCells] using hoff),λhk=> ?_,hro⟩
         ·rw[Ux _ _ _ (by rw[aUr,pR];omega)] at hi
          rw[aUr,pR,hzl] at hi;by_cases hin2:o<=i/\i<o+n
          ·rw[if_pos hin2] at hi
           obtain⟨z,_,hz2⟩:=hin (i-o) U
           have hlt:pl.base+i<ccs.size:=by
            have:=(aUC.mp hz2).1;omega
           refine⟨v,?_,?_⟩
           ·unfold putCells
            rw[Array.getElem?_mapIdx,Array.getElem?_eq_getElem hlt,Option.map_some,if_pos ⟨by omega,by rw[hsz];omega⟩]
            have e1:pl.base+i-(pl.base+o)=i-o:=U
            rw[e1];have hlt2:i-o<(srt zs).length:=by rw[pR];omega
            rw[aUq,aUf hlt2] at hi;rw[<-aUP hi];have:(srt zs).toArray[i-o]! =(srt zs)[i-o]:=by
             rw[getElem!_pos _ (i-o) (by rw[hsz];omega)]
             simp
            rw[this]
           ·have hlt2:i-o<(srt zs).length:=by rw[pR];omega
            rw[aUq,aUf hlt2] at hi;rw[<-aUP hi];exact .mL rfl
          ·rw[if_neg hin2] at hi
           obtain⟨v',h3,h4⟩:=hcv i v hi;refine⟨v',?_,h4⟩;unfold putCells;rw[Array.getElem?_mapIdx,h3,Option.map_some,if_neg (by rw[hsz];omega)]
         ·have:=hrow hk
          simpa[putCells] using this
        ·rw[h2];rfl
        ·rw[h2];rfl
        ·rw[h2];rfl
      ·cases h
     ·cases h
    ·cases h
 ·cases h
def oT (ids:List FuncId)(g:FuncId):eK:=λf=>match f with
 | .func k=>if k=g then some pQ else rT ids (.func k)
 |_=>none
theorem aHx {ids:List FuncId}{g k:FuncId}(hg:(k==g)=false)(h:ids.contains k=false):oT ids g (.func k)=none:=by
 have:k≠g:=by simpa using hg
 simp only[oT,if_neg this];exact Kv h
theorem aHz {ids:List FuncId}{g:FuncId}:oT ids g (.func g)=some pQ:=by simp[oT]
theorem aHy {P:Program}{ids:List FuncId}{g:FuncId}(h:PrimsOk P (rT ids))(hs:SortOk P g):PrimsOk P (oT ids g):=by
 constructor
 ·intro f p hf args H v H' hp
  cases f with
  |func k=>
   by_cases hk:k=g
   ·simp only[oT,if_pos hk] at hf
    cases hf;exact aHv hp
   ·simp only[oT,if_neg hk] at hf
    exact h.mono _ _ hf _ _ _ _ hp
  |_=>cases hf
 ·intro f p hf args H v H' hp ρ w args' hr ha hfree
  cases f with
  |func k=>
   by_cases hk:k=g
   ·simp only[oT,if_pos hk] at hf
    cases hf;subst hk;exact aHw hs hp hr ha
   ·simp only[oT,if_neg hk] at hf
    exact h.sound _ _ hf _ _ _ _ hp _ _ _ hr ha hfree
  |_=>cases hf
def K8 (ids:List FuncId)(pr:eK):eK:=λf=>match f with
 | .func k=>if ids.contains k=true then some λargs H=>if args.isEmpty=true then some (.bool true,H) else none else pr (.func k)
 |_=>none
theorem aHB {ids:List FuncId}{pr:eK}{g:FuncId}(h:ids.contains g=true):K8 ids pr (.func g)=some λargs H=>if args.isEmpty=true then some (.bool true,H) else none:=by
 simp only[K8,h];rfl
theorem aT6 {P:Program}{ids:List FuncId}{pr:eK}{g:FuncId}(h:ids.contains g=true){n:Nat}(hn:0<n)(H:aF):lvl P (K8 ids pr) n (.func g) [] H=some (.bool true,H):=by
 obtain⟨m,rfl⟩: ∃m,n=m+1:=⟨n-1,by omega⟩
 simp only[lvl,aHB h];rfl
theorem K9 {P:Program}{pr:eK}{g:FuncId}{p:List Value->aF->Option (Value×aF)}(h:pr (.func g)=some p){n:Nat}(hn:0<n)(args:List Value)(H:aF):lvl P pr n (.func g) args H=p args H:=by
 obtain⟨m,rfl⟩: ∃m,n=m+1:=⟨n-1,by omega⟩
 simp only[lvl,h]
end Go.Abs
namespace Go.Abs
open M
def Sub (D H:aF):Prop:=D.length=H.length/\ ∀(b:Nat)(x:Blk),D[b]? =some x->x≠Blk.dead->H[b]? =some x
structure Fs (D H D' H':aF):Prop where
 sub:Sub D' H'
 le:D.length<=D'.length
 keep: ∀b:Nat,D[b]? =some Blk.dead->H'[b]? =H[b]?
 dead: ∀b:Nat,D[b]? =some Blk.dead->D'[b]? =some Blk.dead
theorem Sub.r8 {D H:aF}(h:Sub D H){b:Nat}{cs:List Value}{e:TypeId}{k:Kind}(hb:D[b]? =some (.cells cs e k)):H[b]? =some (.cells cs e k):=h.2 b _ hb (λhh=>by cases hh)
theorem Sub.zE {D H:aF}(h:Sub D H){b:Nat}{es:List Ent}{c:Nat}(hb:D[b]? =some (.map es c)):H[b]? =some (.map es c):=h.2 b _ hb (λhh=>by cases hh)
theorem Fs.zD {D H:aF}(h:Sub D H):Fs D H D H:=⟨h,aUi _,λ_ _=>rfl,λ_ h=>h⟩
theorem Fs.Bk {D H D1 H1 D2 H2:aF}(h:Fs D H D1 H1)(h':Fs D1 H1 D2 H2):Fs D H D2 H2:=
 ⟨h'.sub,aUt h.le h'.le,λb hb=>by rw[h'.keep b (h.dead b hb),h.keep b hb],λb hb=>h'.dead b (h.dead b hb)⟩
theorem Fs.Lb {D H:aF}(h:Sub D H){b:Nat}{x:Blk}(hb:D[b]? =some x)(hx:x≠Blk.dead)(y:Blk):Fs D H (D.set b y) (H.set b y):=by
 have hbl:=(aUd.mp hb).1;have other: ∀c:Nat,D[c]? =some Blk.dead->b≠c:=λc hc hh=>by
  subst hh;rw[hb] at hc;cases hc;exact hx rfl
 refine⟨⟨by simp[h.1],λc z hc hz=> ?_⟩,by simp,λc hc=>aUe (other c hc),λc hc=>by rw[aUe (other c hc)];exact hc⟩
 by_cases hcb:b=c
 ·subst hcb
  rw[aUj hbl] at hc;rw[aUj (by rw[<-h.1];exact hbl)]
  exact hc
 ·rw[aUe hcb] at hc⊢
  exact h.2 c z hc hz
theorem Fs.app {D H:aF}(h:Sub D H)(x:Blk):Fs D H (D++[x]) (H++[x]):=by
 refine⟨⟨by simp[h.1],λc z hc hz=> ?_⟩,by simp,λc hc=> ?_,λc hc=>by rw[aUg (aUd.mp hc).1];exact hc⟩
 ·by_cases hl:c<D.length
  ·rw[aUg hl] at hc
   rw[aUg (by rw[<-h.1];exact hl)]
   exact h.2 c z hc hz
  ·rw[aUx U] at hc
   rw[aUx (by have:=h.1;omega),<-h.1]
   exact hc
 ·have hl:=(aUd.mp hc).1
  rw[aUg (by rw[<-h.1];exact hl)]
def FrM (m:M Value):Prop:= ∀D H,Sub D H-> ∀v D',m D=some (v,D')-> ∃H',m H=some (v,H')/\Fs D H D' H'
def FrO (O:aH):Prop:= ∀fn args,FrM (O fn args)
theorem jJ:FrM cH:=λD H _ v D' h=>by cases h
theorem zF (v:Value):FrM (aX v):=λD H hs r D' h=>by
 injection h with h;injection h with h1 h2;subst h1 h2
 exact⟨H,rfl,Fs.zD hs⟩
theorem Ld (x:Option Value):FrM (aP x):=by
 cases x with
 |none=>exact jJ
 |some v=>exact zF v
theorem aHV (e:TypeId)(cs:List Value)(k:Kind):FrM (aZ e cs k):=λD H hs v D' h=>by
 simp only[aZ,aUE,Prod.mk.injEq] at h;obtain⟨rfl,rfl⟩:=h
 exact⟨_,by simp only[aZ,hs.1],Fs.app hs _⟩
theorem aHW:FrM lV:=λD H hs v D' h=>by
 simp only[lV,aUE,Prod.mk.injEq] at h;obtain⟨rfl,rfl⟩:=h
 exact⟨_,by simp only[lV,hs.1],Fs.app hs _⟩
theorem Lc (b:Nat)(f:List Value->TypeId->Kind->aF->Option (Value×aF))(hf: ∀cs e k D H,Sub D H->D[b]? =some (.cells cs e k)-> ∀v D',f cs e k D=some (v,D')-> ∃H',f cs e k H=some (v,H')/\Fs D H D' H'):
  FrM λH=>match H[b]? with
   |some (.cells cs e k)=>f cs e k H
   |_=>none:=λD H hs v D' h=>by
 dsimp only at h⊢
 cases hb:D[b]? with
 |none=>rw[hb] at h;simp at h
 |some x=>
  cases x with
  |cells cs e k=>
   rw[hb] at h;simp only at h;simp only[hs.r8 hb];exact hf cs e k D H hs hb v D' h
  |map=>rw[hb] at h;simp at h
  |dead=>rw[hb] at h;simp at h
theorem aH2 {o:Option Value}{D H:aF}(hs:Sub D H){v:Value}{D':aF}(h:(match o with|some x=>some (x,D)|none=>none)=some (v,D')): ∃H',(match o with|some x=>some (x,H)|none=>none)=some (v,H')/\Fs D H D' H':=by
 cases o with
 |none=>cases h
 |some x=>
  injection h with h;injection h with h1 h2;subst h1 h2
  exact⟨H,rfl,Fs.zD hs⟩
theorem Xj (a:Value):FrM (ld1 a):=by
 cases a with
 |pointer x=>
  cases x with
  |none=>exact jJ
  |some ad=>
   obtain⟨b,o,s⟩:=ad;cases s with
   |some s=>exact jJ
   |none=>exact Lc b (λcs _ _ H=>match cs[o]? with|some x=>some (x,H)|none=>none) λcs e k D H hs hb v D' h=>aH2 hs h
 |_=>exact jJ
theorem Xk (n:Nat)(a:Value):FrM (ldN n a):=by
 cases a with
 |pointer x=>
  cases x with
  |none=>exact jJ
  |some ad=>
   obtain⟨b,o,s⟩:=ad;cases s with
   |some s=>exact jJ
   |none=>
    refine Lc b (λcs _ _ H=>if o+n<=cs.length then some (.agg ((cs.drop o).take n).toArray,H) else none) λcs e k D H hs hb v D' h=> ?_
    try simp only at h⊢
    split at h
    ·rename_i hc
     injection h with h;injection h with h1 h2;subst h1 h2
     exact⟨H,by rw[if_pos hc],Fs.zD hs⟩
    ·cases h
 |_=>exact jJ
theorem aH1 (n:Nat)(a v:Value):FrM (stN n a v):=by
 cases a with
 |pointer x=>
  cases x with
  |none=>exact jJ
  |some ad=>
   obtain⟨b,o,s⟩:=ad;cases s with
   |some s=>exact jJ
   |none=>
    refine Lc b (λcs e k H=>if k≠ .ro/\v.cells.toList.length=n/\o+n<=cs.length/\cA v.cells.toList=true then some (undef,H.set b (.cells (cU cs o v.cells.toList) e k)) else none) λcs e k D H hs hb w D' h=> ?_
    try simp only at h⊢
    split at h
    ·rename_i hc
     injection h with h;injection h with h1 h2;subst h1 h2
     exact⟨_,by rw[if_pos hc],Fs.Lb hs hb (λhh=>by cases hh) _⟩
    ·cases h
 |_=>exact jJ
theorem jK {D H:aF}(hs:Sub D H){v r:Value}{D':aF}(h:some (v,D)=some (r,D')): ∃H',some (v,H)=some (r,H')/\Fs D H D' H':=by
 injection h with h;injection h with h1 h2;subst h1 h2
 exact⟨H,rfl,Fs.zD hs⟩
theorem sA {D H:aF}(hs:Sub D H){b:Nat}{x:Blk}(hb:D[b]? =some x)(hx:x≠Blk.dead){v r:Value}{y:Blk}{D':aF}(h:some (v,D.set b y)=some (r,D')): ∃H',some (v,H.set b y)=some (r,H')/\Fs D H D' H':=by
 injection h with h;injection h with h1 h2;subst h1 h2
 exact⟨_,rfl,Fs.Lb hs hb hx _⟩
theorem Eu {D H:aF}(hs:Sub D H){v r:Value}{y:Blk}{D':aF}(h:some (v,D++[y])=some (r,D')): ∃H',some (v,H++[y])=some (r,H')/\Fs D H D' H':=by
 injection h with h;injection h with h1 h2;subst h1 h2
 exact⟨_,rfl,Fs.app hs _⟩
theorem aHY (P:Program)(sz:Nat)(v:Value)(lo hi mx:Option Value):FrM (slc P sz v lo hi mx):=λD H hs r D' h=>by
 unfold slc at h⊢
 split at h
 ·try simp only
  split at h
  ·rename_i h1 h2 h3
   try rw[h1,h2,h3]
   exact jK hs h
  ·cases h
 ·rename_i b o len cap
  try simp only
  split at h
  ·rename_i cs e k hb
   rw[hs.r8 hb]
   try simp only
   split at h
   ·rename_i h1 h2 h3
    try rw[h1,h2,h3]
    try simp only
    split at h
    ·rename_i hc
     rw[if_pos hc];exact jK hs h
    ·cases h
   ·cases h
  ·cases h
 ·cases h
theorem aHZ (n sz:Nat)(v:Value)(lo hi:Option Value):FrM (pG n sz v lo hi):=λD H hs r D' h=>by
 unfold pG at h⊢
 split at h
 ·try simp only
  split at h
  ·rename_i cs e k hb
   rw[hs.r8 hb]
   try simp only
   split at h
   ·rename_i h1 h2
    try rw[h1,h2]
    try simp only
    split at h
    ·rename_i hc
     rw[if_pos hc];exact jK hs h
    ·cases h
   ·cases h
  ·cases h
 ·cases h
theorem Xn {D H:aF}(hs:Sub D H){sz:Nat}{v:Value}{n:Nat}{cs:List Value}(h:dY sz v n D=some cs):dY sz v n H=some cs:=by
 unfold dY at h⊢
 split at h
 ·exact h
 ·try simp only
  split at h
  ·rename_i hn
   rw[if_pos hn];exact h
  ·rename_i hn
   rw[if_neg hn]
   split at h
   ·rename_i hb
    rw[hs.r8 hb];exact h
   ·cases h
 ·exact h
 ·cases h
theorem aHC (e:TypeId)(sz by':Nat)(v w:Value):FrM (app e sz by' v w):=λD H hs r D' h=>by
 unfold app at h⊢;cases hn:iN w with
 |none=>rw[hn] at h;cases h
 |some n=>
  rw[hn] at h
  try simp only at h⊢
  cases hc:dY sz w n D with
  |none=>rw[hc] at h;cases h
  |some new=>
   rw[hc] at h;rw[Xn hs hc]
   try simp only at h⊢
   split at h
   ·try simp only
    split at h
    ·rename_i h0
     rw[if_pos h0];exact jK hs h
    ·rename_i h0
     rw[if_neg h0]
     split at h
     ·rename_i h1
      rw[if_pos h1,<-hs.1];exact Eu hs h
     ·cases h
   ·rename_i b o len cap
    try simp only
    split at h
    ·rename_i cs e' k hb
     rw[hs.r8 hb]
     try simp only
     split at h
     ·rename_i h1
      rw[if_pos h1]
      split at h
      ·rename_i h2
       rw[if_pos h2];exact jK hs h
      ·rename_i h2
       rw[if_neg h2]
       split at h
       ·rename_i h3
        rw[if_pos h3];exact sA hs hb (λhh=>by cases hh) h
       ·cases h
     ·rename_i h1
      rw[if_neg h1]
      split at h
      ·rename_i h2
       rw[if_pos h2];injection h with h;injection h with h3 h4;subst h3 h4;have f1:=Fs.Lb hs hb (λhh=>by cases hh) Blk.dead
       have f2:=Fs.app f1.sub (.cells ((cs.drop o).take (len*sz)++new) e .row);rw[<-hs.1]
       exact⟨_,rfl,f1.Bk f2⟩
      ·cases h
    ·cases h
   ·cases h
theorem aHJ (sz:Nat)(d s:Value):FrM (cpy sz d s):=λD H hs r D' h=>by
 unfold cpy at h⊢;cases hn:iN s with
 |none=>rw[hn] at h;cases h
 |some sn=>
  rw[hn] at h
  try simp only at h⊢
  split at h
  ·exact jK hs h
  ·rename_i b o dn cap
   try simp only
   cases hc:dY sz s (min sn dn) D with
   |none=>rw[hc] at h;cases h
   |some new=>
    rw[hc] at h;rw[Xn hs hc]
    try simp only at h⊢
    split at h
    ·rename_i cs e k hb
     rw[hs.r8 hb]
     try simp only
     split at h
     ·rename_i h1
      rw[if_pos h1];exact sA hs hb (λhh=>by cases hh) h
     ·cases h
    ·cases h
  ·cases h
theorem aHH (sz:Nat)(z:List Value)(v:Value):FrM (clr sz z v):=λD H hs r D' h=>by
 unfold clr at h⊢
 split at h
 ·exact jK hs h
 ·try simp only
  split at h
  ·rename_i h0
   rw[if_pos h0];exact jK hs h
  ·rename_i h0
   rw[if_neg h0]
   split at h
   ·rename_i cs e k hb
    rw[hs.r8 hb]
    try simp only
    split at h
    ·rename_i h1
     rw[if_pos h1];exact sA hs hb (λhh=>by cases hh) h
    ·cases h
   ·cases h
 ·cases h
theorem aHT (e:TypeId)(sz by':Nat)(z:List Value)(n c:Value):FrM (gU e sz by' z n c):=λD H hs r D' h=>by
 unfold gU at h⊢
 split at h
 ·try simp only
  split at h
  ·rename_i h1
   rw[if_pos h1,<-hs.1];exact Eu hs h
  ·cases h
 ·cases h
theorem aHD (e:TypeId)(sz n:Nat)(z:List Value)(ps:List (Nat×Value)):FrM (b9 e sz n z ps):=λD H hs r D' h=>by
 unfold b9 at h⊢
 split at h
 ·rename_i cs hc
  try rw[hc]
  rw[<-hs.1];exact Eu hs h
 ·cases h
theorem aH3 (v:Value):FrM (oN v):=λD H hs r D' h=>by
 unfold oN at h⊢
 split at h
 ·exact jK hs h
 ·try simp only
  split at h
  ·rename_i h0
   rw[if_pos h0];exact jK hs h
  ·rename_i h0
   rw[if_neg h0]
   split at h
   ·rename_i cs e k hb
    rw[hs.r8 hb]
    try simp only
    split at h
    ·rename_i h1
     rw[if_pos h1]
     split at h
     ·rename_i bs hbs
      try rw[hbs]
      exact jK hs h
     ·cases h
    ·cases h
   ·cases h
 ·cases h
theorem aHR (kt:KeyT)(z:Value)(ok:Bool)(m k:Value):FrM (jE kt z ok m k):=λD H hs r D' h=>by
 unfold jE at h⊢
 split at h
 ·rename_i hk
  rw[if_pos hk]
  split at h
  ·exact jK hs h
  ·try simp only
   split at h
   ·rename_i es c hb
    rw[hs.zE hb]
    try simp only
    split at h
    ·cases h
    ·rename_i hf
     try rw[hf]
     exact jK hs h
    ·rename_i hf
     try rw[hf]
     exact jK hs h
   ·cases h
  ·cases h
 ·cases h
theorem aHS (kt:KeyT)(m k v:Value):FrM (kS kt m k v):=λD H hs r D' h=>by
 unfold kS at h⊢
 split at h
 ·rename_i hk
  rw[if_pos hk]
  split at h
  ·try simp only
   split at h
   ·rename_i es c hb
    rw[hs.zE hb]
    try simp only
    split at h
    ·cases h
    ·rename_i hf
     try rw[hf]
     exact sA hs hb (λhh=>by cases hh) h
    ·rename_i hf
     try rw[hf]
     exact sA hs hb (λhh=>by cases hh) h
   ·cases h
  ·cases h
 ·cases h
theorem aHQ (kt:KeyT)(z:Value)(m k:Value):FrM (qO kt z m k):=λD H hs r D' h=>by
 unfold qO at h⊢
 split at h
 ·rename_i hk
  rw[if_pos hk]
  split at h
  ·try simp only
   split at h
   ·rename_i es c hb
    rw[hs.zE hb]
    try simp only
    split at h
    ·cases h
    ·rename_i hf
     try rw[hf]
     exact sA hs hb (λhh=>by cases hh) h
    ·rename_i hf
     try rw[hf]
     exact sA hs hb (λhh=>by cases hh) h
   ·cases h
  ·cases h
 ·cases h
theorem aHP (kt:KeyT)(m k:Value):FrM (rO kt m k):=λD H hs r D' h=>by
 unfold rO at h⊢
 split at h
 ·rename_i hk
  rw[if_pos hk]
  split at h
  ·try simp only
   split at h
   ·rename_i es c hb
    rw[hs.zE hb]
    try simp only
    split at h
    ·cases h
    ·rename_i hf
     try rw[hf]
     exact jK hs h
    ·rename_i hf
     try rw[hf]
     exact sA hs hb (λhh=>by cases hh) h
   ·cases h
  ·cases h
 ·cases h
theorem aHL (m s v:Value):FrM (qM m s v):=λD H hs r D' h=>by
 unfold qM at h⊢
 split at h
 ·try simp only
  split at h
  ·rename_i es c hb
   rw[hs.zE hb]
   try simp only
   split at h
   ·rename_i i hi
    try rw[hi]
    try simp only
    split at h
    ·rename_i e he
     try rw[he]
     exact sA hs hb (λhh=>by cases hh) h
    ·cases h
   ·cases h
  ·cases h
 ·cases h
theorem aHO (v:Value):FrM (oM v):=λD H hs r D' h=>by
 unfold oM at h⊢
 split at h
 ·exact jK hs h
 ·try simp only
  split at h
  ·rename_i es c hb
   rw[hs.zE hb];exact jK hs h
  ·cases h
 ·cases h
theorem aHN (P:Program)(ts:Array TypeId)(v:Value):FrM (uG P ts v):=by
 unfold uG;split
 ·exact aHO _
 ·exact jJ
theorem aHK (P:Program)(ts:Array TypeId)(m k:Value):FrM (uF P ts m k):=by
 unfold uF;split
 ·split
  ·exact aHP _ _ _
  ·exact jJ
 ·exact jJ
theorem aHU (P:Program)(b:Builtin)(ts:Array TypeId)(vs:List Value):FrM (vT P b ts vs):=by
 unfold vT;split
 ·unfold Di
  split
  ·exact aHK _ _ _ _
  ·exact jJ
 ·exact jJ
theorem aHG {O:aH}(hO:FrO O)(f:Value)(vs:List Value):FrM (kQ O f vs):=by
 cases f with
 |func fn x y=>exact hO _ _
 |_=>exact jJ
theorem aHF (P:Program)(b:Builtin)(ts:Array TypeId)(vs:List Value):FrM (rK P b ts vs):=by
 unfold rK
 repeat' split
 all_goals first|exact jJ|exact Ld _|(apply aHC;done)|(apply aHJ;done)|(apply aHH;done)|(apply aHN;done)|(apply aHU;done)
theorem aHI (P:Program)(s d:TypeId)(v:Value):FrM (cK P s d v):=by
 unfold cK
 repeat' split
 all_goals first|exact jJ|exact zF _|exact aH3 _
theorem aH0 (P:Program)(t:TypeId)(x:Value)(lo hi mx:Option Value):FrM (tD P t x lo hi mx):=by
 unfold tD
 repeat' split
 all_goals first|exact jJ|exact Ld _|(apply aHY;done)|(apply aHZ;done)
theorem Xh (P:Program){O:aH}(hO:FrO O)(t:cY)(o:Oper):FrM (aOp P O t o):=by
 obtain⟨dst,op,ty0,pos,after,guard⟩:=o;cases op<;>simp only[aOp]<;>repeat' split
 all_goals first
  |exact jJ|exact Ld _|exact zF _|(apply aHV;done)|(apply Xk;done)|(apply Xj;done)|(apply aH1;done)|(apply aHI;done)
  |(apply aHT;done)|(apply aHD;done)|(apply aH0;done)|(apply aHG hO;done)|(apply aHF;done)|(apply aHR;done)|(apply aHS;done)|(apply aHQ;done)|(apply aHL;done)|exact aHW
theorem Lf (P:Program){O:aH}(hO:FrO O)(ops:List Oper)(t:cY)(o:Oper):FrM (fN P O ops t o):=by
 unfold fN;split
 ·exact Xh P hO t o
 ·split
  ·split
   ·unfold gd
    split
    ·split
     ·exact Xh P hO t o
     ·exact zF _
    ·exact zF _
   ·exact jJ
  ·exact zF _
def FrK (k:K (Value×aF)):Prop:= ∀t D H,Sub D H-> ∀r,k t D=some r-> ∃H',k t H=some (r.1,H')/\Fs D H r.2 H'
theorem Xm (P:Program){O:aH}(hO:FrO O)(ops:List Oper): ∀(l:List Oper)(k:K (Value×aF)),FrK k->FrK (uJ P O ops l k)
 |[],k,hk=>hk
 |o::l,k,hk=>λt D H hs r h=>by
  simp only[uJ] at h⊢
  split at h
  ·cases h
  ·rename_i x hx
   obtain⟨v,D1⟩:=x;obtain⟨H1,h1,f1⟩:=Lf P hO ops t o D H hs v D1 hx
   try rw[h1]
   obtain⟨H2,h2,f2⟩:=Xm P hO ops l k hk _ D1 H1 f1.sub r h
   exact⟨H2,h2,f1.Bk f2⟩
theorem Xi (P:Program){O:aH}(hO:FrO O)(ops:List Oper)(t:cY)(o:Oper){D H:aF}(hs:Sub D H){v:Value}(h:chk (fN P O ops t o D) v=true):chk (fN P O ops t o H) v=true:=by
 unfold chk at h⊢
 split at h
 ·rename_i x hx
  obtain⟨w,D1⟩:=x;obtain⟨H1,h1,_⟩:=Lf P hO ops t o D H hs w D1 hx
  try rw[h1]
  exact h
 ·cases h
def La:List Ef->List Ef->Prop
 |[],[]=>True
 |a::asx,b::bs=>a.i=b.i/\Sub a.h b.h/\La asx bs
 |_,_=>False
theorem Xg: ∀{asx bs:List Ef},La asx bs-> ∀(p:Nat->aF->Bool),(∀i D H,Sub D H->p i D=true->p i H=true)->asx.all (λe=>p e.i e.h)=true->bs.all (λe=>p e.i e.h)=true
 |[],[],_,_,_,_=>rfl
 |a::asx,b::bs,h,p,hp,ha=>by
  rw[List.all_cons,aUl] at ha⊢;obtain⟨h1,h2,h3⟩:=h
  exact⟨by rw[<-h1];exact hp _ _ _ h2 ha.1,Xg h3 p hp ha.2⟩
 |[],_::_,h,_,_,_=>h.elim
 |_::_,[],h,_,_,_=>h.elim
theorem Ey (P:Program){O:aH}(hO:FrO O)(ops:List Oper)(ms:List Nat): ∀(l:List Oper)(i:Nat)(rs:List Rd)(es es':List Ef)(k:K (Value×aF)),FrK k->La es es'-> ∀t D H,Sub D H-> ∀r,oQ P O ops ms l i rs es k t D=some r-> ∃H',oQ P O ops ms l i rs es' k t H=some (r.1,H')/\Fs D H r.2 H'
 |[],_,_,_,_,k,hk,_,t,D,H,hs,r,h=>hk t D H hs r h
 |o::l,i,rs,es,es',k,hk,hes,t,D,H,hs,r,h=>by
  simp only[oQ] at h⊢
  split at h
  ·cases h
  ·rename_i x hx
   obtain⟨v,D1⟩:=x;obtain⟨H1,h1,f1⟩:=Lf P hO ops t o D H hs v D1 hx
   try rw[h1]
   try simp only at h⊢
   by_cases c1:dH o.op=true
   ·rw[if_pos c1] at h⊢
    split at h
    ·rename_i hc
     have hc':rs.all (λq=>(ms.getD i 0).testBit q.i||chk (fN P O ops q.t q.o H1) q.v)=true:=by
      rw[aUS] at hc⊢;intro q hq;have:=hc q hq;rw[Bool.or_eq_true] at this⊢;exact this.imp id λh=>Xi P hO ops q.t q.o f1.sub h
     rw[if_pos hc'];obtain⟨H2,h2,f2⟩:=Ey P hO ops ms l (i+1) rs (⟨i,D⟩::es) (⟨i,H⟩::es') k hk ⟨rfl,hs,hes⟩ _ D1 H1 f1.sub r h
     exact⟨H2,h2,f1.Bk f2⟩
    ·cases h
   ·rw[if_neg c1] at h⊢
    by_cases c2:oO P o.op=true
    ·rw[if_pos c2] at h⊢
     split at h
     ·rename_i hc
      have hc':=Xg hes (λj X=>(ms.getD i 0).testBit j||chk (fN P O ops t o X) v) (λj D H hs hh=>by
       rw[Bool.or_eq_true] at hh⊢;exact hh.imp id λh=>Xi P hO ops t o hs h) hc
      rw[if_pos hc'];obtain⟨H2,h2,f2⟩:=Ey P hO ops ms l (i+1) (⟨i,o,t,v⟩::rs) es es' k hk hes _ D1 H1 f1.sub r h
      exact⟨H2,h2,f1.Bk f2⟩
     ·cases h
    ·rw[if_neg c2] at h⊢
     obtain⟨H2,h2,f2⟩:=Ey P hO ops ms l (i+1) rs es es' k hk hes _ D1 H1 f1.sub r h
     exact⟨H2,h2,f1.Bk f2⟩
def FrE (k:Ex->K (Value×aF)):Prop:= ∀e,FrK (k e)
theorem Xl {B:(Ex->K (Value×aF))->K (Value×aF)}(hB: ∀k,FrE k->FrK (B k)): ∀(n:Nat)(k:Ex->K (Value×aF)),FrE k->FrK (aL n B k)
 |0,_,_=>λt D H _ r h=>by cases h
 |n+1,k,hk=>hB _ λe=>by
  cases e with
  |normal=>exact Xl hB n k hk
  |exit id=>exact hk _
  |ret=>exact hk _
theorem FrE.clr {k:Ex->K (Value×aF)}(h:FrE k)(m:Nat):FrE (iO m k):=λe t D H hs r hh=>h e _ D H hs r hh
theorem aHX (P:Program){O:aH}(hO:FrO O)(n m:Nat): ∀(c:Code)(k:Ex->K (Value×aF)),FrE k->FrK (eI P O (aL n) m c k):=by
 intro c;induction c with
 |skip=>exact λk hk=>hk _
 |ret=>exact λk hk=>hk _
 |exit id=>exact λk hk=>hk _
 |region id ops draw=>
  intro k hk;simp only[eI];split
  ·intro t D H hs r h
   try simp only at h⊢
   split at h
   ·rename_i hc
    rw[if_pos hc];exact Ey P hO _ _ _ _ _ [] [] _ (hk _) trivial t D H hs r h
   ·cases h
  ·exact Xm P hO _ _ _ (hk _)
 |seq a b iha ihb=>
  intro k hk;simp only[eI];refine iha _ λe=> ?_
  cases e with
  |normal=>exact ihb k hk
  |exit id=>exact hk _
  |ret=>exact hk _
 |cond c a b iha ihb=>
  intro k hk t D H hs r h;simp only[eI] at h⊢
  split at h
  ·rename_i x hx
   try rw[hx]
   try simp only
   split at h
   ·rename_i hc
    rw[if_pos hc];exact iha k hk t D H hs r h
   ·rename_i hc
    rw[if_neg hc];exact ihb k hk t D H hs r h
  ·cases h
 |block id c ih=>
  intro k hk;simp only[eI];refine ih _ λe=> ?_
  cases e with
  |normal=>exact hk _
  |exit j=>simp only;split<;>exact hk _
  |ret=>exact hk _
 |loop c ih=>
  intro k hk;simp only[eI];exact λt D H hs r h=>Xl (λk hk=>ih _ (hk.clr m)) n k hk _ D H hs r h
 |scope c ih=>
  intro k hk;simp only[eI];exact ih k hk
 |label l=>exact λk hk=>hk _
 |_=>intro k hk t D H _ r h;simp only[eI] at h;cases h
theorem Ev (P:Program)(t:cY){D H:aF}(hs:Sub D H): ∀(l:List ResultVar)(vs:List Value),fO P t D l=some vs->fO P t H l=some vs
 |[],vs,h=>h
 | .tmp i::l,vs,h=>by
  simp only[fO] at h⊢;cases hg:gT t i with
  |none=>rw[hg] at h;cases h
  |some y=>
   rw[hg] at h;simp only at h⊢;cases hl:fO P t D l with
   |none=>rw[hl] at h;cases h
   |some ws=>rw[hl] at h;rw[Ev P t hs l ws hl];exact h
 | .cell a ty::l,vs,h=>by
  simp only[fO] at h⊢
  split at h
  ·rename_i sz by' g y h1 h2 h4
   try rw[h1,h2,h4]
   try simp only
   split at h
   ·rename_i x hx
    obtain⟨v,D1⟩:=x;have: ∃H',(if g=true then ldN sz y else ld1 y) H=some (v,H')/\Fs D H D1 H':=by
     cases g with
     |true=>exact Xk _ _ D H hs v D1 hx
     |false=>exact Xj _ D H hs v D1 hx
    obtain⟨H1,h3,_⟩:=this
    try rw[h3]
    try simp only at h⊢
    cases hl:fO P t D l with
    |none=>rw[hl] at h;cases h
    |some ws=>rw[hl] at h;rw[Ev P t hs l ws hl];exact h
   ·cases h
  ·cases h
theorem aHM (P:Program)(fn:Func):FrE (cS P fn):=λe t D H hs r h=>by
 cases e with
 |exit id=>cases h
 |normal=>
  have h':nW P t D fn.results.toList []=some r:=h
  show∃H',nW P t H fn.results.toList []=some (r.1,H')/\_
  rw[zA] at h'⊢;cases hv:fO P t D fn.results.toList with
  |none=>rw[hv] at h';cases h'
  |some vs=>
   rw[hv] at h';rw[Ev P t hs _ vs hv];simp only[Option.map_some,aUE] at h';subst h'
   exact⟨H,rfl,Fs.zD hs⟩
 |ret=>
  have h':nW P t D fn.results.toList []=some r:=h
  show∃H',nW P t H fn.results.toList []=some (r.1,H')/\_
  rw[zA] at h'⊢;cases hv:fO P t D fn.results.toList with
  |none=>rw[hv] at h';cases h'
  |some vs=>
   rw[hv] at h';rw[Ev P t hs _ vs hv];simp only[Option.map_some,aUE] at h';subst h'
   exact⟨H,rfl,Fs.zD hs⟩
def FrP (pr:eK):Prop:= ∀f p,pr f=some p-> ∀args,FrM (p args)
theorem aHE (P:Program){O:aH}(hO:FrO O)(n:Nat)(f:FuncId)(args:List Value):FrM (aR P O (aL n) f args):=λD H hs v D' h=>by
 unfold aR at h⊢
 split at h
 ·rename_i fn hf
  try rw[hf]
  try simp only
  split at h
  ·rename_i c hc
   try rw[hc]
   try simp only
   split at h
   ·rename_i hn
    rw[if_pos hn];exact aHX P hO n _ c _ (aHM P fn) _ D H hs (v,D') h
   ·cases h
  ·cases h
 ·cases h
theorem Bl (P:Program){pr:eK}(hp:FrP pr): ∀n,FrO (lvl P pr n)
 |0,fn,args=>λD H _ v D' h=>by cases h
 |n+1,fn,args=>λD H hs v D' h=>by
  simp only[lvl] at h⊢
  split at h
  ·rename_i p hpf
   try rw[hpf]
   exact hp fn p hpf args D H hs v D' h
  ·rename_i hpf
   try rw[hpf]
   try simp only
   split at h
   ·rename_i g
    try simp only
    exact aHE P (Bl P hp n) n g args D H hs v D' h
   ·cases h
def aT (v:Value)(b:Nat):Prop:= ∃o n c,v= .slice (some ⟨b,o,none⟩) n c
def RowC (e:TypeId)(sz:Nat)(H:aF)(v:Value)(n:Nat)(cs:List Value):Prop:=
 cs.length=n*sz/\((v= .slice none 0 0/\n=0)∨ ∃c cap rest,v= .slice (some ⟨c,0,none⟩) n cap/\n<=cap/\rest.length=(cap-n)*sz/\H[c]? =some (.cells (cs++rest) e .row))
theorem sD: ∀(new old pre post:List Value),old.length=new.length->cU (pre++old++post) pre.length new=pre++new++post
 |[],old,pre,post,h=>by
  have:old=[]:=aUv.mp h;subst this;rfl
 |a::new,[],pre,post,h=>by simp at h
 |a::new,c::old,pre,post,h=>by
  simp only[cU];have e1:(pre++c::old++post).set pre.length a=(pre++[a])++old++post:=by simp
  have:=sD new old (pre++[a]) post (by simpa using h)
  rw[e1];simpa using this
theorem Xr {sz k:Nat}{w:Value}{H:aF}{new:List Value}(h:dY sz w k H=some new):new.length=k*sz:=by
 unfold dY at h
 split at h
 ·split at h
  ·rename_i h0
   cases h;simp[h0]
  ·cases h
 ·split at h
  ·rename_i h0
   cases h;simp[h0]
  split at h
  ·split at h
   ·cases h
    simp;omega
   ·cases h
  ·cases h
 ·split at h
  ·rename_i s hc
   cases h;have:(rP s).length=s.size:=by unfold rP;rw[aUr];rfl
   simp;rw[hc.2];omega
  ·cases h
 ·cases h
theorem j9 {H:aF}{b c:Nat}{x:Blk}(h:b≠c):(H.set c x)[b]? =H[b]? :=aUe (Ne.symm h)
theorem Ll {e:TypeId}{sz by':Nat}{v w:Value}{H:aF}{n k:Nat}{cs new:List Value}(h:RowC e sz H v n cs)(hs:iN w=some k)(hc:dY sz w k H=some new)(hr:eH (n+k) by'=true)(ha:cA new=true)(hsz:0<sz):
  ∃v' H',app e sz by' v w H=some (v',H')/\RowC e sz H' v' (n+k) (cs++new)/\H.length<=H'.length/\(∀b,b<H.length-> ¬aT v b->H'[b]? =H[b]?)/\(∀b,aT v' b->aT v b∨(H.length<=b/\b<H'.length)):=by
 obtain⟨hcs,h⟩:=h;have hnl:=Xr hc;have hnil:new=[]↔k=0:=by
  constructor
  ·intro h
   subst h;have h2:k*sz=0:=by rw[<-hnl];rfl
   rcases Nat.mul_eq_zero.mp h2 with h|h
   ·exact h
   ·omega
  ·intro h
   subst h;rw[Nat.zero_mul] at hnl;exact aUv.mp hnl
 rcases h with⟨rfl,rfl⟩|⟨c,cap,rest,rfl,hcap,hrest,hb⟩
 ·have:cs=[]:=by rw[Nat.zero_mul] at hcs;exact aUv.mp hcs
  subst this;by_cases hk:k=0
  ·subst hk
   refine⟨.slice none 0 0,H,?_,⟨by simp[hnil.mpr rfl],.inl ⟨rfl,rfl⟩⟩,aUi _,λ_ _ _=>rfl,λb hb=> .inl hb⟩
   unfold app;rw[hs];simp only;rw[hc];simp
  ·rw[aUy] at hr
   refine⟨.slice (some ⟨H.length,0,none⟩) k k,H++[.cells new e .row],?_,⟨by simpa using hnl,.inr ⟨H.length,k,[],by simp,by omega,by simp,by simp⟩⟩,by simp,?_,?_⟩
   ·unfold app
    rw[hs];simp only;rw[hc];simp only;rw[if_neg hk,if_pos hr]
   ·intro b hlt _
    exact aUg hlt
   ·rintro b ⟨o,n',c',hv⟩
    cases hv;exact .inr ⟨aUi _,by simp⟩
 ·have hlt:=(aUd.mp hb).1
  have htot:(cs++rest).length=cap*sz:=by
   rw[aUp,hcs,hrest,<-Nat.add_mul]
   congr 1
   omega
  by_cases hroom:n+k<=cap
  ·by_cases hk:k=0
   ·subst hk
    refine⟨.slice (some ⟨c,0,none⟩) n cap,H,?_,⟨by simp[hcs,hnil.mpr rfl],.inr ⟨c,cap,rest,rfl,hcap,hrest,by simpa[hnil.mpr rfl] using hb⟩⟩,aUi _,λ_ _ _=>rfl,λb hb=> .inl hb⟩
    unfold app;rw[hs];simp only;rw[hc];simp only;rw[hb];simp only;rw[if_pos hroom,if_pos (hnil.mpr rfl)];simp
   ·have hkr:k*sz<=rest.length:=by
     rw[hrest];exact Nat.mul_le_mul_right _ U
    have hset:cU (cs++rest) (0+n*sz) new=cs++new++rest.drop (k*sz):=by
     have:=sD new (rest.take (k*sz)) cs (rest.drop (k*sz)) (by rw[List.length_take,hnl];omega)
     rw[aUk,List.take_append_drop] at this;rw[aUy,<-hcs,this]
    refine⟨.slice (some ⟨c,0,none⟩) (n+k) cap,H.set c (.cells (cs++new++rest.drop (k*sz)) e .row),?_,⟨by rw[aUp,hcs,hnl,Nat.add_mul],.inr ⟨c,cap,rest.drop (k*sz),rfl,hroom,?_,by rw[aUj hlt]⟩⟩,by simp,?_,?_⟩
    ·unfold app
     rw[hs];simp only;rw[hc];simp only;rw[hb];simp only;rw[if_pos hroom,if_neg (λh=>hk (hnil.mp h)),if_pos (And.intro aC (And.intro (by rw[htot,aUy,<-Nat.add_mul];exact Nat.mul_le_mul_right _ hroom) ha)),hset]
    ·rw[List.length_drop,hrest,<-Nat.sub_mul]
     congr 1
     omega
    ·intro b hlt' hh
     exact j9 (λhx=>hh ⟨0,n,cap,by rw[hx]⟩)
    ·rintro b ⟨o,n',c',hv⟩
     cases hv;exact .inl ⟨0,n,cap,rfl⟩
  ·refine⟨.slice (some ⟨H.length,0,none⟩) (n+k) (n+k),H.set c .dead++[.cells (cs++new) e .row],?_,⟨by rw[aUp,hcs,hnl,Nat.add_mul],.inr ⟨H.length,n+k,[],rfl,aUi _,by simp,by simp⟩⟩,by simp,?_,?_⟩
   ·unfold app
    rw[hs];simp only;rw[hc];simp only;rw[hb];simp only;rw[if_neg hroom,if_pos ⟨trivial,trivial,by rw[htot,aUy];exact Nat.mul_le_mul_right _ hcap,hr,ha⟩,List.drop_zero,<-hcs,List.take_left]
   ·intro b hlt' hh
    rw[aUg (by simpa using hlt')]
    exact j9 (λhx=>hh ⟨0,n,cap,by rw[hx]⟩)
   ·rintro b ⟨o,n',c',hv⟩
    cases hv;exact .inr ⟨aUi _,by simp⟩
section
variable {e : TypeId} {sz : Nat} {H : aF} {v : Value} {n : Nat} {cs : List Value}
theorem RowC.Xq (e:TypeId)(sz:Nat)(H:aF):RowC e sz H (.slice none 0 0) 0 []:=⟨by simp,.inl ⟨rfl,rfl⟩⟩
theorem RowC.Lj (h:RowC e sz H v n cs):cX v=some (.int .i64 n):=by
 rcases h with⟨_,⟨rfl,rfl⟩|⟨c,cap,rest,rfl,_⟩⟩<;>rfl
theorem RowC.Ez {H':aF}(h:RowC e sz H v n cs)(hk: ∀b,aT v b->H'[b]? =H[b]?):RowC e sz H' v n cs:=by
 obtain⟨hcs,h|⟨c,cap,rest,rfl,h1,h2,h3⟩⟩:=h
 ·exact⟨hcs,.inl h⟩
 ·exact⟨hcs,.inr ⟨c,cap,rest,rfl,h1,h2,by rw[hk c ⟨0,n,cap,rfl⟩,h3]⟩⟩
theorem RowC.Xp (h:RowC e sz H v n cs): ∀b,aT v b->b<H.length:=by
 rintro b ⟨o,n',c',hv⟩
 obtain⟨hcs,⟨rfl,rfl⟩|⟨c,cap,rest,rfl,h1,h2,h3⟩⟩:=h
 ·cases hv
 ·cases hv
  exact(aUd.mp h3).1
theorem RowC.Li (h:RowC e sz H v n cs)(i:Nat)(k:IntKind)(hi:i<n): ∃b,cN sz v (.int k i)=some (.pointer (some ⟨b,i*sz,none⟩))/\aT v b/\ ∀(H':aF),H'[b]? =H[b]? -> ∀j,j<sz->ld1 (.pointer (some ⟨b,i*sz+j,none⟩)) H'=wF cs[i*sz+j]? H':=by
 obtain⟨hcs,⟨rfl,rfl⟩|⟨c,cap,rest,rfl,h1,h2,h3⟩⟩:=h
 ·omega
 ·refine⟨c,?_,⟨0,n,cap,rfl⟩,λH' hH' j hj=> ?_⟩
  ·rw[mP _ _ _ _ _ _ _ U U]
   simp
  ·have:i*sz+j<cs.length:=by
    rw[hcs]
    calc i*sz+j<i*sz+sz:=U
     _=(i+1)*sz:=by rw[Nat.succ_mul]
     _<=n*sz:=Nat.mul_le_mul_right _ hi
   rw[fI,hH',h3,rV,aUg this]
end
def dF (b:UInt8):Value:= .int .u8 b.toNat
theorem aH9 (bs:List UInt8):cA (bs.map dF)=true:=by
 simp[cA,dF,Value.oneCell']
def lW (u:Value)(b:Nat):Prop:= ∃o n c,u= .slice (some ⟨b,o,none⟩) (n+1) c
def Br (H:aF)(u:Value)(bs:List UInt8):Prop:=
 (bs=[]/\(u= .slice none 0 0∨ ∃b o c,u= .slice (some ⟨b,o,none⟩) 0 c))∨
 ∃b o c cs e k,u= .slice (some ⟨b,o,none⟩) bs.length c/\0<bs.length/\H[b]? =some (.cells cs e k)/\o+bs.length<=cs.length/\(cs.drop o).take bs.length=bs.map dF
def Bo (e:TypeId)(H:aF)(u:Value)(bs:List UInt8):Prop:=
 (bs=[]/\(u= .slice none 0 0∨ ∃b o c,u= .slice (some ⟨b,o,none⟩) 0 c))∨ ∃b c rest,u= .slice (some ⟨b,0,none⟩) bs.length c/\(0<bs.length/\bs.length<=c)/\H[b]? =some (.cells (bs.map dF++rest) e .row)
section
variable {H H' : aF} {u : Value} {bs : List UInt8} {e : TypeId}
theorem Bo.Bm (h:Bo e H u bs):Br H u bs:=by
 rcases h with h|⟨b,c,rest,h1,h2,h3⟩
 ·exact .inl h
 ·refine .inr ⟨b,0,c,_,e,.row,h1,h2.1,h3,by simp,?_⟩
  have:bs.length=(bs.map dF).length:=by simp
  rw[List.drop_zero,this,List.take_left]
theorem Br.aH6 (h:Br H u bs)(hk: ∀b,lW u b->H'[b]? =H[b]?):Br H' u bs:=by
 rcases h with h|⟨b,o,c,cs,e,k,h1,h2,h3,h4⟩
 ·exact .inl h
 ·refine .inr ⟨b,o,c,cs,e,k,h1,h2,?_,h4⟩
  rw[hk b ⟨o,bs.length-1,c,by rw[h1];congr 1;omega⟩,h3]
theorem Bo.wI (h:Bo e H u bs)(hk: ∀b,lW u b->H'[b]? =H[b]?):Bo e H' u bs:=by
 rcases h with h|⟨b,c,rest,h1,h2,h3⟩
 ·exact .inl h
 ·refine .inr ⟨b,c,rest,h1,h2,?_⟩
  rw[hk b ⟨0,bs.length-1,c,by rw[h1];congr 1;omega⟩,h3]
theorem Bo.Lg (h:Bo e H u bs): ∀b,lW u b-> ∃cs,H[b]? =some (.cells cs e .row):=by
 rintro b ⟨o,n,c,rfl⟩
 rcases h with⟨_,h|⟨_,_,_,h⟩⟩|⟨b',c',rest,h1,h2,h3⟩
 ·cases h
 ·cases h
 ·injection h1 with h1 _ _
  injection h1 with h1;injection h1 with h1;subst h1
  exact⟨_,h3⟩
theorem Br.Lh (h:Br H u bs):cX u=some (.int .i64 bs.length):=by
 rcases h with⟨rfl,rfl|⟨b,o,c,rfl⟩⟩|⟨b,o,c,cs,e,k,rfl,_⟩<;>rfl
theorem Br.aH8 (h:Br H u bs):iN u=some bs.length:=by
 rcases h with⟨rfl,rfl|⟨b,o,c,rfl⟩⟩|⟨b,o,c,cs,e,k,rfl,_⟩<;>rfl
theorem Br.aH7 (h:Br H u bs):dY 1 u bs.length H=some (bs.map dF):=by
 rcases h with⟨rfl,rfl|⟨b,o,c,rfl⟩⟩|⟨b,o,c,cs,e,k,rfl,h2,h3,h4,h5⟩
 ·rfl
 ·simp[dY]
 ·unfold dY
  simp only;rw[if_neg U,h3]
  simp only;rw[if_pos ⟨aUi _,by omega⟩,Nat.mul_one,h5]
theorem Br.aH5 (h:Br H u bs):u= .slice none 0 0∨ ∃b o n c,u= .slice (some ⟨b,o,none⟩) n c:=by
 rcases h with⟨rfl,rfl|⟨b,o,c,rfl⟩⟩|⟨b,o,c,cs,e,k,rfl,h2,h3,h4,h5⟩
 ·exact .inl rfl
 ·exact .inr ⟨_,_,_,_,rfl⟩
 ·exact .inr ⟨_,_,_,_,rfl⟩
theorem Br.Xo (h:Br H u bs){i:Nat}{x:UInt8}(hi:bs[i]? =some x)(k:IntKind): ∃b o,cN 1 u (.int k i)=some (.pointer (some ⟨b,o,none⟩))/\ld1 (.pointer (some ⟨b,o,none⟩)) H=some (dF x,H):=by
 have hlt:=(aUd.mp hi).1;rcases h with⟨rfl,_⟩|⟨b,o,c,cs,e,k',rfl,h2,h3,h4,h5⟩
 ·simp at hi
 ·refine⟨b,o+i,?_,?_⟩
  ·rw[mP _ _ _ _ _ _ _ U U]
   simp
  ·have:cs[o+i]? =some (dF x):=by
    have h6:((cs.drop o).take bs.length)[i]? =some (dF x):=by rw[h5,aUq,hi];rfl
    rw[List.getElem?_take_of_lt hlt,List.getElem?_drop] at h6;exact h6
   rw[fI,h3,rV,this,rU]
theorem Bo.aH4 (h:Bo e H u bs){i:Nat}(hi:i<bs.length)(k:IntKind)(x:UInt8): ∃b o H',cN 1 u (.int k i)=some (.pointer (some ⟨b,o,none⟩))/\stN 1 (.pointer (some ⟨b,o,none⟩)) (dF x) H=some (undef,H')/\Bo e H' u (bs.set i x)/\H'.length=H.length/\lW u b/\ ∀c,c≠b->H'[c]? =H[c]? :=by
 rcases h with⟨rfl,_⟩|⟨b,c,rest,rfl,h2,h3⟩
 ·simp at hi
 ·have hlt:=(aUd.mp h3).1
  have e1:(bs.map dF++rest).set i (dF x)=(bs.set i x).map dF++rest:=by
   rw[List.set_append_left _ _ (by simpa using hi),List.map_set]
  refine⟨b,i,H.set b (.cells ((bs.set i x).map dF++rest) e .row),?_,?_,.inr ⟨b,c,rest,by simp,by simpa using h2,by rw[aUj hlt]⟩,by simp,⟨0,bs.length-1,c,by congr 1;omega⟩,λc hc=>j9 hc⟩
  ·rw[mP _ _ _ _ _ _ _ U U]
   simp
  ·rw[fV 1 b i (dF x) rfl,h3]
   have:(dF x).cells.toList=[dF x]:=rfl;rw[this,iW _ _ _ _ _ _ aC (by simp;omega) (by rfl)]
   simp only[cU];rw[e1]
end
theorem aIa {P:Program}(t:TypeId)(a b:UInt8):bin P .xor t (dF a) (dF b)=some (dF (a^^^b)):=by
 have h:(BitVec.ofInt 8 (a.toNat:Int))=a.toBitVec:=by
  apply BitVec.eq_of_toNat_eq;rw[BitVec.ofInt_natCast,BitVec.toNat_ofNat];have:=a.toNat_lt;simp
 have h':(BitVec.ofInt 8 (b.toNat:Int))=b.toBitVec:=by
  apply BitVec.eq_of_toNat_eq;rw[BitVec.ofInt_natCast,BitVec.toNat_ofNat];have:=b.toNat_lt;simp
 have e:IntKind.u8.wrap (((BitVec.ofInt 8 (a.toNat:Int))^^^(BitVec.ofInt 8 (b.toNat:Int))).toNat:Int)=((a^^^b).toNat:Int):=by
  rw[h,h',aGW U (by
   have:=(a.toBitVec^^^b.toBitVec).isLt;omega)]
  rfl
 simp only[bin,cL,eN,pur,binOp,Op.intBits,pure,dF,Bool.and_self,if_true,ne_eq,not_true_eq_false,if_false,IntKind.bits];exact congrArg (λz=>some (Value.int .u8 z)) e
def Fr (F:Nat->Prop)(H H':aF):Prop:=H.length<=H'.length/\ ∀b,b<H.length-> ¬F b->H'[b]? =H[b]?
def Up (F:Nat->Prop)(H H':aF):Nat->Prop:=λb=>F b∨(H.length<=b/\b<H'.length)
abbrev Nw (H H':aF):Nat->Prop:=λb=>H.length<=b/\b<H'.length
abbrev Ext (H H':aF):Prop:=Fr (λ_=>False) H H'
section
variable {F G : Nat → Prop} {H H' H'' : aF}
theorem Fr.dS (F:Nat->Prop)(H:aF):Fr F H H:=⟨aUi _,λ_ _ _=>rfl⟩
theorem Fr.Xs (h:Fr F H H')(h':Fr (Up F H H') H' H''):Fr F H H'':=
 ⟨aUt h.1 h'.1,λb hb hF=>by
  rw[h'.2 b (aUs hb h.1) (λhU=>hU.elim hF λhx=>by omega),h.2 b hb hF]⟩
theorem Fr.zG (h:Fr F H H')(hG: ∀b,F b->G b):Fr G H H':=⟨h.1,λb hb hF=>h.2 b hb λhx=>hF (hG b hx)⟩
theorem Fr.app (F:Nat->Prop)(H G:aF):Fr F H (H++G):=⟨by simp,λb hb _=>aUg hb⟩
end
section
variable (eR eB : TypeId)
structure RowI (H:aF)(v:Value)(us:List Value)(bss:List (List UInt8))(F:Nat->Prop):Prop where
 row:RowC eR 1 H v us.length us
 len:us.length=bss.length
 bo: ∀(i:Nat)(u:Value)(bs:List UInt8),us[i]? =some u->bss[i]? =some bs->Bo eB H u bs
 sep:us.Pairwise λu w=> ∀b,lW u b-> ¬lW w b
 hv: ∀b,aT v b->F b
 hu: ∀u∈us,∀b,lW u b->F b
 lt: ∀b,F b->b<H.length
def Row (H:aF)(v:Value)(bss:List (List UInt8))(F:Nat->Prop):Prop:= ∃us,RowI eR eB H v us bss F
end
section
variable {eR eB : TypeId} {H H' : aF} {v : Value} {us : List Value} {bss : List (List UInt8)} {F G : Nat → Prop}
theorem RowI.Xv (h:RowI eR eB H v us bss F)(hk: ∀b,F b->H'[b]? =H[b]?)(hl:H.length<=H'.length):RowI eR eB H' v us bss F:=
 ⟨h.row.Ez λb hb=>hk b (h.hv b hb),h.len,λi u bs hu hb=>(h.bo i u bs hu hb).wI λb hb=>hk b (h.hu u (aUn hu) b hb),h.sep,h.hv,h.hu,λb hb=>aUs (h.lt b hb) hl⟩
theorem Row.E2 (h:Row eR eB H v bss F)(hk: ∀b,F b->H'[b]? =H[b]?)(hl:H.length<=H'.length):Row eR eB H' v bss F:=let⟨us,hi⟩:=h;⟨us,hi.Xv hk hl⟩
theorem Row.aIe (h:Row eR eB H v bss F)(hG: ∀b,F b->G b)(hl: ∀b,G b->b<H.length):Row eR eB H v bss G:=
 let⟨us,hi⟩:=h
 ⟨us,hi.row,hi.len,hi.bo,hi.sep,λb hb=>hG b (hi.hv b hb),λu hu b hb=>hG b (hi.hu u hu b hb),hl⟩
theorem Row.uT (h:Row eR eB H v bss F): ∀b,F b->b<H.length:=let⟨_,hi⟩:=h;hi.lt
theorem Row.Xt:Row eR eB H (.slice none 0 0) [] F↔ ∀b,F b->b<H.length:=
 ⟨λh=>h.uT,λh=>⟨[],RowC.Xq _ _ _,rfl,λi u bs hu=>by simp at hu,List.Pairwise.nil,λb hb=>(by obtain⟨o,n,c,hv⟩:=hb;cases hv),(λu hu=>by cases hu),h⟩⟩
theorem Row.uS (h:Row eR eB H v bss F):cX v=some (.int .i64 bss.length):=by
 obtain⟨us,hi⟩:=h;rw[hi.row.Lj,hi.len]
theorem RowI.E3 (h:RowI eR eB H v us bss F)(hne:eR≠eB){b:Nat}(hb:aT v b){u:Value}(hu:u∈us): ¬lW u b:=by
 intro hl;obtain⟨i,hi⟩:=List.getElem?_of_mem hu;have hlt:=(aUd.mp hi).1;have hlen:=h.len;obtain⟨cs,h1⟩:=(h.bo i u bss[i] hi (aUf U)).Lg b hl
 obtain⟨hcs,⟨rfl,_⟩|⟨c,cap,rest,rfl,_,_,h2⟩⟩:=h.row
 ·obtain⟨o,n,c,hv⟩:=hb
  cases hv
 ·obtain⟨o,n,c',hv⟩:=hb
  cases hv;rw[h1] at h2;injection h2 with h2;injection h2 with _ h2;exact hne h2.symm
theorem Row.Ln (h:Row eR eB H v bss F){i:Nat}{bs:List UInt8}(hb:bss[i]? =some bs)(k:IntKind):
  ∃u p,cN 1 v (.int k i)=some (.pointer (some ⟨p,i,none⟩))/\F p/\(∀H':aF,H'[p]? =H[p]? ->ld1 (.pointer (some ⟨p,i,none⟩)) H'=some (u,H'))/\Bo eB H u bs/\ ∀b,lW u b->F b:=by
 obtain⟨us,hi⟩:=h;have hlt:i<us.length:=by
  have:=(aUd.mp hb).1;have:=hi.len;omega
 obtain⟨p,h1,h2,h3⟩:=hi.row.Li i k hlt;have hu:us[i]? =some us[i]:=aUf hlt;refine⟨us[i],p,by simpa using h1,hi.hv p h2,λH' hH'=> ?_,hi.bo i _ bs hu hb,λb hl=>hi.hu _ (List.getElem_mem hlt) b hl⟩
 have:=h3 H' hH' 0 aC
 simp only[Nat.mul_one,Nat.add_zero] at this;rw[this,hu,rU]
theorem Bo.Lm {e:TypeId}{u:Value}{bs:List UInt8}(h:Bo e H u bs):cA [u]=true:=by
 rcases h with⟨_,rfl|⟨_,_,_,rfl⟩⟩|⟨_,_,_,rfl,_⟩<;>rfl
theorem Xw (e:TypeId)(z u:Value)(h:cA [u]=true)(hu:u.cells= #[u])(H:aF):b9 e 1 1 [z] [(0,u)] H=some (.slice (some ⟨H.length,0,none⟩) 1 1,H++[.cells [u] e .row]):=by
 unfold b9;have:Instr.fill (λi=>some (i*1,1)) (List.replicate 1 [z]).flatten.toArray [(0,u)]=some #[u]:=by
  simp[Instr.fill,hu]
  try rfl
 rw[this]
theorem Bo.aIb {e:TypeId}{u:Value}{bs:List UInt8}(h:Bo e H u bs):u.cells= #[u]:=by
 rcases h with⟨_,rfl|⟨_,_,_,rfl⟩⟩|⟨_,_,_,rfl,_⟩<;>rfl
theorem Row.Xu (h:Row eR eB H v bss F)(hne:eR≠eB){u:Value}{bs:List UInt8}(hb:Bo eB H u bs)(hf: ∀b,lW u b-> ¬F b){by':Nat}(hr:eH (bss.length+1) by'=true)(z:Value):
  ∃w H1 v' H',b9 eR 1 1 [z] [(0,u)] H=some (w,H1)/\(∀b,b<H.length->H1[b]? =H[b]?)/\app eR 1 by' v w H1=some (v',H')/\Row eR eB H' v' (bss++[bs]) (Up (λb=>F b∨lW u b) H H')/\Fr F H H':=by
 obtain⟨us,hi⟩:=h;have h1:(H++[Blk.cells [u] eR .row])[H.length]? =some (.cells [u] eR .row):=by simp
 have hold: ∀b,b<H.length->(H++[Blk.cells [u] eR .row])[b]? =H[b]? :=λb hb=>aUg hb
 have hlt:=hi.row.Xp;have hrow:RowC eR 1 (H++[Blk.cells [u] eR .row]) v us.length us:=hi.row.Ez λb hb=>hold b (hlt b hb)
 obtain⟨v',H',g1,g2,g3,g4,g5⟩:=Ll (w:= .slice (some ⟨H.length,0,none⟩) 1 1) (k:=1) (new:=[u]) hrow rfl (by simp[dY,h1]) (by rw[hi.len];exact hr) hb.Lm aC
 simp only[aUp,aUz,List.length_nil] at g3 g4 g5;have fr: ∀b,b<H.length-> ¬aT v b->H'[b]? =H[b]? :=λb hb hh=>by rw[g4 b U hh,hold b hb]
 have hulies: ∀b,lW u b->b<H.length/\ ¬aT v b:=λb hl=>by
  obtain⟨cs,hcs⟩:=hb.Lg b hl
  exact⟨(aUd.mp hcs).1,λhh=>hf b hl (hi.hv b hh)⟩
 refine⟨_,_,v',H',Xw eR z u hb.Lm hb.aIb H,hold,g1,⟨us++[u],by simpa using g2,by simp[hi.len],?_,?_,?_,?_,?_⟩,⟨by omega,λb hb hF=>fr b hb λhh=>hF (hi.hv b hh)⟩⟩
 ·intro i w ws hw hws
  by_cases hlt':i<us.length
  ·rw[aUg hlt'] at hw
   rw[aUg (by rw[<-hi.len];exact hlt')] at hws
   refine(hi.bo i w ws hw hws).wI λb hl=> ?_
   have hm:=aUn hw;exact fr b (hi.lt b (hi.hu w hm b hl)) λhh=>hi.E3 hne hh hm hl
  ·have hx:i=us.length:=by
    have:=(aUd.mp hw).1;simp at this;omega
   subst hx;rw[aUx (aUi _)] at hw;rw[aUx (by rw[hi.len];exact aUi _),hi.len] at hws
   simp at hw hws;subst hw hws;exact hb.wI λb hl=>fr b (hulies b hl).1 (hulies b hl).2
 ·rw[List.pairwise_append]
  refine⟨hi.sep,List.pairwise_singleton _ _,λx hx y hy b hxb hyb=> ?_⟩
  rw[List.mem_singleton] at hy;subst hy;exact hf b hyb (hi.hu x hx b hxb)
 ·intro b hh
  rcases g5 b hh with hx|hx
  ·exact .inl (.inl (hi.hv b hx))
  ·exact .inr ⟨by omega,hx.2⟩
 ·intro w hw b hl
  rcases List.mem_append.mp hw with hw|hw
  ·exact .inl (.inl (hi.hu w hw b hl))
  ·rw[List.mem_singleton] at hw
   subst hw;exact .inl (.inr hl)
 ·intro b hb
  rcases hb with(hb|hb)|hb
  ·have:=hi.lt b hb
   omega
  ·have:=(hulies b hb).1
   omega
  ·exact hb.2
theorem Row.aId (h:Row eR eB H v bss F)(hne:eR≠eB){i:Nat}{bs:List UInt8}(hb:bss[i]? =some bs){j:Nat}(hj:j<bs.length)(k:IntKind)(x:UInt8):
  ∃u p b o H',cN 1 v (.int k i)=some (.pointer (some ⟨p,i,none⟩))/\(∀H':aF,H'[p]? =H[p]? ->ld1 (.pointer (some ⟨p,i,none⟩)) H'=some (u,H'))/\Bo eB H u bs/\cN 1 u (.int .i64 j)=some (.pointer (some ⟨b,o,none⟩))/\stN 1 (.pointer (some ⟨b,o,none⟩)) (dF x) H=some (undef,H')/\H'.length=H.length/\Row eR eB H' v (bss.set i (bs.set j x)) F/\Fr F H H':=by
 obtain⟨us,hi⟩:=h;have hlt:i<us.length:=by
  have:=(aUd.mp hb).1;have:=hi.len;omega
 obtain⟨p,h1,h2,h3⟩:=hi.row.Li i k hlt;have hu:us[i]? =some us[i]:=aUf hlt;have hbo:=hi.bo i _ bs hu hb;obtain⟨b,o,H',g1,g2,g3,g4,g5,g6⟩:=hbo.aH4 hj .i64 x;have hm:=List.getElem_mem hlt;have hpb: ∀c,aT v c->c≠b:=λc hc hx=>hi.E3 hne hc hm (by rw[hx];exact g5)
 refine⟨us[i],p,b,o,H',by simpa using h1,λH' hH'=> ?_,hbo,g1,g2,g4,⟨us,hi.row.Ez λc hc=>g6 c (hpb c hc),by simp[hi.len],?_,hi.sep,hi.hv,hi.hu,λb hb=>by rw[g4];exact hi.lt b hb⟩,⟨by omega,λc _ hF=>g6 c λhx=>hF (by rw[hx];exact hi.hu _ hm b g5)⟩⟩
 ·have:=h3 H' hH' 0 aC
  simp only[Nat.mul_one,Nat.add_zero] at this;rw[this,hu,rU]
 ·intro i' w ws hw hws
  by_cases hii:i=i'
  ·subst hii
   rw[aUj (aUd.mp hb).1] at hws;rw[hu] at hw;cases hw;cases hws;exact g3
  ·rw[aUe hii] at hws
   refine(hi.bo i' w ws hw hws).wI λc hc=>g6 c λhx=> ?_
   subst hx;have hlt':=(aUd.mp hw).1;have he:=(aUd.mp hw).2;rcases Nat.lt_or_gt_of_ne hii with hx|hx
   ·have:=List.pairwise_iff_getElem.mp hi.sep i i' hlt hlt' hx c g5
    rw[he] at this;exact this hc
   ·have:=List.pairwise_iff_getElem.mp hi.sep i' i hlt' hlt hx c
    rw[he] at this;exact this hc g5
theorem RowI.aIf (h:RowI eR eB H v us bss F)(hne:eR≠eB){v':Value}{us':List Value}{bss':List (List UInt8)}(hrow:RowC eR 1 H' v' us'.length us')(hlen:us'.length=bss'.length)(hl:H'.length=H.length)(hv: ∀b,aT v' b->aT v b)(hk: ∀b,¬aT v b->H'[b]? =H[b]?)
  (hs:us'.Sublist us)(hb: ∀(i:Nat)(u:Value)(bs:List UInt8),us'[i]? =some u->bss'[i]? =some bs-> ∃j:Nat,us[j]? =some u/\bss[j]? =some bs):RowI eR eB H' v' us' bss' F:=by
 refine⟨hrow,hlen,λi u bs hu hbs=> ?_,h.sep.sublist hs,λb hb=>h.hv b (hv b hb),λu hu=>h.hu u (hs.subset hu),λb hb=>by rw[hl];exact h.lt b hb⟩
 obtain⟨j,h1,h2⟩:=hb i u bs hu hbs;refine(h.bo j u bs h1 h2).wI λb hl=>hk b λhh=>h.E3 hne hh (aUn h1) hl
end
theorem Bo.aIc {e:TypeId}{H:aF}{v:Value}{bs:List UInt8}(h:RowC e 1 H v bs.length (bs.map dF)):Bo e H v bs:=by
 obtain⟨hcs,⟨rfl,h0⟩|⟨c,cap,rest,rfl,h1,h2,h3⟩⟩:=h
 ·exact .inl ⟨aUv.mp h0,.inl rfl⟩
 ·by_cases h0:bs.length=0
  ·refine .inl ⟨aUv.mp h0,.inr ⟨c,0,cap,by rw[h0]⟩⟩
  ·exact .inr ⟨c,cap,rest,rfl,by omega,h3⟩
theorem aIg {e:TypeId}{sz by' c n k cap:Nat}{w:Value}{H:aF}{pre old post new:List Value}(hb:H[c]? =some (.cells (pre++old++post) e .row))(hp:pre.length=n*sz)(ho:old.length=k*sz)(hs:iN w=some k)(hc:dY sz w k H=some new)
  (hroom:n+k<=cap)(ha:cA new=true):app e sz by' (.slice (some ⟨c,0,none⟩) n cap) w H=some (.slice (some ⟨c,0,none⟩) (n+k) cap,H.set c (.cells (pre++new++post) e .row)):=by
 have hnl:=Xr hc;unfold app;rw[hs];simp only;rw[hc];simp only;rw[hb];simp only;rw[if_pos hroom];by_cases h0:new=[]
 ·rw[if_pos h0]
  subst h0;have:old=[]:=aUv.mp (by rw[ho,<-hnl];rfl)
  subst this;rw[Dy hb]
 ·rw[if_neg h0,if_pos ⟨by decide,by simp[hp,ho],ha⟩]
  have:=sD new old pre post (by rw[ho,hnl])
  rw[aUy,<-hp,this]
theorem gX (d:Nat)(k:IntKind)(i:Nat):bnd d (some (.int k i))=some i:=by
 simp[bnd]
theorem oU {P:Program}{H:aF}{cs:List Value}{e:TypeId}{k:Kind}{sz b o len cap l h m:Nat}{lo hi mx:Option Value}(hb:H[b]? =some (.cells cs e k))(hsz:k= .row->P.cellsOf e=sz)(h1:bnd 0 lo=some l)(h2:bnd len hi=some h)(h3:bnd cap mx=some m)(hlh:l<=h)(hhm:h<=m)(hmc:m<=cap):
  slc P sz (.slice (some ⟨b,o,none⟩) len cap) lo hi mx H=some (.slice (some ⟨b,o+l*sz,none⟩) (h-l) (m-l),H):=by
 unfold slc;simp only;rw[hb];simp only;rw[h1,h2,h3];simp only;rw[if_pos ⟨hlh,hhm,hmc,hsz⟩]
def RowO (e:TypeId)(H:aF)(v:Value)(cs:List Value):Prop:=
 ∃(c:Nat)(pre rest:List Value)(cap:Nat),v= .slice (some ⟨c,pre.length,none⟩) cs.length cap/\cap=cs.length+rest.length/\H[c]? =some (.cells (pre++cs++rest) e .row)
section
variable {e : TypeId} {H H' : aF} {v : Value} {cs : List Value}
theorem RowO.sH (h:RowO e H v cs)(hk: ∀b,aT v b->H'[b]? =H[b]?):RowO e H' v cs:=by
 obtain⟨c,pre,rest,cap,rfl,h1,h2⟩:=h
 exact⟨c,pre,rest,cap,rfl,h1,by rw[hk c ⟨_,_,_,rfl⟩,h2]⟩
theorem RowO.Lo (h:RowO e H v cs):cX v=some (.int .i64 cs.length):=by
 obtain⟨c,pre,rest,cap,rfl,h1,h2⟩:=h;rfl
theorem RowO.blk (h:RowO e H v cs){b:Nat}(hb:aT v b): ∃xs,H[b]? =some (.cells xs e .row):=by
 obtain⟨c,pre,rest,cap,rfl,h1,h2⟩:=h;obtain⟨o,n,k,hh⟩:=hb;cases hh
 exact⟨_,h2⟩
theorem RowO.Xy (h:RowO e H v cs){i:Nat}{x:Value}(hi:cs[i]? =some x)(k:IntKind): ∃b o,cN 1 v (.int k i)=some (.pointer (some ⟨b,o,none⟩))/\aT v b/\ ∀H':aF,H'[b]? =H[b]? ->ld1 (.pointer (some ⟨b,o,none⟩)) H'=some (x,H'):=by
 obtain⟨c,pre,rest,cap,rfl,h1,h2⟩:=h;have hlt:=(aUd.mp hi).1;refine⟨c,pre.length+i,?_,⟨_,_,_,rfl⟩,λH' hH'=> ?_⟩
 ·rw[mP _ _ _ _ _ _ _ U U]
  simp
 ·rw[fI,hH',h2,rV,aUk,aUx U,Nat.add_sub_cancel_left,aUg hlt,hi,rU]
theorem RowO.aIj {P:Program}{x:Value}(h:RowO e H v (x::cs))(hsz:P.cellsOf e=1): ∃v',slc P 1 v (some (.int .i64 1)) none none H=some (v',H)/\RowO e H v' cs/\ ∀b,aT v' b->aT v b:=by
 obtain⟨c,pre,rest,cap,rfl,h1,h2⟩:=h;have g:=oU (P:=P) (H:=H) (sz:=1) (o:=pre.length) h2 (λ_=>hsz) (len:=(x::cs).length) (cap:=cap) (hi:=none) (mx:=none) (gX 0 .i64 1) rfl rfl (by simp) U (aUi _)
 refine⟨_,g,⟨c,pre++[x],rest,cap-1,by simp,by simp at h1 ⊢; omega,by simpa using h2⟩,?_⟩
 rintro b ⟨o,n,k,hh⟩
 cases hh
 exact⟨_,_,_,rfl⟩
theorem RowO.aIi (h:RowO e H v cs){w x:Value}{by':Nat}(hs:iN w=some 1)(hc:dY 1 w 1 H=some [x])(hr:eH (cs.length+1) by'=true)(ha:cA [x]=true):
  ∃v' H',app e 1 by' v w H=some (v',H')/\RowO e H' v' (cs++[x])/\H.length<=H'.length/\(∀b,b<H.length-> ¬aT v b->H'[b]? =H[b]?)/\(∀b,aT v' b->aT v b∨(H.length<=b/\b<H'.length))/\ ∀b,H.length<=b->b<H'.length-> ∃xs,H'[b]? =some (.cells xs e .row):=by
 obtain⟨c,pre,rest,cap,rfl,h1,h2⟩:=h;have hlt:=(aUd.mp h2).1;by_cases hroom:cs.length+1<=cap
 ·obtain⟨r0,rest',rfl⟩: ∃r0 rest',rest=r0::rest':=by
   cases rest with
   |nil=>simp at h1;omega
   |cons a b=>exact⟨a,b,rfl⟩
  have hset:=sD [x] [r0] (pre++cs) rest' rfl;refine⟨.slice (some ⟨c,pre.length,none⟩) (cs.length+1) cap,H.set c (.cells (pre++cs++[x]++rest') e .row),?_,⟨c,pre,rest',cap,by simp,by simp at h1 ⊢; omega,by rw[aUj hlt];simp⟩,by simp,λb _ hh=>j9 λhx=>hh (by subst hx;exact⟨_,_,_,rfl⟩),?_,λb h1 h2=>by simp at h2;omega⟩
  ·unfold app
   rw[hs];simp only;rw[hc];simp only;rw[h2];simp only;rw[if_pos hroom,if_neg (by simp),if_pos ⟨by decide,by simp;omega,ha⟩]
   have e1:pre.length+cs.length*1=(pre++cs).length:=by simp
   have e2:pre++cs++r0::rest'=pre++cs++[r0]++rest':=by simp
   rw[e1,e2,hset]
  ·rintro b ⟨o,n,k,hh⟩
   cases hh;exact .inl ⟨_,_,_,rfl⟩
 ·refine⟨.slice (some ⟨H.length,0,none⟩) (cs.length+1) (cs.length+1),H.set c .dead++[.cells (cs++[x]) e .row],?_,⟨H.length,[],[],cs.length+1,by simp,by simp,by simp⟩,by simp,λb hb hh=> ?_,?_,λb h1 h2=> ?_⟩
  ·unfold app
   rw[hs];simp only;rw[hc];simp only;rw[h2];simp only;rw[if_neg hroom,if_pos (And.intro trivial (And.intro trivial (And.intro (by simp[aUp]) (And.intro hr ha)))),Nat.mul_one,aUk,List.drop_left,List.take_left]
  ·rw[aUg (by simpa using hb)]
   exact j9 λhx=>hh (by subst hx;exact⟨_,_,_,rfl⟩)
  ·rintro b ⟨o,n,k,hh⟩
   cases hh;exact .inr ⟨aUi _,by simp⟩
  ·simp at h2
   obtain rfl:b=H.length:=U
   exact⟨cs++[x],by simp⟩
theorem aIk {w x:Value}{by':Nat}(hs:iN w=some 1)(hc:dY 1 w 1 H=some [x])(hr:eH 1 by'=true):
  app e 1 by' (.slice none 0 0) w H=some (.slice (some ⟨H.length,0,none⟩) 1 1,H++[.cells [x] e .row])/\RowO e (H++[.cells [x] e .row]) (.slice (some ⟨H.length,0,none⟩) 1 1) [x]:=by
 refine⟨?_,⟨H.length,[],[],1,rfl,rfl,by simp⟩⟩
 unfold app;rw[hs];simp only;rw[hc];simp only;rw[if_neg aC,if_pos hr]
end
def Ch (A:Blk->Prop)(H H':aF):Prop:=H.length<=H'.length/\ ∀(b:Nat)(x:Blk),H[b]? =some x-> ¬A x->H'[b]? =some x
theorem Ch.aIh (A:Blk->Prop)(H:aF):Ch A H H:=⟨aUi _,λb x h _=>h⟩
theorem Ch.wJ {A:Blk->Prop}{H H' H'':aF}(h:Ch A H H')(h':Ch A H' H''):Ch A H H'':=⟨aUt h.1 h'.1,λb x hx hA=>h'.2 b x (h.2 b x hx hA) hA⟩
theorem Ch.app (A:Blk->Prop)(H G:aF):Ch A H (H++G):=⟨by simp,λb x hx _=>by rw[aUg (aUd.mp hx).1,hx]⟩
theorem Ch.Xx {A:Blk->Prop}{H:aF}{b:Nat}{x:Blk}(hb:H[b]? =some x)(hA:A x)(y:Blk):Ch A H (H.set b y):=⟨by simp,λc z hz hn=>by
 have hne:c≠b:=λhh=>by
  subst hh;rw[hb] at hz;cases hz;exact hn hA
 rw[j9 hne,hz]⟩
theorem Ch.ext {A:Blk->Prop}{H H':aF}(h:Ext H H'):Ch A H H':=⟨h.1,λb x hx _=>by rw[h.2 b (aUd.mp hx).1 id,hx]⟩
def Rr {α:Type}(el:α->List Value)(e:TypeId)(H:aF)(v:Value)(xs:List α):Prop:=
 (v= .slice none 0 0/\xs=[])∨ ∃b cap k pre post,v= .slice (some ⟨b,pre.length,none⟩) xs.length cap/\xs.length<=cap/\H[b]? =some (.cells (pre++(xs.map el).flatten++post) e k)
def Rw {α:Type}(el:α->List Value)(e:TypeId)(sz:Nat)(H:aF)(v:Value)(xs:List α):Prop:=RowC e sz H v xs.length (xs.map el).flatten
section
variable {α : Type} {el : α → List Value} {e : TypeId} {sz : Nat} {H H' : aF} {v w : Value} {xs ys : List α}
theorem X0 (hall: ∀x,cA (el x)=true): ∀xs:List α,cA (xs.map el).flatten=true
 |[]=>rfl
 |x::xs=>by
  have:=X0 hall xs;have h:=hall x;unfold cA at*;rw[aUI,aUN,List.all_append,h,this];rfl
theorem Rw.fD:Rw el e sz H (.slice none 0 0) ([]:List α):=RowC.Xq e sz H
theorem Rw.rr (h:Rw el e sz H v xs):Rr el e H v xs:=by
 obtain⟨hcs,⟨rfl,h0⟩|⟨c,cap,rest,rfl,h1,h2,h3⟩⟩:=h
 ·exact .inl ⟨rfl,aUv.mp h0⟩
 ·exact .inr ⟨c,cap,.row,[],rest,rfl,h1,by rw[h3];rfl⟩
theorem Rw.nY (h:Rw el e sz H v xs):cX v=some (.int .i64 xs.length):=RowC.Lj h
theorem Rw.cZ (h:Rw el e sz H v xs)(hk: ∀b,aT v b->H'[b]? =H[b]?):Rw el e sz H' v xs:=RowC.Ez h hk
theorem Rw.blk (h:Rw el e sz H v xs){b:Nat}(hb:aT v b): ∃cs,H[b]? =some (.cells cs e .row):=by
 obtain⟨o,n',c',hv⟩:=hb;obtain⟨hcs,⟨rfl,h0⟩|⟨c,cap,rest,rfl,h1,h2,h3⟩⟩:=h
 ·cases hv
 ·cases hv
  exact⟨_,h3⟩
theorem Rw.dO (h:Rw el e sz H v xs){b:Nat}(hb:aT v b):b<H.length:=RowC.Xp h b hb
theorem Rw.uU (h:Rw el e sz H v xs)(G:aF):Rw el e sz (H++G) v xs:=h.cZ λb hb=>aUg (h.dO hb)
theorem Rr.blk (h:Rr el e H v xs){b:Nat}(hb:aT v b): ∃cs k,H[b]? =some (.cells cs e k):=by
 obtain⟨o,n',c',hv⟩:=hb;rcases h with⟨rfl,_⟩|⟨b,cap,k,pre,post,rfl,h1,h2⟩
 ·cases hv
 ·cases hv
  exact⟨_,_,h2⟩
theorem Rr.aIm (h:Rr el e H v xs){b:Nat}(hb:aT v b):b<H.length:=by
 obtain⟨cs,k,hx⟩:=h.blk hb
 exact(aUd.mp hx).1
theorem Rr.Xz (hsz: ∀x,(el x).length=sz)(h:Rr el e H v xs):dY sz v xs.length H=some (xs.map el).flatten:=by
 have hl:=rX (xs.map el) (tJ hsz);rw[aUr] at hl;rcases h with⟨rfl,rfl⟩|⟨b,cap,k,pre,post,rfl,h1,h2⟩
 ·rfl
 ·unfold dY
  by_cases h0:xs.length=0
  ·obtain rfl:=aUv.mp h0
   simp
  ·simp only
   rw[if_neg h0,h2];simp only;rw[if_pos ⟨aUi _,by simp only[aUp];omega⟩,aUk,List.drop_left,<-hl,List.take_left]
theorem Rr.aIl (hsz: ∀x,(el x).length=sz)(h:Rr el e H v xs){i:Nat}{x:α}(hx:xs[i]? =some x)(k:IntKind): ∃b o,cN sz v (.int k i)=some (.pointer (some ⟨b,o,none⟩))/\aT v b/\
  ∀H':aF,H'[b]? =H[b]? ->ldN sz (.pointer (some ⟨b,o,none⟩)) H'=some (.agg ⟨el x⟩,H')/\
   (∀j y,(el x)[j]? =some y->ld1 (.pointer (some ⟨b,o+j,none⟩)) H'=some (y,H'))/\
   (∀j n,j+n<=sz->ldN n (.pointer (some ⟨b,o+j,none⟩)) H'=some (.agg ⟨((el x).drop j).take n⟩,H')):=by
 have hi:=(aUd.mp hx).1;have hl:=rX (xs.map el) (tJ hsz);rw[aUr] at hl;have hle:i*sz+sz<=xs.length*sz:=by
  calc i*sz+sz=(i+1)*sz:=by rw[Nat.succ_mul]
   _<=xs.length*sz:=Nat.mul_le_mul_right _ hi
 rcases h with⟨rfl,rfl⟩|⟨b,cap,kk,pre,post,rfl,h1,h2⟩
 ·simp at hx
 ·have htake:=Wj (xs.map el) (tJ hsz) i (el x) (by rw[aUq,hx];rfl)
  have hex:=hsz x;have hpart: ∀j n,j+n<=sz->((pre++(xs.map el).flatten++post).drop (pre.length+i*sz+j)).take n=((el x).drop j).take n:=by
   intro j n hjn;have a1:(pre++(xs.map el).flatten++post).drop (pre.length+i*sz+j)=((xs.map el).flatten++post).drop (i*sz+j):=by
    rw[aUk,Nat.add_assoc,<-aUW,List.drop_left]
   have a2:i*sz+j<=(xs.map el).flatten.length:=U
   have a3:n<=((xs.map el).flatten.drop (i*sz+j)).length:=by rw[List.length_drop];omega
   rw[a1,List.drop_append_of_le_length a2,List.take_append_of_le_length a3,<-htake,List.drop_take,aUW,List.take_take,Nat.min_eq_left U]
  refine⟨b,pre.length+i*sz,by rw[mP _ _ _ _ _ _ _ U U];simp,⟨_,_,_,rfl⟩,λH' hH'=>⟨?_,λj y hy=> ?_,λj n hjn=> ?_⟩⟩
  ·rw[qS,hH',h2,rW _ _ _ _ _ (by simp only[aUp];omega)]
   have:=hpart 0 sz U
   rw[Nat.add_zero,List.drop_zero,List.take_of_length_le (l:=el x) U] at this
   rw[this]
  ·have hj:j<sz:=by rw[<-hex];exact(aUd.mp hy).1
   rw[fI,hH',h2,rV];have:=hpart j 1 U
   have h3:((pre++(xs.map el).flatten++post).drop (pre.length+i*sz+j))[0]? =((el x).drop j)[0]? :=by
    have:=congrArg (·[0]?) this
    simpa[List.getElem?_take] using this
   rw[List.getElem?_drop,List.getElem?_drop,Nat.add_zero,Nat.add_zero,hy] at h3;rw[h3,rU]
  ·rw[qS,hH',h2,rW _ _ _ _ _ (by simp only[aUp];omega),hpart j n hjn]
theorem wK (x:α)(H:aF):Rr el e (H++[.cells (el x) e .row]) (.slice (some ⟨H.length,0,none⟩) 1 1) [x]:= .inr ⟨H.length,1,.row,[],[],rfl,aUi _,by simp⟩
end
section
variable {P : Program} {H : aF} {pr : eK} {f : FuncId} {n : Nat} {args : List Value}
theorem dL (hp:pr (.func f)=none)(hn:0<n){Q:aF->Value->Prop}(h: ∃H' u,aR P (lvl P pr (n-1)) (aL (n-1)) f args H=some (u,H')/\Q H' u): ∃H' u,lvl P pr n (.func f) args H=some (u,H')/\Q H' u:=by
 obtain⟨H',u,h1,h2⟩:=h
 exact⟨H',u,aS hp hn h1,h2⟩
theorem iD (hp:pr (.func f)=none)(hn:0<n){Q:aF->Prop}{u:Value}(h: ∃H',aR P (lvl P pr (n-1)) (aL (n-1)) f args H=some (u,H')/\Q H'): ∃H',lvl P pr n (.func f) args H=some (u,H')/\Q H':=by
 obtain⟨H',h1,h2⟩:=h
 exact⟨H',aS hp hn h1,h2⟩
end
def Rs {α:Type}(el:α->List Value)(e:TypeId)(H:aF)(v:Value)(xs:List α):Prop:=
 (v= .slice none 0 0/\xs=[])∨ ∃b o cap,v= .slice (some ⟨b,o,none⟩) xs.length cap/\xs.length<=cap/\
  (xs≠[]-> ∃e' k pre post,pre.length=o/\(k= .row->e'=e)/\H[b]? =some (.cells (pre++(xs.map el).flatten++post) e' k))
section
variable {α : Type} {el : α → List Value} {e : TypeId} {sz : Nat} {H H' : aF} {v w : Value} {xs ys : List α}
theorem Rr.rs (h:Rr el e H v xs):Rs el e H v xs:=by
 rcases h with h|⟨b,cap,k,pre,post,h1,h2,h3⟩
 ·exact .inl h
 ·exact .inr ⟨b,_,cap,h1,h2,λ_=>⟨e,k,pre,post,rfl,λ_=>rfl,h3⟩⟩
theorem Rw.rs (h:Rw el e sz H v xs):Rs el e H v xs:=h.rr.rs
theorem Rs.rr (h:Rs el e H v xs)(hne:xs≠[]): ∃e',Rr el e' H v xs:=by
 rcases h with⟨_,h⟩|⟨b,o,cap,h1,h2,h3⟩
 ·exact absurd h hne
 ·obtain⟨e',k,pre,post,rfl,_,h5⟩:=h3 hne
  exact⟨e',.inr ⟨b,cap,k,pre,post,h1,h2,h5⟩⟩
theorem Rs.eC (h:Rs el e H v xs):cX v=some (.int .i64 xs.length):=by
 rcases h with⟨rfl,rfl⟩|⟨b,o,cap,rfl,_⟩<;>rfl
theorem Rs.aIp (h:Rs el e H v xs):iN v=some xs.length:=by
 rcases h with⟨rfl,rfl⟩|⟨b,o,cap,rfl,_⟩<;>rfl
theorem Rs.E4 (h:Rs el e H v xs)(hk: ∀b,aT v b->b<H.length->H'[b]? =H[b]?):Rs el e H' v xs:=by
 rcases h with h|⟨b,o,cap,rfl,h1,h2⟩
 ·exact .inl h
 ·refine .inr ⟨b,o,cap,rfl,h1,λhne=> ?_⟩
  obtain⟨e',k,pre,post,h3,h4,h5⟩:=h2 hne
  exact⟨e',k,pre,post,h3,h4,by rw[hk b ⟨_,_,_,rfl⟩ (aUd.mp h5).1,h5]⟩
theorem Rs.ext (h:Rs el e H v xs)(he:Ext H H'):Rs el e H' v xs:=h.E4 λb _ hb=>he.2 b hb id
theorem Rs.aIo (hsz: ∀x,(el x).length=sz)(h:Rs el e H v xs):dY sz v xs.length H=some (xs.map el).flatten:=by
 by_cases hne:xs=[]
 ·subst hne
  rcases h with⟨rfl,_⟩|⟨b,o,cap,rfl,_⟩<;>rfl
 ·obtain⟨e',hr⟩:=h.rr hne
  exact hr.Xz hsz
theorem Rs.dM (hsz: ∀x,(el x).length=sz)(h:Rs el e H v xs){i:Nat}{x:α}(hx:xs[i]? =some x)(k:IntKind): ∃b o,cN sz v (.int k i)=some (.pointer (some ⟨b,o,none⟩))/\aT v b/\
  ∀H':aF,H'[b]? =H[b]? ->ldN sz (.pointer (some ⟨b,o,none⟩)) H'=some (.agg ⟨el x⟩,H')/\
   (∀j y,(el x)[j]? =some y->ld1 (.pointer (some ⟨b,o+j,none⟩)) H'=some (y,H'))/\
   (∀j n,j+n<=sz->ldN n (.pointer (some ⟨b,o+j,none⟩)) H'=some (.agg ⟨((el x).drop j).take n⟩,H')):=by
 obtain⟨e',hr⟩:=h.rr (λh=>by subst h;simp at hx)
 exact hr.aIl hsz hx k
theorem Rs.E5 {P:Program}(hsz: ∀x,(el x).length=sz)(he:P.cellsOf e=sz)(h:Rs el e H v xs)(hne:xs≠[]){l r:Nat}{lo hi:Option Value}(h1:bnd 0 lo=some l)(h2:bnd xs.length hi=some r)(hlr:l<=r)(hr:r<=xs.length):
  ∃v',slc P sz v lo hi none H=some (v',H)/\Rs el e H v' ((xs.take r).drop l)/\ ∀b,aT v' b->aT v b:=by
 have hl:=rX (xs.map el) (tJ hsz);have hlen:((xs.take r).drop l).length=r-l:=by simp;omega
 rcases h with⟨_,h⟩|⟨b,o,cap,rfl,h3,h4⟩
 ·exact absurd h hne
 ·obtain⟨e',k,pre,post,rfl,hk,hb⟩:=h4 hne
  refine⟨_,oU (sz:=sz) hb (λh=>by rw[hk h];exact he) h1 h2 rfl hlr U (aUi _),.inr ⟨b,_,cap-l,by rw[hlen],by rw[hlen];omega,λ_=>⟨e',k,pre++((xs.take l).map el).flatten,((xs.drop r).map el).flatten++post,?_,hk,?_⟩⟩,?_⟩
  ·have hf:=rX ((xs.take l).map el) (tJ hsz)
   rw[aUr,List.length_take,Nat.min_eq_left U] at hf
   rw[aUp,hf]
  ·rw[hb]
   have:xs=xs.take l++((xs.take r).drop l++xs.drop r):=by
    conv=>lhs;rw[<-List.take_append_drop l xs]
    congr 1
    have:=List.take_append_drop (r-l) (xs.drop l);rw[aUW,List.take_drop] at this;rw[show l+(r-l)=r by omega] at this
    exact this.symm
   congr 2
   conv=>lhs;rw[this]
   simp only[List.map_append,List.flatten_append,aUk]
  ·rintro b' ⟨o',n,c,hv⟩
   cases hv
   exact⟨_,_,_,rfl⟩
theorem Rw.wL (hsz: ∀x,(el x).length=sz)(hall: ∀x,cA (el x)=true)(h0:0<sz){by':Nat}{e':TypeId}(h:Rw el e sz H v xs)(hw:Rs el e' H w ys)(hr:eH (xs.length+ys.length) by'=true):
  ∃v' H',Go.Abs.app e sz by' v w H=some (v',H')/\Rw el e sz H' v' (xs++ys)/\H.length<=H'.length/\(∀b,b<H.length-> ¬aT v b->H'[b]? =H[b]?)/\(∀b,aT v' b->aT v b∨(H.length<=b/\b<H'.length)):=by
 obtain⟨v',H',h1,h2,h3⟩:=Ll h hw.aIp (hw.aIo hsz) hr (X0 hall ys) h0;refine⟨v',H',h1,?_,h3⟩;unfold Rw;rw[aUp,List.map_append,List.flatten_append];exact h2
theorem Ext.tr {H0 H1 H2:aF}(h:Ext H0 H1)(h':Ext H1 H2):Ext H0 H2:=h.Xs (h'.zG λ_ h=>h.elim)
def New (H0:aF)(v:Value):Prop:= ∀b,aT v b->H0.length<=b
theorem New.iE (H0:aF):New H0 (.slice none 0 0):=λb ⟨_,_,_,h⟩=>by cases h
theorem Rw.wM (hsz: ∀x,(el x).length=sz)(hall: ∀x,cA (el x)=true)(h0:0<sz){by':Nat}{e':TypeId}{H0:aF}(h:Rw el e sz H v xs)(hw:Rs el e' H w ys)(hn:New H0 v)(he:Ext H0 H)(hr:eH (xs.length+ys.length) by'=true):
  ∃v' H',Go.Abs.app e sz by' v w H=some (v',H')/\Rw el e sz H' v' (xs++ys)/\New H0 v'/\Ext H0 H':=by
 obtain⟨v',H',h1,h2,h3,h4,h5⟩:=h.wL hsz hall h0 hw hr;have hl:=he.1;refine⟨v',H',h1,h2,λb hb=> ?_,⟨by omega,λb hb _=> ?_⟩⟩
 ·rcases h5 b hb with h|⟨h,_⟩
  ·exact hn b h
  ·omega
 ·rw[h4 b U (λh=>by have:=hn b h;omega),he.2 b hb id]
theorem Rw.pS (hsz: ∀x,(el x).length=sz)(hall: ∀x,cA (el x)=true)(h0:0<sz){by':Nat}{H0:aF}(h:Rw el e sz H v xs)(x:α)(hn:New H0 v)(he:Ext H0 H)(hr:eH (xs.length+1) by'=true):
  ∃v' H',Go.Abs.app e sz by' v (.slice (some ⟨H.length,0,none⟩) 1 1) (H++[.cells (el x) e .row])=some (v',H')/\Rw el e sz H' v' (xs++[x])/\New H0 v'/\Ext H0 H':=by
 have hw:Rr el e (H++[.cells (el x) e .row]) (.slice (some ⟨H.length,0,none⟩) 1 1) [x]:=wK (el:=el) x H
 exact(h.uU _).wM hsz hall h0 hw.rs hn (he.Xs (Fr.app _ _ _)) hr
def Apart (H:aF)(u v:Value):Prop:= ∀b,aT u b->b<H.length/\ ¬aT v b
theorem Apart.up {u v':Value}(h:Apart H u v)(hf:Fr (aT v) H H')(hu: ∀b,aT v' b->Up (aT v) H H' b):Apart H' u v':=λb hb=>by
 obtain⟨h1,h2⟩:=h b hb;refine⟨aUs h1 hf.1,λhv=> ?_⟩
 rcases hu b hv with h3|⟨h3,_⟩
 ·exact h2 h3
 ·omega
theorem Rs.aIn {u:Value}(h:Rs el e H u xs)(ha:Apart H u v)(hf:Fr (aT v) H H'):Rs el e H' u xs:=h.E4 λb hb hl=>hf.2 b hl (ha b hb).2
theorem Rw.E6 (hsz: ∀x,(el x).length=sz)(hall: ∀x,cA (el x)=true)(h0:0<sz){by':Nat}{H0:aF}(h:Rw el e sz H v xs)(x:α)(hn:New H0 v)(he:Ext H0 H)(hr:eH (xs.length+1) by'=true):
  ∃v' H',Go.Abs.app e sz by' v (.slice (some ⟨H.length,0,none⟩) 1 1) (H++[.cells (el x) e .row])=some (v',H')/\Rw el e sz H' v' (xs++[x])/\New H0 v'/\Ext H0 H'/\Fr (aT v) H H'/\ ∀b,aT v' b->Up (aT v) H H' b:=by
 have hw:Rr el e (H++[.cells (el x) e .row]) (.slice (some ⟨H.length,0,none⟩) 1 1) [x]:=wK (el:=el) x H;obtain⟨v',H',h1,h2,h3,h4,h5⟩:=(h.uU _).wL hsz hall h0 hw.rs hr;have hl:=he.1;rw[aUp] at h3 h4 h5;simp only[aUz,List.length_nil] at h3 h4 h5;refine⟨v',H',h1,h2,λb hb=> ?_,⟨by omega,λb hb _=> ?_⟩,⟨by omega,λb hb hF=> ?_⟩,λb hb=> ?_⟩
 ·rcases h5 b hb with h|⟨h,_⟩
  ·exact hn b h
  ·omega
 ·rw[h4 b U (λh=>by have:=hn b h;omega),aUg U,he.2 b hb id]
 ·rw[h4 b U hF,aUg hb]
 ·rcases h5 b hb with h|⟨h,h'⟩
  ·exact .inl h
  ·exact .inr ⟨by omega,h'⟩
theorem eD {n k by':Nat}(h:eH n by'=true)(hk:k<=n):eH k by'=true:=by
 unfold eH at*;simp only[aUl,decide_eq_true_eq] at*;refine⟨?_,by omega⟩
 have:(2*k+256)*by'<=(2*n+256)*by':=Nat.mul_le_mul_right _ U
 omega
theorem Sl.rs {b c:Nat}(h:Sl H v sz b (xs.map el))(hsz: ∀x,(el x).length=sz)(hv:v= .slice none 0 0/\xs=[]∨v= .slice (some ⟨c,0,none⟩) xs.length xs.length):Rs el e H v xs:=by
 rcases hv with⟨rfl,rfl⟩|rfl
 ·exact .inl ⟨rfl,rfl⟩
 ·refine .inr ⟨c,0,xs.length,rfl,aUi _,λhne=> ?_⟩
  have h0:0<xs.length:=List.length_pos_iff.mpr hne;have ha:=h.at_ 0 .i64 (by rw[aUr];exact h0)
  rw[mP _ _ _ _ _ _ _ U U] at ha
  simp at ha;subst ha;obtain⟨e',he⟩:=h.blk (by rw[aUr];exact h0)
  exact⟨e',.ro,[],[],rfl,(λh=>by cases h),by rw[he];simp⟩
end
theorem Rw.sI {H:aF}{α:Type}{el:α->List Value}{e:TypeId}{sz:Nat}{v:Value}{xs:List α}(h:Rw el e sz H v xs):v.cells.toList=[v]/\cA [v]=true:=by
 rcases h with⟨_,⟨rfl,_⟩|⟨_,_,_,rfl,_⟩⟩<;>exact⟨rfl,rfl⟩
def inC (n:Int):List Value:=[.int .i64 n]
theorem eP (n:Int):(inC n).length=1:=rfl
theorem mQ (n:Int):cA (inC n)=true:=rfl
theorem tL: ∀zs:List Int,(zs.map inC).flatten=zs.map (Value.int .i64)
 |[]=>rfl
 |z::zs=>by rw[aUI,aUN,tL zs];rfl
theorem X1 {e:TypeId}{H H0:aF}{v:Value}{zs:List Int}(h:Rw inC e 1 H v zs)(hl:zs.length<4611686018427387904)(hn:New H0 v)(he:Ext H0 H): ∃H',pQ [v] H=some (.tuple #[],H')/\Rw inC e 1 H' v (srt zs)/\Ext H0 H':=by
 obtain⟨hcs,⟨rfl,h0⟩|⟨c,cap,rest,rfl,h1,h2,h3⟩⟩:=h
 ·obtain rfl:=aUv.mp h0
  exact⟨H,rfl,Rw.fD,he⟩
 ·by_cases h0:zs.length=0
  ·obtain rfl:=aUv.mp h0
   exact⟨H,by simp[pQ],⟨hcs,.inr ⟨c,cap,rest,rfl,h1,h2,h3⟩⟩,he⟩
  ·rw[tL] at hcs h3
   have hlen:(zs.map (Value.int .i64)).length=zs.length:=aUr _;refine⟨H.set c (.cells ((srt zs).map (Value.int .i64)++rest) e .row),?_,⟨by rw[tL,aUr];simp,.inr ⟨c,cap,rest,?_,?_,?_,?_⟩⟩,⟨by rw[List.length_set];exact he.1,λb hb _=> ?_⟩⟩
   ·unfold pQ
    simp only;rw[if_neg h0,h3];simp only;rw[if_pos ⟨by rw[aUp,hlen];omega,hl⟩,List.drop_zero,<-hlen,List.take_left,Xe]
    have:=sD ((srt zs).map (Value.int .i64)) (zs.map (Value.int .i64)) [] rest (by rw[aUr,aUr,pR])
    simp only[List.nil_append,List.length_nil] at this;simp only;rw[this]
   ·rw[pR]
   ·rw[pR];exact h1
   ·rw[pR];exact h2
   ·rw[tL]
    exact aUj (aUd.mp h3).1
   ·have:c≠b:=λhh=>by
     have:=hn c ⟨_,_,_,rfl⟩;omega
    rw[aUe this,he.2 b hb id]
end Go.Abs
namespace Go.Abs
open M
open Classical
theorem aIu (args:List Value):FrM (λH=>if args.isEmpty=true then some (.bool true,H) else none):=λD H hs v D' h=>by
 dsimp only at h⊢
 split at h
 ·rename_i hc
  try rw[if_pos hc]
  exact jK hs h
 ·cases h
theorem aIr (ids:List FuncId):FrP (rT ids):=λf p hf args=>by
 unfold rT at hf
 split at hf
 ·split at hf
  ·cases hf
   exact aIu args
  ·cases hf
 ·cases hf
theorem aIs (args:List Value):FrM (pQ args):=λD H hs v D' h=>by
 unfold pQ at h⊢
 split at h
 ·exact jK hs h
 ·rename_i b o n cap
  try dsimp only
  by_cases hn:n=0
  ·rw[if_pos hn] at h⊢
   exact jK hs h
  ·rw[if_neg hn] at h⊢
   split at h
   ·rename_i cs e hb
    rw[hs.r8 hb]
    dsimp only at h⊢
    split at h
    ·rename_i hc
     rw[if_pos hc]
     split at h
     ·rename_i zs hz
      try rw[hz]
      exact sA hs hb (λhh=>by cases hh) h
     ·cases h
    ·cases h
   ·cases h
 ·cases h
theorem aIt (ids:List FuncId)(g:FuncId):FrP (oT ids g):=λf p hf args=>by
 unfold oT at hf
 split at hf
 ·split at hf
  ·cases hf
   exact aIs args
  ·exact aIr ids _ p hf args
 ·cases hf
noncomputable def rst (F:Nat->Prop)(H:aF):aF:=H.mapIdx λb x=>if F b then x else Blk.dead
theorem sJ (F:Nat->Prop)(H:aF):(rst F H).length=H.length:=by simp[rst]
theorem X6 (F:Nat->Prop)(H:aF)(b:Nat):(rst F H)[b]? =(H[b]?).map λx=>if F b then x else Blk.dead:=by simp[rst]
theorem Bn {F:Nat->Prop}{H:aF}{b:Nat}(hb:F b):(rst F H)[b]? =H[b]? :=by
 rw[X6];cases H[b]? <;>simp[hb]
theorem uV {F:Nat->Prop}{H:aF}{b:Nat}(hb: ¬F b)(hl:b<H.length):(rst F H)[b]? =some Blk.dead:=by
 rw[X6,aUf hl];simp[hb]
theorem E8 (F:Nat->Prop)(H:aF):Sub (rst F H) H:=⟨sJ F H,λb x hb hx=>by
 by_cases hF:F b
 ·rw[Bn hF] at hb
  exact hb
 ·have hl:=(aUd.mp hb).1
  rw[sJ] at hl;rw[uV hF hl] at hb;cases hb;exact absurd rfl hx⟩
def liv (D:aF)(b:Nat):Prop:= ∃x,D[b]? =some x/\x≠Blk.dead
theorem aIv {D H:aF}(h:Sub D H):D=rst (liv D) H:=by
 apply aUO;intro b;by_cases hb:b<D.length
 ·by_cases hF:liv D b
  ·obtain⟨x,h1,h2⟩:=hF
   rw[Bn ⟨x,h1,h2⟩,h1,h.2 b x h1 h2]
  ·rw[uV hF (by rw[<-h.1];exact hb),aUf hb]
   congr 1
   exact Classical.byContradiction λhh=>hF ⟨_,aUf hb,hh⟩
 ·rw[aUo U,aUo (by rw[sJ,<-h.1];omega)]
structure Mv (F F':Nat->Prop)(H H':aF):Prop where
 le:H.length<=H'.length
 own: ∀b,F' b->F b∨H.length<=b
 keep: ∀b,b<H.length-> ¬F b->H'[b]? =H[b]?
theorem Mv.X4 (F:Nat->Prop)(H:aF):Mv F F H H:=⟨aUi _,λ_ h=> .inl h,λ_ _ _=>rfl⟩
theorem Mv.oA {F F1 F2:Nat->Prop}{H H1 H2:aF}(h:Mv F F1 H H1)(h':Mv F1 F2 H1 H2):Mv F F2 H H2:=
 ⟨aUt h.le h'.le,λb hb=>(h'.own b hb).elim (h.own b) λhl=> .inr (aUt h.le hl),
  λb hb hF=>by
   rw[h'.keep b (aUs hb h.le) λhh=>(h.own b hh).elim hF λhl=>by omega,h.keep b hb hF]⟩
theorem Mv.nZ {H H':aF}(he:Ext H H')(F:Nat->Prop):Mv F F H H':=⟨he.1,λ_ h=> .inl h,λb hb _=>he.2 b hb id⟩
theorem X5 {P:Program}{pr:eK}(hp:FrP pr){n:Nat}{fn:Fn}{args:List Value}{F:Nat->Prop}{H:aF}{r:Value}{D':aF}(h:lvl P pr n fn args (rst F H)=some (r,D')):
  ∃H' F',lvl P pr n fn args H=some (r,H')/\D'=rst F' H'/\Mv F F' H H'/\ ∀b,F' b->b<H'.length:=by
 obtain⟨H',h1,f1⟩:=Bl P hp n fn args _ H (E8 F H) r D' h;have hle:H.length<=H'.length:=by
  have a1:=f1.le;have a2:=f1.sub.1;rw[sJ] at a1;omega
 refine⟨H',liv D',h1,aIv f1.sub,⟨hle,λb hb=> ?_,λb hb hF=>f1.keep b (uV hF hb)⟩,λb hb=> ?_⟩
 ·by_cases hF:F b
  ·exact .inl hF
  ·by_cases hl:b<H.length
   ·obtain⟨x,h2,h3⟩:=hb
    rw[f1.dead b (uV hF hl)] at h2;cases h2;exact absurd rfl h3
   ·exact .inr U
 ·obtain⟨x,h2,_⟩:=hb
  have:=(aUd.mp h2).1;rw[f1.sub.1] at this;exact this
def DX (A:aF->Prop):Prop:= ∀D D':aF,A D->Ext D D'->A D'
structure Has (A:aF->Prop)(F:Nat->Prop)(H:aF):Prop where
 at_:A (rst F H)
 lt: ∀b,F b->b<H.length
theorem Has.E7 {A:aF->Prop}{F:Nat->Prop}{H H':aF}(h:Has A F H)(hA:DX A)(hl:H.length<=H'.length)(hk: ∀b,F b->H'[b]? =H[b]?):Has A F H':=by
 refine⟨hA _ _ h.at_ ⟨by rw[sJ,sJ];exact hl,λb hb _=> ?_⟩,λb hb=>aUs (h.lt b hb) hl⟩
 rw[sJ] at hb;by_cases hF:F b
 ·rw[Bn hF,Bn hF,hk b hF]
 ·rw[uV hF hb,uV hF U]
theorem Has.X2 {A:aF->Prop}{F N N':Nat->Prop}{H H':aF}(h:Has A F H)(hA:DX A)(hf:Mv N N' H H')(hd: ∀b,F b-> ¬N b):Has A F H':=
 h.E7 hA hf.le λb hb=>hf.keep b (h.lt b hb) (hd b hb)
def Pos (A:aF->Prop):Prop:= ∀D H,Sub D H->A D->A H
theorem Has.aIq {A:aF->Prop}{F:Nat->Prop}{H:aF}(h:Has A F H)(hA:Pos A):A H:=hA _ _ (E8 F H) h.at_
theorem Has.zH {P:Program}{pr:eK}(hp:FrP pr){n:Nat}{fn:Fn}{args:List Value}{A:aF->Prop}{B:Value->aF->Prop}{F:Nat->Prop}{H:aF}
  (hc: ∀D,A D-> ∃r D',lvl P pr n fn args D=some (r,D')/\B r D')(h:Has A F H):
  ∃r H' F',lvl P pr n fn args H=some (r,H')/\Has (B r) F' H'/\Mv F F' H H':=by
 obtain⟨r,D',h1,h2⟩:=hc _ h.at_;obtain⟨H',F',h3,rfl,h4,h5⟩:=X5 hp h1
 exact⟨r,H',F',h3,⟨h2,h5⟩,h4⟩
theorem Mv.X3 {F':Nat->Prop}{H H':aF}(h:Mv (λ_=>False) F' H H'):(∀b,F' b->H.length<=b)/\Ext H H':=
 ⟨λb hb=>(h.own b hb).elim False.elim id,⟨h.le,λb hb _=>h.keep b hb id⟩⟩
structure Sep {ι:Type}(A:ι->aF->Prop)(F:ι->Nat->Prop)(H:aF):Prop where
 own: ∀i,Has (A i) (F i) H
 sep: ∀i j b,F i b->F j b->i=j
def Un {ι:Type}(F:ι->Nat->Prop)(b:Nat):Prop:= ∃i,F i b
noncomputable def updI {ι α:Type}(f:ι->α)(i:ι)(x:α)(j:ι):α:=if j=i then x else f j
theorem eY {ι α:Type}(f:ι->α)(i:ι)(x:α):updI f i x i=x:=if_pos rfl
theorem cM {ι α:Type}(f:ι->α){i j:ι}(x:α)(h:j≠i):updI f i x j=f j:=if_neg h
theorem Sep.oB {ι:Type}{A:ι->aF->Prop}{F:ι->Nat->Prop}{H:aF}(h:Sep A F H)(b:Nat)(hb:Un F b):b<H.length:=by
 obtain⟨i,hi⟩:=hb
 exact(h.own i).lt b hi
theorem Sep.Lp {ι:Type}{A:ι->aF->Prop}{F:ι->Nat->Prop}{H H':aF}(h:Sep A F H)(i:ι)(hA: ∀j,j≠i->DX (A j)){B:aF->Prop}{F':Nat->Prop}(hB:Has B F' H')(hf:Mv (F i) F' H H'):
  Sep (updI A i B) (updI F i F') H'/\Mv (Un F) (Un (updI F i F')) H H':=by
 refine⟨⟨λj=> ?_,λj k b hj hk=> ?_⟩,⟨hf.le,λb hb=> ?_,λb hb hF=>hf.keep b hb λhh=>hF ⟨i,hh⟩⟩⟩
 ·by_cases hj:j=i
  ·subst hj
   rw[eY,eY];exact hB
  ·rw[cM _ _ hj,cM _ _ hj]
   exact(h.own j).X2 (hA j hj) hf λb hb hi=>hj (h.sep j i b hb hi)
 ·have key: ∀j b,updI F i F' j b->j≠i-> ¬F' b:=λj b hb hj hb'=>by
   rw[cM _ _ hj] at hb;rcases hf.own b hb' with h1|h1
   ·exact hj (h.sep j i b hb h1)
   ·have:=(h.own j).lt b hb
    omega
  by_cases hji:j=i
  ·by_cases hki:k=i
   ·rw[hji,hki]
   ·exact absurd (by rw[hji,eY] at hj;exact hj) (key k b hk hki)
  ·by_cases hki:k=i
   ·exact absurd (by rw[hki,eY] at hk;exact hk) (key j b hj hji)
   ·rw[cM _ _ hji] at hj
    rw[cM _ _ hki] at hk;exact h.sep j k b hj hk
 ·obtain⟨j,hj⟩:=hb
  by_cases hji:j=i
  ·rw[hji,eY] at hj
   exact(hf.own b hj).imp (λh=>⟨i,h⟩) id
  ·rw[cM _ _ hji] at hj
   exact .inl ⟨j,hj⟩
theorem Sep.wO {ι:Type}{A:ι->aF->Prop}{F:ι->Nat->Prop}{N N':Nat->Prop}{H H':aF}(h:Sep A F H)(hA: ∀j,DX (A j))(hf:Mv N N' H H')(hd: ∀b,Un F b-> ¬N b):Sep A F H':=
 ⟨λi=>(h.own i).X2 (hA i) hf λb hb=>hd b ⟨i,hb⟩,h.sep⟩
theorem Sep.ext {ι:Type}{A:ι->aF->Prop}{F:ι->Nat->Prop}{H H':aF}(h:Sep A F H)(hA: ∀j,DX (A j))(he:Ext H H'):Sep A F H':=
 h.wO hA (Mv.nZ he (λ_=>False)) λ_ _ hh=>hh
theorem Sep.wN {ι:Type}{A A':ι->aF->Prop}{F:ι->Nat->Prop}{H:aF}(h:Sep A F H)(he: ∀i D,A i D->A' i D):Sep A' F H:=
 ⟨λi=>⟨he i _ (h.own i).at_,(h.own i).lt⟩,h.sep⟩
end Go.Abs
namespace Go.Abs
open M
variable {P : Program}
theorem Bp (k:IntKind)(hk:k.signed=false)(n:Int):k.wrap n=n%2 ^ k.bits:=by simp[IntKind.wrap,hk]
theorem Bt (n:Int):IntKind.u8.wrap n=n%256:=Bp .u8 rfl n
theorem Bq (n:Int):IntKind.u16.wrap n=n%65536:=Bp .u16 rfl n
theorem sL (n:Int):IntKind.u64.wrap n=n%18446744073709551616:=Bp .u64 rfl n
theorem Ls {n:Int}(h0:0<=n)(h1:n<65536):IntKind.u16.wrap n=n:=by rw[Bq,Int.emod_eq_of_lt h0 h1]
theorem aIy {n:Int}(h0:0<=n)(h1:n<18446744073709551616):IntKind.u64.wrap n=n:=by rw[sL,Int.emod_eq_of_lt h0 h1]
theorem sK {n a:Nat}(h:a<2 ^ n):(BitVec.ofInt n (a:Int)).toNat=a:=by
 rw[BitVec.ofInt_natCast,BitVec.toNat_ofNat,aUL h]
theorem Fb (k:IntKind)(hk:k.signed=false)(x:BitVec k.bits):k.wrap (x.toNat:Int)=x.toNat:=by
 have h1:=x.isLt;rw[Bp k hk,Int.emod_eq_of_lt U (by exact_mod_cast h1)]
theorem wP (k:IntKind)(hk:k.signed=false)(t:TypeId){a b:Nat}(ha:a<2 ^ k.bits)(hb:b<2 ^ k.bits):bin P .and t (.int k a) (.int k b)=some (.int k ((a&&&b:Nat):Int)):=by
 have e:=Fb k hk (BitVec.ofInt k.bits (a:Int)&&&BitVec.ofInt k.bits (b:Int));rw[BitVec.toNat_and,sK ha,sK hb] at e;simp[bin,cL,eN,pur,binOp,Op.intBits,pure,Int.natCast_inj];rw[aUL ha,aUL hb,e]
theorem Lr (k:IntKind)(hk:k.signed=false)(t:TypeId){a b:Nat}(ha:a<2 ^ k.bits)(hb:b<2 ^ k.bits):bin P .or t (.int k a) (.int k b)=some (.int k ((a|||b:Nat):Int)):=by
 have e:=Fb k hk (BitVec.ofInt k.bits (a:Int)|||BitVec.ofInt k.bits (b:Int));rw[BitVec.toNat_or,sK ha,sK hb] at e;simp[bin,cL,eN,pur,binOp,Op.intBits,pure];rw[aUL ha,aUL hb,e]
theorem X9 (k:IntKind)(hk:k.signed=false)(t:TypeId){a b:Nat}(ha:a<2 ^ k.bits)(hb:b<2 ^ k.bits):bin P .xor t (.int k a) (.int k b)=some (.int k ((a^^^b:Nat):Int)):=by
 have e:=Fb k hk (BitVec.ofInt k.bits (a:Int)^^^BitVec.ofInt k.bits (b:Int));rw[BitVec.toNat_xor,sK ha,sK hb] at e;simp[bin,cL,eN,pur,binOp,Op.intBits,pure];rw[aUL ha,aUL hb,e]
def iF (a b:Nat):Nat:=a^^^(a&&&b)
theorem Lq (a b i:Nat):(iF a b).testBit i=(a.testBit i&& !b.testBit i):=by
 simp only[iF,Nat.testBit_xor,Nat.testBit_and];cases a.testBit i<;>cases b.testBit i<;>rfl
theorem X7 (k:IntKind)(hk:k.signed=false)(t:TypeId){a b:Nat}(ha:a<2 ^ k.bits)(hb:b<2 ^ k.bits):bin P .andNot t (.int k a) (.int k b)=some (.int k ((iF a b:Nat):Int)):=by
 have e:=Fb k hk (BitVec.ofInt k.bits (a:Int)&&& ~~~BitVec.ofInt k.bits (b:Int));have e1:(BitVec.ofInt k.bits (a:Int)&&& ~~~BitVec.ofInt k.bits (b:Int))=(BitVec.ofInt k.bits (a:Int)^^^(BitVec.ofInt k.bits (a:Int)&&&BitVec.ofInt k.bits (b:Int))):=by
  apply BitVec.eq_of_getLsbD_eq;intro i hi;simp only[BitVec.getLsbD_and,BitVec.getLsbD_not,BitVec.getLsbD_xor,hi,decide_true,aUA];cases (BitVec.ofInt k.bits (a:Int)).getLsbD i<;>cases (BitVec.ofInt k.bits (b:Int)).getLsbD i<;>rfl
 rw[e1,BitVec.toNat_xor,BitVec.toNat_and,sK ha,sK hb] at e;have e2:bin P .andNot t (.int k (a:Int)) (.int k b)=some (.int k (k.wrap ((BitVec.ofInt k.bits (a:Int)&&& ~~~BitVec.ofInt k.bits (b:Int)).toNat:Int))):=by
  simp[bin,cL,eN,pur,binOp,Op.intBits,pure]
 rw[e2,e1,BitVec.toNat_xor,BitVec.toNat_and,sK ha,sK hb,e];rfl
theorem aIw (k k':IntKind)(t:TypeId)(a n:Int)(hn:0<=n):bin P .shl t (.int k a) (.int k' n)=some (.int k (k.wrap (a*2 ^ (min n.toNat k.bits)))):=by
 have: ¬n<0:=U
 simp[bin,cL,eN,pur,binOp,Op.shift,pure,this]
theorem aIx (k k':IntKind)(t:TypeId)(a n:Int)(hn:0<=n):bin P .shr t (.int k a) (.int k' n)=some (.int k (a.fdiv (2 ^ (min n.toNat k.bits)))):=by
 have: ¬n<0:=U
 simp[bin,cL,eN,pur,binOp,Op.shift,pure,this]
theorem Fa (k k':IntKind)(t:TypeId)(a n:Nat)(hn:n<=k.bits):bin P .shr t (.int k a) (.int k' n)=some (.int k ((a>>>n:Nat):Int)):=by
 rw[aIx k k' t _ _ U]
 have h1:min (n:Int).toNat k.bits=n:=by simp[hn]
 rw[h1,Nat.shiftRight_eq_div_pow]
 congr 2
 rw[Int.fdiv_eq_ediv_of_nonneg _ (by exact_mod_cast Nat.zero_le _)]
 norm_cast
theorem E9 (k k':IntKind)(hk:k.signed=false)(t:TypeId)(a n:Nat)(hn:n<=k.bits):bin P .shl t (.int k a) (.int k' n)=some (.int k ((a*2 ^ n%2 ^ k.bits:Nat):Int)):=by
 rw[aIw k k' t _ _ U,Bp k hk]
 have h1:min (n:Int).toNat k.bits=n:=by simp[hn]
 rw[h1]
 norm_cast
def fJ (p:Nat->Bool)(fr n:Nat):Option Nat:=((List.range n).map λk=>(fr+k)%n).find? p
theorem uW {p:Nat->Bool}{fr n i:Nat}(h:fJ p fr n=some i):i<n/\p i=true:=by
 unfold fJ at h;have h1:=List.find?_some h;have h2:=List.mem_of_find?_eq_some h;rw[aUQ] at h2;obtain⟨k,hk,rfl⟩:=h2;rw[aUR] at hk
 exact⟨Nat.mod_lt _ U,h1⟩
theorem Yc {p:Nat->Bool}{fr n:Nat}:fJ p fr n=none↔ ∀i,i<n->p i=false:=by
 unfold fJ;rw[List.find?_eq_none];constructor
 ·intro h i hi
  have:i∈(List.range n).map λk=>(fr+k)%n:=by
   rw[aUQ];refine⟨(i+n-fr%n)%n,aUR.mpr (Nat.mod_lt _ U),?_⟩
   have h1:fr%n<n:=Nat.mod_lt _ U
   rw[Nat.add_mod_mod,<-Nat.mod_add_mod,show fr%n+(i+n-fr%n)=i+n by omega,Nat.add_mod_right,aUL hi]
  simpa using h i this
 ·intro h x hx
  rw[aUQ] at hx;obtain⟨k,hk,rfl⟩:=hx;rw[aUR] at hk;rw[h _ (Nat.mod_lt _ U)]
  simp
theorem Fc {p q:Nat->Bool}{fr n:Nat}(h: ∀i,i<n->p i=q i):fJ p fr n=fJ q fr n:=by
 unfold fJ;have key: ∀l:List Nat,(∀x∈l,x<n)->l.find? p=l.find? q:=by
  intro l;induction l with
  |nil=>intro _;rfl
  |cons x l ih=>
   intro hl;rw[List.find?_cons,List.find?_cons,h x (hl x (aUm ..)),ih λy hy=>hl y (aUu _ hy)]
 refine key _ λx hx=> ?_
 rw[aUQ] at hx;obtain⟨k,hk,rfl⟩:=hx;rw[aUR] at hk;exact Nat.mod_lt _ U
theorem aIE {p:Nat->Bool}{fr n:Nat}(hf:fr<n):fJ p fr n=((List.range n).find? λi=>p i&&decide (fr<=i)).or ((List.range n).find? p):=by
 have e:(List.range n).map (λk=>(fr+k)%n)=(List.range' fr (n-fr))++List.range fr:=by
  apply List.ext_getElem
  ·simp;omega
  ·intro i h1 h2
   simp only[aUr,aUH] at h1;rw[List.getElem_map,List.getElem_range];by_cases hi:i<n-fr
   ·rw[List.getElem_append_left (by simpa using hi),List.getElem_range',aUL U]
    omega
   ·rw[List.getElem_append_right (by simpa using hi),List.getElem_range,List.length_range']
    rw[show fr+i=(i-(n-fr))+n by omega,Nat.add_mod_right,aUL U]
 have e2:List.range n=List.range fr++List.range' fr (n-fr):=by
  apply List.ext_getElem
  ·simp;omega
  ·intro i h1 h2
   rw[List.getElem_range];by_cases hi:i<fr
   ·rw[List.getElem_append_left (by simpa using hi),List.getElem_range]
   ·rw[List.getElem_append_right (by simpa using hi),List.getElem_range',aUH]
    omega
 have k1:(List.range fr).find? (λi=>p i&&decide (fr<=i))=none:=by
  rw[List.find?_eq_none];intro x hx;rw[aUR] at hx;simp;intro _;omega
 have k2:(List.range' fr (n-fr)).find? (λi=>p i&&decide (fr<=i))=(List.range' fr (n-fr)).find? p:=by
  have key: ∀l:List Nat,(∀x∈l,fr<=x)->l.find? (λi=>p i&&decide (fr<=i))=l.find? p:=by
   intro l;induction l with
   |nil=>intro _;rfl
   |cons x l ih=>
    intro hl;rw[List.find?_cons,List.find?_cons,aUX (hl x (aUm ..)),Bool.and_true,ih λy hy=>hl y (aUu _ hy)]
  refine key _ λx hx=> ?_
  rw[List.mem_range'] at hx;obtain⟨i,_,rfl⟩:=hx;omega
 unfold fJ;rw[e,List.find?_append,e2,List.find?_append,List.find?_append,k1,Option.none_or,k2];cases (List.range' fr (n-fr)).find? p with
 |some x=>rfl
 |none=>simp
def lL (req:Nat->Nat->Bool)(m:List Int)(G:List Nat)(n out:Nat):Option Nat:=
 if(out:Int)∈m then none else fJ (λi=>decide (m.getD i 0= -1)&&req i out) (G.getD out 0) n
structure Mat where
 m:List Int
 g:List Nat
 a:List Nat
deriving DecidableEq
def acc (gr:Nat->Option Nat)(n:Nat)(first:Bool)(s:Mat)(i:Nat):Mat:=
 if s.m.getD i 0= -1 then
  match fJ (λk=>gr k==some i) (s.a.getD i 0) n with
  |none=>s
  |some k=>⟨s.m.set i (k:Int),if first=true then s.g.set k ((i+1)%n) else s.g,if first=true then s.a.set i ((k+1)%n) else s.a⟩
 else s
def rnd (req:Nat->Nat->Bool)(n:Nat)(first:Bool)(s:Mat):Mat:=(List.range n).foldl (acc (lL req s.m s.g n) n first) s
def wQ (req:Nat->Nat->Bool)(n:Nat):Nat->Mat->Mat
 |0,s=>s
 |k+1,s=>wQ req n k (rnd req n false s)
def lX (req:Nat->Nat->Bool)(n rounds:Nat)(g a:List Nat):Mat:=wQ req n (rounds-1) (rnd req n true ⟨List.replicate n (-1),g,a⟩)
theorem aIA (gr:Nat->Option Nat)(n:Nat)(first:Bool)(s:Mat)(i:Nat):(acc gr n first s i).m.length=s.m.length/\(acc gr n first s i).g.length=s.g.length/\(acc gr n first s i).a.length=s.a.length:=by
 unfold acc;split
 ·split
  ·exact⟨rfl,rfl,rfl⟩
  ·cases first<;>simp
 ·exact⟨rfl,rfl,rfl⟩
theorem aIC {gr:Nat->Option Nat}{n:Nat}{first:Bool}{s:Mat}{i:Nat}(hi:i<s.m.length)(h:(acc gr n first s i).m=s.m):acc gr n first s i=s:=by
 unfold acc at h⊢;split
 ·rename_i hc
  rw[if_pos hc] at h;split
  ·rfl
  ·rename_i k hk
   rw[hk] at h
   dsimp only at h
   have:(s.m.set i (k:Int)).getD i 0=s.m.getD i 0:=by rw[h]
   rw[hc,aUh,aUj hi,aUG] at this;omega
 ·rfl
theorem Lt {gr:Nat->Option Nat}{n:Nat}{first:Bool}{s:Mat}{i:Nat}(hi:i<s.m.length):acc gr n first s i=s∨(acc gr n first s i).m.getD i 0≠ -1/\s.m.getD i 0= -1:=by
 unfold acc;split
 ·rename_i hc
  split
  ·exact .inl rfl
  ·rename_i k hk
   refine .inr ⟨?_,hc⟩
   dsimp only
   rw[aUh,aUj hi,aUG];omega
 ·exact .inl rfl
theorem aIB {gr:Nat->Option Nat}{n:Nat}{first:Bool}{s:Mat}{i j:Nat}(hj:j≠i):(acc gr n first s i).m.getD j 0=s.m.getD j 0:=by
 unfold acc;split
 ·split
  ·rfl
  ·dsimp only
   rw[aUh,aUe (λh=>hj h.symm),<-aUh]
 ·rfl
theorem Bu {gr:Nat->Option Nat}{n:Nat}{first:Bool}{j:Nat}: ∀(l:List Nat)(s:Mat),j∉l->(l.foldl (acc gr n first) s).m.getD j 0=s.m.getD j 0
 |[],s,_=>rfl
 |i::l,s,h=>by
  rw[List.foldl_cons,Bu l _ λhh=>h (aUu _ hh),aIB λhh=>h (by rw[hh];exact aUm ..)]
theorem Ya {gr:Nat->Option Nat}{n:Nat}{first:Bool}: ∀(l:List Nat)(s:Mat),l.Nodup->(∀i∈l,i<s.m.length)->(l.foldl (acc gr n first) s).m=s.m->l.foldl (acc gr n first) s=s
 |[],s,_,_,_=>rfl
 |i::l,s,hn,hl,h=>by
  rw[List.foldl_cons] at h⊢;have hi:=hl i (aUm ..);rw[List.nodup_cons] at hn;rcases Lt (gr:=gr) (n:=n) (first:=first) (s:=s) hi with h1|⟨h1,h2⟩
  ·rw[h1] at h⊢
   exact Ya l s hn.2 (λj hj=>hl j (aUu _ hj)) h
  ·have h3:=Bu (gr:=gr) (n:=n) (first:=first) (j:=i) l (acc gr n first s i) hn.1
   rw[h] at h3;exact absurd (h3.symm.trans h2) h1
theorem aT7 {req:Nat->Nat->Bool}{n:Nat}{first:Bool}{s:Mat}(hl:n<=s.m.length)(h:(rnd req n first s).m=s.m):rnd req n first s=s:=
 Ya _ _ List.nodup_range (λi hi=>by rw[aUR] at hi;omega) h
theorem aIz {gr:Nat->Option Nat}{n:Nat}{s:Mat}{i:Nat}(f f':Bool):(acc gr n f s i).m=(acc gr n f' s i).m:=by
 unfold acc;split
 ·split<;>rfl
 ·rfl
theorem aID {gr:Nat->Option Nat}{n:Nat}{f:Bool}{s:Mat}{i:Nat}(hi:i<s.m.length)(f':Bool)(h:acc gr n f s i=s):acc gr n f' s i=s:=
 aIC hi ((aIz f' f).trans (by rw[h]))
theorem Yb {gr:Nat->Option Nat}{n:Nat}{f:Bool}(f':Bool): ∀(l:List Nat)(s:Mat),l.Nodup->(∀i∈l,i<s.m.length)->l.foldl (acc gr n f) s=s->l.foldl (acc gr n f') s=s
 |[],s,_,_,_=>rfl
 |i::l,s,hn,hl,h=>by
  rw[List.foldl_cons] at h⊢;have hi:=hl i (aUm ..);rw[List.nodup_cons] at hn;rcases Lt (gr:=gr) (n:=n) (first:=f) (s:=s) hi with h1|⟨h1,h2⟩
  ·rw[h1] at h
   rw[aID hi f' h1];exact Yb f' l s hn.2 (λj hj=>hl j (aUu _ hj)) h
  ·have h3:=Bu (gr:=gr) (n:=n) (first:=f) (j:=i) l (acc gr n f s i) hn.1
   rw[h] at h3;exact absurd (h3.symm.trans h2) h1
theorem aIF {req:Nat->Nat->Bool}{n:Nat}{f:Bool}{s:Mat}(hl:n<=s.m.length)(f':Bool)(h:rnd req n f s=s):rnd req n f' s=s:=
 Yb f' _ _ List.nodup_range (λi hi=>by rw[aUR] at hi;omega) h
structure Whl where
 l:List Int
 fr:Nat
deriving DecidableEq
def lY (may:Nat->Bool)(n:Nat):Bool:=(List.range n).any may
def kC (l:List Int)(may:Nat->Bool)(i:Nat):Bool:=may i&&decide (0<l.getD i 0)
def iP (W:List Int)(s:Whl)(may:Nat->Bool):List Int:=if lY (kC s.l may) W.length=true then s.l else W
def gK (W:List Int)(s:Whl)(may:Nat->Bool):Option Nat×Whl:=
 if lY may W.length=true then
  match fJ (kC (iP W s may) may) s.fr W.length with
  |some i=>(some i,⟨(iP W s may).set i ((iP W s may).getD i 0-1),(i+1)%W.length⟩)
  |none=>(none,s)
 else(none,s)
theorem zI {may:Nat->Bool}{n:Nat}:lY may n=true↔ ∃i,i<n/\may i=true:=by
 simp[lY,List.any_eq_true]
theorem aIG {W:List Int}{s:Whl}{may:Nat->Bool}(hW: ∀x∈W,0<x)(h:lY may W.length=true): ∃i,fJ (kC (iP W s may) may) s.fr W.length=some i/\i<W.length/\may i=true/\0<(iP W s may).getD i 0:=by
 cases hp:fJ (kC (iP W s may) may) s.fr W.length with
 |some i=>
  have h1:=uW hp;have h2:=h1.2;unfold kC at h2;rw[aUl,decide_eq_true_eq] at h2
  exact⟨i,rfl,h1.1,h2.1,h2.2⟩
 |none=>
  rw[Yc] at hp;exfalso;unfold iP at hp;by_cases hc:lY (kC s.l may) W.length=true
  ·rw[if_pos hc] at hp
   obtain⟨i,h1,h2⟩:=zI.mp hc;rw[hp i h1] at h2;cases h2
  ·rw[if_neg hc] at hp
   obtain⟨i,h1,h2⟩:=zI.mp h;have h3:=hp i h1;unfold kC at h3;rw[h2,aUA,decide_eq_false_iff_not,aUh,aUf h1] at h3;exact h3 (hW _ (List.getElem_mem h1))
def cD (p:Nat->Bool):Nat->Nat
 |0=>0
 |n+1=>cD p n+if p n=true then 2 ^ n else 0
theorem Bv (p:Nat->Bool): ∀n,cD p n<2 ^ n
 |0=>by simp[cD]
 |n+1=>by
  have:=Bv p n;rw[cD,Nat.pow_succ]
  split<;>omega
theorem gY (p:Nat->Bool)(i:Nat): ∀n,(cD p n).testBit i=(decide (i<n)&&p i)
 |0=>by simp[cD]
 |n+1=>by
  have hl:=Bv p n;have ih:=gY p i n;rw[cD];by_cases hp:p n=true
  ·rw[if_pos hp,Nat.add_comm]
   by_cases hi:i=n
   ·subst hi
    rw[Nat.testBit_two_pow_add_eq,Nat.testBit_lt_two_pow hl];simp[hp]
   ·by_cases hlt:i<n
    ·rw[Nat.testBit_two_pow_add_gt hlt,ih]
     simp[hlt,show i<n+1 by omega]
    ·rw[Nat.testBit_lt_two_pow]
     ·simp[show¬i<n+1 by omega]
     ·have:2 ^ (n+1)<=2 ^ i:=Nat.pow_le_pow_right U U
      rw[Nat.pow_succ] at this;omega
  ·rw[if_neg hp,Nat.add_zero,ih]
   by_cases hi:i=n
   ·subst hi
    simp[hp]
   ·by_cases hlt:i<n
    ·simp[hlt,show i<n+1 by omega]
    ·simp[hlt,show¬i<n+1 by omega]
theorem Fe {p q:Nat->Bool}: ∀{n:Nat},(∀i,i<n->p i=q i)->cD p n=cD q n
 |0,_=>rfl
 |n+1,h=>by rw[cD,cD,Fe λi hi=>h i U,h n U]
theorem aIK {p:Nat->Bool}{n:Nat}:cD p n=0↔ ∀i,i<n->p i=false:=by
 constructor
 ·intro h i hi
  have:=gY p i n;rw[h] at this;simp[hi] at this;exact this
 ·intro h
  rw[Fe (q:=λ_=>false) h]
  have: ∀n,cD (λ_=>false) n=0:=by
   intro n;induction n with
   |zero=>rfl
   |succ n ih=>simp[cD,ih]
  exact this n
theorem Ye (m i j:Nat):(m|||2 ^ i).testBit j=(m.testBit j||decide (i=j)):=by rw[Nat.testBit_or,Nat.testBit_two_pow]
theorem Ff {i:Nat}(hi:i<16):2 ^ i<65536:=Nat.pow_lt_pow_right (a:=2) (m:=i) (n:=16) U hi
def pT (m fr n:Int):Int:=
 if n<1∨16<n∨fr<0∨n<=fr then -1 else match fJ (λi=>m.toNat.testBit i) fr.toNat n.toNat with
  |some i=>(i:Int)
  |none=> -1
def sM (args:List Value)(H:aF):Option (Value×aF):=
 match args with
 |[.int .u16 m,.int .i64 fr,.int .i64 n]=>if 0<=m/\m<65536 then some (.int .i64 (pT m fr n),H) else none
 |_=>none
theorem aII (args:List Value):FrM (sM args):=λD H hs v D' h=>by
 unfold sM at h⊢
 split at h
 ·split at h
  ·rename_i hc
   rw[if_pos hc];exact jK hs h
  ·cases h
 ·cases h
theorem Lu {m fr n:Nat}(hm:m<65536)(hn:n<=16)(hf:fr<n)(H:aF):
  sM [.int .u16 m,.int .i64 fr,.int .i64 n] H=some (.int .i64 (match fJ (λi=>m.testBit i) fr n with|some i=>(i:Int)|none=> -1),H):=by
 unfold sM;simp only;rw[if_pos U]
 unfold pT;rw[if_neg U]
 simp only[aUF]
def uX:List Value->Option (List Nat)
 |[]=>some []
 | .int .u16 z::vs=>if 0<=z/\z<65536 then(uX vs).map (z.toNat:: ·) else none
 |_=>none
theorem Yf: ∀zs:List Nat,(∀z∈zs,z<65536)->uX (zs.map λz:Nat=>Value.int .u16 (z:Int))=some zs
 |[],_=>rfl
 |z::zs,h=>by
  have h1:=h z (aUm ..);rw[aUI,uX,if_pos U,Yf zs λy hy=>h y (aUu _ hy)]
  simp
theorem Yg: ∀(vs:List Value)(zs:List Nat),uX vs=some zs->vs=zs.map (λz:Nat=>Value.int .u16 (z:Int))/\ ∀z∈zs,z<65536
 |[],zs,h=>by
  simp only[uX,aUE] at h;subst h
  exact⟨rfl,by simp⟩
 |v::vs,zs,h=>by
  unfold uX at h
  split at h
  ·cases ‹_=[]›
  ·rename_i z vs' he
   cases he
   split at h
   ·rename_i hc
    cases hv:uX vs with
    |none=>rw[hv] at h;cases h
    |some ys=>
     rw[hv] at h;simp only[Option.map_some,aUE] at h;subst h;obtain⟨h1,h2⟩:=Yg vs ys hv;have e:((z.toNat:Nat):Int)=z:=Int.toNat_of_nonneg hc.1;refine⟨by rw[aUI,e,<-h1],λy hy=> ?_⟩
     rcases aUw.mp hy with rfl|hy
     ·omega
     ·exact h2 y hy
   ·cases h
  ·cases h
def fK (rows:List Nat)(n:Nat):List Nat:=(List.range n).map λk=>cD (λi=>(rows.getD i 0).testBit k) rows.length
theorem aIH (rows:List Nat)(n:Nat):(fK rows n).length=n:=by simp[fK]
def tM (t:TypeId)(args:List Value)(H:aF):Option (Value×aF):=
 match args with
 |[.slice (some ⟨b,o,none⟩) len cap,.int .i64 n]=>
  if 1<=n/\n<=16/\1<=len/\len<=16 then
   match H[b]? with
   |some (.cells cs e k)=>
    if o+len<=cs.length then
     match uX ((cs.drop o).take len) with
     |some rows=>some (.slice (some ⟨H.length,0,none⟩) n.toNat n.toNat,H++[.cells ((fK rows n.toNat).map λz:Nat=> .int .u16 (z:Int)) t .row])
     |none=>none
    else none
   |_=>none
  else none
 |_=>none
theorem aIJ (t:TypeId)(args:List Value):FrM (tM t args):=λD H hs v D' h=>by
 unfold tM at h⊢
 split at h
 ·rename_i b o len cap n
  try dsimp only
  split at h
  ·rename_i hc
   rw[if_pos hc]
   split at h
   ·rename_i cs e k hb
    rw[hs.r8 hb]
    try dsimp only
    split at h
    ·rename_i hc2
     rw[if_pos hc2]
     split at h
     ·rename_i rows hr
      try rw[hr]
      rw[<-hs.1];exact Eu hs h
     ·cases h
    ·cases h
   ·cases h
  ·cases h
 ·cases h
def oV (g:FuncId)(p:List Value->aF->Option (Value×aF))(pr:eK):eK:=λf=>match f with
 | .func k=>if k=g then some p else pr (.func k)
 |_=>none
theorem Yh {g:FuncId}{p:List Value->aF->Option (Value×aF)}{pr:eK}:oV g p pr (.func g)=some p:=by simp[oV]
theorem Bw {g k:FuncId}{p:List Value->aF->Option (Value×aF)}{pr:eK}(h:(k==g)=false):oV g p pr (.func k)=pr (.func k):=by
 have:k≠g:=by simpa using h
 simp[oV,this]
theorem Yd {g:FuncId}{p:List Value->aF->Option (Value×aF)}{pr:eK}(hp: ∀args,FrM (p args))(hpr:FrP pr):FrP (oV g p pr):=λf q hf args=>by
 unfold oV at hf
 split at hf
 ·split at hf
  ·cases hf
   exact hp args
  ·exact hpr _ q hf args
 ·cases hf
end Go.Abs
namespace Go.Proofs.YtciiopkbmjppfaaGreatDoor
open Go.Proofs.Tryz
open Go Go.RowKit Go.Shelf
attribute [local go_sem] Oper.semAt_some
theorem aIL {a b:Nat}(ha:a<65536):Abs.iF a b<65536:=by
 unfold Abs.iF;exact Nat.xor_lt_two_pow (n:=16) ha (Nat.lt_of_le_of_lt Nat.and_le_left ha)
theorem aIM (a b:Nat)(ha:a<65536)(hb:b<65536):bits .andNot .u16 (a:Int) (b:Int)=((Abs.iF a b:Nat):Int):=by
 have h:=Abs.X7 (P:=prog) .u16 rfl 0 (a:=a) (b:=b) ha hb;have e2:Abs.bin prog .andNot 0 (.int .u16 (a:Int)) (.int .u16 b)=some (.int .u16 (bits .andNot .u16 (a:Int) (b:Int))):=by
  simp[Abs.bin,Abs.cL,Abs.eN,Abs.pur,binOp,Op.intBits,pure,bits]
 rw[e2] at h;injection h with h;injection h with _ h
def PkI (N:Nat)(w:World)(D:Option Nat)(W:World):Prop:=W.cell? ⟨N,0,none⟩=some (.I 0)/\W.frozen? ⟨N,0,none⟩=false/\Below N w W/\ ∀d,D=some d->W.heap[d]? =some (.deferred (some []))
def PkX (N:Nat)(w:World)(D:Option Nat)(c:Code)(pre:List Nat)(W:World):Prop:=c= .ret/\(∃k:Nat,pre=[k]/\W.cell? ⟨N,0,none⟩=some (.I k))/\W.frozen? ⟨N,0,none⟩=false/\Below N w W/\ ∀d,D=some d->W.heap[d]? =some (.deferred (some []))
theorem Ym {N:Nat}{w:World}{D:Option Nat}{B:Nat}(hN:N<=w.heap.size)(hB:N<B)(hD: ∀d,D=some d->d<B):OwnFrom B (λ(pre:List Nat) W=>pre=[]/\PkI N w D W):=by
 rintro s A C row ⟨h0,h1,h2,h3,h4⟩ hg hr
 refine⟨h0,cell_kept h1 hg λr e=>(hr r e).2,(frozen_kept h1 hg λr e=>(hr r e).2).trans h2,h3.grown hg (aUt hN h3.size) (λk e=>aUt U (hr k e).1),λd hd=> ?_⟩
 have:=h4 d hd
 exact(hg.block d (aUC.1 this).1 (λe=>by have:=(hr d e.symm).1;have:=hD d hd;omega)).trans this
theorem Yn {N:Nat}{w:World}{D:Option Nat}{B:Nat}{c:Code}(hN:N<=w.heap.size)(hB:N<B)(hD: ∀d,D=some d->d<B):OwnFrom B (PkX N w D c):=by
 rintro s A C row ⟨h0,⟨k,hk,h1⟩,h2,h3,h4⟩ hg hr
 refine⟨h0,⟨k,hk,cell_kept h1 hg λr e=>(hr r e).2⟩,(frozen_kept h1 hg λr e=>(hr r e).2).trans h2,h3.grown hg (aUt hN h3.size) (λk e=>aUt U (hr k e).1),λd hd=> ?_⟩
 have:=h4 d hd
 exact(hg.block d (aUC.1 this).1 (λe=>by have:=(hr d e.symm).1;have:=hD d hd;omega)).trans this
theorem PkI.Yi {N:Nat}{w:World}{D:Option Nat}{W:World}{B:Nat}(v:Value)(hB:N<B)(h:PkI N w D W):PkI N w D (W.setCell ⟨B,0,none⟩ v):=by
 obtain⟨h1,h2,h3,h4⟩:=h;refine⟨(World.cell?_setCell_other _ _ _ _ (λe=>by injection e with e;omega)).trans h1,(World.frozen?_setCell _ _ _ _).trans h2,h3.setCell (p:=⟨B,0,none⟩) (by show N<=B;omega) _,λd hd=>(KeepsOthers.setCell W ⟨B,0,none⟩ v).same d _ (h4 d hd) rfl⟩
theorem PkI.Yj {N:Nat}{w:World}{D:Option Nat}{W:World}{k:Nat}(h:PkI N w D W):PkX N w D .ret [k] (W.setCell ⟨N,0,none⟩ (.I k)):=by
 obtain⟨h1,h2,h3,h4⟩:=h;refine⟨rfl,⟨k,rfl,World.cell?_setCell_same' _ _ _ (by rw[h1];rfl)⟩,(World.frozen?_setCell _ _ _ _).trans h2,h3.setCell (p:=⟨N,0,none⟩) (aUi _) _,λd hd=>(KeepsOthers.setCell W ⟨N,0,none⟩ _).same d _ (h4 d hd) rfl⟩
theorem Yk {p q:Nat->Bool}{n:Nat}(h: ∀i,i<n->p i=q i):(List.range n).find? p=(List.range n).find? q:=by
 cases hq:(List.range n).find? q with
 |none=>
  rw[List.find?_eq_none] at hq⊢;intro k hk;rw[h k (aUR.mp hk)];exact hq k hk
 |some k=>
  rw[List.find?_range_eq_some] at hq⊢;obtain⟨h1,h2,h3⟩:=hq;have hk:=aUR.mp h2
  exact⟨(h k hk).trans h1,h2,λj hj=>by rw[h j U];exact h3 j hj⟩
theorem aIP (m fr nn:Nat)(hm:m<65536): ∃A:Nat,A<65536/\A<2 ^ nn/\bits BinOp.andNot IntKind.u16 ((eO m nn:Nat):Int) ((eO (eO m nn) fr:Nat):Int)=(A:Int)/\
  (List.range nn).find? A.testBit=(List.range nn).find? (λi=>m.testBit i&&decide (fr<=i)):=by
 have hl:eO m nn<65536:=Bi hm;refine⟨Abs.iF (eO m nn) (eO (eO m nn) fr),aIL hl,?_,aIM _ _ hl (Bi hl),Yk λi hi=> ?_⟩
 ·have:=Xc m nn
  unfold Abs.iF;exact Nat.xor_lt_two_pow this (Nat.lt_of_le_of_lt Nat.and_le_left this)
 ·rw[Abs.Lq,zC,zC,zC]
  by_cases h:i<fr
  ·simp[h,show¬fr<=i by omega,hi]
  ·simp[h,show fr<=i by omega,hi]
theorem aIN (m fr nn:Nat)(hn0:nn<=16)(hfr:fr<nn):Abs.pT m fr nn=match ((List.range nn).find? (λi=>m.testBit i&&decide (fr<=i))).or ((List.range nn).find? m.testBit) with
  |some i=>(i:Int)
  |none=> -1:=by
 unfold Abs.pT;simp only[aUF];rw[if_neg U,Abs.aIE hfr]
 try rfl
theorem Yl (m nn:Nat):(List.range nn).find? (eO m nn).testBit=(List.range nn).find? m.testBit:=Yk λi hi=>by rw[zC];simp[hi]
set_option maxRecDepth 100000 in
set_option maxHeartbeats 4000000 in
theorem aIO (m fr nn:Nat)(hm:m<65536)(hn0:nn<=16)(hfr:fr<nn)(w:World)(hT:TabC w):
  CallsIn Fence.wide 6 prog 129 #[.int .u16 m,.I fr,.I nn] w λe W=>e= .returned (.I (Abs.pT m fr nn))/\Below w.heap.size w W:=by
 have hpos:=hT.K5;have hpk:=aIN m fr nn hn0 hfr;refine callsIn_of_wp_marks Tryz.func129 rfl trivial ?_ rfl;simp only[Tryz.ntmps129,List.size_toArray,aUz,List.length_nil,Nat.reduceAdd,Nat.reduceSub,Array.replicate_succ,Array.replicate_zero,List.push_toArray,List.append_toArray,List.nil_append,List.cons_append];have c1:decide ((nn:Int)<1)=false:=by simp;omega
 have c2:decide ((16:Int)<nn)=false:=by simp;omega
 have c3:decide ((fr:Int)<0)=false:=by simp
 have c4:decide ((nn:Int)<=fr)=false:=by simp;omega
 have hl:eO m nn<65536:=Bi hm;have hl2:eO (eO m nn) fr<65536:=Bi hl;have hfr16:fr<=16:=U
 obtain⟨A,hA,hAn,hval,hfd⟩:=aIP m fr nn hm
 gi_wp2_with (refine⟨trivial,?_⟩;first|(gi_at_call 152;refine(callsIn_wide.2 (W8 _ _ (by assumption) (by assumption) _)).mono ?_;rintro e w' ⟨rfl,rfl⟩)|(gi_at_call 151;refine(callsIn_wide.2 (K6 _ (by assumption) _)).mono ?_;rintro e w' ⟨rfl,rfl⟩))
 have hB0:Below w.heap.size w ((w.alloc (.cells #[.I 0] 3)).alloc (.cells #[.int .u16 A] 23)):=((Below.refl _ w).alloc (aUi _) _).alloc (by simp) _
 have r0:=wG w (.I 0) 3;have b0:=wG (w.alloc (.cells #[.I 0] 3)) (.int .u16 A) 23;rw[World.size_alloc] at b0;refine K3 33 7 U (w.heap.size+1) A rfl hA (by simp) U b0.1 b0.2
  (λpre W=>pre=[]/\PkI w.heap.size w none W) (PkX w.heap.size w none)
  (Ym (aUi _) (by simp;omega) (λd e=>by cases e)) (λc=>Yn (aUi _) (by simp;omega) (λd e=>by cases e))
  (λpre W v h=>⟨h.1,h.2.Yi v U⟩) (λpre W h=>hT.K4 hpos h.2.2.2.1)
  ⟨rfl,zB _ r0.1,Ep _ r0.1 r0.2,hB0,λd e=>by cases e⟩ ?assign ?body ?done ?stop
 case assign=>
  intro l k W K hK;simp only[List.setIfInBounds_toArray,List.set_cons_succ,List.set_cons_zero] at hK⊢;gi_wp2;exact hK
 case body=>
  rintro l pre k post W hb ⟨rfl,hPk⟩
  have hc:=hPk.1;have hf:=hPk.2.1;simp only[List.setIfInBounds_toArray,List.set_cons_succ,List.set_cons_zero];gi_wp2
  exact⟨W7 _ _ _ _,hPk.Yj⟩
 case stop=>
  rintro D c pre k post W hD hb ⟨rfl,⟨k',hk',hc⟩,hf,hB,_⟩ hK
  obtain⟨rfl,rfl⟩:pre=[]/\k=k':=by
   cases pre with
   |nil=>cases hk';exact⟨rfl,rfl⟩
   |cons a l=>cases l<;>cases hk'
  have hfk:=W9 hA hAn hb;have hv:Abs.pT m fr nn=(k:Int):=by rw[hpk,<-hfd,hfk];rfl
  gi_wp2;refine⟨by simp,.inl ⟨_,_,rfl,run_takeDeferred hK,?_⟩⟩
  have hc5:=cell_kept hc (grownBy_putObj' _ D (.deferred none)) (λr e=>by cases e;exact⟨_,hK,rfl⟩)
  refine⟨.I k,?_,by rw[hv],hB.trans (belowK_b (w:=w) (aUi _) W D _ _ (by simp at hD;omega) hK rfl rfl)⟩
  simp[results,Tryz.f129,go_sem,hc5]
 case done=>
  rintro D W hD ⟨hnil,hPk⟩ hK
  have hfn:=Xa (n:=nn) hA hnil
  gi_wp2_with (refine⟨trivial,?_⟩;gi_at_call 151;refine(callsIn_wide.2 (K6 _ (by assumption) _)).mono ?_;rintro e w' ⟨rfl,rfl⟩)
  obtain⟨q1,q2,q3,_⟩:=hPk;have hsz:w.heap.size+2<=D:=by simpa using hD
  have hDW:D<W.heap.size:=(aUC.1 hK).1;have b1:=wG W (.int .u16 (eO m nn:Nat)) 23;refine K3 37 8 U W.heap.size (eO m nn) rfl hl (by simp) U b1.1 b1.2
   (λpre W'=>pre=[]/\PkI w.heap.size w (some D) W') (PkX w.heap.size w (some D))
   (Ym (aUi _) (by simp;omega) (λd e=>by cases e;simp;omega)) (λc=>Yn (aUi _) (by simp;omega) (λd e=>by cases e;simp;omega))
   (λpre W v h=>⟨h.1,h.2.Yi v U⟩) (λpre W h=>hT.K4 hpos h.2.2.2.1)
   ⟨rfl,zB _ q1,Ep _ q1 q2,q3.alloc U _,λd e=>by cases e;exact(Below.heap_alloc _ _ _ hDW).trans hK⟩ ?assign2 ?body2 ?done2 ?stop2
  case assign2=>
   intro l k W K hK;simp only[List.setIfInBounds_toArray,List.set_cons_succ,List.set_cons_zero] at hK⊢;gi_wp2;exact hK
  case body2=>
   rintro l pre k post W hb ⟨rfl,hPk⟩
   have hc:=hPk.1;have hf:=hPk.2.1;simp only[List.setIfInBounds_toArray,List.set_cons_succ,List.set_cons_zero];gi_wp2
   exact⟨W7 _ _ _ _,hPk.Yj⟩
  case stop2=>
   rintro D2 c pre k post W2 hD2 hb ⟨rfl,⟨k',hk',hc⟩,hf,hB,hKD⟩ hK2
   obtain⟨rfl,rfl⟩:pre=[]/\k=k':=by
    cases pre with
    |nil=>cases hk';exact⟨rfl,rfl⟩
    |cons a l=>cases l<;>cases hk'
   have hfk:=W9 hl (Xc m nn) hb;have hv:Abs.pT m fr nn=(k:Int):=by rw[hpk,<-hfd,hfn,<-Yl,hfk];rfl
   have hsz2:W.heap.size+1<=D2:=by simpa using hD2
   gi_wp2;have hKD1:(W2.putObj D2 (.deferred none)).heap[D]? =some (.deferred (some [])):=(World.putObj_heap_other U).trans (hKD D rfl)
   refine⟨by simp,.inl ⟨_,_,rfl,run_takeDeferred hK2,by simp,.inl ⟨_,_,rfl,run_takeDeferred hKD1,?_⟩⟩⟩
   have hc5:=cell_kept (cell_kept hc (grownBy_putObj' _ D2 (.deferred none)) (λr e=>by cases e;exact⟨_,hK2,rfl⟩)) (grownBy_putObj' _ D (.deferred none)) (λr e=>by cases e;exact⟨_,hKD1,rfl⟩)
   refine⟨.I k,?_,by rw[hv],(hB.trans (belowK_b (w:=w) (aUi _) W2 D2 _ _ U hK2 rfl rfl)).trans (belowK_b (w:=w) (aUi _) _ D _ _ U hKD1 rfl rfl)⟩
   simp[results,Tryz.f129,go_sem,hc5]
  case done2=>
   rintro D2 W2 hD2 ⟨hnil2,hc,hf,hB,hKD⟩ hK2
   have hfn2:=Xa (n:=nn) hl hnil2;have hv:Abs.pT m fr nn= -1:=by rw[hpk,<-hfd,hfn,<-Yl,hfn2];rfl
   have hsz2:W.heap.size+1<=D2:=by simpa using hD2
   gi_wp2;have hko:=KeepsOthers.setCell W2 ⟨w.heap.size,0,none⟩ (.I (-1));have hK2':=hko.same D2 _ hK2 rfl;have hKD1:((W2.setCell ⟨w.heap.size,0,none⟩ (.I (-1))).putObj D2 (.deferred none)).heap[D]? =some (.deferred (some [])):=(World.putObj_heap_other U).trans (hko.same D _ (hKD D rfl) rfl)
   refine⟨by simp,.inl ⟨_,_,rfl,run_takeDeferred hK2',by simp,.inl ⟨_,_,rfl,run_takeDeferred hKD1,?_⟩⟩⟩
   have hc5:=cell_kept (cell_kept (World.cell?_setCell_same' W2 ⟨w.heap.size,0,none⟩ (.I (-1)) (by rw[hc];rfl)) (grownBy_putObj' _ D2 (.deferred none)) (λr e=>by cases e;exact⟨_,hK2',rfl⟩)) (grownBy_putObj' _ D (.deferred none)) (λr e=>by cases e;exact⟨_,hKD1,rfl⟩)
   refine⟨.I (-1),?_,by rw[hv],((hB.setCell (p:=⟨w.heap.size,0,none⟩) (aUi _) _).trans (belowK_b (w:=w) (aUi _) _ D2 _ _ U hK2' rfl rfl)).trans (belowK_b (w:=w) (aUi _) _ D _ _ U hKD1 rfl rfl)⟩
   simp[results,Tryz.f129,go_sem,hc5]
attribute [local go_sem] Oper.semAt_some
set_option maxRecDepth 100000 in
set_option maxHeartbeats 4000000 in
theorem aIR (m fr nn:Int)(h:nn<1∨16<nn∨fr<0∨nn<=fr)(w:World):
  Calls prog 129 #[.int .u16 m,.I fr,.I nn] w λe W=>e= .returned (.I (Abs.pT m fr nn))/\Below w.heap.size w W:=by
 have hv:Abs.pT m fr nn= -1:=by
  unfold Abs.pT;rw[if_pos h]
 have hc5:=(wG w (.I (-1)) 3).1;have hBe:=(Below.refl _ w).alloc (aUi _) (.cells #[.I (-1)] 3);by_cases c1:nn<1
 ·have d1:decide (nn<1)=true:=by simp[c1]
  go_enter Tryz.func129,Tryz.ntmps129
  go_wp2
  refine⟨rfl,.I (-1),?_,by first|rfl|rw[hv],hBe⟩
  simp[results,Tryz.f129,go_sem,hc5]
 ·have d1:decide (nn<1)=false:=by simp;omega
  by_cases c2:16<nn
  ·have d2:decide ((16:Int)<nn)=true:=by simp[c2]
   go_enter Tryz.func129,Tryz.ntmps129
   go_wp2
   refine⟨rfl,.I (-1),?_,by first|rfl|rw[hv],hBe⟩
   simp[results,Tryz.f129,go_sem,hc5]
  ·have d2:decide ((16:Int)<nn)=false:=by simp;omega
   by_cases c3:fr<0
   ·have d3:decide (fr<0)=true:=by simp[c3]
    go_enter Tryz.func129,Tryz.ntmps129
    go_wp2
    refine⟨rfl,.I (-1),?_,by first|rfl|rw[hv],hBe⟩
    simp[results,Tryz.f129,go_sem,hc5]
   ·have d3:decide (fr<0)=false:=by simp;omega
    have c4:nn<=fr:=U
    have d4:decide (nn<=fr)=true:=by simp[c4]
    go_enter Tryz.func129,Tryz.ntmps129
    go_wp2
    refine⟨rfl,.I (-1),?_,by first|rfl|rw[hv],hBe⟩
    simp[results,Tryz.f129,go_sem,hc5]
theorem aIQ (m fr nn:Int)(h0:0<=m)(h1:m<65536)(w:World)(hT:TabC w):
  Calls prog 129 #[.int .u16 m,.I fr,.I nn] w λe W=>e= .returned (.I (Abs.pT m fr nn))/\Below w.heap.size w W:=by
 by_cases h:nn<1∨16<nn∨fr<0∨nn<=fr
 ·exact aIR m fr nn h w
 ·obtain⟨m',rfl⟩: ∃m':Nat,m=m':=⟨m.toNat,by omega⟩
  obtain⟨f',rfl⟩: ∃f':Nat,fr=f':=⟨fr.toNat,by omega⟩
  obtain⟨n',rfl⟩: ∃n':Nat,nn=n':=⟨nn.toNat,by omega⟩
  exact(callsIn_wide (n:=6)).1 (aIO m' f' n' U U U w hT)
attribute [local go_sem] Oper.semAt_some
def Bx:Code->Option Code
 | .loop c=>some c
 | .seq a b=>(Bx a).or (Bx b)
 | .block _ c=>Bx c
 |_=>none
def fP (F:Nat->Nat)(n:Nat):Array Value:=((List.range n).map λk=>Value.int .u16 (F k:Nat)).toArray
theorem Yo (F:Nat->Nat)(n:Nat):(fP F n).size=n:=by simp[fP]
theorem aIY:(prog.info? 23).map (λi=>(i.zero,i.size,i.bytes))=some (some (.int .u16 0),1,2):=by kernel_rfl
theorem aIZ (n:Nat):madeCells (Value.int .u16 0).cells (n*1)=fP (λ_=>0) n:=by
 unfold madeCells fP;apply Array.ext
 ·simp
 ·intro i h1 h2
  simp[Value.cells,Nat.mod_one]
theorem aI0 (w:World)(n:Nat)(hn:n<=16):(Instr.makeSlice 162 (.I (n:Nat)) (.I (n:Nat))).run prog w= .ok (.slice (some ⟨w.heap.size,0,none⟩) n n) (w.alloc (.cells (fP (λ_=>0) n) 23)):=by
 obtain⟨i0,hi,hz0,hz1,hz2⟩:=info_parts aIY;have h:=run_make (P:=prog) w 162 23 i0 _ (by kernel_rfl) hi hz0 .i64 .i64 n n U U (by rw[hz2];omega) U
 rw[hz1,aUF,aIZ] at h;exact h
def Lv (Ds:List Nat):List Deferred:=Ds.map λD=>{target:= .collected D,args:= #[]}
structure TS (R:List Nat)(nn:Nat)(w:World)(r:Nat)(Ds:List Nat)(W:World):Prop where
 below:Below w.heap.size w W
 row:W.heap[w.heap.size]? =some (.cells (fP (λk=>Abs.cD (λi=>(R.getD i 0).testBit k) r) nn) 23 (0,0))
 box:W.cell? ⟨w.heap.size+1,0,none⟩=some (.slice (some ⟨w.heap.size,0,none⟩) nn nn)
 mks:Ds.Pairwise (· ≠ ·)/\ ∀D∈Ds,w.heap.size+2<=D/\W.heap[D]? =some (.deferred (some []))
theorem aI2 (F:Nat->Nat)(n k:Nat)(hk:k<n):(fP F n)[k]? =some (.int .u16 (F k:Nat)):=by
 unfold fP;simp[hk]
theorem aI4 {W:World}{b:Nat}{F:Nat->Nat}{n t k:Nat}(h:W.heap[b]? =some (.cells (fP F n) t (0,0)))(hk:k<n):W.cell? ⟨b,k,none⟩=some (.int .u16 (F k:Nat)):=by
 unfold World.cell?;rw[h];exact aI2 F n k hk
theorem aI5 {W:World}{b:Nat}{F:Nat->Nat}{n t k:Nat}(h:W.heap[b]? =some (.cells (fP F n) t (0,0))):W.frozen? ⟨b,k,none⟩=false:=by
 unfold World.frozen?;rw[h];simp
theorem aI6 {W:World}{b:Nat}{F:Nat->Nat}{n t k v:Nat}(h:W.heap[b]? =some (.cells (fP F n) t (0,0))):
  (W.setCell ⟨b,k,none⟩ (.int .u16 (v:Nat))).heap[b]? =some (.cells (fP (λj=>if j=k then v else F j) n) t (0,0)):=by
 unfold World.setCell;simp only[Array.getElem?_modify,if_true,h,Option.map_some]
 congr 2
 apply Array.ext
 ·simp[Yo]
 ·intro j h1 h2
  simp only[fP,Option.isSome_none,Bool.false_eq_true,if_false,List.setIfInBounds_toArray,List.getElem_toArray,List.getElem_set,List.getElem_map,List.getElem_range];by_cases hj:j=k
  ·subst hj
   simp
  ·rw[if_neg hj,if_neg (Ne.symm hj)]
theorem zJ {W:World}{p:Addr}{v:Value}{b:Nat}(h:b≠p.block):(W.setCell p v).heap[b]? =W.heap[b]? :=by
 unfold World.setCell;simp only[Array.getElem?_modify];rw[if_neg (Ne.symm h)]
structure TI (nn:Nat)(w:World)(base:Nat->Nat)(r BI:Nat)(Ds:List Nat)(pre:List Nat)(W:World):Prop where
 below:Below w.heap.size w W
 row:W.heap[w.heap.size]? =some (.cells (fP (λk=>if k∈pre then base k|||2 ^ r else base k) nn) 23 (0,0))
 box:W.cell? ⟨w.heap.size+1,0,none⟩=some (.slice (some ⟨w.heap.size,0,none⟩) nn nn)
 bi:W.cell? ⟨BI,0,none⟩=some (.I (r:Nat))
 mks: ∀D∈Ds,W.heap[D]? =some (.deferred (some []))
theorem aI7 {nn:Nat}{w:World}{base:Nat->Nat}{r BI:Nat}{Ds:List Nat}{B:Nat}(h1:w.heap.size+1<B)(h2:BI<B)(h3: ∀D∈Ds,D<B):OwnFrom B (TI nn w base r BI Ds):=by
 rintro s A C row ⟨a1,a2,a3,a4,a5⟩ hg hr
 have kp: ∀b,b<A.heap.size->b<B->C.heap[b]? =A.heap[b]? :=λb hb hbB=>hg.block b hb (λe=>by have:=(hr b e.symm).1;omega)
 have lt: ∀{b:Nat}{x:Value},A.cell? ⟨b,0,none⟩=some x->b<A.heap.size:=λ{b x} h=>by
  unfold World.cell? at h
  split at h
  ·rename_i h1
   exact(aUC.mp h1).1
  ·cases h
 refine⟨a1.grown hg (aUt (aUi _) a1.size) (λk e=>aUt U (hr k e).1),?_,?_,?_,λD hD=> ?_⟩
 ·exact(kp _ (aUC.mp a2).1 U).trans a2
 ·exact(World.cell?_of_block (kp _ (lt a3) (by show w.heap.size+1<B;omega))).trans a3
 ·exact(World.cell?_of_block (kp _ (lt a4) h2)).trans a4
 ·exact(kp _ (aUC.mp (a5 D hD)).1 (h3 D hD)).trans (a5 D hD)
theorem TI.aIT {nn:Nat}{w:World}{base:Nat->Nat}{r BI:Nat}{Ds:List Nat}{pre:List Nat}{W:World}{B:Nat}(v:Value)(h1:w.heap.size+1<B)(h2:BI≠B)(h:TI nn w base r BI Ds pre W):
  TI nn w base r BI Ds pre (W.setCell ⟨B,0,none⟩ v):=by
 obtain⟨a1,a2,a3,a4,a5⟩:=h
 exact⟨a1.setCell (p:=⟨B,0,none⟩) (by show w.heap.size<=B;omega) _,(zJ (by show w.heap.size≠B;omega)).trans a2,
  (World.cell?_of_block (zJ (by show w.heap.size+1≠B;omega))).trans a3,(World.cell?_of_block (zJ h2)).trans a4,λD hD=>(KeepsOthers.setCell W ⟨B,0,none⟩ v).same D _ (a5 D hD) rfl⟩
theorem TI.aIU {nn:Nat}{w:World}{base:Nat->Nat}{r BI:Nat}{Ds:List Nat}{pre:List Nat}{W:World}{k:Nat}(h2:BI≠w.heap.size)(h:TI nn w base r BI Ds pre W):
  TI nn w base r BI Ds (pre++[k]) (W.setCell ⟨w.heap.size,k,none⟩ (.int .u16 (((if k∈pre then base k|||2 ^ r else base k)|||2 ^ r:Nat)))):=by
 obtain⟨a1,a2,a3,a4,a5⟩:=h;refine⟨a1.setCell (p:=⟨w.heap.size,k,none⟩) (aUi _) _,?_,
  (World.cell?_of_block (zJ (by show w.heap.size+1≠w.heap.size;omega))).trans a3,(World.cell?_of_block (zJ h2)).trans a4,λD hD=>(KeepsOthers.setCell W ⟨w.heap.size,k,none⟩ _).same D _ (a5 D hD) rfl⟩
 rw[aI6 a2]
 congr 3
 funext j
 by_cases hj:j=k
 ·subst hj
  have hm:j∈pre++[j]:=by simp
  rw[if_pos rfl,if_pos hm];split
  ·rw[Nat.or_assoc,Nat.or_self]
  ·rfl
 ·rw[if_neg hj]
  simp[hj]
theorem aIW (a b:Nat)(ha:a<65536)(hb:b<65536):bits .or .u16 (a:Int) (b:Int)=((a|||b:Nat):Int):=by
 have h:=Abs.Lr (P:=prog) .u16 rfl 0 (a:=a) (b:=b) ha hb;have e2:Abs.bin prog .or 0 (.int .u16 (a:Int)) (.int .u16 b)=some (.int .u16 (bits .or .u16 (a:Int) (b:Int))):=by
  simp[Abs.bin,Abs.cL,Abs.eN,Abs.pur,binOp,Op.intBits,pure,bits]
 rw[e2] at h;injection h with h;injection h with _ h
theorem aI9 (r:Nat)(hr:r<=15):IntKind.u16.wrap ((2:Int) ^ r)=((2 ^ r:Nat):Int):=by
 have: ∀r:Nat,r<=15->IntKind.u16.wrap ((2:Int) ^ r)=((2 ^ r:Nat):Int):=by decide+kernel
 exact this r hr
theorem aI1 {a r:Nat}(h:a<2 ^ r):a|||2 ^ r=a+2 ^ r:=by
 apply Nat.eq_of_testBit_eq;intro i;rw[Nat.testBit_or,Nat.testBit_two_pow,Nat.add_comm];by_cases hi:r=i
 ·subst hi
  rw[Nat.testBit_two_pow_add_eq,Nat.testBit_lt_two_pow h];simp
 ·by_cases hlt:i<r
  ·rw[Nat.testBit_two_pow_add_gt hlt]
   simp[hi]
  ·have:2 ^ (r+1)<=2 ^ i:=Nat.pow_le_pow_right U U
   rw[Nat.pow_succ] at this;rw[Nat.testBit_lt_two_pow U,Nat.testBit_lt_two_pow (show 2 ^ r+a<2 ^ i by omega)]
   simp[hi]
theorem aIX (R:List Nat)(nn r m:Nat)(hm:R.getD r 0=m)(hm16:eO m nn<65536):
  fP (λk=>if k∈eX (eO m nn) (eO m nn) then Abs.cD (λi=>(R.getD i 0).testBit k) r|||2 ^ r else Abs.cD (λi=>(R.getD i 0).testBit k) r) nn=
   fP (λk=>Abs.cD (λi=>(R.getD i 0).testBit k) (r+1)) nn:=by
 unfold fP
 congr 1
 apply List.map_congr_left;intro k hk;have hk:=aUR.mp hk
 congr 2
 have hb:k∈eX (eO m nn) (eO m nn)↔m.testBit k=true:=by
  rw[Er _ _ (aUi _) hm16,zC];simp[hk]
 show(if k∈eX (eO m nn) (eO m nn) then _ else _)=Abs.cD _ (r+1)
 rw[Abs.cD,hm];by_cases h:m.testBit k=true
 ·rw[if_pos (hb.mpr h),if_pos h,aI1 (Abs.Bv _ _)]
 ·rw[if_neg (λh'=>h (hb.mp h')),if_neg h]
  rfl
theorem aI3 (R:List Nat)(nn r m:Nat)(hm:R.getD r 0=m)(hr:r<=15)(hm16:eO m nn<65536): ∃base:Nat->Nat,(∀k,base k<65536)/\
  fP (λk=>Abs.cD (λi=>(R.getD i 0).testBit k) r) nn=fP base nn/\
  fP (λk=>if k∈eX (eO m nn) (eO m nn) then base k|||2 ^ r else base k) nn=fP (λk=>Abs.cD (λi=>(R.getD i 0).testBit k) (r+1)) nn:=by
 refine⟨λk=>Abs.cD (λi=>(R.getD i 0).testBit k) r,λk=> ?_,rfl,aIX R nn r m hm hm16⟩
 have h1:=Abs.Bv (λi=>(R.getD i 0).testBit k) r
 have h2:2 ^ r<=2 ^ 15:=Nat.pow_le_pow_right U hr
 show Abs.cD (λi=>(R.getD i 0).testBit k) r<65536
 omega
theorem TI.aIV {nn:Nat}{w:World}{base:Nat->Nat}{r BI:Nat}{Ds:List Nat}{pre:List Nat}{W:World}{k:Nat}(hbase: ∀k,base k<65536)(hr:r<=15)(hk:k<nn)(h2:BI≠w.heap.size)
  (h:TI nn w base r BI Ds pre W): ∃F:Nat,F<65536/\W.cell? ⟨w.heap.size,k,none⟩=some (.int .u16 (F:Nat))/\bits BinOp.or IntKind.u16 (F:Int) (IntKind.u16.wrap ((2:Int) ^ r))=((F|||2 ^ r:Nat):Int)/\
   TI nn w base r BI Ds (pre++[k]) (W.setCell ⟨w.heap.size,k,none⟩ (.int .u16 ((F|||2 ^ r:Nat)))):=by
 have hp:2 ^ r<=2 ^ 15:=Nat.pow_le_pow_right U hr
 have h16:(if k∈pre then base k|||2 ^ r else base k)<65536:=by
  split
  ·exact Nat.or_lt_two_pow (n:=16) (hbase k) U
  ·exact hbase k
 refine⟨_,h16,aI4 h.row hk,?_,h.aIU h2⟩;rw[aI9 r hr,aIW _ _ h16 U]
theorem TI.aIS {nn:Nat}{w:World}{base:Nat->Nat}{r BI:Nat}{Ds:List Nat}{pre:List Nat}{W:World}(h:TI nn w base r BI Ds pre W):TI nn w base r BI Ds pre W.drew:=
 ⟨h.below.drew,h.row,h.box,h.bi,h.mks⟩
set_option maxRecDepth 100000 in
set_option maxHeartbeats 4000000 in
theorem aI8 (c:Code)(hcode:(Tryz.f127.body).bind Bx=some c)(Q:Exit->Act->World->Prop)(blk off len cap nn:Nat)(h1:1<=nn)(h2:nn<=16)(h4:len<=16)(hcap:len<=cap)(w:World)(hT:TabC w)
  (R:List Nat)(hR:R.length=len)(hR16: ∀z∈R,z<65536)(hblk:blk<w.heap.size)(hrows: ∀i,i<len->w.cell? ⟨blk,off+i,none⟩=some (.int .u16 (R.getD i 0:Nat)))
  (hQ: ∀r Ds W,r=len->TS R nn w r Ds W-> ∀x0 x2 x3 x4 x6 x7 x8 x9 iS lH eA gC iT jY fC eG gF dQ gI rG rH yG yH yI yJ yK yL rI rJ uD uE iB nS yM yN yO pB pC:Value,Q (.exit 0) {tmps:= #[x0,.I nn,x2,x3,x4,.Q (w.heap.size+1) 0,x6,x7,x8,x9,iS,lH,eA,gC,iT,jY,fC,eG,gF,dQ,gI,.slice (some ⟨blk,off,none⟩) len cap,.I len,.I (r:Nat),rG,rH,yG,yH,yI,yJ,yK,yL,rI,rJ,uD,uE,iB,nS,yM,yN,yO,pB,pC],defers:=Lv Ds} W):
  ∀(q r:Nat),r+q=len-> ∀(Ds:List Nat)(W:World),TS R nn w r Ds W-> ∀x0 x2 x3 x4 x6 x7 x8 x9 iS lH eA gC iT jY fC eG gF dQ gI rG rH yG yH yI yJ yK yL rI rJ uD uE iB nS yM yN yO pB pC:Value,Code.roundsIn Fence.wide 6 prog c Q (q+1) {tmps:= #[x0,.I nn,x2,x3,x4,.Q (w.heap.size+1) 0,x6,x7,x8,x9,iS,lH,eA,gC,iT,jY,fC,eG,gF,dQ,gI,.slice (some ⟨blk,off,none⟩) len cap,.I len,.I (r:Nat),rG,rH,yG,yH,yI,yJ,yK,yL,rI,rJ,uD,uE,iB,nS,yM,yN,yO,pB,pC],defers:=Lv Ds} W:=by
 have hpos:=hT.K5;simp only[Tryz.f127,Bx,Option.bind_some,Option.none_or,Option.or_none,Option.some_or,aUE] at hcode;subst hcode;intro q;induction q with
 |zero=>
  intro r hr Ds W hts x0 x2 x3 x4 x6 x7 x8 x9 iS lH eA gC iT jY fC eG gF dQ gI rG rH yG yH yI yJ yK yL rI rJ uD uE iB nS yM yN yO pB pC;have hlt:decide ((r:Int)<len)=false:=by simp;omega
  rw[roundsIn_succ];gi_wp2;exact hQ r Ds W U hts ..
 |succ q ih=>
  intro r hr Ds W hts x0 x2 x3 x4 x6 x7 x8 x9 iS lH eA gC iT jY fC eG gF dQ gI rG rH yG yH yI yJ yK yL rI rJ uD uE iB nS yM yN yO pB pC;have hlt:decide ((r:Int)<len)=true:=by simp;omega
  have hcr:=(hts.below.cell (p:=⟨blk,off+r,none⟩) hblk).trans (hrows r U)
  have hm16:R.getD r 0<65536:=by
   rw[aUh,aUf U]
   exact hR16 _ (List.getElem_mem _)
  obtain⟨m,hme⟩: ∃m,R.getD r 0=m:=⟨_,rfl⟩;rw[hme] at hcr hm16;have hl16:eO m nn<65536:=Bi hm16;rw[roundsIn_succ]
  gi_wp2_with (refine⟨trivial,?_⟩;first|(gi_at_call 152;refine(callsIn_wide.2 (W8 _ _ (by assumption) (by assumption) _)).mono ?_;rintro e w' ⟨rfl,rfl⟩)|(gi_at_call 151;refine(callsIn_wide.2 (K6 _ (by assumption) _)).mono ?_;rintro e w' ⟨rfl,rfl⟩))
  obtain⟨q1,q2,q3,q4,q5⟩:=hts;have hWs:w.heap.size+1<W.heap.size:=by
   have h:=q3;unfold World.cell? at h
   split at h
   ·rename_i h1
    exact(aUC.mp h1).1
   ·cases h
  have b1:=wG (W.alloc (.cells #[.I r] 3)) (.int .u16 (eO m nn:Nat)) 23;rw[World.size_alloc] at b1;have b0:=wG W (.I r) 3;have hDs: ∀D∈Ds,D<W.heap.size:=λD hD=>(aUC.mp (q5 D hD).2).1
  have old: ∀b,b<W.heap.size->((W.alloc (.cells #[.I r] 3)).alloc (.cells #[.int .u16 (eO m nn:Nat)] 23)).heap[b]? =W.heap[b]? :=λb hb=>
   (Below.heap_alloc _ _ _ (by simp;omega)).trans (Below.heap_alloc _ _ _ hb)
  have hr15:r<=15:=U
  obtain⟨base,hbase,hq2,hfin⟩:=aI3 R nn r m hme hr15 hl16;rw[hq2] at q2;refine K3 32 8 U (W.heap.size+1) (eO m nn) rfl hl16 (by simp) U b1.1 b1.2
   (TI nn w base r W.heap.size Ds) (λ_ _ _=>False)
   (aI7 (by simp;omega) (by simp;omega) (λD hD=>by have:=hDs D hD;simp;omega)) (λc s A C row h=>h.elim)
   (λpre W' v h=>h.aIT v U U) (λpre W h=>hT.K4 hpos h.below)
   ⟨(q1.alloc U _).alloc (by simp;omega) _,(old _ U).trans (by simpa using q2),(World.cell?_of_block (old (w.heap.size+1) hWs)).trans q3,zB _ b0.1,λD hD=>(old D (hDs D hD)).trans (q5 D hD).2⟩ ?assign ?body ?done ?stop
  case assign=>
   intro l k W K hK;simp only[List.setIfInBounds_toArray,List.set_cons_succ,List.set_cons_zero] at hK⊢;gi_wp2;exact hK
  case body=>
   intro l pre k post W' hb hTI;have hkb:(eO m nn).testBit k=true:=(Er _ _ (aUi _) hl16 k).mp (by rw[hb];simp)
   have hkn:k<nn:=by
    rw[zC] at hkb;simp at hkb;exact hkb.2
   obtain⟨F,hF16,hcell,hval,hput⟩:=hTI.aIV hbase hr15 hkn (show W.heap.size≠w.heap.size by omega)
   have hfroz:=aI5 (k:=k) hTI.row;have hbx:=hTI.box;have hbi:=hTI.bi;have hne:(W'.setCell ⟨w.heap.size,k,none⟩ (.int .u16 ((F|||2 ^ r:Nat)))).heap[W.heap.size+1]? =W'.heap[W.heap.size+1]? :=zJ (by show W.heap.size+1≠w.heap.size;omega)
   have hkp:KpB (W.heap.size+1) W' (W'.setCell ⟨w.heap.size,k,none⟩ (.int .u16 ((F|||2 ^ r:Nat)))).drew:=⟨World.cell?_of_block hne,World.frozen?_of_block hne⟩;have hkf: ∀B,KeepsFrom B W' (W'.setCell ⟨w.heap.size,k,none⟩ (.int .u16 ((F|||2 ^ r:Nat)))).drew:=λB=>((KeepsOthers.setCell _ _ _).trans (KeepsOthers.drew _)).from _
   simp only[List.setIfInBounds_toArray,List.set_cons_succ,List.set_cons_zero];have hmx:prog.follows .mixedOrders=true:=by kernel_rfl
   clear hTI hfin hne ih hrows hR16 hb hkb hbase;gi_wp2
   gi_region_o
   all_goals gi_wp2
   all_goals exact⟨hkf _,hkp,hput.aIS⟩
  case done=>
   intro D W2 hD hTI hK;obtain⟨p1,p2,p3,p4,p5⟩:=hTI;rw[hfin] at p2;have hD2:W.heap.size+1+1<=D:=by simpa using hD
   gi_wp2;refine ih (r+1) U (D::Ds) W2 ⟨p1,p2,p3,?_,?_⟩ _ _ _ _ _ _ _ _ _ _ _ _ _ _ _ _ _ _ _ _ _ _ _ _ _ _ _ _ _ _ _ _ _ _ _ _ _ _
   ·refine List.pairwise_cons.mpr ⟨λE hE=> ?_,q4⟩
    have:=hDs E hE;omega
   ·intro E hE
    rcases aUw.mp hE with rfl|hE
    ·exact⟨by omega,hK⟩
    ·exact⟨(q5 E hE).1,p5 E hE⟩
  case stop=>
   intro D c pre k post W2 hD hb h;exact h.elim
attribute [local go_sem] Oper.semAt_some
theorem Yp {F:Fence}{n:Nat}{P:Program}{fn:Func}{tmps:Array Value}{R:Ending->World->Prop}(J:World->Prop)(N:Nat)
  (hJ: ∀W D,J W->N<=D->W.heap[D]? =some (.deferred (some []))->J (W.putObj D (.deferred none)))(hend: ∀W,J W->LeavesInM F n P fn tmps R [] .returning W):
  ∀(Ds:List Nat)(W:World),Ds.Pairwise (· ≠ ·)->(∀D∈Ds,N<=D/\W.heap[D]? =some (.deferred (some [])))->J W->LeavesInM F n P fn tmps R (Lv Ds) .returning W
 |[],W,_,_,h=>hend W h
 |D::Ds,W,hp,hD,h=>by
  obtain⟨hp1,hp2⟩:=List.pairwise_cons.mp hp;obtain⟨h1,h2⟩:=hD D (aUm ..);refine⟨by simp,.inl ⟨_,_,rfl,run_takeDeferred h2,?_⟩⟩
  refine Yp J N hJ hend Ds _ hp2 (λE hE=> ?_) (hJ W D h h1 h2)
  obtain⟨e1,e2⟩:=hD E (aUu _ hE)
  exact⟨e1,(World.putObj_heap_other (Ne.symm (hp1 E hE))).trans e2⟩
set_option maxRecDepth 100000 in
set_option maxHeartbeats 4000000 in
theorem aJa (blk off len cap nn:Nat)(h1:1<=nn)(h2:nn<=16)(h3:1<=len)(h4:len<=16)(hcap:len<=cap)(w:World)(hT:TabC w)
  (R:List Nat)(hR:R.length=len)(hR16: ∀z∈R,z<65536)(hblk:blk<w.heap.size)(hrows: ∀i,i<len->w.cell? ⟨blk,off+i,none⟩=some (.int .u16 (R.getD i 0:Nat))):
  CallsIn Fence.wide 6 prog 127 #[.slice (some ⟨blk,off,none⟩) len cap,.I nn] w λe W=>
   e= .returned (.slice (some ⟨w.heap.size,0,none⟩) nn nn)/\Below w.heap.size w W/\W.heap[w.heap.size]? =some (.cells (fP (λk=>Abs.cD (λi=>(R.getD i 0).testBit k) len) nn) 23 (0,0)):=by
 have hpos:=hT.K5;refine callsIn_of_wp_marks Tryz.func127 rfl trivial ?_ rfl;simp only[Tryz.ntmps127,List.size_toArray,aUz,List.length_nil,Nat.reduceAdd,Nat.reduceSub,Array.replicate_succ,Array.replicate_zero,List.push_toArray,List.append_toArray,List.nil_append,List.cons_append];have c1:decide ((nn:Int)<1)=false:=by simp;omega
 have c2:decide ((16:Int)<nn)=false:=by simp;omega
 have hmk:=aI0 w nn h2;gi_wp2;have hb:=wG (w.alloc (.cells (fP (λ_=>0) nn) 23)) (.slice (some ⟨w.heap.size,0,none⟩) nn nn) 162
 rw[World.size_alloc] at hb;have hrow0:((w.alloc (.cells (fP (λ_=>0) nn) 23)).alloc (.cells #[.slice (some ⟨w.heap.size,0,none⟩) nn nn] 162)).heap[w.heap.size]? =some (.cells (fP (λk=>Abs.cD (λi=>(R.getD i 0).testBit k) 0) nn) 23 (0,0)):=
  (Below.heap_alloc _ _ _ (by simp)).trans (World.alloc_heap_new w _)
 refine wpIn_loop_rounds (len+1) (aI8 _ rfl _ blk off len cap nn h1 h2 h4 hcap w hT R hR hR16 hblk hrows ?fin len 0 U [] _
  ⟨((Below.refl _ w).alloc (aUi _) _).alloc (by simp) _,hrow0,hb.1,List.Pairwise.nil,λD hD=>by cases hD⟩ _ _ _ _ _ _ _ _ _ _ _ _ _ _ _ _ _ _ _ _ _ _ _ _ _ _ _ _ _ _ _ _ _ _ _ _ _ _)
 intro r Ds W hr hts x0 x2 x3 x4 x6 x7 x8 x9 iS lH eA gC iT jY fC eG gF dQ gI rG rH yG yH yI yJ yK yL rI rJ uD uE iB nS yM yN yO pB pC;subst hr;obtain⟨q1,q2,q3,q4,q5⟩:=hts;gi_wp2;refine Yp (λW=>Below w.heap.size w W/\W.heap[w.heap.size]? =some (.cells (fP (λk=>Abs.cD (λi=>(R.getD i 0).testBit k) r) nn) 23 (0,0))) (w.heap.size+2) ?_ ?_ Ds W q4 q5 ⟨q1,q2⟩
 ·rintro W D ⟨a1,a2⟩ hD hK
  exact⟨a1.trans (belowK_b (w:=w) (aUi _) W D _ _ U hK rfl rfl),(World.putObj_heap_other U).trans a2⟩
 ·rintro W ⟨a1,a2⟩
  exact⟨_,results_tmp rfl _ _ _,rfl,a1,a2⟩
end Go.Proofs.YtciiopkbmjppfaaGreatDoor
