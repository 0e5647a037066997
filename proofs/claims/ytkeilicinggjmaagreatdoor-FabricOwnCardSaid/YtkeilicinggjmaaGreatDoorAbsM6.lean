/-
  PARTS OF THIS CLAIM'S PROOF, laid together by a program of mine.
-/
import Derived.Test.YtkeilicinggjmaaGreatDoorAbsM5
set_option linter.unusedVariables false
set_option linter.unusedSimpArgs false
set_option linter.unusedSectionVars false
set_option maxRecDepth 100000
namespace Go.Proofs.YtkeilicinggjmaaGreatDoor.Rg
open Go.Proofs.Tryz
open Go.Abs Go.Abs.M
structure More (p s:Nat)(H H':aF):Prop where
 len:H.length<=H'.length
 same: ∀b,b<H.length->b≠p->b≠s->H'[b]? =H[b]?
theorem aNz {pr:iA}{H:aF}{p s:Nat}{l:List kS}{top free:Int}(hn:pr (.func 181)=none)(hn':pr (.func 152)=none)(h:IsPool H p s l top free){m:Nat}(hm:1<m)(i:Nat)(q:Nat×Pkt)(d:Int)(hi:l[i]? =some (some q,d))(hf0:0<=free)(hf1:free<1000):
  ∃H',lvl prog pr m (.func 152) [.Q p 0,.I i] H=some (.bool true,H')/\IsPool H' p s (l.set i (none,top)) i (free+1)/\More p s H H':=by
 refine⟨_,aNj hn hn' h hm i q d hi hf0 hf1,?_,by simp,?_⟩
 ·refine h.aBE _ (by simp) _ _ λj q y d hj=> ?_
  by_cases ej:i=j
  ·subst ej
   have hl:i<l.length:=(aRU.mp hi).1;rw[aR0 hl] at hj;simp at hj
  ·rw[aRV ej] at hj
   exact h.hq j q y d hj
 ·intro b hb h1 h2
  rw[aRV U,aRV U]
theorem aBS: ∀(n:Nat)(l:List Nat),l.Nodup->(∀x∈l,x<n)->l.length<=n
 |0,l,_,h=>by
  cases l with
  |nil=>exact aRZ _
  |cons a _=>exact absurd (h a (by simp)) U
 |n+1,l,hd,h=>by
  have:=aBS n (l.erase n) (hd.erase n) λx hx=>by
   rw[hd.mem_erase_iff] at hx;have:=h x hx.2;have:=hx.1;omega
  rw[List.length_erase] at this
  split at this<;>omega
def FreeL (l:List kS):Int->List Nat->Prop
 |top,[]=>top= -1
 |top,k::ks=>top=(k:Int)/\ ∃d,l[k]? =some (none,d)/\FreeL l d ks
theorem FreeL.Rt {l:List kS}{i:Nat}{x:kS}: ∀(fl:List Nat)(top:Int),FreeL l top fl->i∉fl->FreeL (l.set i x) top fl
 |[],_,h,_=>h
 |k::ks,top,⟨h1,d,h2,h3⟩,hi=>by
  simp only[aSd,not_or] at hi
  exact⟨h1,d,by rw[aRV hi.1];exact h2,FreeL.Rt ks d h3 hi.2⟩
structure Model (H:aF)(p s:Nat)(l:List kS)(top free:Int)(fl:List Nat):Prop where
 pool:IsPool H p s l top free
 chain:FreeL l top fl
 nodup:fl.Nodup
 full: ∀i,i∈fl↔ ∃d,l[i]? =some (none,d)
 cnt:free=fl.length
 len:l.length<=200
section
variable {pr : iA} {H : aF} {p s : Nat} {l : List kS} {top free : Int} {fl : List Nat}
theorem Model.aBQ (h:Model H p s l top free fl):fl.length<=200:=by
 refine aSa (aBS l.length fl h.nodup λx hx=> ?_) h.len
 obtain⟨d,hd⟩:=(h.full x).mp hx
 exact(aRU.mp hd).1
theorem Model.app (h:Model H p s l top free fl)(G:aF):Model (H++G) p s l top free fl:=⟨h.pool.app G,h.chain,h.nodup,h.full,h.cnt,h.len⟩
theorem Model.aNw (hn:pr (.func 181)=none)(hn':pr (.func 152)=none)(h:Model H p s l top free fl){m:Nat}(hm:1<m)(i:Nat)(q:Nat×Pkt)(d:Int)(hi:l[i]? =some (some q,d)):
  ∃H',lvl prog pr m (.func 152) [.Q p 0,.I i] H=some (.bool true,H')/\Model H' p s (l.set i (none,top)) i (free+1) (i::fl)/\More p s H H':=by
 have hl:=h.aBQ;have hc:=h.cnt;obtain⟨H',e,hp,hm'⟩:=aNz hn hn' h.pool hm i q d hi U U
 have hlt:i<l.length:=(aRU.mp hi).1;have hni:i∉fl:=λhh=>by
  obtain⟨d',hd⟩:=(h.full i).mp hh;rw[hi] at hd;simp at hd
 refine⟨H',e,⟨hp,⟨rfl,top,aR0 hlt,h.chain.Rt _ _ hni⟩,List.nodup_cons.mpr ⟨hni,h.nodup⟩,λj=> ?_,by rw[hc];simp,by simpa using h.len⟩,hm'⟩
 by_cases ej:i=j
 ·subst ej
  rw[aR0 hlt];simp
 ·rw[aRV ej,aSd,<-h.full j]
  constructor
  ·rintro (h1|h1)
   ·exact absurd h1.symm ej
   ·exact h1
  ·exact .inr
theorem Model.aNx (hn:pr (.func 143)=none){k:Nat}{ks:List Nat}(h:Model H p s l top free (k::ks)){m:Nat}(hm:0<m)(x:Pkt):
  ∃H' q d,lvl prog pr m (.func 143) [.Q p 0,x.dN] H=some (.tuple #[.I k,.bool true],H')/\Model H' p s (l.set k (some (q,x),d)) d (free-1) ks/\k<l.length/\
   H.length<=H'.length/\ ∀b,b<H.length->b≠p->b≠s->H'[b]? =H[b]? :=by
 obtain⟨ht,d,hk,hc⟩:=h.chain;have hp:=h.pool;have hcnt:=h.cnt;have hfl:=h.aBQ;simp only[aSg] at hcnt hfl;rw[ht] at hp;have hlt:k<l.length:=(aRU.mp hk).1;have hnd:=List.nodup_cons.mp h.nodup;have e:=aNv hn k hp hm x none d hk U U
 refine⟨_,H.length,d,e,⟨?_,hc.Rt _ _ hnd.1,hnd.2,λj=> ?_,by omega,by simpa using h.len⟩,hlt,by simp,?_⟩
 ·have h':=hp.app [pkB x]
  refine h'.aBE _ (by simp) _ _ λj q y d' hj=> ?_
  by_cases ej:k=j
  ·subst ej
   rw[aR0 hlt] at hj;simp only[aSl,Prod.mk.injEq] at hj;obtain⟨⟨rfl,rfl⟩,_⟩:=hj;simp
  ·rw[aRV ej] at hj
   exact h'.hq j q y d' hj
 ·by_cases ej:k=j
  ·subst ej
   rw[aR0 hlt];simp[hnd.1]
  ·rw[aRV ej,<-h.full j,aSd]
   constructor
   ·exact .inr
   ·rintro (h1|h1)
    ·exact absurd h1.symm ej
    ·exact h1
 ·intro b hb h1 h2
  rw[aRV U,aRV U,aRX hb]
theorem Model.aNy (hn:pr (.func 143)=none)(h:Model H p s l top free []){m:Nat}(hm:0<m)(x:Pkt):
  lvl prog pr m (.func 143) [.Q p 0,x.dN] H=some (.tuple #[.I 0,.bool false],H++[pkB x]):=by
 have ht:top= -1:=h.chain;have hp:=h.pool;rw[ht] at hp;exact aNu hn hp hm x
end
theorem aBR (n:Nat): ∀(r k:Nat),k+r=n->FreeL (lY n) (if k<n then(k:Int) else -1) (List.range' k r)
 |0,k,h=>by
  rw[if_neg U]
  rfl
 |r+1,k,h=>by
  rw[if_pos U,List.range'_succ]
  refine⟨rfl,_,Rm n k U,?_⟩
  exact aBR n r (k+1) U
theorem aNA {H:aF}(n:Nat)(h0:0<n)(hn:n<=200):Model (nA H (lY n)) (H.length+1) H.length (lY n) 0 n (List.range n):=by
 refine⟨aNq n,?_,List.nodup_range,λi=> ?_,by simp,by rw[I2];exact hn⟩
 ·have:=aBR n n 0 U
  rw[<-List.range_eq_range'] at this;rw[if_pos h0] at this;exact this
 ·rw[aSy]
  constructor
  ·intro h
   exact⟨_,Rm n i h⟩
  ·rintro ⟨d,hd⟩
   have:=(aRU.mp hd).1;rw[I2] at this;exact this
end Go.Proofs.YtkeilicinggjmaaGreatDoor.Rg
namespace Go.Abs
open M
section
variable {κ : Type} [DecidableEq κ]
theorem aBW {α β:Type}(g:α->β): ∀(l:List α)(i:Nat),(l.map g).eraseIdx i=(l.eraseIdx i).map g
 |[],_=>rfl
 |a::l,0=>rfl
 |a::l,i+1=>by simp[aBW g l i]
structure KeyC (kt:KeyT)(enc:κ->Value):Prop where
 eq: ∀a b:κ,lM kt (enc a) (enc b)=some (decide (a=b))
def mD (enc:κ->Value)(e:κ×Value×Nat):Ent:=⟨enc e.1,e.2.1,e.2.2⟩
def upd (f:κ->Option Value)(k:κ)(v:Option Value):κ->Option Value:=λk'=>if k'=k then v else f k'
structure MapI (enc:κ->Value)(es:List (κ×Value×Nat))(clock:Nat)(f:κ->Option Value):Prop where
 keys:(es.map (·.1)).Nodup
 born:(es.map (·.2.2)).Nodup
 lt: ∀e∈es,e.2.2<clock
 no: ∀k,f k=none↔ ∀e∈es,e.1≠k
 yes: ∀(e:κ×Value×Nat),e∈es->f e.1=some e.2.1
def IsMap (enc:κ->Value)(H:aF)(mb:Nat)(f:κ->Option Value):Prop:= ∃es clock,H[mb]? =some (.map (es.map (mD enc)) clock)/\MapI enc es clock f
variable {kt : KeyT} {enc : κ → Value} {H : aF} {mb : Nat} {f : κ → Option Value}
theorem MapI.I5 {es:List (κ×Value×Nat)}{clock:Nat}(h:MapI enc es clock f){k:κ}{v:Value}(hf:f k=some v): ∃(i:Nat)(b:Nat),es[i]? =some (k,v,b):=by
 by_cases hx: ∀e∈es,e.1≠k
 ·rw[(h.no k).mpr hx] at hf
  cases hf
 ·simp only[Classical.not_forall] at hx
  obtain⟨e,he,hk⟩:=hx;have hk:e.1=k:=Classical.not_not.mp hk;have:=h.yes e he;rw[hk,hf] at this;cases this;obtain⟨i,hi⟩:=List.getElem?_of_mem he
  exact⟨i,e.2.2,by rw[hi,<-hk]⟩
theorem I6 (hk:KeyC kt enc)(k:κ): ∀(es:List (κ×Value×Nat))(j:Nat),(∀e∈es,e.1≠k)->nM kt (enc k) (es.map (mD enc)) j=some none
 |[],j,_=>rfl
 |e::es,j,h=>by
  have h1:lM kt (enc k) (mD enc e).key=some false:=by
   show lM kt (enc k) (enc e.1)=some false
   rw[hk.eq,aSF (λhh=>h e (by simp) hh.symm)]
  simp only[aSp,nM,h1];exact I6 hk k es (j+1) λe' he'=>h e' (by simp[he'])
theorem Dy (hk:KeyC kt enc): ∀(es:List (κ×Value×Nat))(i j:Nat)(e:κ×Value×Nat),(es.map (·.1)).Nodup->es[i]? =some e->nM kt (enc e.1) (es.map (mD enc)) j=some (some (j+i,mD enc e))
 |[],i,j,e,_,h=>by simp at h
 |x::es,i,j,e,hn,h=>by
  simp only[aSp,List.nodup_cons] at hn;cases i with
  |zero=>
   simp only[List.getElem?_cons_zero,aSl] at h;subst h;have h1:lM kt (enc x.1) (mD enc x).key=some true:=by
    show lM kt (enc x.1) (enc x.1)=some true
    rw[hk.eq,aSE rfl]
   simp only[aSp,nM,h1,Nat.add_zero]
  |succ i=>
   simp only[List.getElem?_cons_succ] at h;have hne:e.1≠x.1:=λhh=>hn.1 (by rw[<-hh];exact List.mem_map_of_mem (aR4 h))
   have h1:lM kt (enc e.1) (mD enc x).key=some false:=by
    show lM kt (enc e.1) (enc x.1)=some false
    rw[hk.eq,aSF hne]
   simp only[aSp,nM,h1];rw[Dy hk es i (j+1) e hn.2 h]
   congr 3
   omega
theorem Bu (hk:KeyC kt enc)(k:κ):lM kt (enc k) (enc k)=some true:=by rw[hk.eq,aSE rfl]
theorem IsMap.zT {H':aF}(h:IsMap enc H mb f)(hk:H'[mb]? =H[mb]?):IsMap enc H' mb f:=by
 obtain⟨es,c,h1,h2⟩:=h
 exact⟨es,c,by rw[hk,h1],h2⟩
theorem IsMap.zS (hk:KeyC kt enc)(h:IsMap enc H mb f)(k:κ)(z:Value):nN kt z false (.map (some mb)) (enc k) H=some ((f k).getD z,H):=by
 obtain⟨es,c,h1,h2⟩:=h;unfold nN;rw[if_pos (Bu hk k)];simp only;rw[h1];simp only;cases hf:f k with
 |none=>
  rw[I6 hk k es 0 ((h2.no k).mp hf)];rfl
 |some v=>
  obtain⟨i,b,hi⟩:=h2.I5 hf;rw[Dy hk es i 0 _ h2.keys hi];rfl
theorem MapI.Ru {es:List (κ×Value×Nat)}{clock:Nat}(h:MapI enc es clock f){k:κ}{v0 v:Value}{i b:Nat}(hi:es[i]? =some (k,v0,b)):MapI enc (es.set i (k,v,b)) clock (upd f k (some v)):=by
 have hlt:=(aRU.mp hi).1;have hmap1:(es.set i (k,v,b)).map (·.1)=es.map (·.1):=by
  rw[List.map_set];apply aSv;intro j;by_cases hj:i=j
  ·subst hj
   rw[aR0 (by simpa using hlt),aR7,hi]
   rfl
  ·rw[aRV hj]
 have hmap2:(es.set i (k,v,b)).map (·.2.2)=es.map (·.2.2):=by
  rw[List.map_set];apply aSv;intro j;by_cases hj:i=j
  ·subst hj
   rw[aR0 (by simpa using hlt),aR7,hi]
   rfl
  ·rw[aRV hj]
 refine⟨by rw[hmap1];exact h.keys,by rw[hmap2];exact h.born,λe he=> ?_,λk'=> ?_,λe he=> ?_⟩
 ·rcases List.mem_or_eq_of_mem_set he with he|rfl
  ·exact h.lt e he
  ·have:=h.lt _ (aR4 hi)
   exact this
 ·unfold upd
  by_cases hk:k'=k
  ·rw[if_pos hk]
   constructor
   ·intro hh;cases hh
   ·intro hh
    exact absurd hk.symm (hh (k,v,b) (aR4 (aR0 hlt)))
  ·rw[if_neg hk,h.no k']
   have key: ∀e,e∈es.map (·.1)↔e∈(es.set i (k,v,b)).map (·.1):=λe=>by rw[hmap1]
   constructor
   ·intro hh e he hek
    have:=(key e.1).mpr (List.mem_map_of_mem he);obtain⟨e',he',hee⟩:=aSx.mp this;exact hh e' he' (by rw[hee,hek])
   ·intro hh e he hek
    have:=(key e.1).mp (List.mem_map_of_mem he);obtain⟨e',he',hee⟩:=aSx.mp this;exact hh e' he' (by rw[hee,hek])
 ·unfold upd
  obtain⟨j,hj⟩:=List.getElem?_of_mem he;by_cases hij:i=j
  ·subst hij
   rw[aR0 hlt] at hj;cases hj;rw[if_pos rfl]
  ·rw[aRV hij] at hj
   have hne:e.1≠k:=λhh=>by
    have h1:(es.map (·.1))[i]? =some k:=by rw[aR7,hi];rfl
    have h2:(es.map (·.1))[j]? =some k:=by rw[aR7,hj,<-hh];rfl
    have l1:=(aRU.mp h1);have l2:=(aRU.mp h2);exact hij ((List.getElem_inj h.keys).mp (l1.2.trans l2.2.symm))
   rw[if_neg hne];exact h.yes e (aR4 hj)
theorem MapI.aBU {es:List (κ×Value×Nat)}{clock:Nat}(h:MapI enc es clock f){k:κ}(v:Value)(hf:f k=none):MapI enc (es++[(k,v,clock)]) (clock+1) (upd f k (some v)):=by
 have hno:=(h.no k).mp hf;refine⟨?_,?_,λe he=> ?_,λk'=> ?_,λe he=> ?_⟩
 ·rw[List.map_append,List.nodup_append]
  refine⟨h.keys,by simp,λa ha b hb hab=> ?_⟩
  obtain⟨e,he,rfl⟩:=aSx.mp ha;simp at hb;exact hno e he (hab.trans hb)
 ·rw[List.map_append,List.nodup_append]
  refine⟨h.born,by simp,λa ha b hb hab=> ?_⟩
  obtain⟨e,he,rfl⟩:=aSx.mp ha;have:=h.lt e he;simp at hb;omega
 ·rcases List.mem_append.mp he with he|he
  ·have:=h.lt e he
   omega
  ·rw[List.mem_singleton] at he
   subst he;simp
 ·unfold upd
  by_cases hk:k'=k
  ·rw[if_pos hk]
   constructor
   ·intro hh;cases hh
   ·intro hh
    exact absurd hk.symm (hh (k,v,clock) (by simp))
  ·rw[if_neg hk,h.no k']
   constructor
   ·intro hh e he hek
    rcases List.mem_append.mp he with he|he
    ·exact hh e he hek
    ·rw[List.mem_singleton] at he
     subst he;exact hk hek.symm
   ·intro hh e he
    exact hh e (by simp[he])
 ·unfold upd
  rcases List.mem_append.mp he with he|he
  ·rw[if_neg (hno e he)]
   exact h.yes e he
  ·rw[List.mem_singleton] at he
   subst he;rw[if_pos rfl]
theorem MapI.aNE {es:List (κ×Value×Nat)}{clock:Nat}(h:MapI enc es clock f){k:κ}{v0:Value}{i b:Nat}(hi:es[i]? =some (k,v0,b)):MapI enc (es.eraseIdx i) clock (upd f k none):=by
 have hsub:=List.eraseIdx_sublist es i;have hlt:=(aRU.mp hi).1;have hin: ∀e,e∈es.eraseIdx i↔e∈es/\e.1≠k:=by
  intro e;constructor
  ·intro he
   refine⟨hsub.subset he,λhek=> ?_⟩
   obtain⟨j,hj⟩:=List.getElem?_of_mem he;rw[List.getElem?_eraseIdx] at hj;obtain⟨j',hj',hne⟩: ∃j':Nat,es[j']? =some e/\j'≠i:=by
    by_cases hji:j<i
    ·rw[if_pos hji] at hj
     exact⟨j,hj,by omega⟩
    ·rw[if_neg hji] at hj
     exact⟨j+1,hj,by omega⟩
   have h1:(es.map (·.1))[i]? =some k:=by rw[aR7,hi];rfl
   have h2:(es.map (·.1))[j']? =some k:=by rw[aR7,hj',<-hek];rfl
   have l1:=(aRU.mp h1);have l2:=(aRU.mp h2);exact hne ((List.getElem_inj h.keys).mp (l2.2.trans l1.2.symm))
  ·rintro ⟨he,hek⟩
   obtain⟨j,hj⟩:=List.getElem?_of_mem he;have hne:j≠i:=by
    rintro rfl
    rw[hi] at hj;cases hj;exact hek rfl
   by_cases hji:j<i
   ·exact aR4 (i:=j) (by rw[List.getElem?_eraseIdx,if_pos hji,hj])
   ·refine aR4 (i:=j-1) ?_
    rw[List.getElem?_eraseIdx,if_neg U,show j-1+1=j by omega,hj]
 refine⟨(hsub.map _).nodup h.keys,(hsub.map _).nodup h.born,λe he=>h.lt e ((hin e).mp he).1,λk'=> ?_,λe he=> ?_⟩
 ·unfold upd
  by_cases hk:k'=k
  ·rw[if_pos hk]
   exact⟨λ_ e he hek=>((hin e).mp he).2 (hek.trans hk),λ_=>rfl⟩
  ·rw[if_neg hk,h.no k']
   constructor
   ·intro hh e he
    exact hh e ((hin e).mp he).1
   ·intro hh e he hek
    exact hh e ((hin e).mpr ⟨he,by rw[hek];exact hk⟩) hek
 ·unfold upd
  rw[if_neg ((hin e).mp he).2];exact h.yes e ((hin e).mp he).1
theorem I7 (es:List (κ×Value×Nat))(i:Nat)(e:κ×Value×Nat):(es.map (mD enc)).set i (mD enc e)=(es.set i e).map (mD enc):=by rw[List.map_set]
theorem IsMap.aND (hk:KeyC kt enc)(h:IsMap enc H mb f)(k:κ)(v:Value)(hf:f k≠none): ∃X,qW kt (.map (some mb)) (enc k) v H=some (undef,H.set mb X)/\IsMap enc (H.set mb X) mb (upd f k (some v))/\ ∃es c,X= .map es c:=by
 obtain⟨es,c,h1,h2⟩:=h;obtain⟨v0,hv0⟩:=Option.ne_none_iff_exists'.mp hf;obtain⟨i,b,hi⟩:=h2.I5 hv0;have hlt:=(aRU.mp h1).1;refine⟨.map ((es.set i (k,v,b)).map (mD enc)) c,?_,⟨_,c,by rw[aR0 hlt],h2.Ru hi⟩,_,_,rfl⟩
 unfold qW;rw[if_pos (Bu hk k)];simp only;rw[h1];simp only;have:=Dy hk es i 0 _ h2.keys hi;simp only at this;rw[this];simp only[aSf];rw[<-I7];rfl
theorem IsMap.aNB (hk:KeyC kt enc)(h:IsMap enc H mb f)(k:κ)(hf:f k≠none): ∃X,uG kt (.map (some mb)) (enc k) H=some (.tuple #[],H.set mb X)/\IsMap enc (H.set mb X) mb (upd f k none)/\ ∃es c,X= .map es c:=by
 obtain⟨es,c,h1,h2⟩:=h;obtain⟨v0,hv0⟩:=Option.ne_none_iff_exists'.mp hf;obtain⟨i,b,hi⟩:=h2.I5 hv0;have hlt:=(aRU.mp h1).1;refine⟨.map ((es.eraseIdx i).map (mD enc)) c,?_,⟨_,c,by rw[aR0 hlt],h2.aNE hi⟩,_,_,rfl⟩
 unfold uG;rw[if_pos (Bu hk k)];simp only;rw[h1];simp only;have:=Dy hk es i 0 _ h2.keys hi;simp only at this;rw[this];simp only[aSf];rw[aBW]
theorem aBV (es:List (κ×Value×Nat))(hn:(es.map (·.2.2)).Nodup){i:Nat}{e:κ×Value×Nat}(hi:es[i]? =some e):(es.map (mD enc)).findIdx? (λx=>(x.born:Int)==(e.2.2:Int))=some i:=by
 have hlt:=(aRU.mp hi).1;have he:=(aRU.mp hi).2;rw[List.findIdx?_eq_some_iff_getElem];refine⟨by simpa using hlt,?_,λj hji=> ?_⟩
 ·simp[mD,he]
 ·have hne:es[j].2.2≠e.2.2:=λhh=>by
   have h1:(es.map (·.2.2))[i]'(by simpa using hlt)=e.2.2:=by simp[he]
   have h2:(es.map (·.2.2))[j]'(by simp;omega)=e.2.2:=by simp[hh]
   have:=(List.getElem_inj hn).mp (h1.trans h2.symm);omega
  simp[mD];omega
theorem IsMap.aNC (hk:KeyC kt enc)(h:IsMap enc H mb f)(k:κ)(z:Value): ∃(b:Nat)(X:Blk),tO kt z (.map (some mb)) (enc k) H=some (.tuple #[(f k).getD z,.int .i64 b],H.set mb X)/\(∃es c,X= .map es c)/\
  ∀(H2:aF)(v:Value),H2[mb]? =some X-> ∃X',tL (.map (some mb)) (.int .i64 b) v H2=some (undef,H2.set mb X')/\IsMap enc (H2.set mb X') mb (upd f k (some v))/\ ∃es c,X'= .map es c:=by
 obtain⟨es,c,h1,h2⟩:=h;cases hf:f k with
 |none=>
  refine⟨c,.map ((es++[(k,z,c)]).map (mD enc)) (c+1),?_,⟨_,_,rfl⟩,λH2 v hX=> ?_⟩
  ·unfold tO
   rw[if_pos (Bu hk k)];simp only;rw[h1];simp only;rw[I6 hk k es 0 ((h2.no k).mp hf)];simp[mD]
  ·have hp:=h2.aBU z hf
   have hi:(es++[(k,z,c)])[es.length]? =some (k,z,c):=by simp
   have hlt:=(aRU.mp hX).1;have hs:=hp.Ru (v:=v) hi;have hup:upd (upd f k (some z)) k (some v)=upd f k (some v):=by
    funext k'
    unfold upd
    split<;>rfl
   rw[hup] at hs;refine⟨.map (((es++[(k,z,c)]).set es.length (k,v,c)).map (mD enc)) (c+1),?_,⟨_,_,by rw[aR0 hlt],hs⟩,_,_,rfl⟩
   unfold tL;simp only;rw[hX];simp only;have:=aBV (enc:=enc) (es++[(k,z,c)]) hp.born hi;simp only at this;rw[this];simp only;rw[aR7,hi];simp only[Option.map_some];rw[<-I7];rfl
 |some v0=>
  obtain⟨i,b,hi⟩:=h2.I5 hf;have hset:es.set i (k,v0,b)=es:=by
   apply aSv;intro j;by_cases hj:i=j
   ·subst hj
    rw[aR0 (aRU.mp hi).1,hi]
   ·rw[aRV hj]
  refine⟨b,.map (es.map (mD enc)) c,?_,⟨_,_,rfl⟩,λH2 v hX=> ?_⟩
  ·unfold tO
   rw[if_pos (Bu hk k)];simp only;rw[h1];simp only;have:=Dy hk es i 0 _ h2.keys hi;simp only at this;rw[this];simp only[aSf];have e1:(⟨enc k,(mD enc (k,v0,b)).val,(mD enc (k,v0,b)).born⟩:Ent)=mD enc (k,v0,b):=rfl;rw[e1,I7,hset];rfl
  ·have hlt:=(aRU.mp hX).1
   refine⟨.map ((es.set i (k,v,b)).map (mD enc)) c,?_,⟨_,c,by rw[aR0 hlt],h2.Ru hi⟩,_,_,rfl⟩
   unfold tL;simp only;rw[hX];simp only;have:=aBV (enc:=enc) es h2.born hi;simp only at this;rw[this];simp only;rw[aR7,hi];simp only[Option.map_some];rw[<-I7];rfl
theorem IsMap.aBT (H:aF):IsMap enc (H++[.map [] 0]) H.length (λ_=>none):=
 ⟨[],0,by simp,⟨by simp,by simp,by simp,λk=>by simp,λe he=>by simp at he⟩⟩
end
end Go.Abs
namespace Go.Proofs.YtkeilicinggjmaaGreatDoor.Rg
open Go.Proofs.Tryz
open Go.Abs Go.Abs.M
abbrev lP:=Int×Int×Int
def oI (w:lP):Value:= .agg #[.I w.1,.I w.2.1,.I w.2.2]
abbrev kW:KeyT:= .str [true,true,true]
theorem xU:KeyC kW oI:=⟨λa b=>by
 obtain⟨a1,a2,a3⟩:=a;obtain⟨b1,b2,b3⟩:=b;have h:((a1,a2,a3)=(b1,b2,b3))=(a1=b1/\a2=b2/\a3=b3):=by simp
 simp[lM,oI,eqT];by_cases h1:a1=b1<;>by_cases h2:a2=b2<;>by_cases h3:a3=b3<;>simp[h1,h2,h3]⟩
theorem bW (a b c:Int):bld prog 256 [(0,.I a),(1,.I b),(2,.I c)]=some (oI (a,b,c)):=rfl
theorem szI:prog.cellsOf 3=1:=by kernel_rfl
def AR (x:Blk):Prop:=match x with
 | .map _ _=>True
 | .dead=>True
 | .cells _ e k=>(e=244/\k= .fix)∨(e=247/\k= .row)∨(e=3/\k= .row)
def AS (x:Blk):Prop:=AR x∨match x with
 | .cells _ e k=>(e=54/\k= .fix)∨(e=181/\k= .fix)
 |_=>False
abbrev En:=lP×Nat×Pkt
def qOf (L:List En)(w:lP):List Nat:=(L.filter λe=>decide (e.1=w)).map (·.2.1)
def oZ (L:List En)(w:lP):List Pkt:=(L.filter λe=>decide (e.1=w)).map (·.2.2)
def nT (k:Nat):Value:= .I k
theorem Rz (L:List En)(w:lP):(qOf L w).length=(oZ L w).length:=by simp[qOf,oZ]
structure RI (H:aF)(a:Nat)(L:List En)(n ports lanes:Nat)(p s mb:Nat)(l:List kS)(top free:Int)(fl:List Nat)(f:lP->Option Value):Prop where
 hd:H[a]? =some (.cells [.Q p 0,.map (some mb),.I ports,.I lanes] 181 .fix)
 pool:Model H p s l top free fl
 len:l.length=n
 cnt:L.length+fl.length=n
 nd:(L.map (·.2.1)).Nodup
 full: ∀e∈L,∃q d,l[e.2.1]? =some (some (q,e.2.2),d)
 mp:IsMap oI H mb f
 no: ∀w,f w=none->qOf L w=[]
 yes: ∀w v,f w=some v->RowO 3 H v ((qOf L w).map nT)/\qOf L w≠[]
 sep: ∀w w' v v' b,f w=some v->f w'=some v'->w≠w'->cJ v b-> ¬cJ v' b
 b1:1<=n/\n<=200
 b2:ports<=16/\lanes<=3
def IsRings (H:aF)(a:Nat)(L:List En)(n ports lanes:Nat):Prop:= ∃p s mb l top free fl f,RI H a L n ports lanes p s mb l top free fl f
section
variable {H H' : aF} {a n ports lanes p s mb : Nat} {L : List En} {l : List kS} {top free : Int} {fl : List Nat} {f : lP → Option Value}
theorem RI.I8 (h:RI H a L n ports lanes p s mb l top free fl f)(hk: ∀(b:Nat)(x:Blk),H[b]? =some x->AS x->H'[b]? =some x):RI H' a L n ports lanes p s mb l top free fl f:=by
 refine⟨hk _ _ h.hd (.inr (.inr ⟨rfl,rfl⟩)),⟨⟨hk _ _ h.pool.pool.hp (.inl (.inl ⟨rfl,rfl⟩)),hk _ _ h.pool.pool.hs (.inl (.inr (.inl ⟨rfl,rfl⟩))),λi q x d hi=>hk _ _ (h.pool.pool.hq i q x d hi) (.inr (.inl ⟨rfl,rfl⟩))⟩,h.pool.chain,h.pool.nodup,h.pool.full,h.pool.cnt,h.pool.len⟩,
  h.len,h.cnt,h.nd,h.full,?_,h.no,λw v hv=>⟨?_,(h.yes w v hv).2⟩,h.sep,h.b1,h.b2⟩
 ·obtain⟨es,c,h1,h2⟩:=h.mp
  exact⟨es,c,hk _ _ h1 (.inl trivial),h2⟩
 ·refine(h.yes w v hv).1.uV λb hb=> ?_
  obtain⟨xs,hx⟩:=(h.yes w v hv).1.blk hb;rw[hx];exact hk _ _ hx (.inl (.inr (.inr ⟨rfl,rfl⟩)))
theorem RI.app (h:RI H a L n ports lanes p s mb l top free fl f)(G:aF):RI (H++G) a L n ports lanes p s mb l top free fl f:=h.I8 λb x hx _=>(Ch.app (λ_=>False) H G).2 b x hx id
theorem IsRings.app (h:IsRings H a L n ports lanes)(G:aF):IsRings (H++G) a L n ports lanes:=by
 obtain⟨p,s,mb,l,top,free,fl,f,hi⟩:=h
 exact⟨p,s,mb,l,top,free,fl,f,hi.app G⟩
theorem RI.ld0 (h:RI H a L n ports lanes p s mb l top free fl f):ld1 (.Q a 0) H=some (.Q p 0,H):=by rw[kM,h.hd];rfl
theorem RI.ld1 (h:RI H a L n ports lanes p s mb l top free fl f):ld1 (.Q a 1) H=some (.map (some mb),H):=by rw[kM,h.hd];rfl
theorem RI.ld2 (h:RI H a L n ports lanes p s mb l top free fl f):Go.Abs.ld1 (.Q a 2) H=some (.I ports,H):=by rw[kM,h.hd];rfl
theorem RI.ld3 (h:RI H a L n ports lanes p s mb l top free fl f):Go.Abs.ld1 (.Q a 3) H=some (.I lanes,H):=by rw[kM,h.hd];rfl
end
theorem Ry (L:List En)(e:En)(w:lP):qOf (e::L) w=if e.1=w then e.2.1::qOf L w else qOf L w:=by
 unfold qOf;by_cases h:e.1=w<;>simp[h]
theorem aBX (L:List En)(e:En)(w:lP):oZ (e::L) w=if e.1=w then e.2.2::oZ L w else oZ L w:=by
 unfold oZ;by_cases h:e.1=w<;>simp[h]
theorem Rx (L:List En)(e:En)(w:lP):qOf (L++[e]) w=if e.1=w then qOf L w++[e.2.1] else qOf L w:=by
 unfold qOf;by_cases h:e.1=w<;>simp[List.filter_append,h]
def oQ (L:List En)(w:lP):List En:=L.eraseP λe=>decide (e.1=w)
theorem Dz (w w':lP): ∀L:List En,qOf (oQ L w) w'=if w=w' then(qOf L w').tail else qOf L w'
 |[]=>by simp[oQ,qOf]
 |e::L=>by
  have ih:=Dz w w' L;unfold oQ at ih⊢;by_cases h:e.1=w
  ·simp only[List.eraseP_cons,h,decide_true,cond_true,Ry]
   by_cases hw:w=w'
   ·simp[hw]
   ·simp[hw]
  ·simp only[List.eraseP_cons,h,decide_false,cond_false,Ry,ih]
   by_cases hw:w=w'
   ·subst hw
    simp[h]
   ·simp[hw]
theorem Rv {w:lP}: ∀{L:List En}{k:Nat}{ks:List Nat},qOf L w=k::ks-> ∃x xs,oZ L w=x::xs/\(w,k,x)∈L/\L.length=(oQ L w).length+1/\ ∀e,e∈oQ L w->e∈L/\((L.map (·.2.1)).Nodup->e.2.1≠k)
 |[],k,ks,h=>by simp[qOf] at h
 |e::L,k,ks,h=>by
  obtain⟨we,ke,xe⟩:=e;rw[Ry] at h;by_cases hw:we=w
  ·subst hw
   simp only[if_pos] at h;cases h;refine⟨xe,oZ L we,by rw[aBX];simp,by simp,by simp[oQ],λe he=> ?_⟩
   have he':e∈L:=by simpa[oQ] using he
   refine⟨by simp[he'],λhn=> ?_⟩
   simp only[aSp,List.nodup_cons] at hn;intro hh;exact hn.1 (by rw[<-hh];exact List.mem_map_of_mem he')
  ·simp only[hw,if_false] at h
   obtain⟨x,xs,h1,h2,h3,h4⟩:=Rv h;refine⟨x,xs,by rw[aBX];simp[hw,h1],by simp[h2],by simp[oQ,hw] at h3 ⊢; omega,λe he=> ?_⟩
   have he':e=(we,ke,xe)∨e∈oQ L w:=by
    simp only[oQ,List.eraseP_cons,hw,decide_false,cond_false] at he;simpa[oQ] using he
   rcases he' with rfl|he'
   ·refine⟨by simp,λhn=> ?_⟩
    simp only[aSp,List.nodup_cons] at hn;intro hh;exact hn.1 (by rw[show ke=k from hh];exact List.mem_map_of_mem h2)
   ·obtain⟨g1,g2⟩:=h4 e he'
    refine⟨by simp[g1],λhn=> ?_⟩
    simp only[aSp,List.nodup_cons] at hn;exact g2 hn.2
abbrev pk8:iA:=pkN
theorem bRg (p mb:Nat)(a b:Int):bld prog 181 [(0,.Q p 0),(1,.map (some mb)),(2,.I a),(3,.I b)]=some (.agg #[.Q p 0,.map (some mb),.I a,.I b]):=rfl
theorem aNG (H:aF):qH H=some (.map (some H.length),H++[.map [] 0]):=rfl
theorem aNF (H:aF)(k:Int):dT 3 1 1 [.I 0] [(0,.I k)] H=some (.slice (some ⟨H.length,0,none⟩) 1 1,H++[.cells [.I k] 3 .row]):=rfl
theorem R3 (a b c:Int):nC prog false [.I a,.I b,.I c]=some (.I (min (min a b) c)):=by
 simp[nC,eE,iI,pur,Builtin.min_,Builtin.min2,pure,bind,Sem.bind]
 split<;>split<;>omega
theorem R0 (a b:Int):nC prog true [.I a,.I b]=some (.I (max a b)):=by
 simp[nC,eE,iI,pur,Builtin.max_,Builtin.max2,pure,bind,Sem.bind]
 split<;>omega
def tB (w:lP)(ports lanes:Nat):Bool:=decide (0<=min (min w.1 w.2.1) w.2.2)&&decide (max w.1 w.2.1<(ports:Int))&&decide (w.2.2<(lanes:Int))
theorem Model.aBY {H H':aF}{p s:Nat}{l:List kS}{top free:Int}{fl:List Nat}(h:Model H p s l top free fl)
  (hk: ∀(b:Nat)(cs:List Value)(e:TypeId)(k:Kind),H[b]? =some (.cells cs e k)->(e=244/\k= .fix)∨(e=247/\k= .row)∨(e=54/\k= .fix)->H'[b]? =some (.cells cs e k)):Model H' p s l top free fl:=
 ⟨⟨hk _ _ _ _ h.pool.hp (.inl ⟨rfl,rfl⟩),hk _ _ _ _ h.pool.hs (.inr (.inl ⟨rfl,rfl⟩)),λi q x d hi=>hk _ _ _ _ (h.pool.hq i q x d hi) (.inr (.inr ⟨rfl,rfl⟩))⟩,h.chain,h.nodup,h.full,h.cnt,h.len⟩
section
variable {H : aF} {a n ports lanes m : Nat} {L : List En}
theorem aNI (hm:300<m)(po la sl:Nat)(h:1<=po/\po<=16/\1<=la/\la<=3/\1<=sl/\sl<=200): ∃a H',lvl prog pk8 m (.func 41) [.I po,.I la,.I sl] H=some (.Q a 0,H')/\Ext H H'/\IsRings H' a [] sl po la/\H.length<=a:=by
 have g:=aNt (H:=H) (pr:=pk8) (cH rfl) sl U U (m:=m-1) U
 have hM:=((aNA (H:=H) sl U U).app [Blk.map [] 0]).app [.cells [.pointer (some ⟨H.length+1,0,none⟩),.map (some (nA H (lY sl)).length),.int .i64 po,.int .i64 la] 181 .fix]
 have e1:decide ((po:Int)<1)=false:=aSF U
 have e2:decide (16<(po:Int))=false:=aSF U
 have e3:decide ((la:Int)<1)=false:=aSF U
 have e4:decide (3<(la:Int))=false:=aSF U
 have hl:(nA H (lY sl)).length=H.length+2:=by simp[nA]
 refine⟨(nA H (lY sl)++[Blk.map [] 0]).length,nA H (lY sl)++[Blk.map [] 0]++[Blk.cells [.pointer (some ⟨H.length+1,0,none⟩),.map (some (nA H (lY sl)).length),.int .i64 po,.int .i64 la] 181 .fix],cS (cH rfl) U ?_,?_,
  ⟨H.length+1,H.length,(nA H (lY sl)).length,lY sl,0,sl,List.range sl,λ_=>none,by simp,hM,I2 sl,by simp,by simp,by simp,?_,λw _=>rfl,by simp,by simp,by omega,by omega⟩,by simp[hl];omega⟩
 ·rw[aNe]
  simp -implicitDefEqProofs only[g,e22,b_lss,b_gtr,e1,e2,e3,e4,r_opt,r_ret,ob_some,r_gdff,r_gdff2,pick_f,iteV_false,aNG,bRg,x_newB,oneOf_one];rfl
 ·unfold nA
  rw[aR1,aR1];exact Fr.app _ _ _
 ·have h0:=IsMap.aBT (enc:=oI) (nA H (lY sl))
  refine h0.zT ?_;rw[aRX (by simp)]
theorem aB0 (h:IsRings H a L n ports lanes)(hm:0<m)(w:lP):lvl prog pk8 m (.func 142) [.Q a 0,oI w] H=some (.bool (tB w ports lanes),H++[.cells [.I w.1,.I w.2.1,.I w.2.2] 256 .fix]):=by
 obtain⟨p,s,mb,l,top,free,fl,f,hi⟩:=h;have hi':=hi.app [.cells [.I w.1,.I w.2.1,.I w.2.2] 256 .fix];have l2:=hi'.ld2;have l3:=hi'.ld3;have x0:ld1 (.Q H.length 0) (H++[.cells [.I w.1,.I w.2.1,.I w.2.2] 256 .fix])=some (.I w.1,H++[.cells [.I w.1,.I w.2.1,.I w.2.2] 256 .fix]):=by rw[kM,wV];rfl
 have x1:ld1 (.Q H.length 1) (H++[.cells [.I w.1,.I w.2.1,.I w.2.2] 256 .fix])=some (.I w.2.1,H++[.cells [.I w.1,.I w.2.1,.I w.2.2] 256 .fix]):=by rw[kM,wV];rfl
 have x2:ld1 (.Q H.length 2) (H++[.cells [.I w.1,.I w.2.1,.I w.2.2] 256 .fix])=some (.I w.2.2,H++[.cells [.I w.1,.I w.2.1,.I w.2.2] 256 .fix]):=by rw[kM,wV];rfl
 have hc:(Value.cells (oI w)).toList=[.I w.1,.I w.2.1,.I w.2.2]:=rfl;refine cS (cH rfl) U ?_
 rw[aNc];unfold tB;rw[hc];by_cases h1:0<=min (min w.1 w.2.1) w.2.2
 ·have e1:decide (0<=min (min w.1 w.2.1) w.2.2)=true:=aSE h1
  by_cases h2:max w.1 w.2.1<(ports:Int)
  ·have e2:decide (max w.1 w.2.1<(ports:Int))=true:=aSE h2
   simp -implicitDefEqProofs only[x_newB,r_fAddr,r_nil,aSf,Nat.add_zero,x0,x1,x2,l2,l3,R3,R0,b_geq,b_lss,e1,e2,r_opt,r_ret,ob_some,ifB_true,r_gdt,r_gdt2,pick_t,oneOf_one,aSh]
  ·have e2:decide (max w.1 w.2.1<(ports:Int))=false:=aSF h2
   simp -implicitDefEqProofs only[x_newB,r_fAddr,r_nil,aSf,Nat.add_zero,x0,x1,x2,l2,l3,R3,R0,b_geq,b_lss,e1,e2,r_opt,r_ret,ob_some,ifB_true,r_gdt,r_gdt2,r_gdft,r_gdft2,r_gdu,r_gdu2,pick_t,pick_f,oneOf_one,aSh,Bool.false_and]
 ·have e1:decide (0<=min (min w.1 w.2.1) w.2.2)=false:=aSF h1
  simp -implicitDefEqProofs only[x_newB,r_fAddr,r_nil,aSf,Nat.add_zero,x0,x1,x2,l2,l3,R3,R0,b_geq,b_lss,e1,r_opt,r_ret,ob_some,ifB_true,r_gdft,r_gdft2,r_gdu,r_gdu2,pick_f,oneOf_one,Bool.false_and]
theorem aNH (h:IsRings H a L n ports lanes)(hm:0<m)(i o k:Int):lvl prog pk8 m (.func 96) [.Q a 0,.I i,.I o,.I k] H=some (.I (qOf L (i,o,k)).length,H):=by
 obtain⟨p,s,mb,l,top,free,fl,f,hi⟩:=h;have l1:=hi.ld1;have g:=hi.mp.zS xU (i,o,k) (.slice none 0 0);refine cS (cH rfl) U ?_
 rw[aNh];cases hf:f (i,o,k) with
 |none=>
  rw[hf] at g;simp only[Option.getD_none] at g;rw[hi.no _ hf];simp -implicitDefEqProofs only[r_nil,r_fAddr,aSf,l1,bW,g,Lf,r_opt,ob_some,oneOf_one];rfl
 |some v=>
  rw[hf] at g;simp only[aSn] at g;have hl:=(hi.yes _ v hf).1.Mi;rw[aR8] at hl;simp -implicitDefEqProofs only[r_nil,r_fAddr,aSf,l1,bW,g,hl,r_opt,ob_some,oneOf_one]
theorem R4 (H:aF)(x:Pkt):stN 4 (.Q H.length 0) x.dN (H++[pkB pk0])=some (undef,H++[pkB x]):=by
 rw[I4,wV,aBM,Rn]
theorem xV {H:aF}{b:Nat}{x:Pkt}(h:H[b]? =some (pkB x)):ldN 4 (.Q b 0) H=some (x.dN,H):=by
 rw[tT,h,aNo]
theorem R5 {H:aF}{b:Nat}{y x:Pkt}(h:H[b]? =some (pkB y)):stN 4 (.Q b 0) x.dN H=some (undef,H.set b (pkB x)):=by
 rw[I4,h,aBM]
def wG (ps:List Pkt):Value:= .tuple #[(ps.headD pk0).dN,.bool (!ps.isEmpty)]
theorem aBZ (h:IsRings H a L n ports lanes)(hm:10<m)(i o k:Int): ∃H',lvl prog pk8 m (.func 151) [.Q a 0,.I i,.I o,.I k] H=some (wG (oZ L (i,o,k)),H')/\Ext H H':=by
 obtain⟨p,s,mb,l,top,free,fl,f,hi⟩:=h;have hi1:=hi.app [pkB pk0];have l1:=hi1.ld1;have l0:=hi1.ld0;have g:=hi1.mp.zS xU (i,o,k) (.slice none 0 0);cases hf:f (i,o,k) with
 |none=>
  rw[hf] at g;simp only[Option.getD_none] at g;have hq:=hi.no _ hf;have hp:oZ L (i,o,k)=[]:=aSc.mp (by rw[<-Rz,hq];rfl)
  rw[hp];refine⟨H++[pkB pk0],cS (cH rfl) U ?_,Fr.app _ _ _⟩
  rw[aBA];have e1:((0:Int)==0)=true:=rfl;have hl:ldN 4 (.Q H.length 0) (H++[pkB pk0])=some (pk0.dN,H++[pkB pk0]):=xV (by simp)
  simp -implicitDefEqProofs only[zQ,x_newB,r_nil,r_fAddr,aSf,l1,bW,g,Lf,b_eql,e1,aBJ,R4,hl,r_opt,ob_some,iteV_true,oneOf_two];rfl
 |some v=>
  rw[hf] at g;simp only[aSn] at g;obtain⟨hr,hne⟩:=hi1.yes _ v hf;obtain⟨k0,ks,hq⟩: ∃k0 ks,qOf L (i,o,k)=k0::ks:=by
   cases hx:qOf L (i,o,k) with
   |nil=>exact absurd hx hne
   |cons a b=>exact⟨a,b,rfl⟩
  obtain⟨x,xs,hp,hin,hlen,hrest⟩:=Rv hq;rw[hq] at hr;rw[hp];have hl:=hr.Mi;obtain⟨bb,oo,g1,g2,g3⟩:=hr.Xc (i:=0) (x:=nT k0) rfl .i64;obtain⟨q,d,hslot⟩:=hi.full _ hin;have hg:=aNn (pr:=pk8) (cH rfl) (cH rfl) hi1.pool.pool (m:=m-1) U k0 q x d hslot
  have e1:((((k0::ks).map nT).length:Int)==0)=false:=by simp;omega
  have hst:stN 4 (.Q H.length 0) x.dN (H++[pkB pk0]++[pkB x])=some (undef,H++[pkB x]++[pkB x]):=by
   rw[R5 (y:=pk0) (by rw[aRX (by simp)];simp)]
   simp
  have hld:ldN 4 (.Q H.length 0) (H++[pkB x]++[pkB x])=some (x.dN,H++[pkB x]++[pkB x]):=xV (by rw[aRX (by simp)];simp)
  refine⟨H++[pkB x]++[pkB x],cS (cH rfl) U ?_,by rw[aR1];exact Fr.app _ _ _⟩
  rw[aBA];have g1':aT 1 v (.I 0)=some (.Q bb oo):=g1;have hk0:nT k0= .I k0:=rfl;simp -implicitDefEqProofs only[zQ,x_newB,r_nil,r_fAddr,aSf,Nat.add_zero,l0,l1,bW,g,hl,b_eql,e1,g1',g3 _ rfl,hk0,hg,ext_0,ext_1,hst,hld,r_opt,ob_some,ifB_true,iteV_false,oneOf_two];rfl
end
theorem R6 (w:lP)(H:aF):stN 3 (.Q H.length 0) (oI w) (H++[.cells [.I 0,.I 0,.I 0] 256 .fix])=some (undef,H++[.cells [.I w.1,.I w.2.1,.I w.2.2] 256 .fix]):=by
 have hc:(Value.cells (oI w)).toList=[.I w.1,.I w.2.1,.I w.2.2]:=rfl;rw[mA 3 _ _ _ rfl,wV,hc,oK _ _ _ _ _ _ aC (by simp) rfl]
 simp[eT]
theorem Bv {H:aF}{b:Nat}{w:lP}(h:H[b]? =some (.cells [.I w.1,.I w.2.1,.I w.2.2] 256 .fix)):ldN 3 (.Q b 0) H=some (oI w,H):=by
 rw[tT,h,uO _ _ _ _ _ (by simp)]
 rfl
section
variable {H : aF} {a n ports lanes m : Nat} {L : List En}
theorem RI.aB1 {H1:aF}{p s mb:Nat}{l:List kS}{top free:Int}{fl:List Nat}{f:lP->Option Value}(hi:RI H a L n ports lanes p s mb l top free fl f)(hs: ∀b,b<H.length->b≠p->b≠s->H1[b]? =H[b]?):
  (∀(b:Nat)(x:Blk),H[b]? =some x->(∀cs,x≠ .cells cs 244 .fix)->(∀cs,x≠ .cells cs 247 .row)->H1[b]? =some x):=by
 intro b x hx h1 h2;have hlt:=(aRU.mp hx).1;have hp:b≠p:=λhh=>by
  subst hh;rw[hi.pool.pool.hp] at hx;cases hx;exact h1 _ rfl
 have hss:b≠s:=λhh=>by
  subst hh;rw[hi.pool.pool.hs] at hx;cases hx;exact h2 _ rfl
 rw[hs b hlt hp hss,hx]
theorem aNJ (h:IsRings H a L n ports lanes)(hm:100<m)(w:lP)(x:Pkt)(hno:tB w ports lanes=false∨n<=L.length):
  ∃H',lvl prog pk8 m (.func 98) [.Q a 0,.I w.1,.I w.2.1,.I w.2.2,x.dN] H=some (.bool false,H')/\Ext H H':=by
 obtain⟨hw,hH⟩: ∃WB:Blk,WB= .cells [.int .i64 w.1,.int .i64 w.2.1,.int .i64 w.2.2] 256 .fix:=⟨_,rfl⟩;have h2:=(h.app [pkB x]).app [hw];have hr:=aB0 h2 (m:=m-1) U w
 have hx:Blk.cells (Value.cells x.dN).toList 54 .fix=pkB x:=rfl;have hb:=bW w.1 w.2.1 w.2.2;have hst:=R6 w (H++[pkB x]);rw[<-hH] at hst hr;have hld:ldN 3 (.pointer (some ⟨(H++[pkB x]).length,0,none⟩)) (H++[pkB x]++[hw])=some (oI w,H++[pkB x]++[hw]):=Bv (by rw[wV,hH])
 cases hv:tB w ports lanes with
 |false=>
  rw[hv] at hr;refine⟨H++[pkB x]++[hw]++[hw],cS (cH rfl) U ?_,by rw[aR1,aR1];exact Fr.app _ _ _⟩
  rw[Rj];simp -implicitDefEqProofs only[x_newB,hx,hb,hst,hld,hr,u_not,Bool.not_false,r_opt,ob_some,iteV_true,oneOf_one]
 |true=>
  have hcnt:n<=L.length:=by
   rcases hno with hno|hno
   ·rw[hv] at hno;cases hno
   ·exact hno
  rw[hv] at hr;obtain⟨p,s,mb,l,top,free,fl,f,hi⟩:=h2.app [hw];have hfl:fl=[]:=by
   have:=hi.cnt;exact aSc.mp U
  subst hfl;have hp:=hi.pool.aNy (pr:=pk8) (cH rfl) (m:=m-1) U x
  have l0:=hi.ld0;have hldx:ldN 4 (.Q H.length 0) (H++[pkB x]++[hw]++[hw])=some (x.dN,H++[pkB x]++[hw]++[hw]):=xV (by rw[aR1,aR1,aSe (aRZ _)];simp)
  refine⟨H++[pkB x]++[hw]++[hw]++[pkB x],cS (cH rfl) U ?_,by rw[aR1,aR1,aR1];exact Fr.app _ _ _⟩
  rw[Rj];simp -implicitDefEqProofs only[x_newB,hx,hb,hst,hld,hr,u_not,Bool.not_true,r_opt,ob_some,ifB_true,iteV_false,r_nil,r_fAddr,aSf,l0,hldx,hp,ext_0,ext_1,oneOf_one]
theorem aNK (h:IsRings H a L n ports lanes)(hm:100<m)(w:lP)(x:Pkt)(hv:tB w ports lanes=true)(hn:L.length<n):
    ∃H' k,lvl prog pk8 m (.func 98) [.Q a 0,.I w.1,.I w.2.1,.I w.2.2,x.dN] H=some (.bool true,H')/\Ch AR H H'/\IsRings H' a (L++[(w,k,x)]) n ports lanes:=by
  obtain⟨hw,hH⟩: ∃WB:Blk,WB= .cells [.int .i64 w.1,.int .i64 w.2.1,.int .i64 w.2.2] 256 .fix:=⟨_,rfl⟩;have h2:=(h.app [pkB x]).app [hw];have hr:=aB0 h2 (m:=m-1) U w
  have hx:Blk.cells (Value.cells x.dN).toList 54 .fix=pkB x:=rfl;have hb:=bW w.1 w.2.1 w.2.2;have hst:=R6 w (H++[pkB x]);rw[<-hH] at hst hr;have hld:ldN 3 (.pointer (some ⟨(H++[pkB x]).length,0,none⟩)) (H++[pkB x]++[hw])=some (oI w,H++[pkB x]++[hw]):=Bv (by rw[wV,hH])
  rw[hv] at hr;obtain⟨H0,hH0⟩:=aD (H++[pkB x]++[hw]++[hw]);have hc0:Ch AR H H0:=by rw[hH0,aR1,aR1];exact Ch.app _ _ _
  have h3:=h2.app [hw];rw[<-hH0] at h3 hr;obtain⟨p,s,mb,l,top,free,fl,f,hi⟩:=h3;have hWat:H0[(H++[pkB x]).length]? =some hw:=by rw[hH0,aRX (by simp),aSe (aRZ _)];simp
  obtain⟨k,ks,rfl⟩: ∃k ks,fl=k::ks:=by
    cases fl with
    |nil=>have:=hi.cnt;simp at this;omega
    |cons k ks=>exact⟨k,ks,rfl⟩
  obtain⟨H1,q,d,hp,hM1,hkl,hlen1,hsame⟩:=hi.pool.aNx (pr:=pk8) (cH rfl) (m:=m-1) U x
  have keep1:=hi.aB1 hsame;have l0:=hi.ld0;have hldx:ldN 4 (.Q H.length 0) H0=some (x.dN,H0):=xV (by rw[hH0,aR1,aR1,aSe (aRZ _)];simp)
  have hd1:=keep1 _ _ hi.hd (λcs hh=>by cases hh) (λcs hh=>by cases hh)
  have l1:ld1 (.Q a 1) H1=some (.map (some mb),H1):=by rw[kM,hd1];rfl
  have hW1:H1[(H++[pkB x]).length]? =some hw:=keep1 _ _ hWat (λcs hh=>by rw[hH] at hh;cases hh) (λcs hh=>by rw[hH] at hh;cases hh)
  have hld1:ldN 3 (.Q ((H++[pkB x]).length) 0) H1=some (oI w,H1):=Bv (by rw[hW1,hH])
  have hm1:IsMap oI H1 mb f:=by
    obtain⟨es,c,e1,e2⟩:=hi.mp
    exact⟨es,c,keep1 _ _ e1 (λcs hh=>by cases hh) (λcs hh=>by cases hh),e2⟩
  have hq1: ∀w' v,f w'=some v->RowO 3 H1 v ((qOf L w').map nT):=λw' v hf=>by
    have:=(hi.yes w' v hf).1;refine this.uV λb hb=> ?_
    obtain⟨xs,hxs⟩:=this.blk hb;rw[hxs,keep1 _ _ hxs (λcs hh=>by cases hh) (λcs hh=>by cases hh)]
  have hc1:Ch AR H0 H1:=⟨hlen1,λb y hy hn'=>keep1 b y hy (λcs hh=>hn' (by rw[hh];exact .inl ⟨rfl,rfl⟩)) (λcs hh=>hn' (by rw[hh];exact .inr (.inl ⟨rfl,rfl⟩)))⟩
  -- the slot's number, in a row of its own
  obtain⟨H2,hH2⟩:=aD (H1++[Blk.cells [nT k] 3 .row]);have hbi:dT 3 1 1 [.int .i64 0] [(0,.int .i64 (k:Nat))] H1=some (.slice (some ⟨H1.length,0,none⟩) 1 1,H2):=by rw[hH2];exact aNF H1 k
  have hm2:IsMap oI H2 mb f:=hm1.zT (by
    obtain⟨es,c,e1,e2⟩:=hm1;rw[hH2,aRX (aRU.mp e1).1])
  obtain⟨born,X,hent,⟨xe,xc,hX⟩,hstore⟩:=hm2.aNC xU w (.slice none 0 0);obtain⟨H3,hH3⟩:=aD (H2.set mb X);rw[<-hH3] at hent;have hmblk: ∃es c,H2[mb]? =some (.map es c):=by
    obtain⟨es,c,e1,e2⟩:=hm2
    exact⟨_,_,e1⟩
  have hmlt:mb<H2.length:=by
    obtain⟨es,c,e1⟩:=hmblk
    exact(aRU.mp e1).1
  have hlen2:H2.length=H1.length+1:=by rw[hH2];simp
  have hlen3:H3.length=H1.length+1:=by rw[hH3];simp[hlen2]
  -- cells of H1 in H3
  have k13: ∀(b:Nat)(cs:List Value)(e:TypeId)(kk:Kind),H1[b]? =some (.cells cs e kk)->H3[b]? =some (.cells cs e kk):=by
    intro b cs e kk hb;have hlt:=(aRU.mp hb).1;have hb2:H2[b]? =some (.cells cs e kk):=by rw[hH2,aRX hlt,hb]
    have hne:b≠mb:=λhh=>by
      subst hh;obtain⟨es,c,e1⟩:=hmblk;rw[hb2] at e1;cases e1
    rw[hH3,oL hne,hb2]
  have hX3:H3[mb]? =some X:=by rw[hH3,aR0 hmlt]
  have hsrcb:H3[H1.length]? =some (.cells [nT k] 3 .row):=by
    have hb2:H2[H1.length]? =some (.cells [nT k] 3 .row):=by rw[hH2];simp
    have hne:H1.length≠mb:=λhh=>by
      obtain⟨es,c,e1⟩:=hmblk;rw[<-hh,hb2] at e1;cases e1
    rw[hH3,oL hne,hb2]
  have hsl:mS (.slice (some ⟨H1.length,0,none⟩) 1 1)=some 1:=rfl;have hsc:gT 1 (.slice (some ⟨H1.length,0,none⟩) 1 1) 1 H3=some [nT k]:=by simp[gT,hsrcb]
  have hall:dV [nT k]=true:=rfl;have hqlen:(qOf L w).length<=200:=by
    have h1:(qOf L w).length<=L.length:=by simp[qOf,List.length_filter_le]
    have:=hi.cnt;have:=hi.b1;omega
  -- the queue grows
  obtain⟨v',H4,happ,hrow,hl4,hsame4,hhome,hnew⟩: ∃v' H4,app 3 1 8 ((f w).getD (.slice none 0 0)) (.slice (some ⟨H1.length,0,none⟩) 1 1) H3=some (v',H4)/\RowO 3 H4 v' ((qOf L w).map nT++[nT k])/\H3.length<=H4.length/\
      (∀b,b<H3.length-> ¬(∃v,f w=some v/\cJ v b)->H4[b]? =H3[b]?)/\(∀b,cJ v' b->(∃v,f w=some v/\cJ v b)∨(H3.length<=b/\b<H4.length))/\True:=by
    cases hf:f w with
    |none=>
      obtain⟨g1,g2⟩:=aGW (e:=3) (H:=H3) (by':=8) hsl hsc aC
      refine⟨_,_,g1,by rw[hi.no w hf];exact g2,by simp,λb hb _=>aRX hb,?_,trivial⟩
      rintro b ⟨oo,nn,cc,hh⟩
      cases hh;exact .inr ⟨aRZ _,by simp⟩
    |some v=>
      have hr3:RowO 3 H3 v ((qOf L w).map nT):=(hq1 w v hf).uV λb hb=>by
        obtain⟨xs,hxs⟩:=(hq1 w v hf).blk hb;rw[hxs,k13 _ _ _ _ hxs]
      obtain⟨v',H4,g1,g2,g3,g4,g5,g6⟩:=hr3.aGU (by':=8) hsl hsc (by simp[hP];omega) hall
      exact⟨v',H4,g1,g2,g3,λb hb hn=>g4 b hb λhh=>hn ⟨v,rfl,hh⟩,λb hb=>(g5 b hb).imp (λhh=>⟨v,rfl,hh⟩) id,trivial⟩
  have hnomb: ¬ ∃v,f w=some v/\cJ v mb:=by
    rintro ⟨v,hf,hh⟩
    obtain⟨xs,hxs⟩:=(hq1 w v hf).blk hh;obtain⟨es,c,e1,e2⟩:=hm1;rw[hxs] at e1;cases e1
  have hX4:H4[mb]? =some X:=by rw[hsame4 mb U hnomb,hX3]
  obtain⟨X',hset,hm5,⟨ye,yc,hX'⟩⟩:=hstore H4 v' hX4
  -- what is not a map nor a row of ints stays from H1 on
  have k15: ∀(b:Nat)(cs:List Value)(e:TypeId)(kk:Kind),H1[b]? =some (.cells cs e kk)->(∀v,f w=some v-> ¬cJ v b)->(H4.set mb X')[b]? =some (.cells cs e kk):=by
    intro b cs e kk hb hh;have hlt:=(aRU.mp hb).1;have h3:=k13 b cs e kk hb;have hne:b≠mb:=λhx=>by
      subst hx;rw[hX3,hX] at h3;cases h3
    rw[oL hne,hsame4 b U (λ⟨v,hf,hv⟩=>hh v hf hv),h3]
  have k15': ∀(b:Nat)(cs:List Value)(e:TypeId)(kk:Kind),H1[b]? =some (.cells cs e kk)-> ¬(e=3/\kk= .row)->(H4.set mb X')[b]? =some (.cells cs e kk):=λb cs e kk hb hne=>k15 b cs e kk hb λv hf hh=>by
    obtain⟨xs,hxs⟩:=(hq1 w v hf).blk hh;rw[hb] at hxs;cases hxs;exact hne ⟨rfl,rfl⟩
  refine⟨H4.set mb X',k,cS (cH rfl) U ?_,?_,⟨p,s,mb,l.set k (some (q,x),d),d,free-1,ks,upd f w (some v'),?_⟩⟩
  · rw[Rj]
    simp -implicitDefEqProofs only[x_newB,hx,hb,hst,hld,hr,u_not,Bool.not_true,r_opt,ob_some,ifB_true,iteV_false,iteV_true,r_nil,r_fAddr,aSf,l0,hldx,hp,ext_0,ext_1,l1,hld1,hbi,hent,happ,hset,oneOf_one]
  · refine(hc0.yV hc1).yV ⟨by simp;omega,λb y hy hn'=> ?_⟩
    cases y with
    |map es c=>exact absurd trivial hn'
    |dead=>exact absurd trivial hn'
    |cells cs e kk=>exact k15' b cs e kk hy λhh=>hn' (.inr (.inr hh))
  · refine⟨k15' _ _ _ _ hd1 (by rintro ⟨hh,_⟩;revert hh;decide),hM1.aBY λb cs e kk hb hh=>k15' b cs e kk hb (by
      rintro ⟨h1,h2⟩
      subst h1 h2;rcases hh with⟨h1,_⟩|⟨h1,_⟩|⟨h1,_⟩<;>revert h1<;>decide),by simp[hi.len],by have:=hi.cnt;simp at this ⊢; omega,?_,?_,hm5,?_,?_,?_,hi.b1,hi.b2⟩
    · rw[List.map_append,List.nodup_append]
      refine⟨hi.nd,by simp,λy hy z hz hyz=> ?_⟩
      simp at hz;obtain⟨e,he,rfl⟩:=aSx.mp hy;obtain⟨q',d',hs⟩:=hi.full e he;obtain⟨d'',hf⟩:=(hi.pool.full k).mp (by simp)
      rw[hyz,hz,hf] at hs;cases hs
    · intro e he
      rcases List.mem_append.mp he with he|he
      · obtain⟨q',d',hs⟩:=hi.full e he
        have hne:k≠e.2.1:=λhh=>by
          obtain⟨d'',hf⟩:=(hi.pool.full k).mp (by simp)
          rw[hh,hs] at hf;cases hf
        exact⟨q',d',by rw[aRV hne,hs]⟩
      · rw[List.mem_singleton] at he
        subst he
        exact⟨q,d,aR0 hkl⟩
    · intro w' hw'
      unfold upd at hw';by_cases hww:w'=w
      · rw[if_pos hww] at hw'
        cases hw'
      · rw[if_neg hww] at hw'
        rw[Rx,if_neg (λhh=>hww hh.symm)]
        exact hi.no w' hw'
    · intro w' v hw'
      unfold upd at hw';by_cases hww:w'=w
      · rw[if_pos hww] at hw'
        cases hw';subst hww;rw[Rx,if_pos rfl];refine⟨?_,by simp⟩
        rw[List.map_append];refine hrow.uV λb hb=>oL λhh=> ?_
        subst hh;obtain⟨xs,hxs⟩:=hrow.blk hb;rw[hX4,hX] at hxs;cases hxs
      · rw[if_neg hww] at hw'
        rw[Rx,if_neg (λhh=>hww hh.symm)]
        refine⟨(hq1 w' v hw').uV λb hb=> ?_,(hi.yes w' v hw').2⟩
        obtain⟨xs,hxs⟩:=(hq1 w' v hw').blk hb;rw[hxs,k15 b _ _ _ hxs λv2 hf2 hh=>hi.sep w' w v v2 b hw' hf2 hww hb hh]
    · intro w1 w2 v1 v2 b hf1 hf2 hne hh1 hh2
      have old: ∀w' v,f w'=some v->cJ v b->b<H1.length:=λw' v hf hh=>by
        obtain⟨xs,hxs⟩:=(hq1 w' v hf).blk hh
        exact(aRU.mp hxs).1
      unfold upd at hf1 hf2;by_cases e1:w1=w
      · rw[if_pos e1] at hf1
        cases hf1;rw[if_neg (λhh=>hne (e1.trans hh.symm))] at hf2
        rcases hhome b hh1 with⟨v,hf,hh⟩|hh
        · exact hi.sep w w2 v v2 b hf hf2 (by rw[<-e1];exact hne) hh hh2
        · have:=old w2 v2 hf2 hh2
          omega
      · rw[if_neg e1] at hf1
        by_cases e2:w2=w
        · rw[if_pos e2] at hf2
          cases hf2;rcases hhome b hh2 with⟨v,hf,hh⟩|hh
          · exact hi.sep w1 w v1 v b hf1 hf e1 hh1 hh
          · have:=old w1 v1 hf1 hh1
            omega
        · rw[if_neg e2] at hf2
          exact hi.sep w1 w2 v1 v2 b hf1 hf2 hne hh1 hh2
end
section
variable {H : aF} {a n ports lanes m : Nat} {L : List En}
theorem RI.aNL {p s mb:Nat}{l:List kS}{top free:Int}{fl:List Nat}{f:lP->Option Value}(hi:RI H a L n ports lanes p s mb l top free fl f){b:Nat}{y x:Pkt}(hb:H[b]? =some (pkB y))(hq: ∀(i q:Nat)(z:Pkt)(d:Int),l[i]? =some (some (q,z),d)->q≠b):
  RI (H.set b (pkB x)) a L n ports lanes p s mb l top free fl f:=by
 have keep: ∀(c:Nat)(z:Blk),H[c]? =some z->(∀cs,z≠ .cells cs 54 .fix)->(H.set b (pkB x))[c]? =some z:=λc z hc hz=>by
  rw[oL (λhh=>by subst hh;rw[hb] at hc;cases hc;exact hz _ rfl),hc]
 refine⟨keep _ _ hi.hd (λcs hh=>by cases hh),⟨⟨keep _ _ hi.pool.pool.hp (λcs hh=>by cases hh),keep _ _ hi.pool.pool.hs (λcs hh=>by cases hh),λi q z d hl=>by
  rw[oL (hq i q z d hl),hi.pool.pool.hq i q z d hl]⟩,hi.pool.chain,hi.pool.nodup,hi.pool.full,hi.pool.cnt,hi.pool.len⟩,hi.len,hi.cnt,hi.nd,hi.full,?_,hi.no,λw v hv=>⟨?_,(hi.yes w v hv).2⟩,hi.sep,hi.b1,hi.b2⟩
 ·obtain⟨es,c,h1,h2⟩:=hi.mp
  exact⟨es,c,keep _ _ h1 (λcs hh=>by cases hh),h2⟩
 ·refine(hi.yes w v hv).1.uV λc hc=> ?_
  obtain⟨xs,hx⟩:=(hi.yes w v hv).1.blk hc;rw[hx];exact keep _ _ hx (λcs hh=>by cases hh)
theorem aNM (h:IsRings H a L n ports lanes)(hm:100<m)(i o k:Int)(hp:oZ L (i,o,k)=[]):
  ∃H',lvl prog pk8 m (.func 106) [.Q a 0,.I i,.I o,.I k] H=some (wG [],H')/\Ext H H':=by
 obtain⟨H1,g1,g2⟩:=aBZ (h.app [pkB pk0]) (m:=m-1) U i o k
 rw[hp] at g1;have hv:wG []= .tuple #[pk0.dN,.bool false]:=rfl;rw[hv] at g1;have hb0:H1[H.length]? =some (pkB pk0):=by rw[g2.2 H.length (by simp) id];simp
 have hl1:H.length<H1.length:=by have:=g2.1;simp at this;omega
 have hst:stN 4 (.Q H1.length 0) pk0.dN (H1++[pkB pk0])=some (undef,H1++[pkB pk0]):=R4 H1 pk0;have hld:ldN 4 (.Q H1.length 0) (H1++[pkB pk0])=some (pk0.dN,H1++[pkB pk0]):=xV (by simp)
 have hb1:(H1++[pkB pk0])[H.length]? =some (pkB pk0):=by rw[aRX hl1,hb0]
 have hst2:stN 4 (.Q H.length 0) pk0.dN (H1++[pkB pk0])=some (undef,H1++[pkB pk0]):=by
  rw[R5 (y:=pk0) hb1,E6 hb1]
 have hld2:ldN 4 (.pointer (some ⟨H.length,0,none⟩)) (H1++[pkB pk0])=some (pk0.dN,H1++[pkB pk0]):=xV hb1;refine⟨H1++[pkB pk0],cS (cH rfl) U ?_,⟨by simp;omega,λb hb _=> ?_⟩⟩
 ·rw[Rf]
  simp -implicitDefEqProofs only[zQ,x_newB,g1,ext_0,ext_1,hst,hld,hst2,hld2,r_opt,ob_some,iteV_false,oneOf_two];rfl
 ·rw[aRX U,g2.2 b (by simp;omega) id,aRX hb]
theorem aNN (h:IsRings H a L n ports lanes)(hm:100<m)(i o k:Int){x:Pkt}{xs:List Pkt}(hp:oZ L (i,o,k)=x::xs):
    ∃H',lvl prog pk8 m (.func 106) [.Q a 0,.I i,.I o,.I k] H=some (.tuple #[x.dN,.bool true],H')/\Ch AR H H'/\IsRings H' a (oQ L (i,o,k)) n ports lanes:=by
  obtain⟨H1,g1,g2⟩:=aBZ (h.app [pkB pk0]) (m:=m-1) U i o k
  rw[hp] at g1;have hv:wG (x::xs)= .tuple #[x.dN,.bool true]:=rfl;rw[hv] at g1;obtain⟨w,hw⟩: ∃w:lP,w=(i,o,k):=⟨_,rfl⟩;obtain⟨p,s,mb,l,top,free,fl,f,hi0⟩:=h;have hqlt: ∀(j q:Nat)(z:Pkt)(d:Int),l[j]? =some (some (q,z),d)->q<H.length:=λj q z d hl=>(aRU.mp (hi0.pool.pool.hq j q z d hl)).1
  have hl1:H.length<H1.length:=by have:=g2.1;simp at this;omega
  have hi1:RI H1 a L n ports lanes p s mb l top free fl f:=hi0.I8 λb y hb _=>by
    have hlt:=(aRU.mp hb).1;rw[g2.2 b (by simp;omega) id,aRX hlt,hb]
  have hb0:H1[H.length]? =some (pkB pk0):=by rw[g2.2 H.length (by simp) id];simp
  obtain⟨WB,hWB⟩: ∃WB:Blk,WB= .cells [.int .i64 i,.int .i64 o,.int .i64 k] 256 .fix:=⟨_,rfl⟩;obtain⟨H5,hH5⟩:=aD (H1++[pkB x]++[WB]);have hst1:stN 4 (.pointer (some ⟨H1.length,0,none⟩)) x.dN (H1++[pkB pk0])=some (undef,H1++[pkB x]):=R4 H1 x;have hst2:=R6 (i,o,k) (H1++[pkB x]);simp only at hst2;rw[<-hWB,<-hH5] at hst2;have hi:RI H5 a L n ports lanes p s mb l top free fl f:=by rw[hH5];exact(hi1.app _).app _
  have hc5:Ch AR H H5:=by
    refine(Ch.app AR H [pkB pk0]).yV ((Ch.ext g2).yV ?_);rw[hH5,aR1];exact Ch.app _ _ _
  have at0:H5[H.length]? =some (pkB pk0):=by rw[hH5,aR1,aRX hl1,hb0]
  have at4:H5[H1.length]? =some (pkB x):=by rw[hH5,aR1,aSe (aRZ _)];simp
  have atW:H5[(H1++[pkB x]).length]? =some WB:=by rw[hH5,wV]
  have l0:=hi.ld0;have l1:=hi.ld1;have hldw:ldN 3 (.Q ((H1++[pkB x]).length) 0) H5=some (oI (i,o,k),H5):=Bv (by rw[atW,hWB])
  -- the queue
  obtain⟨v,hf⟩: ∃v,f w=some v:=by
    cases hf:f w with
    |some v=>exact⟨v,rfl⟩
    |none=>
      have:=hi.no w hf;have h2:=Rz L w;rw[this,hw,hp] at h2;simp at h2
  have hg:=hi.mp.zS xU w (.slice none 0 0);rw[hf] at hg;simp only[aSn] at hg;obtain⟨hr,hne⟩:=hi.yes w v hf;obtain⟨k0,ks,hq⟩: ∃k0 ks,qOf L w=k0::ks:=by
    cases hx:qOf L w with
    |nil=>exact absurd hx hne
    |cons a b=>exact⟨a,b,rfl⟩
  obtain⟨x',xs',hp',hin,hlen,hrest⟩:=Rv hq;rw[hw,hp] at hp';cases hp';rw[hq] at hr;obtain⟨bb,oo,a1,a2,a3⟩:=hr.Xc (i:=0) (x:=nT k0) rfl .i64;have a1':aT 1 v (.I 0)=some (.Q bb oo):=a1;have hk0:nT k0= .I k0:=rfl;obtain⟨q0,d0,hslot⟩:=hi.full _ hin;obtain⟨H6,hd,hM6,hmore⟩:=hi.pool.aNw (pr:=pk8) (cH rfl) (cH rfl) (m:=m-1) U k0 (q0,x) d0 hslot
  have keep6:=hi.aB1 hmore.same;have c6:Ch AR H5 H6:=⟨hmore.len,λb y hy hn'=>keep6 b y hy (λcs hh=>hn' (by rw[hh];exact .inl ⟨rfl,rfl⟩)) (λcs hh=>hn' (by rw[hh];exact .inr (.inl ⟨rfl,rfl⟩)))⟩
  have hd6:=keep6 _ _ hi.hd (λcs hh=>by cases hh) (λcs hh=>by cases hh)
  have l16:ld1 (.Q a 1) H6=some (.map (some mb),H6):=by rw[kM,hd6];rfl
  have at06:=keep6 _ _ at0 (λcs hh=>by cases hh) (λcs hh=>by cases hh)
  have at46:=keep6 _ _ at4 (λcs hh=>by cases hh) (λcs hh=>by cases hh)
  have atW6:H6[(H1++[pkB x]).length]? =some WB:=keep6 _ _ atW (λcs hh=>by rw[hWB] at hh;cases hh) (λcs hh=>by rw[hWB] at hh;cases hh)
  have hldw6:ldN 3 (.Q ((H1++[pkB x]).length) 0) H6=some (oI (i,o,k),H6):=Bv (by rw[atW6,hWB])
  have hm6:IsMap oI H6 mb f:=by
    obtain⟨es,c,e1,e2⟩:=hi.mp
    exact⟨es,c,keep6 _ _ e1 (λcs hh=>by cases hh) (λcs hh=>by cases hh),e2⟩
  have hq6: ∀w' v',f w'=some v'->RowO 3 H6 v' ((qOf L w').map nT):=λw' v' hf'=>by
    have:=(hi.yes w' v' hf').1;refine this.uV λb hb=> ?_
    obtain⟨ys,hys⟩:=this.blk hb;rw[hys,keep6 _ _ hys (λcs hh=>by cases hh) (λcs hh=>by cases hh)]
  have hg6:=hm6.zS xU w (.slice none 0 0);rw[hf] at hg6;simp only[aSn] at hg6;have hr6:=hq6 w v hf;rw[hq] at hr6;obtain⟨v',hcut,hrow',hhome⟩:=RowO.aGV (P:=prog) (x:=nT k0) (cs:=ks.map nT) hr6 szI;obtain⟨X,hset,hm7,⟨xe,xc,hX⟩⟩:=hm6.aND xU w v' (by rw[hf];simp)
  obtain⟨H7,hH7⟩:=aD (H6.set mb X);rw[<-hH7] at hset hm7;have hmb6: ∃es c,H6[mb]? =some (.map es c):=by
    obtain⟨es,c,e1,e2⟩:=hm6
    exact⟨_,_,e1⟩
  have k67: ∀(b:Nat)(cs:List Value)(e:TypeId)(kk:Kind),H6[b]? =some (.cells cs e kk)->H7[b]? =some (.cells cs e kk):=λb cs e kk hb=>by
    have hne:b≠mb:=λhh=>by
      subst hh;obtain⟨es,c,e1⟩:=hmb6;rw[hb] at e1;cases e1
    rw[hH7,oL hne,hb]
  have len7:H7.length=H6.length:=by rw[hH7];simp
  have l17:ld1 (.Q a 1) H7=some (.map (some mb),H7):=by rw[kM,k67 _ _ _ _ hd6];rfl
  have hldw7:ldN 3 (.Q ((H1++[pkB x]).length) 0) H7=some (oI (i,o,k),H7):=Bv (by rw[hWB] at atW6;rw[k67 _ _ _ _ atW6])
  have hg7:=hm7.zS xU w (.slice none 0 0);have hupd:upd f w (some v') w=some v':=by unfold upd;rw[if_pos rfl]
  rw[hupd] at hg7;simp only[aSn] at hg7;have hlen':=hrow'.Mi;have c7:Ch AR H6 H7:=by
    obtain⟨es,c,e1⟩:=hmb6;rw[hH7];exact Ch.Xb e1 trivial _
  -- the ending: from a heap H8 that is H7 but for the map
  have fin: ∀(H8:aF)(f8:lP->Option Value),Ch AR H7 H8->(∀(b:Nat)(cs:List Value)(e:TypeId)(kk:Kind),H6[b]? =some (.cells cs e kk)->H8[b]? =some (.cells cs e kk))->H6.length<=H8.length->IsMap oI H8 mb f8->
      (∀w',w'≠w->f8 w'=f w')->(f8 w=some v'/\ks≠[]∨f8 w=none/\ks=[])->
      ldN 4 (.Q H1.length 0) H8=some (x.dN,H8)/\stN 4 (.Q H.length 0) x.dN H8=some (undef,H8.set H.length (pkB x))/\ldN 4 (.Q H.length 0) (H8.set H.length (pkB x))=some (x.dN,H8.set H.length (pkB x))/\Ch AR H (H8.set H.length (pkB x))/\IsRings (H8.set H.length (pkB x)) a (oQ L w) n ports lanes:=by
    intro H8 f8 c8 k68 hl8 hm8 hoth hself;have at48:=k68 _ _ _ _ at46;have at08:=k68 _ _ _ _ at06;have at08':H8[H.length]? =some (pkB pk0):=at08;have hlt8:=(aRU.mp at08).1;refine⟨xV at48,R5 at08',xV (aR0 hlt8),?_,?_⟩
    · refine⟨by simp;omega,λb y hy hn'=> ?_⟩
      have hltb:=(aRU.mp hy).1;rw[oL U]
      exact(((hc5.yV c6).yV c7).yV c8).2 b y hy hn'
    · have hRI:RI H8 a (oQ L w) n ports lanes p s mb (l.set k0 (none,top)) k0 (free+1) (k0::fl) f8:=by
        refine⟨k68 _ _ _ _ hd6,hM6.aBY λb cs e kk hb _=>k68 b cs e kk hb,by simp[hi.len],by have:=hi.cnt;simp;omega,?_,?_,hm8,?_,?_,?_,hi.b1,hi.b2⟩
        · exact(List.Sublist.map _ (List.eraseP_sublist)).nodup hi.nd
        · intro e he
          obtain⟨h1,h2⟩:=hrest e he;obtain⟨q',d',hs⟩:=hi.full e h1
          exact⟨q',d',by rw[aRV (λhh=>h2 hi.nd hh.symm),hs]⟩
        · intro w' hw'
          by_cases hww:w'=w
          · subst hww
            rw[Dz,if_pos rfl,hq];rcases hself with⟨h1,_⟩|⟨_,h2⟩
            · rw[h1] at hw';cases hw'
            · exact h2
          · rw[hoth w' hww] at hw'
            rw[Dz,if_neg (λhh=>hww hh.symm)]
            exact hi.no w' hw'
        · intro w' u hw'
          by_cases hww:w'=w
          · subst hww
            rw[Dz,if_pos rfl,hq];rcases hself with⟨h1,h2⟩|⟨h1,_⟩
            · rw[h1] at hw'
              cases hw';refine⟨hrow'.uV λb hb=> ?_,h2⟩
              obtain⟨ys,hys⟩:=hrow'.blk hb;rw[hys,k68 _ _ _ _ hys]
            · rw[h1] at hw';cases hw'
          · rw[hoth w' hww] at hw'
            rw[Dz,if_neg (λhh=>hww hh.symm)]
            refine⟨(hq6 w' u hw').uV λb hb=> ?_,(hi.yes w' u hw').2⟩
            obtain⟨ys,hys⟩:=(hq6 w' u hw').blk hb;rw[hys,k68 _ _ _ _ hys]
        · intro w1 w2 v1 v2 b hf1 hf2 hne' hh1 hh2
          by_cases e1:w1=w
          · rw[hoth w2 (λhh=>hne' (e1.trans hh.symm))] at hf2
            rw[e1] at hf1;rcases hself with⟨h1,_⟩|⟨h1,_⟩
            · rw[h1] at hf1
              cases hf1;exact hi.sep w w2 v v2 b hf hf2 (by rw[<-e1];exact hne') (hhome b hh1) hh2
            · rw[h1] at hf1;cases hf1
          · rw[hoth w1 e1] at hf1
            by_cases e2:w2=w
            · rw[e2] at hf2
              rcases hself with⟨h1,_⟩|⟨h1,_⟩
              · rw[h1] at hf2
                cases hf2;exact hi.sep w1 w v1 v b hf1 hf e1 hh1 (hhome b hh2)
              · rw[h1] at hf2;cases hf2
            · rw[hoth w2 e2] at hf2
              exact hi.sep w1 w2 v1 v2 b hf1 hf2 hne' hh1 hh2
      refine⟨_,_,_,_,_,_,_,_,hRI.aNL at08' λj q z d hl=> ?_⟩
      by_cases hj:k0=j
      · subst hj
        have hlt:=(aRU.mp hslot).1;rw[aR0 hlt] at hl;cases hl
      · rw[aRV hj] at hl
        have:=hqlt j q z d hl;omega
  rw[hw] at hg hg6 hset hg7;cases hks:ks with
  |nil=>
    subst hks;have e1:((([]:List Nat).map nT).length:Int)=0:=rfl;have e2:((((([]:List Nat).map nT).length:Nat):Int)==0)=true:=rfl;obtain⟨X8,hdel,hm8,⟨ye,yc,hX8⟩⟩:=hm7.aNB xU w (by rw[hupd];simp)
    have hmb7: ∃es c,H7[mb]? =some (.map es c):=by
      obtain⟨es,c,e1,e2⟩:=hm7
      exact⟨_,_,e1⟩
    obtain⟨r1,r2,r3,r4,r5⟩:=fin (H7.set mb X8) _ (by
      obtain⟨es,c,e1⟩:=hmb7;exact Ch.Xb e1 trivial _) (λb cs e kk hb=>by
        have h7:=k67 b cs e kk hb;have hne:b≠mb:=λhh=>by
          subst hh;obtain⟨es,c,e1⟩:=hmb7;rw[h7] at e1;cases e1
        rw[oL hne,h7]) (by simp[len7]) hm8 (λw' hww=>by simp[upd,hww]) (.inr ⟨by simp[upd],rfl⟩)
    rw[hw] at hdel r5;refine⟨_,cS (cH rfl) U ?_,r4,r5⟩
    rw[Rf];simp -implicitDefEqProofs only[zQ,x_newB,g1,ext_0,ext_1,hst1,bW,hst2,r_nil,r_fAddr,aSf,l0,l1,hldw,hg,a1',a3 H5 rfl,hk0,hd,l16,hldw6,hg6,hcut,hset,l17,hldw7,hg7,hlen',b_eql,e2,hdel,r1,r2,r3,r_opt,ob_some,ifB_true,iteV_true,oneOf_two]
  |cons k1 ks1=>
    subst hks;have e2:(((((k1::ks1).map nT).length:Nat):Int)==0)=false:=by simp;omega
    obtain⟨r1,r2,r3,r4,r5⟩:=fin H7 _ (Ch.aGT _ _) k67 U hm7 (λw' hww=>by simp[upd,hww]) (.inl ⟨hupd,by simp⟩)
    rw[hw] at r5;refine⟨_,cS (cH rfl) U ?_,r4,r5⟩
    rw[Rf];simp -implicitDefEqProofs only[zQ,x_newB,g1,ext_0,ext_1,hst1,bW,hst2,r_nil,r_fAddr,aSf,l0,l1,hldw,hg,a1',a3 H5 rfl,hk0,hd,l16,hldw6,hg6,hcut,hset,l17,hldw7,hg7,hlen',b_eql,e2,r1,r2,r3,r_opt,ob_some,ifB_true,iteV_true,iteV_false,oneOf_two]
end
section
variable {H : aF} {a n ports lanes m : Nat} {L : List En}
theorem aNP (h:IsRings H a L n ports lanes)(hm:100<m)(w:lP)(x:Pkt): ∃H' L',lvl prog pk8 m (.func 98) [.Q a 0,.I w.1,.I w.2.1,.I w.2.2,x.dN] H=some (.bool (tB w ports lanes&&decide (L.length<n)),H')/\Ch AR H H'/\IsRings H' a L' n ports lanes/\
  ((tB w ports lanes&&decide (L.length<n))=true/\(∃k,L'=L++[(w,k,x)])∨(tB w ports lanes&&decide (L.length<n))=false/\L'=L):=by
 by_cases hv:(tB w ports lanes&&decide (L.length<n))=true
 ·rw[aR2,decide_eq_true_eq] at hv
  obtain⟨H',k,g1,g2,g3⟩:=aNK h hm w x hv.1 hv.2;rw[hv.1,aSE hv.2]
  exact⟨H',_,g1,g2,g3,.inl ⟨rfl,k,rfl⟩⟩
 ·have hf:(tB w ports lanes&&decide (L.length<n))=false:=by simpa using hv
  obtain⟨H',g1,g2⟩:=aNJ h hm w x (by
   rw[Bool.and_eq_false_iff] at hf;exact hf.imp id λh=>by have:=of_decide_eq_false h;omega)
  rw[hf];have hc:Ch AR H H':=Ch.ext g2;obtain⟨p,s,mb,l,top,free,fl,f,hi⟩:=h
  exact⟨H',L,g1,hc,⟨p,s,mb,l,top,free,fl,f,hi.I8 λb x hx _=>by rw[g2.2 b (aRU.mp hx).1 id,hx]⟩,.inr ⟨rfl,rfl⟩⟩
theorem IsRings.ext {H':aF}(h:IsRings H a L n ports lanes)(he:Ext H H'):IsRings H' a L n ports lanes:=by
 obtain⟨p,s,mb,l,top,free,fl,f,hi⟩:=h
 exact⟨p,s,mb,l,top,free,fl,f,hi.I8 λb x hx _=>by rw[he.2 b (aRU.mp hx).1 id,hx]⟩
theorem aNO (h:IsRings H a L n ports lanes)(hm:100<m)(w:lP): ∃H',lvl prog pk8 m (.func 106) [.Q a 0,.I w.1,.I w.2.1,.I w.2.2] H=some (wG (oZ L w),H')/\Ch AR H H'/\IsRings H' a (oQ L w) n ports lanes:=by
 cases hp:oZ L w with
 |nil=>
  obtain⟨H',g1,g2⟩:=aNM h hm w.1 w.2.1 w.2.2 hp;have hL:oQ L w=L:=by
   unfold oQ;apply List.eraseP_of_forall_not;intro e he hd;have:e∈L.filter λe=>decide (e.1=w):=List.mem_filter.mpr ⟨he,hd⟩
   have hl:(oZ L w).length=0:=by rw[hp];rfl
   unfold oZ at hl;rw[aR8] at hl;rw[aSc.mp hl] at this;cases this
  rw[hL]
  exact⟨H',g1,Ch.ext g2,h.ext g2⟩
 |cons x xs=>
  obtain⟨H',g1,g2,g3⟩:=aNN h hm w.1 w.2.1 w.2.2 hp
  exact⟨H',g1,g2,g3⟩
end
end Go.Proofs.YtkeilicinggjmaaGreatDoor.Rg
namespace Go.Proofs.YtkeilicinggjmaaGreatDoor
open Go.Proofs.Tryz
open Go.Abs Go.Abs.M
def wH (L:List Rg.En):List (Go.Abs.gO×Pkt):=L.map λe=>(e.1,e.2.2)
theorem aB2 (L:List Rg.En)(w:Go.Abs.gO):Rg.oZ L w=pZ (wH L) w:=by
 unfold Rg.oZ pZ wH;induction L with
 |nil=>rfl
 |cons e L ih=>
  rw[aSp,List.filter_cons,List.filter_cons];by_cases h:e.1=w
  ·simp only[h,decide_true,if_true,aSp]
   rw[ih]
  ·simp only[h,decide_false]
   exact ih
theorem aNQ (L:List Rg.En)(w:Go.Abs.gO):wH (Rg.oQ L w)=pY (wH L) w:=by
 unfold Rg.oQ pY wH;induction L with
 |nil=>rfl
 |cons e L ih=>
  rw[aSp,List.eraseP_cons,List.eraseP_cons];by_cases h:e.1=w
  ·simp only[h,decide_true,if_true,cond_true]
  ·simp only[h,decide_false,cond_false,aSp]
   rw[ih]
def RingsN (D:aF)(a:Nat)(L:List (Go.Abs.gO×Pkt))(cap ports lanes:Nat):Prop:= ∃Le:List Rg.En,Rg.IsRings D a Le cap ports lanes/\wH Le=L
theorem aNU (w:Go.Abs.gO)(ports lanes:Nat):Rg.tB w ports lanes=Dq w ports lanes:=by
 unfold Rg.tB Dq;rw[Bool.eq_iff_iff];simp only[aR2,decide_eq_true_eq];omega
section
variable {D : aF} {m a cap ports lanes : Nat} {L : List (Go.Abs.gO × Pkt)}
theorem RingsN.ext {D':aF}(h:RingsN D a L cap ports lanes)(he:Ext D D'):RingsN D' a L cap ports lanes:=by
 obtain⟨Le,h1,h2⟩:=h
 exact⟨Le,h1.ext he,h2⟩
theorem aNS (hm:300<m)(po la sl:Nat)(h:1<=po/\po<=16/\1<=la/\la<=3/\1<=sl/\sl<=200): ∃a H',lvl prog pkN m (.func 41) [.I po,.I la,.I sl] D=some (.Q a 0,H')/\RingsN H' a [] sl po la/\Ext D H'/\D.length<=a:=by
 obtain⟨a,H',h1,h2,h3,h4⟩:=Rg.aNI (H:=D) hm po la sl h
 exact⟨a,H',h1,⟨[],h3,rfl⟩,h2,h4⟩
theorem aNR (h:RingsN D a L cap ports lanes)(hm:0<m)(i o k:Int):lvl prog pkN m (.func 96) [.Q a 0,.I i,.I o,.I k] D=some (.I (pZ L (i,o,k)).length,D):=by
 obtain⟨Le,h1,rfl⟩:=h;rw[<-aB2,<-Rg.Rz];exact Rg.aNH h1 hm i o k
theorem aB3 (h:RingsN D a L cap ports lanes)(hm:100<m)(w:Go.Abs.gO)(x:Pkt): ∃r H',lvl prog pkN m (.func 98) [.Q a 0,.I w.1,.I w.2.1,.I w.2.2,x.dN] D=some (r,H')/\RingsN H' a (if Dq w ports lanes=true/\L.length<cap then L++[(w,x)] else L) cap ports lanes:=by
 obtain⟨Le,h1,rfl⟩:=h;have hl:(wH Le).length=Le.length:=by simp[wH]
 obtain⟨H',L',g1,g2,g3,g4⟩:=Rg.aNP h1 hm w x;rw[aNU,aR2,decide_eq_true_eq] at g4;refine⟨_,H',g1,⟨L',g3,?_⟩⟩;rw[hl];rcases g4 with⟨hv,k,rfl⟩|⟨hv,rfl⟩
 ·rw[if_pos hv]
  simp[wH]
 ·rw[if_neg (by intro hh;rw[hh.1,aSE hh.2] at hv;cases hv)]
theorem aNT (h:RingsN D a L cap ports lanes)(hm:100<m)(i o k:Int): ∃H',lvl prog pkN m (.func 106) [.Q a 0,.I i,.I o,.I k] D=some (Rg.wG (pZ L (i,o,k)),H')/\RingsN H' a (pY L (i,o,k)) cap ports lanes:=by
 obtain⟨Le,h1,rfl⟩:=h;obtain⟨H',g1,g2,g3⟩:=Rg.aNO h1 hm (i,o,k);rw[<-aB2,<-aNQ]
 exact⟨H',g1,_,g3,rfl⟩
end
section
variable {D : aF} {m a lanes queue : Nat} {L G : List Pkt} {w0 w1 w2 cv : Value}
theorem aN0:bld prog 54 []=some pk0.dN:=rfl
theorem I9 {H:aF}{b:Nat}{y:Pkt}(x:Pkt)(hb:H[b]? =some (dK y)):stN 4 (.Q b 0) x.dN H=some (undef,H.set b (dK x)):=wD hb aC rfl rfl (aRZ 4) rfl
theorem aNV:prog.cellsOf 54=4:=by kernel_rfl
theorem aNY (h:HostI D a L G lanes queue w0 w1 w2 cv)(hm:3<m)(k:Nat)(hk:k<lanes)(hw:gQ L k=[]): ∃H',lvl prog pkN m (.func 97) [.Q a 0,.I k] D=some (.tuple #[pk0.dN,.bool false],H')/\HostAt H' a L G lanes queue:=by
 refine nQ (cH rfl) U ?_
 rw[aAW];obtain⟨u0,u1,u2,cu,h'⟩:HostAt (D++[dK pk0]) a L G lanes queue:=HostAt.ext ⟨w0,w1,w2,cv,h⟩ (Fr.app _ _ _);have e0: ∀H:aF,H++[Blk.cells [Value.int .i64 0,.int .i64 0,.int .i64 0,.int .u32 0] 54 .fix]=H++[dK pk0]:=λ_=>rfl
 have e1:=aBn h' (m:=m-1) U k hk
 rw[hw] at e1;have st:stN 4 (.Q D.length 0) pk0.dN (D++[dK pk0])=some (undef,D++[dK pk0]):=by
  rw[I9 pk0 (eD _ _),mW]
 have l4:=(rK (eD D (dK pk0))).2;have c1:((([]:List Pkt).length:Int)==0)=true:=rfl;simp only[gsR,e0,e1,c1,aN0,st,l4]
 exact⟨_,rfl,_,_,_,_,h'⟩
theorem HostI.ext {D':aF}(h:HostI D a L G lanes queue w0 w1 w2 cv)(he:Ext D D'):HostI D' a L G lanes queue w0 w1 w2 cv:=
 ⟨by rw[he.2 a (dO h.blk) id,h.blk],h.lanes,h.queue,λk hk=>(h.q k hk).ext he,h.came.ext he,h.apart,h.apartC⟩
theorem aNZ (h:HostI D a L G lanes queue w0 w1 w2 cv)(hm:3<m)(k:Nat)(hk:k<lanes){x:Pkt}{xs:List Pkt}(hw:gQ L k=x::xs): ∃H',lvl prog pkN m (.func 97) [.Q a 0,.I k] D=some (.tuple #[x.dN,.bool true],H')/\HostAt H' a (sZ L k) G lanes queue:=by
 have h3:k<3:=aR9 hk h.lanes.2;refine nQ (cH rfl) U ?_
 rw[aAW];have e0: ∀H:aF,H++[Blk.cells [Value.int .i64 0,.int .i64 0,.int .i64 0,.int .u32 0] 54 .fix]=H++[dK pk0]:=λ_=>rfl
 obtain⟨D1,hD1⟩:=aD (D++[dK pk0]);obtain⟨D3,hD3⟩:=aD (D1++[dK x]);have h1l:D1.length=D.length+1:=by rw[hD1];simp
 have i1:HostI D1 a L G lanes queue w0 w1 w2 cv:=h.ext (by rw[hD1];exact Fr.app _ _ _)
 have i3:HostI D3 a L G lanes queue w0 w1 w2 cv:=i1.ext (by rw[hD3];exact Fr.app _ _ _)
 have e1:=aBn i1 (m:=m-1) U k hk
 rw[hw] at e1;have c1:(((x::xs).length:Int)==0)=false:=by simp;omega
 have e2:=Iy 3 1 a 0 .i64 k h3;rw[Nat.mul_one,aSf] at e2;have q1:=i1.q k h3;rw[hw] at q1;obtain⟨b,o,a1,_,a3⟩:=q1.rs.fS Bp (i:=0) (x:=x) rfl .i64;have a1:aT 4 (w3 w0 w1 w2 k) (.I 0)=some (.Q b o):=a1;have a3:=(a3 D1 rfl).1;have a3':ldN 4 (.Q b o) D1=some (x.dN,D1):=a3;have st0:stN 4 (.Q D1.length 0) x.dN (D1++[dK pk0])=some (undef,D3):=by
  rw[I9 x (eD _ _),mW,hD3]
 have q3:=i3.q k h3;rw[hw] at q3;obtain⟨v',g1,g2,g3⟩:=q3.aMM (P:=prog) Bp aNV;have g1:=g1 D3 q3;have st1:stN 1 (.Q a k) v' D3=some (undef,D3.set a (.cells (([w0,w1,w2,cv,.I lanes,.I queue]:List Value).set k v') 167 .fix)):=qN i3.blk aC (by simp;omega) g2.Bn.1 g2.Bn.2
 obtain⟨Y,hY⟩:=aD (Blk.cells (([w0,w1,w2,cv,.int .i64 lanes,.int .i64 queue]:List Value).set k v') 167 .fix);rw[<-hY] at st1;have hal:a<D.length:=dO h.blk;have b12:(D3.set a Y)[D1.length]? =some (dK x):=by rw[aRV U,hD3,eD]
 have b00:(D3.set a Y)[D.length]? =some (dK pk0):=by rw[aRV U,hD3,hD1,aRX (by simp),eD]
 have l12:=(rK b12).2;have st2:stN 4 (.Q D.length 0) x.dN (D3.set a Y)=some (undef,(D3.set a Y).set D.length (dK x)):=wD b00 aC rfl rfl (aRZ 4) rfl
 have l00:=(rK (fW (y:=dK x) b00)).2;simp only[gsR,e0,<-hD1,e1,c1,e2,Dx i1 h3,a1,a3',st0,Dx i3 h3,g1,st1,l12,st2,l00];refine⟨_,rfl,?_⟩;have hE:(D3.set a Y).set D.length (dK x)=(D++[dK x]++[dK x]).set a Y:=by
  rw[List.set_comm _ _ U,hD3,hD1]
  congr 1
  simp
 rw[hE,hY];have he1:Ext D (D++[dK x]):=Fr.app _ _ _;have he:Ext D (D++[dK x]++[dK x]):=he1.tr (Fr.app _ _ _);have q0:=h.q k h3;rw[hw] at q0;refine h.aBo h3 (he.Cu λ_ h=>h.elim) ?_ (λb hb=> .inl (g3 b hb)) λj hj hjk=> ?_
 ·rw[Iz,if_pos rfl,hw]
  refine g2.zP λb hb=> ?_
  have hb2:=(h.q k h3).xT (g3 b hb);rw[hD3,hD1,aR1,aRX hb2,aR1,aRX hb2]
 ·rw[Iz,if_neg U]
theorem aN2 (b o n c:Nat):bin prog .eql 69 (.slice (some ⟨b,o,none⟩) n c) (.slice none 0 0)=some (.bool false):=by
 have h1:prog.underlying 69=some (.slice 54):=by kernel_rfl
 simp[bin,eE,nL,lS,eqV,h1]
theorem aN1:bin prog .eql 69 (.slice none 0 0) (.slice none 0 0)=some (.bool true):=by
 have h1:prog.underlying 69=some (.slice 54):=by kernel_rfl
 simp[bin,eE,nL,lS,eqV,h1]
theorem aNW {v:Value}{xs:List Pkt}(hx:Rs Pkt.oD 54 D v xs)(hr:hP xs.length 32=true)(hm:0<m): ∃H' u,lvl prog pkN m (.func 91) [v] D=some (u,H')/\Ext D H'/\Rw Pkt.oD 54 4 H' u xs/\New D u:=by
 rcases hx with⟨rfl,rfl⟩|⟨b,o,c,hv,hlc,hx2⟩
 ·refine⟨D,.slice none 0 0,cS (cH rfl) hm ?_,Fr.kO _ _,Rw.kP,New.mT _⟩
  rw[aAU];simp only[gsR,aN1]
 ·have b0:dT 54 4 0 [.I 0,.I 0,.I 0,.int .u32 0] [] D=some (.slice (some ⟨D.length,0,none⟩) 0 0,D++[.cells [] 54 .row]):=rfl
  have h0:Rw Pkt.oD 54 4 (D++[.cells [] 54 .row]) (.slice (some ⟨D.length,0,none⟩) 0 0) []:=⟨rfl,.inr ⟨D.length,0,[],rfl,aRZ _,rfl,by simp⟩⟩
  have hx:Rs Pkt.oD 54 D v xs:= .inr ⟨b,o,c,hv,hlc,hx2⟩;obtain⟨u,H',g1,g2,g3,g4⟩:=h0.yY Bp Ra aC (by':=32) (H0:=D) (hx.ext (Fr.app _ _ _)) (λb ⟨_,_,_,h⟩=>by cases h;exact aRZ _) (Fr.app _ _ _) (by simpa using hr)
  refine gN (cH rfl) hm ⟨H',u,?_,g4,g2,g3⟩;subst hv;rw[aAU];simp only[gsR,aN2,b0,g1]
theorem aNX (h:HostI D a L G lanes queue w0 w1 w2 cv)(hm:1<m)(hr:hP G.length 32=true): ∃H' v,lvl prog pkN m (.func 46) [.Q a 0] D=some (v,H')/\Ext D H'/\Rw Pkt.oD 54 4 H' v G/\New D v:=by
 obtain⟨H',u,g1,g2⟩:=aNW (D:=D) (m:=m-1) h.came.rs hr U
 refine gN (cH rfl) U ⟨H',u,?_,g2⟩
 rw[aLL];have l3:ld1 (.Q a 3) D=some (cv,D):=dI h.blk rfl;simp only[gsR,l3,g1]
end
def eQ (b n:Nat):Value:= .slice (some ⟨b,0,none⟩) n n
section
variable {H : aF} {m : Nat}
theorem aB5:prog.underlying 116=some (.int .u64):=by kernel_rfl
theorem aN3 (hm:1<m)(n:Nat)(hn:n<=16):lvl prog pkN m (.func 145) [.int .u64 1,.int .u64 n] H=some (.tuple #[.int .u64 0,.int .u64 n],H):=by
 have main:lvl prog pkN (m-1) (.func 177) [.int .u64 1,.int .u64 n] H=some (.tuple #[.int .u64 0,.int .u64 n],H):=by
  refine cS (cH rfl) U ?_
  rw[aLE];have p1:bin prog .and 55 (.int .u64 1) (.int .u64 4294967295)=some (.int .u64 1):=by kernel_rfl
  have p2:bin prog .shr 55 (.int .u64 1) (.int .u64 32)=some (.int .u64 0):=by kernel_rfl
  have p3:bin prog .and 55 (.int .u64 n) (.int .u64 4294967295)=some (.int .u64 n):=by
   have:=zB (P:=prog) .u64 rfl 55 (a:=n) (b:=4294967295) (by show _<18446744073709551616;omega) (by show _<18446744073709551616;omega)
   rw[show n&&&4294967295=n by rw[show(4294967295:Nat)=2 ^ 32-1 from rfl,Nat.and_two_pow_sub_one_eq_mod];exact aSs U] at this
   exact this
  have p4:bin prog .shr 55 (.int .u64 n) (.int .u64 32)=some (.int .u64 0):=by
   have:=Gg (P:=prog) .u64 .u64 55 n 32 aC
   rw[Nat.shiftRight_eq_div_pow,Nat.div_eq_of_lt U] at this
   exact this
  have q1:IntKind.u64.wrap (1*(n:Int))=n:=by rw[Int.one_mul];exact Bi n U
  have q2:IntKind.u64.wrap (0*(n:Int))=0:=by rw[Int.zero_mul];rfl
  have q3:IntKind.u64.wrap (0+0)=0:=rfl;have q4:IntKind.u64.wrap (1*0)=0:=rfl;have q5:IntKind.u64.wrap (0*0)=0:=rfl;have p5:bin prog .and 55 (.int .u64 0) (.int .u64 4294967295)=some (.int .u64 0):=by kernel_rfl
  have p6:bin prog .shr 55 (.int .u64 0) (.int .u64 32)=some (.int .u64 0):=by kernel_rfl
  simp only[gsR,p1,p2,p3,p4,Fo,q1,q2,cR,q3,q4,q5,p5,p6]
 refine cS (cH rfl) U ?_
 rw[aLw];simp only[gsR,main]
def mE (n k:Nat):Blk:= .cells (List.replicate k (.int .i64 (-1))++List.replicate (n-k) (.int .i64 0)) 3 .row
theorem aN4 (k:Nat):dV (List.replicate k (Value.I (-1)))=true:=by
 unfold dV;rw[List.all_replicate]
 split<;>rfl
theorem aB4 {n k j:Nat}(hj:k+j<=n):eT (List.replicate k (Value.I (-1))++List.replicate (n-k) (.I 0)) k (List.replicate j (.I (-1)))=List.replicate (k+j) (.I (-1))++List.replicate (n-(k+j)) (.I 0):=by
 have:=uU (List.replicate j (Value.I (-1))) (List.replicate j (.I 0)) (List.replicate k (Value.I (-1))) (List.replicate (n-(k+j)) (.I 0)) (by simp)
 rw[aSA] at this;rw[show List.replicate (n-k) (Value.I 0)=List.replicate j (.I 0)++List.replicate (n-(k+j)) (.I 0) by rw[List.replicate_append_replicate];congr 1;omega]
 rw[<-aR1,this,List.replicate_append_replicate]
theorem aN5 {n k:Nat}(G:aF)(hk:k<=n)(h1:1<=k)(c:Nat):cpy 1 (.slice (some ⟨G.length,k,none⟩) (n-k) c) (.slice (some ⟨G.length,0,none⟩) k n) (G++[mE n k])=some (.I (min k (n-k):Nat),G++[mE n (k+min k (n-k))]):=by
 have hb:(G++[mE n k])[G.length]? =some (mE n k):=eD _ _;have hs:gT 1 (.slice (some ⟨G.length,0,none⟩) k n) (min k (n-k)) (G++[mE n k])=some (List.replicate (min k (n-k)) (.I (-1))):=by
  unfold gT;by_cases h0:min k (n-k)=0
  ·simp[h0]
  ·simp only
   rw[if_neg h0,hb];unfold mE;simp only;rw[if_pos (by simp;omega)]
   congr 1
   rw[List.drop_zero,List.take_append_of_le_length (by simp;omega),List.take_replicate]
   congr 1
   omega
 unfold cpy;have h2:mS (.slice (some ⟨G.length,0,none⟩) k n)=some k:=rfl;rw[h2];simp only;rw[hs];simp only;rw[hb];unfold mE;simp only;rw[if_pos ⟨by decide,by simp;omega,aN4 _⟩,aB4 U,mW]
theorem aN7 {n:Nat}(hn:n<=16){G:aF}: ∀(q k l:Nat),n-k=q->k<=n->1<=k->q<l-> ∀(x0 x1 x2 x3 x4 x5 x6 x9 bS cE aV aR aS aQ aW aX aU bA bP bQ bO bK aY bC bE bG bH bI bJ bM bN bU cK cL cD bV bX bY b9 cA cF cM cO cP cT dB:Value),
  aM l (aN prog (lvl prog pkN m) (aM m) Pm) (Pn (lvl prog pkN m) (aM m)) [x0,x1,x2,x3,x4,x5,x6,(eQ G.length n),(.I (k:Nat)),x9,bS,cE,aV,aR,aS,aQ,aW,aX,aU,bA,bP,bQ,bO,bK,aY,bC,bE,bG,bH,bI,bJ,bM,bN,bU,cK,cL,cD,bV,bX,bY,b9,cA,cF,cM,cO,cP,cT,dB] (G++[mE n k])=some (eQ G.length n,G++[mE n n]):=by
 intro q;induction q using Nat.strongRecOn with
 |ind q ih=>
  intro k l hq hk h1 hl;intros;obtain⟨l,rfl⟩: ∃l',l=l'+1:=⟨l-1,by omega⟩
  have e1:aZ (eQ G.length n)=some (.I n):=rfl;rw[aM,aKZ];by_cases hc:k=n
  ·subst hc
   have c1:decide ((k:Int)<(k:Int))=false:=by simp
   simp only[gsR,e1,c1];rw[aK3];simp only[gsR]
  ·have c1:decide ((k:Int)<(n:Int))=true:=by rw[decide_eq_true_eq];omega
   have hb:(G++[mE n k])[G.length]? =some (mE n k):=eD _ _;have s1:slc prog 1 (eQ G.length n) (some (.I (k:Nat))) none none (G++[mE n k])=some (.slice (some ⟨G.length,k,none⟩) (n-k) (n-k),G++[mE n k]):=by
    have:=rW (P:=prog) (sz:=1) (b:=G.length) (o:=0) (len:=n) (cap:=n) (lo:=some (.I (k:Nat))) (hi:=none) (mx:=none) hb (λ_=>by kernel_rfl) (lU 0 .i64 k) rfl rfl hk (aRZ _) (aRZ _)
    rw[aSf,Nat.mul_one] at this;exact this
   have s2:slc prog 1 (eQ G.length n) none (some (.I (k:Nat))) none (G++[mE n k])=some (.slice (some ⟨G.length,0,none⟩) k n,G++[mE n k]):=by
    have:=rW (P:=prog) (sz:=1) (b:=G.length) (o:=0) (len:=n) (cap:=n) (lo:=none) (hi:=some (.I (k:Nat))) (mx:=none) hb (λ_=>by kernel_rfl) rfl (lU n .i64 k) rfl (Nat.zero_le _) hk (aRZ _)
    rw[Nat.zero_mul] at this;exact this
   have s3:=aN5 G hk h1 (n-k);have e4:IntKind.i64.wrap ((k:Int)+((min k (n-k):Nat):Int))=((k+min k (n-k):Nat):Int):=by rw[dL U U];omega
   simp only[gsR,e1,c1,s1,s2,s3,cR,e4];exact ih (n-(k+min k (n-k))) U (k+min k (n-k)) l rfl U U U ..
theorem aN6 (hm:40<m)(n:Nat)(h1:1<=n)(hn:n<=16){b c:Nat}{e:TypeId}{kk:Kind}(hb:H[b]? =some (.cells [.I (-1)] e kk)):lvl prog pkN m (.func 100) [.slice (some ⟨b,0,none⟩) 1 c,.I n] H=some (eQ H.length n,H++[mE n n]):=by
 refine cS (cH rfl) U ?_
 rw[aK4];have c1:decide ((n:Int)<0)=false:=by rw[decide_eq_false_iff_not];omega
 have c2:decide ((0:Int)<0)=false:=rfl;have c3:decide ((9223372036854775807:Int)<(n:Int))=false:=by rw[decide_eq_false_iff_not];omega
 have e0:aZ (.slice (some ⟨b,0,none⟩) 1 c)=some (.I 1):=rfl;have e1:IntKind.u64.wrap (1:Int)=1:=rfl;have e2:IntKind.u64.wrap (n:Int)=n:=Bi n U
 have e3:=aN3 (H:=H) (m:=m-1) U n hn
 have x0:ext 0 (.tuple #[.int .u64 0,.int .u64 n])=some (.int .u64 0):=rfl;have x1:ext 1 (.tuple #[.int .u64 0,.int .u64 n])=some (.int .u64 n):=rfl;have e4:IntKind.i64.wrap (n:Int)=n:=Bj n U
 have mk:=wW (H:=H) 3 1 8 [.I 0] .i64 .i64 (n:Int) U U U rfl
 have hz:H++[Blk.cells (List.replicate (n:Int).toNat [Value.int .i64 0]).flatten 3 .row]=H++[mE n 0]:=by
  have: ∀n,(List.replicate n [Value.I 0]).flatten=List.replicate n (.I 0):=by
   intro n;induction n with
   |zero=>rfl
   |succ n ih=>rw[List.replicate_succ,aSu,ih];rfl
  rw[aSm,this];rfl
 rw[hz,aSm] at mk;have cp:cpy 1 (.slice (some ⟨H.length,0,none⟩) n n) (.slice (some ⟨b,0,none⟩) 1 c) (H++[mE n 0])=some (.I (1:Nat),H++[mE n 1]):=by
  have hs:gT 1 (.slice (some ⟨b,0,none⟩) 1 c) 1 (H++[mE n 0])=some [.I (-1)]:=by
   unfold gT;simp only;rw[if_neg aC,oX hb]
   rfl
  unfold cpy;have h2:mS (.slice (some ⟨b,0,none⟩) 1 c)=some 1:=rfl;rw[h2];simp only;rw[Nat.min_eq_left h1,hs];simp only;rw[eD];unfold mE;simp only;rw[if_pos ⟨by decide,by simp;omega,rfl⟩]
  have:=aB4 (n:=n) (k:=0) (j:=1) U
  rw[show List.replicate 1 (Value.I (-1))=[.I (-1)] from rfl] at this
  rw[this,mW];rfl
 simp only[gsR,c1,c2,c3,e0,fU _ _ iU aB5,e1,e2,e3,x0,x1,fU _ _ aB5 iU,e4,mk,cp];exact aN7 hn (n-1) 1 (m-1) rfl h1 (aRZ _) U ..
end
end Go.Proofs.YtkeilicinggjmaaGreatDoor
namespace Go.Abs
open M
open Classical
def Blks (l:List (Nat×Blk))(D:aF):Prop:= ∀p∈l,D[p.1]? =some p.2
def InB (l:List (Nat×Blk))(b:Nat):Prop:= ∃p∈l,p.1=b
def uA (l:List (Nat×Blk)):Prop:= ∀p∈l,p.2≠Blk.dead
theorem Blks.dx (l:List (Nat×Blk)):DX (Blks l):=λD D' h he p hp=>by
 have h1:=h p hp;rw[he.2 p.1 (aRU.mp h1).1 id,h1]
theorem Blks.aN8 {l:List (Nat×Blk)}(hl:uA l):Pos (Blks l):=λD H hs h p hp=>hs.2 p.1 p.2 (h p hp) (hl p hp)
theorem Has.inB {l:List (Nat×Blk)}{F:Nat->Prop}{H:aF}(h:Has (Blks l) F H)(hl:uA l){b:Nat}(hb:InB l b):F b:=by
 obtain⟨p,hp,rfl⟩:=hb;have h1:=h.at_ p hp;refine Classical.byContradiction λhF=> ?_
 have hlt:=(aRU.mp h1).1;rw[uX] at hlt;rw[wZ hF hlt] at h1;exact hl p hp (aSw h1).symm
theorem Has.Ja {l:List (Nat×Blk)}{F:Nat->Prop}{H:aF}(hb:Blks l H)(hF: ∀p∈l,F p.1)(hlt: ∀b,F b->b<H.length):Has (Blks l) F H:=
 ⟨λp hp=>by rw[Cw (hF p hp),hb p hp],hlt⟩
theorem Mv.aN9 {F:Nat->Prop}{A:Nat->Prop}{H H':aF}(h:Fr A H H')(hA: ∀b,A b->F b):Mv F F H H':=⟨h.1,λ_ hb=> .inl hb,λb hb hF=>h.2 b hb λhh=>hF (hA b hh)⟩
theorem aOb {ι α:Type}(f:ι->α)(i:ι):updI f i (f i)=f:=by
 funext j
 unfold updI;split
 ·rename_i h
  rw[h]
 ·rfl
theorem Sep.aOa {ι:Type}{A:ι->aF->Prop}{F:ι->Nat->Prop}{H H':aF}(h:Sep A F H)(i:ι)(hA: ∀j,j≠i->DX (A j)){l l':List (Nat×Blk)}(hi:A i=Blks l)(hl:uA l)(hsub: ∀p∈l',InB l p.1)(hf:Fr (InB l) H H')(hB:Blks l' H'):
  Sep (updI A i (Blks l')) F H'/\Mv (Un F) (Un F) H H':=by
 have h0:=h.own i;rw[hi] at h0;have hm:Mv (F i) (F i) H H':=Mv.aN9 hf λb hb=>h0.inB hl hb
 have h1:Has (Blks l') (F i) H':=Has.Ja hB (λp hp=>h0.inB hl (hsub p hp)) λb hb=>aR9 (h0.lt b hb) hf.1
 have h2:=h.Mk i hA h1 hm;rw[aOb] at h2;exact h2
theorem Sep.see {ι:Type}{A:ι->aF->Prop}{F:ι->Nat->Prop}{H:aF}(h:Sep A F H)(i:ι){l:List (Nat×Blk)}(hi:A i=Blks l)(hl:uA l):Blks l H:=by
 have h0:=h.own i;rw[hi] at h0;exact h0.aG2 (Blks.aN8 hl)
theorem Sep.zU {ι:Type}{A:ι->aF->Prop}{F:ι->Nat->Prop}{H:aF}(h:Sep A F H)(i:ι){l:List (Nat×Blk)}(hi:A i=Blks l)(hl:uA l){b:Nat}{x:Blk}(hm:(b,x)∈l):H[b]? =some x:=h.see i hi hl _ hm
theorem Sep.Jb {ι:Type}{A:ι->aF->Prop}{F:ι->Nat->Prop}{H H':aF}(h:Sep A F H)(i:ι)(hA: ∀j,DX (A j))(hi: ∀b,¬F i b){B:aF->Prop}{G:Nat->Prop}(hB:Has B G H')(he:Ext H H')(hn: ∀b,G b->H.length<=b):
  Sep (updI A i B) (updI F i G) H':=by
 have hm:Mv (F i) G H H':=⟨he.1,λb hb=> .inr (hn b hb),λb hb _=>he.2 b hb id⟩
 exact(h.Mk i (λj _=>hA j) hB hm).1
theorem Has.aB6 {A:aF->Prop}{H:aF}{P:Program}{pr:iA}(hp:FrP pr){n:Nat}{fn:Fn}{args:List Value}{B:Value->aF->Prop}
  (hc: ∀D:aF,D.length=H.length->(∀(b:Nat)(x:Blk),D[b]? =some x->x=Blk.dead)-> ∃r D',lvl P pr n fn args D=some (r,D')/\B r D'):
  ∃r H' G,lvl P pr n fn args H=some (r,H')/\Has (B r) G H'/\Ext H H'/\ ∀b,G b->H.length<=b:=by
 obtain⟨r,D',h1,h2⟩:=hc (rst (λ_=>False) H) (uX _ _) λb x hb=>by
  have hlt:=(aRU.mp hb).1;rw[uX] at hlt;rw[wZ (λh=>h) hlt] at hb
  cases hb;rfl
 obtain⟨H',F',h3,rfl,h4,h5⟩:=Xj hp h1
 exact⟨r,H',F',h3,⟨h2,h5⟩,h4.Xh.2,h4.Xh.1⟩
end Go.Abs
namespace Go.Abs
open M
theorem tC (p:Nat->Bool){n:Nat}(hn:n<=16):dU p n<65536:=aR9 (C1 p n) (show 2 ^ n<=2 ^ 16 from Nat.pow_le_pow_right U hn)
def fB (m:List Int)(n:Nat):Nat:=dU (λi=>decide (m.getD i 0= -1)) n
def lF (m:List Int)(n:Nat):Nat:=dU (λk=>decide ((k:Int)∉m)) n
theorem R7 (n:Nat):dU (λ_=>true) n=2 ^ n-1:=by
 induction n with
 |zero=>rfl
 |succ n ih=>
  rw[dU,ih,if_pos rfl,Nat.pow_succ];have:0<2 ^ n:=Nat.pow_pos U
  omega
theorem aOk (n:Nat):fB (List.replicate n (-1)) n=2 ^ n-1:=by
 rw[<-R7];refine Gk λi hi=> ?_
 rw[decide_eq_true_eq,aRY,List.getElem?_replicate_of_lt hi];rfl
theorem aOn (n:Nat):lF (List.replicate n (-1)) n=2 ^ n-1:=by
 rw[<-R7];refine Gk λi hi=> ?_
 rw[decide_eq_true_eq];intro h;have:=List.eq_of_mem_replicate h;omega
theorem aOj {m:List Int}{n i k:Nat}(hi:i<n)(hl:m.length=n):fB (m.set i (k:Int)) n=mB (fB m n) (2 ^ i):=by
 apply Nat.eq_of_testBit_eq;intro j;rw[Ml,fB,fB,lW,lW,Nat.testBit_two_pow];by_cases hj:i=j
 ·subst hj
  have:(m.set i (k:Int)).getD i 0=k:=by rw[aRY,aR0 U,aSn]
  rw[this];simp
 ·rw[aRY,aRV hj,<-aRY]
  simp[hj]
theorem aOl {m:List Int}{n i k:Nat}(hi:i<n)(hl:m.length=n)(hf:m.getD i 0= -1):lF (m.set i (k:Int)) n=mB (lF m n) (2 ^ k):=by
 apply Nat.eq_of_testBit_eq;intro j;rw[Ml,lF,lF,lW,lW,Nat.testBit_two_pow];have hi':i<m.length:=U
 have key:((j:Int)∈m.set i (k:Int))↔((j:Int)∈m∨j=k):=by
  constructor
  ·intro h
   rcases List.mem_or_eq_of_mem_set h with h|h
   ·exact .inl h
   ·exact .inr U
  ·intro h
   rcases h with h|h
   ·obtain⟨l,hl,he⟩:=List.mem_iff_getElem.mp h
    have hne:l≠i:=by
     intro hh;subst hh;rw[aRY,aRW hl,aSn,he] at hf;omega
    refine List.mem_iff_getElem.mpr ⟨l,by simpa using hl,?_⟩
    rw[List.getElem_set_ne (λhh=>hne hh.symm),he]
   ·subst h
    exact List.mem_set hi' _
 rw[show(decide ((j:Int)∉m.set i (k:Int)))=(decide ((j:Int)∉m)&& !decide (k=j)) by
  rw[Bool.eq_iff_iff];simp only[decide_eq_true_eq,aR2,Bool.not_eq_true',decide_eq_false_iff_not];rw[key];constructor
  ·intro h
   exact⟨λhh=>h (.inl hh),λhh=>h (.inr hh.symm)⟩
  ·rintro ⟨h1,h2⟩ h
   rcases h with h|h
   ·exact h1 h
   ·exact h2 h.symm]
 rw[Bool.and_assoc]
def lK (rows:List Nat)(i k:Nat):Bool:=(rows.getD i 0).testBit k
def grM (gr:Nat->Option Nat)(kk i:Nat):Nat:=dU (λk=>gr k==some i) kk
def grL (gr:Nat->Option Nat)(n kk:Nat):List Nat:=(List.range n).map (grM gr kk)
theorem zV (gr:Nat->Option Nat)(n kk:Nat):(grL gr n kk).length=n:=by simp[grL]
theorem D0 {gr:Nat->Option Nat}{n kk i:Nat}(hi:i<n):(grL gr n kk)[i]? =some (grM gr kk i):=by simp[grL,hi]
theorem aOg (gr:Nat->Option Nat)(n:Nat):grL gr n 0=List.replicate n 0:=by
 apply aSv;intro i;by_cases hi:i<n
 ·rw[D0 hi,List.getElem?_replicate_of_lt hi]
  rfl
 ·rw[aR5 (by rw[zV];omega),aR5 (by simp;omega)]
theorem aCb {gr:Nat->Option Nat}{kk i:Nat}(h:gr kk≠some i):grM gr (kk+1) i=grM gr kk i:=by
 unfold grM;rw[dU,if_neg (by simpa using h),Nat.add_zero]
theorem aOh {gr:Nat->Option Nat}{kk i:Nat}(h:gr kk=some i):grM gr (kk+1) i=grM gr kk i|||2 ^ kk:=by
 apply Nat.eq_of_testBit_eq;intro j;rw[Xq,grM,grM,lW,lW];by_cases hj:j=kk
 ·subst hj
  simp[h]
 ·by_cases hlt:j<kk
  ·simp[hlt,show j<kk+1 by omega,show¬kk=j by omega]
  ·simp[hlt,show¬j<kk+1 by omega,show¬kk=j by omega]
theorem aB9 {gr:Nat->Option Nat}{n kk:Nat}(h: ∀i,i<n->gr kk≠some i):grL gr n (kk+1)=grL gr n kk:=by
 unfold grL;refine List.map_congr_left λi hi=>aCb (h i (aSy.mp hi))
theorem aOf {gr:Nat->Option Nat}{n kk i:Nat}(hi:i<n)(h:gr kk=some i):grL gr n (kk+1)=(grL gr n kk).set i (grM gr kk i|||2 ^ kk):=by
 apply aSv;intro j;by_cases hj:j<n
 ·rw[D0 hj]
  by_cases hij:i=j
  ·subst hij
   rw[aR0 (by rw[zV];exact hi),aOh h]
  ·rw[aRV hij,D0 hj,aCb (by rw[h];simp;exact hij)]
 ·rw[aR5 (by rw[zV];omega),aR5 (by rw[List.length_set,zV];omega)]
theorem aCa (gr:Nat->Option Nat){kk:Nat}(hk:kk<=16)(i:Nat):grM gr kk i<65536:=tC _ hk
theorem aOi {rows:List Nat}{m:List Int}{G:List Nat}{n k:Nat}(hr:rows.length=n)(hk:k<n):
  mU (lK rows) m G n k=if(k:Int)∈m then none else kG (λi=>((kQ rows n).getD k 0&&&fB m n).testBit i) (G.getD k 0) n:=by
 unfold mU;split
 ·rfl
 ·refine Gi λi hi=> ?_
  have hc:(kQ rows n).getD k 0=dU (λi=>(rows.getD i 0).testBit k) rows.length:=by
   rw[aRY,kQ,aR7,aSC hk];rfl
  rw[Nat.testBit_and,hc,fB,lW,lW,hr,aSE hi,aSh,aSh,lK,Bool.and_comm]
theorem aOm {m:List Int}{n k:Nat}(hk:k<n):(lF m n).testBit k=decide ((k:Int)∉m):=by rw[lF,lW,aSE hk,aSh]
theorem aOe {rows:List Nat}{n k:Nat}(hr:rows.length<=16)(hk:k<n):(kQ rows n).getD k 0<65536:=by
 rw[aRY,kQ,aR7,aSC hk];exact tC _ hr
theorem aCc {req:Nat->Nat->Bool}{m:List Int}{G:List Nat}{n k i:Nat}(h:mU req m G n k=some i):m.getD i 0= -1/\i<n:=by
 unfold mU at h
 split at h
 ·cases h
 ·have:=w7 h
  rw[aR2,decide_eq_true_eq] at this
  exact⟨this.2.1,this.1⟩
theorem aOc {req:Nat->Nat->Bool}{n:Nat}{first:Bool}{m0:List Int}{g0:List Nat}{s:Mat}{i:Nat}(hm:s.m.getD i 0=m0.getD i 0):
  acc (mU req m0 g0 n) n first s i=match kG (λk=>(grM (mU req m0 g0 n) n i).testBit k) (s.a.getD i 0) n with
   |none=>s
   |some k=>⟨s.m.set i (k:Int),if first=true then s.g.set k ((i+1)%n) else s.g,if first=true then s.a.set i ((k+1)%n) else s.a⟩:=by
 have e:kG (λk=>(grM (mU req m0 g0 n) n i).testBit k) (s.a.getD i 0) n=kG (λk=>mU req m0 g0 n k==some i) (s.a.getD i 0) n:=Gi λk hk=>by
  rw[grM,lW,aSE hk,aSh]
 rw[e];unfold acc;split
 ·rfl
 ·rename_i hn
  have:kG (λk=>mU req m0 g0 n k==some i) (s.a.getD i 0) n=none:=by
   rw[Gj];intro k hk;rw[beq_eq_false_iff_ne];intro hh;exact hn (hm.trans (aCc hh).1)
  rw[this]
theorem aB7 {gr:Nat->Option Nat}{n:Nat}{first:Bool}: ∀(l:List Nat)(s:Mat),l.Nodup->(∀i∈l,i<s.m.length)->(∀i∈l,s.m.getD i 0= -1->(l.foldl (acc gr n first) s).m.getD i 0= -1)->l.foldl (acc gr n first) s=s
 |[],s,_,_,_=>rfl
 |i::l,s,hn,hl,h=>by
  rw[List.foldl_cons] at h⊢;have hi:=hl i (aR3 ..);rw[List.nodup_cons] at hn;rcases Mo (gr:=gr) (n:=n) (first:=first) (s:=s) hi with h1|⟨h1,h2⟩
  ·rw[h1] at h⊢
   exact aB7 l s hn.2 (λj hj=>hl j (aSb _ hj)) λj hj=>h j (aSb _ hj)
  ·have h3:=C0 (gr:=gr) (n:=n) (first:=first) (j:=i) l (acc gr n first s i) hn.1
   exact absurd (h3.symm.trans (h i (aR3 ..) h2)) h1
theorem aOq {req:Nat->Nat->Bool}{n:Nat}{first:Bool}{s:Mat}(hl:s.m.length=n)(h:fB (rnd req n first s).m n=fB s.m n):rnd req n first s=s:=by
 refine aB7 _ _ List.nodup_range (λi hi=>by rw[aSy] at hi;omega) λi hi h0=> ?_
 rw[aSy] at hi;have h1:(fB (rnd req n first s).m n).testBit i=(fB s.m n).testBit i:=by rw[h]
 rw[fB,fB,lW,lW,aSE hi,aSh,aSh,aSE h0,decide_eq_true_eq] at h1;exact h1
theorem aOd (M n:Nat):M&&&(2 ^ n-1)=dU (λi=>M.testBit i) n:=by
 apply Nat.eq_of_testBit_eq;intro i;rw[Nat.testBit_and,lW,<-R7,lW,Bool.and_true,Bool.and_comm]
theorem aB8 (p q:Nat->Bool)(n:Nat):dU p n&&&dU q n=dU (λi=>p i&&q i) n:=by
 apply Nat.eq_of_testBit_eq;intro i;rw[Nat.testBit_and,lW,lW,lW];cases decide (i<n)<;>simp
theorem Bw (p:Nat->Bool)(n:Nat):dU p n=0↔o6 p n=false:=by
 rw[aHm];constructor
 ·intro h
  cases hw:o6 p n with
  |false=>rfl
  |true=>
   obtain⟨i,h1,h2⟩:=A8.mp hw;rw[h i h1] at h2;cases h2
 ·intro h i hi
  cases hp:p i with
  |false=>rfl
  |true=>
   rw[A8.mpr ⟨i,hi,hp⟩] at h;cases h
theorem aOo (p:Nat->Bool)(fr n:Nat):kG (λi=>(dU p n).testBit i) fr n=kG p fr n:=Gi λi hi=>by rw[lW,aSE hi,aSh]
theorem Jd {p:Nat->Bool}{k:Nat}(h:p k=true):dU p (k+1)=dU p k|||2 ^ k:=by
 apply Nat.eq_of_testBit_eq;intro j;rw[Xq,lW,lW];by_cases hj:j=k
 ·subst hj
  simp[h]
 ·by_cases hlt:j<k
  ·simp[hlt,show j<k+1 by omega,show¬k=j by omega]
  ·simp[hlt,show¬j<k+1 by omega,show¬k=j by omega]
theorem Jc {p:Nat->Bool}{k:Nat}(h:p k=false):dU p (k+1)=dU p k:=by rw[dU,h];simp
theorem aCd {p q:Nat->Bool}{n:Nat}(h: ∀i,i<n->p i=q i):o6 p n=o6 q n:=by
 rw[Bool.eq_iff_iff,A8,A8];constructor
 ·rintro ⟨i,h1,h2⟩
  exact⟨i,h1,by rw[<-h i h1];exact h2⟩
 ·rintro ⟨i,h1,h2⟩
  exact⟨i,h1,by rw[h i h1];exact h2⟩
theorem aOr {W:List Int}{s:Whl}{p q:Nat->Bool}(h: ∀i,i<W.length->p i=q i):lV W s p=lV W s q:=by
 have h1:o6 p W.length=o6 q W.length:=aCd h;have h2: ∀l:List Int,∀i,i<W.length->nZ l p i=nZ l q i:=λl i hi=>by unfold nZ;rw[h i hi]
 have h3:mV W s p=mV W s q:=by unfold mV;rw[aCd (h2 s.l)]
 unfold lV;rw[h1,h3,Gi (h2 _)]
end Go.Abs
namespace Go.Proofs.YtkeilicinggjmaaGreatDoor
open Go.Proofs.Tryz
open Go.Abs Go.Abs.M
def fD (zs:List Int)(rest:List Value):Blk:= .cells (zs.map (λz:Int=> .int .i64 z)++rest) 3 .row
def lG (b n c:Nat):Value:= .slice (some ⟨b,0,none⟩) n c
def tD (ww wl wc lc n:Nat)(fr:Nat):Blk:= .cells [lG ww n wc,lG wl n lc,.int .i64 fr] 171 .fix
def mF (wh ww wl wc lc:Nat)(wr lr:List Value)(W:List Int)(x:Whl):List (Nat×Blk):=
 [(wh,tD ww wl wc lc W.length x.fr),(ww,fD W wr),(wl,fD x.l lr)]
theorem aCe: ∀W:List Int,dV (W.map λz:Int=>Value.I z)=true
 |[]=>rfl
 |_::W=>aCe W
theorem aCg {ww wl wc lc n fr:Nat}{zs:List Int}{lr:List Value}:tD ww wl wc lc n fr≠fD zs lr:=λh=>by
 injection h with _ h2
 revert h2
 decide
section
variable {H : aF} {m : Nat}
theorem aOt (hm:0<m)(M i:Nat)(hM:M<65536)(hi:i<16):lvl prog pkN m (.func 148) [.int .u16 M,.I i] H=some (.bool (M.testBit i),H):=by
 refine cS (cH rfl) U ?_
 rw[aLx];have c1:decide ((0:Int)<=(i:Int))=true:=by rw[decide_eq_true_eq];omega
 have c2:decide ((i:Int)<16)=true:=by rw[decide_eq_true_eq];omega
 have e1:bin prog .shr 23 (.int .u16 (M:Int)) (.I (i:Int))=some (.int .u16 ((M>>>i:Nat):Int)):=Gg .u16 .i64 23 M i (by show i<=16;omega)
 have hlt:M>>>i<65536:=Nat.lt_of_le_of_lt (Nat.shiftRight_le M i) hM;have e2:bin prog .and 23 (.int .u16 ((M>>>i:Nat):Int)) (.int .u16 ((1:Nat):Int))=some (.int .u16 (((M>>>i)&&&1:Nat):Int)):=zB .u16 rfl 23 (by show _<65536;exact hlt) (by show(1:Nat)<65536;omega)
 have e2':bin prog .and 23 (.int .u16 ((M>>>i:Nat):Int)) (.int .u16 1)=some (.int .u16 (((M>>>i)&&&1:Nat):Int)):=e2;have e3:((((M>>>i)&&&1:Nat):Int)==1)=M.testBit i:=by
  rw[Nat.testBit,Nat.and_comm 1];rw[Nat.and_one_is_mod];rcases Nat.mod_two_eq_zero_or_one (M>>>i) with h|h<;>rw[h]<;>rfl
 simp only[gsR,c1,c2,e1,e2',e3]
theorem xW {a i:Nat}(ha:a<65536)(hi:i<16):bin prog .shl 23 (.int .u16 1) (.I (i:Int))=some (.int .u16 ((2 ^ i:Nat):Int))/\bin prog .or 23 (.int .u16 (a:Int)) (.int .u16 ((2 ^ i:Nat):Int))=some (.int .u16 ((a|||2 ^ i:Nat):Int)):=by
 have hp:=Gl hi;constructor
 ·have:=Gf (P:=prog) .u16 .i64 rfl 23 1 i (by show i<=16;omega)
  rw[Nat.one_mul] at this;rw[show(2:Nat) ^ i%2 ^ IntKind.u16.bits=2 ^ i from aSs hp] at this
  exact this
 ·exact Mm .u16 rfl _ (by show _<65536;exact ha) (by show _<65536;exact hp)
theorem Bx {wl n c:Nat}{zs:List Int}{lr:List Value}(hb:H[wl]? =some (fD zs lr))(hn:zs.length=n){i:Nat}(hi:i<n):aT 1 (lG wl n c) (.I (i:Int))=some (.Q wl i)/\ld1 (.Q wl i) H=some (.I (zs.getD i 0),H):=by
 constructor
 ·have:=pQ 1 wl 0 n c .i64 (i:Int) U U
  simpa[lG] using this
 ·refine dI hb ?_
  rw[aRX (by simp;omega),aR7,aRY,aRW U]
  rfl
theorem aOu {wl lc:Nat}{zs:List Int}{lr:List Value}(hb:H[wl]? =some (fD zs lr))(h3:zs.length<=3): ∀(q i k:Nat),zs.length-i=q->i<=zs.length->q<k-> ∀(x0 x1 x2 x4 x5 x6 x7 x8 aV aR aS aQ aW aX aU bA bP bQ bO bK:Value),
  aM k (aN prog (lvl prog pkN m) (aM m) P5) (P6 (lvl prog pkN m) (aM m)) [x0,x1,x2,(.int .u16 (dU (λj=>decide (0<zs.getD j 0)) i:Nat)),x4,x5,x6,x7,x8,(lG wl zs.length lc),(.I zs.length),(.I (i:Nat)),aV,aR,aS,aQ,aW,aX,aU,bA,bP,bQ,bO,bK] H=some (.int .u16 (dU (λj=>decide (0<zs.getD j 0)) zs.length:Nat),H):=by
 intro q;induction q with
 |zero=>
  intro i k hq hi hk;intros;obtain⟨k,rfl⟩: ∃k',k=k'+1:=⟨k-1,by omega⟩
  have hie:i=zs.length:=U
  subst hie;have c1:decide ((zs.length:Int)<(zs.length:Int))=false:=by simp
  rw[aM,aAG];simp only[gsR,c1];rw[aLz];simp only[gsR]
 |succ q ih=>
  intro i k hq hi hk;intros;obtain⟨k,rfl⟩: ∃k',k=k'+1:=⟨k-1,by omega⟩
  have c1:decide ((i:Int)<(zs.length:Int))=true:=by rw[decide_eq_true_eq];omega
  obtain⟨a1,a2⟩:=Bx (c:=lc) hb rfl (i:=i) U
  have e4:=aA (i:=i) U
  rw[aM,aAG];by_cases hp:0<zs.getD i 0
  ·obtain⟨e1,e2⟩:=xW (a:=dU (λj=>decide (0<zs.getD j 0)) i) (i:=i) (tC _ U) U
   rw[<-Jd (p:=λj=>decide (0<zs.getD j 0)) (k:=i) (aSE hp)] at e2
   simp only[gsR,c1,a1,a2,aSE hp,e1,e2,cR,e4];exact ih (i+1) k U U U ..
  ·have e2:=Jc (p:=λj=>decide (0<zs.getD j 0)) (k:=i) (aSF hp)
   simp only[gsR,c1,a1,a2,aSF hp,cR,e4];rw[<-e2];exact ih (i+1) k U U U ..
theorem aCf (hm:10<m){wh ww wl wc lc n fr:Nat}{zs:List Int}{lr:List Value}(h0:H[wh]? =some (tD ww wl wc lc n fr))(hb:H[wl]? =some (fD zs lr))(hn:zs.length=n)(h3:n<=3):
  lvl prog pkN m (.func 150) [.pointer (some ⟨wh,0,none⟩)] H=some (.int .u16 (dU (λj=>decide (0<zs.getD j 0)) n:Nat),H):=by
 subst hn;refine cS (cH rfl) U ?_
 rw[aLA];have l1:ld1 (.Q wh 1) H=some (lG wl zs.length lc,H):=dI h0 rfl;have l2:aZ (lG wl zs.length lc)=some (.I zs.length):=rfl;simp only[gsR,l1,l2];exact aOu hb h3 zs.length 0 (m-1) U U U ..
theorem aOs {wl ww n lc wc:Nat}{l W:List Int}{lr wr:List Value}(hn:n=W.length)(b2:H[wl]? =some (fD l lr))(b1:H[ww]? =some (fD W wr))(hl:l.length=W.length):cpy 1 (lG wl n lc) (lG ww n wc) H=some (.I n,H.set wl (fD W lr)):=by
 subst hn;have hs:gT 1 (lG ww W.length wc) W.length H=some (W.map λz:Int=> .I z):=by
  unfold gT lG;simp only;split
  ·rename_i h0
   rw[aSc.mp h0];rfl
  ·rw[b1]
   unfold fD;simp only;rw[if_pos ⟨aRZ _,by simp⟩,List.drop_zero,List.take_append_of_le_length (by simp)]
   congr 1
   rw[List.take_of_length_le (by simp)]
 unfold cpy;have h2:mS (lG ww W.length wc)=some W.length:=rfl;rw[h2];simp only[lG];have hs':=hs;unfold lG at hs';rw[Nat.min_self,hs'];simp only;rw[b2];unfold fD;simp only;have:=uU (W.map λz:Int=>Value.I z) (l.map λz:Int=>Value.I z) [] lr (by simp[hl])
 rw[List.nil_append,List.nil_append,List.length_nil] at this;rw[if_pos ⟨by decide,by simp;omega,aCe W⟩,this]
def qQ (o:Option Nat):Value:= .int .i64 (match o with|some k=>(k:Int)|none=> -1)
theorem D4 (k:IntKind)(n:Int)(H':aF):chk (some (Value.int k n,H')) (.int k n)=true:=by simp[chk,veq]
theorem aOv (hm:20<m){wh ww wl wc lc:Nat}{wr lr:List Value}{W:List Int}{x:Whl}(hB:Blks (mF wh ww wl wc lc wr lr W x) H)(hne:ww≠wl)(hx:WhlI W.length x)(hW: ∀y∈W,0<y/\y<=5)(h1:1<=W.length)(h3:W.length<=3)(M:Nat)(hM:M<65536):
  ∃H',lvl prog pkN m (.func 105) [.pointer (some ⟨wh,0,none⟩),.int .u16 M] H=some (qQ (lV W x λi=>M.testBit i).1,H')/\Fr (λb=>b=wh∨b=wl) H H'/\Blks (mF wh ww wl wc lc wr lr W (lV W x λi=>M.testBit i).2) H':=by
 have b0:H[wh]? =some (tD ww wl wc lc W.length x.fr):=hB _ (aR3 ..);have b1:H[ww]? =some (fD W wr):=hB (ww,fD W wr) (by simp[mF])
 have b2:H[wl]? =some (fD x.l lr):=hB (wl,fD x.l lr) (by simp[mF])
 have n01:wh≠ww:=λh=>by rw[h,b1] at b0;exact aCg (aSw b0).symm
 have n02:wh≠wl:=λh=>by rw[h,b2] at b0;exact aCg (aSw b0).symm
 obtain⟨n,hn⟩:=aD W.length;have hxl:=hx.len;have hxf:=hx.fr;obtain⟨p,hp⟩: ∃p:Nat->Bool,p=λi=>M.testBit i:=⟨_,rfl⟩
 rw[<-hp];refine nQ (cH rfl) U ?_
 rw[aLc];have l0:ld1 (.Q wh 0) H=some (lG ww W.length wc,H):=dI b0 rfl;have l0':aZ (lG ww W.length wc)=some (.I W.length):=rfl;have hpow:2 ^ W.length<65536:=Gl U
 have hpos:0<2 ^ W.length:=Nat.pow_pos U
 have e1:=(xW (a:=0) (i:=W.length) U U).1
 have e2:IntKind.u16.wrap ((2 ^ W.length:Nat)-(1:Int))=((2 ^ W.length-1:Nat):Int):=by rw[Cy];omega
 have e3:bin prog .and 23 (.int .u16 (M:Int)) (.int .u16 ((2 ^ W.length-1:Nat):Int))=some (.int .u16 ((dU p W.length:Nat):Int)):=by
  rw[zB .u16 rfl _ (by show _<65536;exact hM) (by show _<65536;omega),aOd,hp]
 have hml: ∀q:Nat->Bool,dU q W.length<65536:=λq=>tC q U
 by_cases ha:o6 p W.length=true
 ·have c1:(((dU p W.length:Nat):Int)==0)=false:=by
   rw[beq_eq_false_iff_ne];intro h;have:=(Bw p W.length).mp U
   rw[ha] at this;cases this
  have s1:=aCf (m:=m-1) U b0 b2 hxl h3
  have a1:bin prog .and 23 (.int .u16 ((dU p W.length:Nat):Int)) (.int .u16 ((dU (λj=>decide (0<x.l.getD j 0)) W.length:Nat):Int))=some (.int .u16 ((dU (nZ x.l p) W.length:Nat):Int)):=by
   rw[zB .u16 rfl _ (by show _<65536;exact hml _) (by show _<65536;exact hml _),aB8]
   rfl
  obtain⟨i,hi,hil,hip,hip2⟩:=aHi (s:=x) (λy hy=>(hW y hy).1) ha
  have hres:lV W x p=(some i,⟨(mV W x p).set i ((mV W x p).getD i 0-1),(i+1)%W.length⟩):=by
   unfold lV;rw[if_pos ha,hi]
  have hpk: ∀G:aF,lvl prog pkN (m-1) (.func 103) [.int .u16 ((dU (nZ (mV W x p) p) W.length:Nat):Int),.I x.fr,.I W.length] G=some (.I i,G):=λG=>by
   rw[Nk _ U,Mp (hml _) U hxf,aOo,hi]
  have e5:=aA (i:=i) U
  have e6:bin prog .rem 3 (.I ((i+1:Nat):Int)) (.I W.length)=some (.I (((i+1)%W.length:Nat):Int)):=zD (i+1) W.length _ rfl U
  rw[hres];by_cases hc:o6 (nZ x.l p) W.length=true
  ·have hf:mV W x p=x.l:=by unfold mV;rw[if_pos hc]
   rw[hf] at hpk hip2⊢;have c2:(((dU (nZ x.l p) W.length:Nat):Int)==0)=false:=by
    rw[beq_eq_false_iff_ne];intro h;have:=(Bw (nZ x.l p) W.length).mp U
    rw[hc] at this;cases this
   have l2:ld1 (.Q wh 2) H=some (.I x.fr,H):=dI b0 rfl;have l1:ld1 (.Q wh 1) H=some (lG wl W.length lc,H):=dI b0 rfl;obtain⟨g1,g2⟩:=Bx (c:=lc) b2 hxl hil;have hle:x.l.getD i 0<=5:=by
    have:i<x.l.length:=U
    rw[aRY,aRW this,aSn]
    exact(hx.wt _ (List.getElem_mem this)).2
   have e7:IntKind.i64.wrap (x.l.getD i 0-1)=x.l.getD i 0-1:=dL U U
   have st1:stN 1 (.Q wl i) (.I (x.l.getD i 0-1)) H=some (undef,H.set wl (fD (x.l.set i (x.l.getD i 0-1)) lr)):=by
    rw[lN b2 aC (by simp;omega),List.set_append_left _ _ (by simp;omega),<-List.map_set]
    rfl
   have b0':(H.set wl (fD (x.l.set i (x.l.getD i 0-1)) lr))[wh]? =some (tD ww wl wc lc W.length x.fr):=by rw[aRV (λh=>n02 h.symm),b0]
   have st2:stN 1 (.Q wh 2) (.I (((i+1)%W.length:Nat):Int)) (H.set wl (fD (x.l.set i (x.l.getD i 0-1)) lr))=some (undef,(H.set wl (fD (x.l.set i (x.l.getD i 0-1)) lr)).set wh (tD ww wl wc lc W.length ((i+1)%W.length))):=lN b0' aC (by simp)
   simp only[gsR,l0,l0',e1,iC,e2,e3,c1,s1,a1,c2,l2,D4,hpk,l1,g1,g2,e7,st1,cR,e5,e6,st2];refine⟨_,rfl,⟨by simp,λb hb hbn=> ?_⟩,λq hq=> ?_⟩
   ·rw[aRV (λh=>hbn (.inl h.symm)),aRV (λh=>hbn (.inr h.symm))]
   ·simp only[mF,aSd,aSk,or_false] at hq
    rcases hq with rfl|rfl|rfl
    ·exact fW b0'
    ·rw[aRV n01,aRV hne.symm,b1]
    ·rw[aRV n02]
     exact fW b2
  ·have hf:mV W x p=W:=by unfold mV;rw[if_neg hc]
   rw[hf] at hpk hip2⊢;have c2:(((dU (nZ x.l p) W.length:Nat):Int)==0)=true:=by
    rw[beq_iff_eq];have:=(Bw (nZ x.l p) W.length).mpr (by simpa using hc)
    omega
   have l1:ld1 (.Q wh 1) H=some (lG wl W.length lc,H):=dI b0 rfl;obtain⟨H1,hH1⟩:=aD (H.set wl (fD W lr));have cp:cpy 1 (lG wl W.length lc) (lG ww W.length wc) H=some (.I W.length,H1):=by rw[hH1];exact aOs rfl b2 b1 hxl
   have b01:H1[wh]? =some (tD ww wl wc lc W.length x.fr):=by rw[hH1,aRV (λh=>n02 h.symm),b0]
   have b11:H1[ww]? =some (fD W wr):=by rw[hH1,aRV hne.symm,b1]
   have b21:H1[wl]? =some (fD W lr):=by rw[hH1];exact fW b2
   have s2:=aCf (m:=m-1) U b01 b21 rfl h3
   have a2:bin prog .and 23 (.int .u16 ((dU p W.length:Nat):Int)) (.int .u16 ((dU (λj=>decide (0<W.getD j 0)) W.length:Nat):Int))=some (.int .u16 ((dU (nZ W p) W.length:Nat):Int)):=by
    rw[zB .u16 rfl _ (by show _<65536;exact hml _) (by show _<65536;exact hml _),aB8]
    rfl
   have l2:ld1 (.Q wh 2) H1=some (.I x.fr,H1):=dI b01 rfl;have l11:ld1 (.Q wh 1) H1=some (lG wl W.length lc,H1):=dI b01 rfl;obtain⟨g1,g2⟩:=Bx (c:=lc) b21 rfl hil;have hle:W.getD i 0<=5:=by
    rw[aRY,aRW hil,aSn]
    exact(hW _ (List.getElem_mem hil)).2
   have e7:IntKind.i64.wrap (W.getD i 0-1)=W.getD i 0-1:=dL U U
   have st1:stN 1 (.Q wl i) (.I (W.getD i 0-1)) H1=some (undef,H1.set wl (fD (W.set i (W.getD i 0-1)) lr)):=by
    rw[lN b21 aC (by simp;omega),List.set_append_left _ _ (by simp;omega),<-List.map_set]
    rfl
   have b0':(H1.set wl (fD (W.set i (W.getD i 0-1)) lr))[wh]? =some (tD ww wl wc lc W.length x.fr):=by rw[aRV (λh=>n02 h.symm),b01]
   have st2:stN 1 (.Q wh 2) (.I (((i+1)%W.length:Nat):Int)) (H1.set wl (fD (W.set i (W.getD i 0-1)) lr))=some (undef,(H1.set wl (fD (W.set i (W.getD i 0-1)) lr)).set wh (tD ww wl wc lc W.length ((i+1)%W.length))):=lN b0' aC (by simp)
   simp only[gsR,l0,l0',e1,iC,e2,e3,c1,s1,a1,c2,l1,cp,s2,a2,l2,D4,hpk,l11,g1,g2,e7,st1,cR,e5,e6,st2];refine⟨_,rfl,⟨by simp[hH1],λb hb hbn=> ?_⟩,λq hq=> ?_⟩
   ·rw[aRV (λh=>hbn (.inl h.symm)),aRV (λh=>hbn (.inr h.symm)),hH1,aRV (λh=>hbn (.inr h.symm))]
   ·simp only[mF,aSd,aSk,or_false] at hq
    rcases hq with rfl|rfl|rfl
    ·exact fW b0'
    ·rw[aRV n01,aRV hne.symm,b11]
    ·rw[aRV n02]
     exact fW b21
 ·have c1:(((dU p W.length:Nat):Int)==0)=true:=by
   rw[beq_iff_eq];have:=(Bw p W.length).mpr (by simpa using ha)
   omega
  have hres:lV W x p=(none,x):=by
   unfold lV;rw[if_neg ha]
  rw[hres];simp only[gsR,l0,l0',e1,iC,e2,e3,c1]
  exact⟨_,rfl,Fr.kO _ _,hB⟩
end
def wI (zs:List Nat):List Int:=zs.map λz:Nat=>(z:Int)
def gR (zs:List Nat):Blk:=fD (wI zs) []
def gS (zs:List Nat):Blk:= .cells (zs.map λz:Nat=> .int .u16 (z:Int)) 23 .row
def sG (ga aa n:Nat):Blk:= .cells [eQ ga n,eQ aa n] 176 .fix
def kE (ab ga aa:Nat)(g a:List Nat):List (Nat×Blk):=[(ab,sG ga aa g.length),(ga,gR g),(aa,gR a)]
def stB (mb n ins outs:Nat):Blk:= .cells [eQ mb n,.int .u16 ins,.int .u16 outs] 201 .fix
theorem aCi (zs:List Nat):(wI zs).length=zs.length:=by simp[wI]
theorem aOy (zs:List Nat)(i:Nat):(wI zs).getD i 0=((zs.getD i 0:Nat):Int):=by
 unfold wI;rw[aRY,aRY,aR7];cases zs[i]? <;>rfl
theorem aOz (zs:List Nat)(i z:Nat):wI (zs.set i z)=(wI zs).set i (z:Int):=by simp[wI,List.map_set]
theorem aCh {zs:List Nat}{n i:Nat}(h: ∀z∈zs,z<n)(hi:i<zs.length):zs.getD i 0<n:=by
 rw[aRY,aRW hi];exact h _ (List.getElem_mem hi)
section
variable {H : aF} {m : Nat}
theorem Je {b n:Nat}{zs:List Nat}(hb:H[b]? =some (gR zs))(hn:zs.length=n){i:Nat}(hi:i<n):aT 1 (eQ b n) (.I (i:Int))=some (.Q b i)/\ld1 (.Q b i) H=some (.I (zs.getD i 0:Nat),H):=by
 have:=Bx (c:=n) hb ((aCi zs).trans hn) hi;rw[aOy] at this;exact this
theorem Jf {b n c:Nat}{zs:List Nat}(hb:H[b]? =some (gS zs))(hn:zs.length=n){i:Nat}(hi:i<n):aT 1 (.slice (some ⟨b,0,none⟩) n c) (.I (i:Int))=some (.Q b i)/\ld1 (.Q b i) H=some (.int .u16 (zs.getD i 0:Nat),H):=by
 constructor
 ·have:=pQ 1 b 0 n c .i64 (i:Int) U U
  simpa using this
 ·refine dI hb ?_
  rw[aR7,aRY,aRW U]
  rfl
theorem aCj {b i:Nat}{zs:List Int}{lr:List Value}(z:Int)(hb:H[b]? =some (fD zs lr))(hi:i<zs.length):stN 1 (.Q b i) (.I z) H=some (undef,H.set b (fD (zs.set i z) lr)):=by
 rw[lN hb aC (by simp;omega),List.set_append_left _ _ (by simp;omega),<-List.map_set]
 rfl
theorem aCk {b i:Nat}{zs:List Nat}(z:Nat)(hb:H[b]? =some (gR zs))(hi:i<zs.length):stN 1 (.Q b i) (.I z) H=some (undef,H.set b (gR (zs.set i z))):=by
 rw[aCj (z:Int) hb (by rw[aCi];exact hi),<-aOz]
 rfl
theorem aCl {b i:Nat}{zs:List Nat}(z:Nat)(hb:H[b]? =some (gS zs))(hi:i<zs.length):stN 1 (.Q b i) (.int .u16 z) H=some (undef,H.set b (gS (zs.set i z))):=by
 rw[lN hb aC (by simp;omega),<-List.map_set]
 rfl
theorem pI (i:Nat)(hi:i<1000):IntKind.i64.wrap ((i:Int)+1)=((i+1:Nat):Int):=by rw[dL U U];omega
section
variable {ab ga aa sb mb cb : Nat} {rows : List Nat} {M : List Int} {g a : List Nat} {n : Nat}
theorem aOx (hB:Blks (kE ab ga aa g a) H)(hs:H[sb]? =some (stB mb n (fB M n) (lF M n)))(hc:H[cb]? =some (gS (kQ rows n)))(hg:g.length=n)(hgl: ∀z∈g,z<n)(hr:rows.length=n)(hM:M.length=n)(h1:1<=n)(h16:n<=16)(hm:2<m):
  ∀(q i k:Nat),n-i=q->i<=n->q<k-> ∀(x3 x4 x5 x6 x8 x9 bS cE aV aR aX aU bA bP bQ bO bK aY bC bE bG bH bI bJ bM bN bU cK cL cD bV bX bY b9 cA cF cM cO cP cT dB dE dF cU cV cW cY dJ dG dH:Value),
  aM k (aN prog (lvl prog pkN m) (aM m) Po) (Pp (lvl prog pkN m) (aM m)) [(.Q ab 0),(.Q sb 0),(eQ cb n),x3,x4,x5,x6,(eQ H.length n),x8,x9,bS,cE,aV,aR,(eQ cb n),(.I n),(.I (i:Nat)),aX,aU,bA,bP,bQ,bO,bK,aY,bC,bE,bG,bH,bI,bJ,bM,bN,bU,cK,cL,cD,bV,bX,bY,b9,cA,cF,cM,cO,cP,cT,dB,dE,dF,cU,cV,cW,cY,dJ,dG,dH] (H++[gS (grL (mU (lK rows) M g n) n i)])=some (eQ H.length n,H++[gS (grL (mU (lK rows) M g n) n n)]):=by
 obtain⟨gr,hgr⟩:=aD (mU (lK rows) M g n);rw[<-hgr];have b0:H[ab]? =some (sG ga aa n):=by rw[<-hg];exact hB _ (aR3 ..)
 have b1:H[ga]? =some (gR g):=hB (ga,gR g) (by simp[kE])
 intro q;induction q with
 |zero=>
  intro i k hq hi hk;intros;obtain⟨k,rfl⟩: ∃k',k=k'+1:=⟨k-1,by omega⟩
  have hie:i=n:=U
  subst hie;have c1:decide ((i:Int)<(i:Int))=false:=by simp
  rw[aM,aAz];simp only[gsR,c1];rw[aK8];simp only[gsR]
 |succ q ih=>
  intro i k hq hi hk;intros;obtain⟨k,rfl⟩: ∃k',k=k'+1:=⟨k-1,by omega⟩
  have hin:i<n:=U
  have c1:decide ((i:Int)<(n:Int))=true:=by rw[decide_eq_true_eq];omega
  obtain⟨G,hG⟩:=aD (H++[gS (grL gr n i)]);have e0:G[ab]? =some (sG ga aa n):=by rw[hG];exact oX b0 _
  have e1:G[ga]? =some (gR g):=by rw[hG];exact oX b1 _
  have e2:G[sb]? =some (stB mb n (fB M n) (lF M n)):=by rw[hG];exact oX hs _
  have e3:G[cb]? =some (gS (kQ rows n)):=by rw[hG];exact oX hc _
  have e4:G[H.length]? =some (gS (grL gr n i)):=by rw[hG];exact eD _ _
  obtain⟨a1,a2⟩:=Jf (c:=n) e3 (aHj _ _) hin;have a1:aT 1 (eQ cb n) (.I (i:Int))=some (.Q cb i):=a1;have l1:ld1 (.Q sb 1) G=some (.int .u16 (fB M n:Nat),G):=dI e2 rfl;have l2:ld1 (.Q sb 2) G=some (.int .u16 (lF M n:Nat),G):=dI e2 rfl;have l0:ld1 (.Q ab 0) G=some (eQ ga n,G):=dI e0 rfl;obtain⟨a3,a4⟩:=Je e1 hg hin;have hcl:(kQ rows n).getD i 0<65536:=aOe U hin
  have hil:fB M n<65536:=tC _ h16;have hol:lF M n<65536:=tC _ h16;have a5:bin prog .and 23 (.int .u16 ((kQ rows n).getD i 0:Nat)) (.int .u16 (fB M n:Nat))=some (.int .u16 ((kQ rows n).getD i 0&&&fB M n:Nat)):=zB .u16 rfl _ (by show _<65536;exact hcl) (by show _<65536;exact hil)
  have hal:(kQ rows n).getD i 0&&&fB M n<65536:=Nat.lt_of_le_of_lt Nat.and_le_left hcl;have a6:aZ (eQ cb n)=some (.I n):=rfl;have hgi:g.getD i 0<n:=aCh hgl U
  have a7:lvl prog pkN m (.func 103) [.int .u16 ((kQ rows n).getD i 0&&&fB M n:Nat),.I (g.getD i 0:Nat),.I n] G=some (qQ (kG (λj=>((kQ rows n).getD i 0&&&fB M n).testBit j) (g.getD i 0) n),G):=by
   rw[Nk _ U,Mp hal h16 hgi]
   rfl
  have hgm:gr i=if(i:Int)∈M then none else kG (λj=>((kQ rows n).getD i 0&&&fB M n).testBit j) (g.getD i 0) n:=by rw[hgr];exact aOi hr hin
  have e9:=pI i U
  rw[aM,aAz];rw[<-hG];cases hp:kG (λj=>((kQ rows n).getD i 0&&&fB M n).testBit j) (g.getD i 0) n with
  |none=>
   rw[hp] at a7 hgm;have hno:gr i=none:=by rw[hgm];split<;>rfl
   have c2:((-1:Int)!= -1)=false:=rfl;have hL:=aB9 (gr:=gr) (n:=n) (kk:=i) (λj _=>by rw[hno];simp)
   simp only[gsR,c1,a1,a2,l1,a5,l0,a3,a4,a6,a7,qQ,c2,cR,e9];rw[hG,<-hL];exact ih (i+1) k U U U ..
  |some j=>
   rw[hp] at a7 hgm;have hjn:=(w7 hp).1;have c2:(((j:Int))!= -1)=true:=by rw[bne_iff_ne];omega
   have c3:=aOt (H:=G) (m:=m) U (lF M n) i hol U
   rw[aOm hin] at c3;by_cases hmem:(i:Int)∈M
   ·have hno:gr i=none:=by rw[hgm,if_pos hmem]
    have hL:=aB9 (gr:=gr) (n:=n) (kk:=i) (λj _=>by rw[hno];simp)
    rw[aSF (not_not_intro hmem)] at c3;simp only[gsR,c1,a1,a2,l1,a5,l0,a3,a4,a6,a7,qQ,c2,l2,c3,cR,e9];rw[hG,<-hL];exact ih (i+1) k U U U ..
   ·have hyes:gr i=some j:=by rw[hgm,if_neg hmem]
    have hL:=aOf (n:=n) (kk:=i) hjn hyes;rw[aSE hmem] at c3;obtain⟨a8,a9⟩:=Jf (c:=n) e4 (zV _ _ _) hjn;have hv:(grL gr n i).getD j 0=grM gr i j:=by rw[aRY,D0 hjn];rfl
    rw[hv] at a9;obtain⟨s1,s2⟩:=xW (a:=grM gr i j) (i:=i) (aCa _ U _) U
    have st:=aCl (grM gr i j|||2 ^ i) e4 (i:=j) (by rw[zV];exact hjn)
    rw[<-hL] at st;have a8':aT 1 (eQ H.length n) (.I (j:Int))=some (.Q H.length j):=a8;simp only[gsR,c1,a1,a2,l1,a5,l0,a3,a4,a6,a7,qQ,c2,l2,c3,a8',a9,s1,s2,st,cR,e9];rw[hG,mW];exact ih (i+1) k U U U ..
theorem aOw (hB:Blks (kE ab ga aa g a) H)(hs:H[sb]? =some (stB mb n (fB M n) (lF M n)))(hc:H[cb]? =some (gS (kQ rows n)))(hg:g.length=n)(hgl: ∀z∈g,z<n)(hr:rows.length=n)(hM:M.length=n)(h1:1<=n)(h16:n<=16)(hm:30<m):
  lvl prog pkN m (.func 102) [.Q ab 0,.Q sb 0,eQ cb n] H=some (eQ H.length n,H++[gS (grL (mU (lK rows) M g n) n n)]):=by
 refine cS (cH rfl) U ?_
 rw[aK9];have a6:aZ (eQ cb n)=some (.I n):=rfl;have mk:=wW (H:=H) 23 1 2 [.int .u16 0] .i64 .i64 (n:Int) U U U rfl
 have hz:H++[Blk.cells (List.replicate (n:Int).toNat [Value.int .u16 0]).flatten 23 .row]=H++[gS (grL (mU (lK rows) M g n) n 0)]:=by
  have: ∀n,(List.replicate n [Value.int .u16 0]).flatten=List.replicate n (.int .u16 0):=by
   intro n;induction n with
   |zero=>rfl
   |succ n ih=>rw[List.replicate_succ,aSu,ih];rfl
  rw[aSm,this,aOg,gS,List.map_replicate];rfl
 rw[hz,aSm] at mk;simp only[gsR,a6,mk];exact aOx hB hs hc hg hgl hr hM h1 h16 U n 0 (m-1) rfl U U ..
end
end
structure RunS (H:aF)(ab ga aa sb mb cb:Nat)(rows:List Nat)(n:Nat)(s:Mat):Prop where
 arb:Blks (kE ab ga aa s.g s.a) H
 st:H[sb]? =some (stB mb n (fB s.m n) (lF s.m n))
 mt:H[mb]? =some (fD s.m [])
 cols:H[cb]? =some (gS (kQ rows n))
section
variable {H : aF} {m : Nat} {ab ga aa sb mb cb : Nat} {rows : List Nat} {n : Nat} {s : Mat}
theorem RunS.ext {H':aF}(h:RunS H ab ga aa sb mb cb rows n s)(he:Ext H H'):RunS H' ab ga aa sb mb cb rows n s:=
 ⟨Blks.dx _ _ _ h.arb he,by rw[he.2 _ (dO h.st) id,h.st],by rw[he.2 _ (dO h.mt) id,h.mt],by rw[he.2 _ (dO h.cols) id,h.cols]⟩
theorem Bz {zs:List Nat}{ws:List Int}{lr:List Value}:gS zs≠fD ws lr:=λh=>by
 injection h with _ h2
 revert h2
 decide
theorem R9 {mb n i o:Nat}{ws:List Int}{lr:List Value}:stB mb n i o≠fD ws lr:=λh=>by
 injection h with _ h2
 revert h2
 decide
theorem aCn {mb n i o:Nat}{zs:List Nat}:stB mb n i o≠gS zs:=λh=>by
 injection h with _ h2
 revert h2
 decide
theorem R8 {ga aa n:Nat}{ws:List Int}{lr:List Value}:sG ga aa n≠fD ws lr:=λh=>by
 injection h with _ h2
 revert h2
 decide
theorem aOB {ga aa n mb k i o:Nat}:sG ga aa n≠stB mb k i o:=λh=>by
 injection h with _ h2
 revert h2
 decide
theorem aCm {a i:Nat}(ha:a<65536)(hi:i<16):bin prog .andNot 23 (.int .u16 (a:Int)) (.int .u16 ((2 ^ i:Nat):Int))=some (.int .u16 ((mB a (2 ^ i):Nat):Int)):=
 Xl .u16 rfl _ (by show _<65536;exact ha) (by show _<65536;exact Gl hi)
theorem RunS.aOA (h:RunS H ab ga aa sb mb cb rows n s)(hI:MatI n s)(hn:1<=n)(hne:ga≠aa)(hma:mb≠ga)(hmb:mb≠aa)(first:Bool){i k:Nat}(hi:i<n)(hk:k<n)(hf:s.m.getD i 0= -1):
  let H1:=H.set mb (fD (s.m.set i (k:Int)) [])
  let H2:=H1.set sb (stB mb n (mB (fB s.m n) (2 ^ i)) (lF s.m n))
  let H3:=H2.set sb (stB mb n (mB (fB s.m n) (2 ^ i)) (mB (lF s.m n) (2 ^ k)))
  let H4:=H3.set ga (gR (s.g.set k ((i+1)%n)))
  let H5:=H4.set aa (gR (s.a.set i ((k+1)%n)))
  H1[sb]? =some (stB mb n (fB s.m n) (lF s.m n))/\H2[sb]? =some (stB mb n (mB (fB s.m n) (2 ^ i)) (lF s.m n))/\
  RunS H3 ab ga aa sb mb cb rows n ⟨s.m.set i (k:Int),s.g,s.a⟩/\H4[aa]? =some (gR s.a)/\RunS H5 ab ga aa sb mb cb rows n ⟨s.m.set i (k:Int),s.g.set k ((i+1)%n),s.a.set i ((k+1)%n)⟩:=by
 intro H1 H2 H3 H4 H5;have b0:H[ab]? =some (sG ga aa s.g.length):=h.arb _ (aR3 ..);have b1:H[ga]? =some (gR s.g):=h.arb (ga,gR s.g) (by simp[kE])
 have b2:H[aa]? =some (gR s.a):=h.arb (aa,gR s.a) (by simp[kE])
 have nsm:sb≠mb:=λhh=>by have:=h.st;rw[hh,h.mt] at this;exact R9 (aSw this).symm
 have nsg:sb≠ga:=λhh=>by have:=h.st;rw[hh,b1] at this;exact R9 (aSw this).symm
 have nsa:sb≠aa:=λhh=>by have:=h.st;rw[hh,b2] at this;exact R9 (aSw this).symm
 have nsc:sb≠cb:=λhh=>by have:=h.st;rw[hh,h.cols] at this;exact aCn (aSw this).symm
 have ncm:cb≠mb:=λhh=>by have:=h.cols;rw[hh,h.mt] at this;exact Bz (aSw this).symm
 have ncg:cb≠ga:=λhh=>by have:=h.cols;rw[hh,b1] at this;exact Bz (aSw this).symm
 have nca:cb≠aa:=λhh=>by have:=h.cols;rw[hh,b2] at this;exact Bz (aSw this).symm
 have nam:ab≠mb:=λhh=>by have:=h.mt;rw[<-hh,b0] at this;exact R8 (aSw this)
 have nag:ab≠ga:=λhh=>by have:=b1;rw[<-hh,b0] at this;exact R8 (aSw this)
 have naa:ab≠aa:=λhh=>by have:=b2;rw[<-hh,b0] at this;exact R8 (aSw this)
 have nas:ab≠sb:=λhh=>by have:=h.st;rw[<-hh,b0] at this;exact aOB (aSw this)
 have s1:H1[sb]? =some (stB mb n (fB s.m n) (lF s.m n)):=by rw[aRV nsm.symm,h.st]
 have s2:H2[sb]? =some (stB mb n (mB (fB s.m n) (2 ^ i)) (lF s.m n)):=fW s1;have k3: ∀b,b≠sb->b≠mb->H3[b]? =H[b]? :=λb h1 h2=>by rw[aRV h1.symm,aRV h1.symm,aRV h2.symm]
 have hins:=aOj (k:=k) hi hI.ml;have houts:=aOl (k:=k) hi hI.ml hf;have m3:H3[mb]? =some (fD (s.m.set i (k:Int)) []):=by
  rw[aRV nsm,aRV nsm];exact fW h.mt
 have s3:H3[sb]? =some (stB mb n (fB (s.m.set i (k:Int)) n) (lF (s.m.set i (k:Int)) n)):=by rw[hins,houts];exact fW s2
 have g3:H3[ga]? =some (gR s.g):=by rw[k3 ga nsg.symm hma.symm,b1]
 have a3:H3[aa]? =some (gR s.a):=by rw[k3 aa nsa.symm hmb.symm,b2]
 have r3:H3[ab]? =some (sG ga aa s.g.length):=by rw[k3 ab nas nam,b0]
 have c3:H3[cb]? =some (gS (kQ rows n)):=by rw[k3 cb nsc.symm ncm,h.cols]
 have a4:H4[aa]? =some (gR s.a):=by rw[aRV hne,a3]
 have k5: ∀b,b≠ga->b≠aa->H5[b]? =H3[b]? :=λb h1 h2=>by rw[aRV h2.symm,aRV h1.symm]
 refine⟨s1,s2,⟨λp hp=> ?_,s3,m3,c3⟩,a4,⟨λp hp=> ?_,by rw[k5 sb nsg nsa,s3],by rw[k5 mb hma hmb,m3],by rw[k5 cb ncg nca,c3]⟩⟩
 ·simp only[kE,aSd,aSk,or_false] at hp
  rcases hp with rfl|rfl|rfl
  ·exact r3
  ·exact g3
  ·exact a3
 ·simp only[kE,aSd,aSk,or_false] at hp
  rcases hp with rfl|rfl|rfl
  ·rw[k5 ab nag naa,r3,List.length_set]
  ·rw[aRV hne.symm]
   exact fW g3
  ·exact fW a4
end
section
variable {H : aF} {m : Nat} {ab ga aa sb mb cb : Nat} {rows : List Nat} {n : Nat} {s0 : Mat}
theorem aOC {H0:aF}{rounds rd was:Nat}(hI0:MatI n s0)(h1:1<=n)(h16:n<=16)(hne:ga≠aa)(hma:mb≠ga)(hmb:mb≠aa)(hsb:H0.length<=sb)(hmb0:H0.length<=mb)(hm:2<m){K:Ex->K (Value×aF)}{Q:aF->Value->Prop}
  (hK: ∀H',RunS H' ab ga aa sb mb cb rows n (rnd (lK rows) n (rd==0) s0)->Fr (λb=>b=ga∨b=aa) H0 H'-> ∀(x1 x2 x3 x4 x5 x6 x8 cE aR aS aQ aW aX aU bA bP bQ bO bK aY bC bE bG bH bI bJ bM bN bU cK cL cD bV bX bY b9 cA cF cM cO cP dE dF cU cV cW cY dJ dG dH cZ dP dS dQ dX eG eH eM eN eO eP eU eV eW fF fG fH fI fJ fK fL fM fN fO fP fQ fX fY fZ gB gJ gK gL gM iL iM iN iO iP iQ iR iS iT iV iW iX iY iZ jA jB jC jD jE jH jI jJ jK jL jM jO jQ jV jX jY jZ j7 j8 mH mI mJ mK mL mM mN mO mP mQ mR:Value),∃H2 r,Qe (lvl prog pkN m) (aM m) K (.Q ab 0) x1 x2 x3 x4 x5 x6 (.I n) x8 (.Q sb 0) (eQ cb n) cE (.int .u16 was) aR aS aQ aW aX aU bA bP bQ bO bK aY bC bE bG bH bI bJ bM bN bU cK cL cD bV bX bY b9 cA cF cM cO cP (.I rounds) (.I (rd:Nat)) dE dF cU cV cW cY dJ dG dH cZ dP dS dQ dX eG eH eM eN eO eP eU eV eW fF fG fH fI fJ fK fL fM fN fO fP fQ fX fY fZ gB gJ gK gL gM iL iM iN iO iP iQ iR iS iT iV iW iX iY iZ jA jB jC jD jE jH jI jJ jK jL jM jO jQ jV jX jY jZ j7 j8 mH mI mJ mK mL mM mN mO mP mQ mR H'=some (r,H2)/\Q H2 r):
  ∀(q i k:Nat)(H:aF)(gb:Nat),n-i=q->i<=n->q<k->RunS H ab ga aa sb mb cb rows n ((List.range i).foldl (acc (mU (lK rows) s0.m s0.g n) n (rd==0)) s0)->Fr (λb=>b=ga∨b=aa) H0 H->H[gb]? =some (gS (grL (mU (lK rows) s0.m s0.g n) n n))->
  ∀(x1 x2 x3 x4 x5 x6 x8 aR aS aQ aW aX aU bA bP bQ bO bK aY bC bE bG bH bI bJ bM bN bU cK cL cD bV bX bY b9 cA cF cM cO cP dE dF cU cV cW cY dJ dG dH dQ dX eG eH eM eN eO eP eU eV eW fF fG fH fI fJ fK fL fM fN fO fP fQ fX fY fZ gB gJ gK gL gM iL iM iN iO iP iQ iR iS iT iV iW iX iY iZ jA jB jC jD jE jH jI jJ jK jL jM jO jQ jV jX jY jZ j7 j8 mH mI mJ mK mL mM mN mO mP mQ mR:Value),∃H2 r,aM k (aN prog (lvl prog pkN m) (aM m) Qc) (Qg (lvl prog pkN m) (aM m) K) [(.Q ab 0),x1,x2,x3,x4,x5,x6,(.I n),x8,(.Q sb 0),(eQ cb n),(.I (rd:Nat)),(.int .u16 was),aR,aS,aQ,aW,aX,aU,bA,bP,bQ,bO,bK,aY,bC,bE,bG,bH,bI,bJ,bM,bN,bU,cK,cL,cD,bV,bX,bY,b9,cA,cF,cM,cO,cP,(.I rounds),(.I (rd:Nat)),dE,dF,cU,cV,cW,cY,dJ,dG,dH,(eQ gb n),(.I n),(.I (i:Nat)),dQ,dX,eG,eH,eM,eN,eO,eP,eU,eV,eW,fF,fG,fH,fI,fJ,fK,fL,fM,fN,fO,fP,fQ,fX,fY,fZ,gB,gJ,gK,gL,gM,iL,iM,iN,iO,iP,iQ,iR,iS,iT,iV,iW,iX,iY,iZ,jA,jB,jC,jD,jE,jH,jI,jJ,jK,jL,jM,jO,jQ,jV,jX,jY,jZ,j7,j8,mH,mI,mJ,mK,mL,mM,mN,mO,mP,mQ,mR] H=some (r,H2)/\Q H2 r:=by
 intro q;induction q with
 |zero=>
  intro i k H gb hq hi hk hS hfr hgb;intros;obtain⟨k,rfl⟩: ∃k',k=k'+1:=⟨k-1,by omega⟩
  have hie:i=n:=U
  subst hie;have c1:decide ((i:Int)<(i:Int))=false:=by simp
  rw[aM,aAL];simp only[gsR,c1];rw[aLR];exact hK H hS hfr ..
 |succ q ih=>
  intro i k H gb hq hi hk hS hfr hgb;intros;obtain⟨k,rfl⟩: ∃k',k=k'+1:=⟨k-1,by omega⟩
  have hin:i<n:=U
  obtain⟨gr,hgr⟩:=aD (mU (lK rows) s0.m s0.g n);obtain⟨s,hs⟩:=aD ((List.range i).foldl (acc gr n (rd==0)) s0);rw[<-hgr] at hS hgb ih;rw[<-hs] at hS;have hI:MatI n s:=by rw[hs];exact MatI.Rb U _ hI0
  have hmi:s.m.getD i 0=s0.m.getD i 0:=by rw[hs];exact C0 _ _ (by simp)
  have hnext:(List.range (i+1)).foldl (acc gr n (rd==0)) s0=match kG (λk=>(grM gr n i).testBit k) (s.a.getD i 0) n with
   |none=>s
   |some k=>⟨s.m.set i (k:Int),if(rd==0)=true then s.g.set k ((i+1)%n) else s.g,if(rd==0)=true then s.a.set i ((k+1)%n) else s.a⟩:=by
   rw[aSt,List.foldl_append,List.foldl_cons,List.foldl_nil,<-hs,hgr];exact aOc hmi
  have c1:decide ((i:Int)<(n:Int))=true:=by rw[decide_eq_true_eq];omega
  have b0:H[ab]? =some (sG ga aa s.g.length):=hS.arb _ (aR3 ..);have b1:H[ga]? =some (gR s.g):=hS.arb (ga,gR s.g) (by simp[kE])
  have b2:H[aa]? =some (gR s.a):=hS.arb (aa,gR s.a) (by simp[kE])
  rw[hI.gl] at b0;obtain⟨a1,a2⟩:=Jf (c:=n) hgb (zV _ _ _) hin;have a1:aT 1 (eQ gb n) (.I (i:Int))=some (.Q gb i):=a1;have hv:(grL gr n n).getD i 0=grM gr n i:=by rw[aRY,D0 hin];rfl
  rw[hv] at a2;have l1:ld1 (.Q ab 1) H=some (eQ aa n,H):=dI b0 rfl;obtain⟨a3,a4⟩:=Je b2 hI.al hin;have hai:s.a.getD i 0<n:=aCh hI.a (by rw[hI.al];exact hin)
  have a5:lvl prog pkN m (.func 103) [.int .u16 (grM gr n i:Nat),.I (s.a.getD i 0:Nat),.I n] H=some (qQ (kG (λj=>(grM gr n i).testBit j) (s.a.getD i 0) n),H):=by
   rw[Nk _ U,Mp (aCa gr h16 i) h16 hai]
   rfl
  have e9:=pI i U
  rw[aM,aAL];cases hp:kG (λk=>(grM gr n i).testBit k) (s.a.getD i 0) n with
  |none=>
   rw[hp] at a5 hnext;have c2:((-1:Int)== -1)=true:=rfl;simp only[gsR,c1,a1,a2,l1,a3,a4,a5,qQ,c2,cR,e9];exact ih (i+1) k H gb U U U (by rw[hnext];exact hS) hfr hgb ..
  |some j=>
   rw[hp] at a5 hnext;have hjn:=(w7 hp).1;have hjb:=(w7 hp).2;have hfree:s.m.getD i 0= -1:=by
    have:gr j=some i:=by
     rw[grM,lW,aSE hjn,aSh,beq_iff_eq] at hjb;exact hjb
    rw[hgr] at this;exact hmi.trans (aCc this).1
   have c2:((j:Int)== -1)=false:=by rw[beq_eq_false_iff_ne];omega
   obtain⟨t1,t2,t3,t4,t5⟩:=hS.aOA hI h1 hne hma hmb (rd==0) hin hjn hfree;have l2:ld1 (.Q sb 0) H=some (eQ mb n,H):=dI hS.st rfl;have i2:aT 1 (eQ mb n) (.I (i:Int))=some (.Q mb i):=(Bx (c:=n) hS.mt hI.ml hin).1;have st1:=aCj (i:=i) (j:Int) hS.mt (by rw[hI.ml];exact hin)
   obtain⟨H1,hH1⟩:=aD (H.set mb (fD (s.m.set i (j:Int)) []));rw[<-hH1] at t1 t2 t3 t4 t5 st1;have l3:ld1 (.Q sb 1) H1=some (.int .u16 (fB s.m n:Nat),H1):=dI t1 rfl;have hil:fB s.m n<65536:=tC _ h16;have hol:lF s.m n<65536:=tC _ h16;have hi1:=(xW (a:=0) (i:=i) U U).1
   have hj1:=(xW (a:=0) (i:=j) U U).1
   have hi2:=aCm (i:=i) hil U
   have hj2:=aCm (i:=j) hol U
   have st2:stN 1 (.Q sb 1) (.int .u16 (mB (fB s.m n) (2 ^ i):Nat)) H1=some (undef,H1.set sb (stB mb n (mB (fB s.m n) (2 ^ i)) (lF s.m n))):=lN t1 aC (by simp)
   obtain⟨H2,hH2⟩:=aD (H1.set sb (stB mb n (mB (fB s.m n) (2 ^ i)) (lF s.m n)));rw[<-hH2] at t2 t3 t4 t5 st2;have l4:ld1 (.Q sb 2) H2=some (.int .u16 (lF s.m n:Nat),H2):=dI t2 rfl;have st3:stN 1 (.Q sb 2) (.int .u16 (mB (lF s.m n) (2 ^ j):Nat)) H2=some (undef,H2.set sb (stB mb n (mB (fB s.m n) (2 ^ i)) (mB (lF s.m n) (2 ^ j)))):=lN t2 aC (by simp)
   obtain⟨H3,hH3⟩:=aD (H2.set sb (stB mb n (mB (fB s.m n) (2 ^ i)) (mB (lF s.m n) (2 ^ j))));rw[<-hH3] at t3 t4 t5 st3;have ngs:gb≠sb:=λhh=>by have:=hS.st;rw[<-hh,hgb] at this;exact aCn (aSw this).symm
   have ngm:gb≠mb:=λhh=>by have:=hS.mt;rw[<-hh,hgb] at this;exact Bz (aSw this)
   have ngg:gb≠ga:=λhh=>by have:=b1;rw[<-hh,hgb] at this;exact Bz (aSw this)
   have nga:gb≠aa:=λhh=>by have:=b2;rw[<-hh,hgb] at this;exact Bz (aSw this)
   have k3: ∀b,b≠sb->b≠mb->H3[b]? =H[b]? :=λb h1 h2=>by rw[hH3,hH2,hH1,aRV h1.symm,aRV h1.symm,aRV h2.symm]
   have hl3:H3.length=H.length:=by rw[hH3,hH2,hH1];simp
   have f3:Fr (λb=>b=ga∨b=aa) H0 H3:=⟨by rw[hl3];exact hfr.1,λb hb hn=>by rw[k3 b U U,hfr.2 b hb hn]⟩
   have g3:H3[gb]? =some (gS (grL gr n n)):=by rw[k3 gb ngs ngm,hgb]
   by_cases hrd:rd=0
   ·subst hrd
    have c3:(((0:Nat):Int)==0)=true:=rfl;have q0:H3[ab]? =some (sG ga aa s.g.length):=t3.arb _ (aR3 ..);rw[hI.gl] at q0;have q1:H3[ga]? =some (gR s.g):=t3.arb (ga,gR s.g) (by simp[kE])
    have l5:ld1 (.Q ab 0) H3=some (eQ ga n,H3):=dI q0 rfl;have l6:ld1 (.Q ab 1) H3=some (eQ aa n,H3):=dI q0 rfl;have e10:=pI j U
    have r1:bin prog .rem 3 (.I ((i+1:Nat):Int)) (.I n)=some (.I (((i+1)%n:Nat):Int)):=zD (i+1) n _ rfl U
    have r2:bin prog .rem 3 (.I ((j+1:Nat):Int)) (.I n)=some (.I (((j+1)%n:Nat):Int)):=zD (j+1) n _ rfl U
    have i5:=(Je q1 hI.gl hjn).1;have i6:=(Je (b:=aa) (H:=H) b2 hI.al hin).1;have st4:=aCk (i:=j) ((i+1)%n) q1 (by rw[hI.gl];exact hjn)
    obtain⟨H4,hH4⟩:=aD (H3.set ga (gR (s.g.set j ((i+1)%n))));rw[<-hH4] at t4 t5 st4;have st5:=aCk (i:=i) ((j+1)%n) t4 (by rw[hI.al];exact hin)
    obtain⟨H5,hH5⟩:=aD (H4.set aa (gR (s.a.set i ((j+1)%n))));rw[<-hH5] at t5 st5;simp only[gsR,c1,a1,a2,l1,a3,a4,a5,qQ,c2,l2,i2,st1,l3,hi1,hi2,st2,l4,hj1,hj2,st3,c3,l5,l6,cR,e9,e10,r1,r2,i5,i6,st4,st5];refine ih (i+1) k H5 gb U U U (by rw[hnext];exact t5) ?_ ?_ ..
    ·refine⟨by rw[hH5,hH4];simp;exact f3.1,λb hb hn=> ?_⟩
     rw[hH5,hH4,aRV (λhh=>hn (.inr hh.symm)),aRV (λhh=>hn (.inl hh.symm)),f3.2 b hb hn]
    ·rw[hH5,hH4,aRV nga.symm,aRV ngg.symm,g3]
   ·have c3:((rd:Int)==0)=false:=by rw[beq_eq_false_iff_ne];omega
    have c4:(rd==0)=false:=by simpa using hrd
    rw[c4] at hnext;simp only[gsR,c1,a1,a2,l1,a3,a4,a5,qQ,c2,l2,i2,st1,l3,hi1,hi2,st2,l4,hj1,hj2,st3,c3,cR,e9];refine ih (i+1) k H3 gb U U U ?_ f3 g3 ..
    rw[c4,hnext];exact t3
end
section
variable {H : aF} {m : Nat} {ab ga aa sb mb cb : Nat} {rows : List Nat} {n : Nat}
def pJ (rows:List Nat)(n:Nat)(s:Mat):Nat->Mat
 |0=>s
 |k+1=>rnd (lK rows) n (k==0) (pJ rows n s k)
theorem Sa {s:Mat}(h:MatI n s)(hn:1<=n): ∀k,MatI n (pJ rows n s k)
 |0=>h
 |k+1=>(Sa h hn k).rnd U
theorem aCp (req:Nat->Nat->Bool): ∀(k:Nat)(s:Mat),vX req n (k+1) s=rnd req n false (vX req n k s)
 |0,s=>rfl
 |k+1,s=>by
  rw[vX,aCp req k,vX]
theorem Sb (g a:List Nat): ∀k,pJ rows n ⟨List.replicate n (-1),g,a⟩ (k+1)=oV (lK rows) n (k+1) g a
 |0=>rfl
 |k+1=>by
  rw[pJ,Sb g a k];unfold oV;have:(k+1==0)=false:=rfl;rw[this,show k+1+1-1=k+1 by omega,aCp]
  rfl
theorem aCo {s:Mat}(h:MatI n s)(hn:1<=n){k:Nat}(he:pJ rows n s (k+1)=pJ rows n s k): ∀j,pJ rows n s (k+j)=pJ rows n s k
 |0=>rfl
 |j+1=>by
  rw[<-Nat.add_assoc,pJ,aCo h hn he j];rw[pJ] at he;exact aHh (by rw[(Sa h hn k).ml];exact aRZ _) _ he
theorem aOF {H0:aF}{rounds:Nat}{g a:List Nat}(hI0:MatI n ⟨List.replicate n (-1),g,a⟩)(h1:1<=n)(h16:n<=16)(hne:ga≠aa)(hma:mb≠ga)(hmb:mb≠aa)(hsb:H0.length<=sb)(hmb0:H0.length<=mb)(hr:rows.length=n)(hrd:1<=rounds)(hr16:rounds<=16)(hm:80<m){Q:aF->Value->Prop}
  (hK: ∀H',RunS H' ab ga aa sb mb cb rows n (pJ rows n ⟨List.replicate n (-1),g,a⟩ rounds)->Fr (λb=>b=ga∨b=aa) H0 H'->Q H' (eQ mb n)):
  ∀(q i k:Nat)(H:aF),rounds-i=q->i<=rounds->q<k->RunS H ab ga aa sb mb cb rows n (pJ rows n ⟨List.replicate n (-1),g,a⟩ i)->Fr (λb=>b=ga∨b=aa) H0 H->
  ∀(x1 x2 x3 x4 x5 x6 x8 cE aV aR aS aQ aW aX aU bA bP bQ bO bK aY bC bE bG bH bI bJ bM bN bU cK cL cD bV bX bY b9 cA cF cM cO cP dE dF cU cV cW cY dJ dG dH cZ dP dS dQ dX eG eH eM eN eO eP eU eV eW fF fG fH fI fJ fK fL fM fN fO fP fQ fX fY fZ gB gJ gK gL gM iL iM iN iO iP iQ iR iS iT iV iW iX iY iZ jA jB jC jD jE jH jI jJ jK jL jM jO jQ jV jX jY jZ j7 j8 mH mI mJ mK mL mM mN mO mP mQ mR:Value),∃H2 r,aM k (aN prog (lvl prog pkN m) (aM m) Qb) (Qf (lvl prog pkN m) (aM m)) [(.Q ab 0),x1,x2,x3,x4,x5,x6,(.I n),x8,(.Q sb 0),(eQ cb n),cE,aV,aR,aS,aQ,aW,aX,aU,bA,bP,bQ,bO,bK,aY,bC,bE,bG,bH,bI,bJ,bM,bN,bU,cK,cL,cD,bV,bX,bY,b9,cA,cF,cM,cO,cP,(.I rounds),(.I (i:Nat)),dE,dF,cU,cV,cW,cY,dJ,dG,dH,cZ,dP,dS,dQ,dX,eG,eH,eM,eN,eO,eP,eU,eV,eW,fF,fG,fH,fI,fJ,fK,fL,fM,fN,fO,fP,fQ,fX,fY,fZ,gB,gJ,gK,gL,gM,iL,iM,iN,iO,iP,iQ,iR,iS,iT,iV,iW,iX,iY,iZ,jA,jB,jC,jD,jE,jH,jI,jJ,jK,jL,jM,jO,jQ,jV,jX,jY,jZ,j7,j8,mH,mI,mJ,mK,mL,mM,mN,mO,mP,mQ,mR] H=some (r,H2)/\Q H2 r:=by
 have out: ∀(H:aF),RunS H ab ga aa sb mb cb rows n (pJ rows n ⟨List.replicate n (-1),g,a⟩ rounds)->Fr (λb=>b=ga∨b=aa) H0 H-> ∀(x0 x1 x2 x3 x4 x5 x6 x7 x8 bS cE aV aR aS aQ aW aX aU bA bP bQ bO bK aY bC bE bG bH bI bJ bM bN bU cK cL cD bV bX bY b9 cA cF cM cO cP cT dB dE dF cU cV cW cY dJ dG dH cZ dP dS dQ dX eG eH eM eN eO eP eU eV eW fF fG fH fI fJ fK fL fM fN fO fP fQ fX fY fZ gB gJ gK gL gM iL iM iN iO iP iQ iR iS iT iV iW iX iY iZ jA jB jC jD jE jH jI jJ jK jL jM jO jQ jV jX jY jZ j7 j8 mH mI mJ mK mL mM mN mO mP mQ mR:Value),∃H2 r,Qd (lvl prog pkN m) (aM m) x0 x1 x2 x3 x4 x5 x6 x7 x8 (.Q sb 0) bS cE aV aR aS aQ aW aX aU bA bP bQ bO bK aY bC bE bG bH bI bJ bM bN bU cK cL cD bV bX bY b9 cA cF cM cO cP cT dB dE dF cU cV cW cY dJ dG dH cZ dP dS dQ dX eG eH eM eN eO eP eU eV eW fF fG fH fI fJ fK fL fM fN fO fP fQ fX fY fZ gB gJ gK gL gM iL iM iN iO iP iQ iR iS iT iV iW iX iY iZ jA jB jC jD jE jH jI jJ jK jL jM jO jQ jV jX jY jZ j7 j8 mH mI mJ mK mL mM mN mO mP mQ mR H=some (r,H2)/\Q H2 r:=by
  intro H hS hfr;intros;have l2:ld1 (.Q sb 0) H=some (eQ mb n,H):=dI hS.st rfl;unfold Qd;simp only[gsR,l2]
  exact⟨_,_,rfl,hK H hS hfr⟩
 intro q;induction q with
 |zero=>
  intro i k H hq hi hk hS hfr;intros;obtain⟨k,rfl⟩: ∃k',k=k'+1:=⟨k-1,by omega⟩
  have hie:i=rounds:=U
  subst hie;have c1:decide ((i:Int)<(i:Int))=false:=by simp
  rw[aM,aAK];simp only[gsR,c1];rw[aAM];exact out H hS hfr ..
 |succ q ih=>
  intro i k H hq hi hk hS hfr;intros;obtain⟨k,rfl⟩: ∃k',k=k'+1:=⟨k-1,by omega⟩
  have c1:decide ((i:Int)<(rounds:Int))=true:=by rw[decide_eq_true_eq];omega
  obtain⟨s0,hs0⟩:=aD (pJ rows n ⟨List.replicate n (-1),g,a⟩ i);have hI:MatI n s0:=by rw[hs0];exact Sa hI0 h1 i
  rw[<-hs0] at hS;have l1:ld1 (.Q sb 1) H=some (.int .u16 (fB s0.m n:Nat),H):=dI hS.st rfl;have a1:=aOw (m:=m) hS.arb hS.st hS.cols hI.gl hI.g hr hI.ml h1 h16 U
  have a2:aZ (eQ H.length n)=some (.I n):=rfl;rw[aM,aAK];simp only[gsR,c1,l1,a1,a2];refine aOC (H0:=H0) (s0:=s0) (was:=fB s0.m n) (rd:=i) (rounds:=rounds) hI h1 h16 hne hma hmb hsb hmb0 U ?_ n 0 m _ H.length U U U (hS.ext (Fr.app _ _ _)) ⟨by have:=hfr.1;simp;omega,λb hb hn=>by rw[aRX (aR9 hb hfr.1),hfr.2 b hb hn]⟩ (eD _ _) ..
  intro H' hS' hfr';intros;have l3:ld1 (.Q sb 1) H'=some (.int .u16 (fB (rnd (lK rows) n (i==0) s0).m n:Nat),H'):=dI hS'.st rfl;have hrk:rnd (lK rows) n (i==0) s0=pJ rows n ⟨List.replicate n (-1),g,a⟩ (i+1):=by rw[pJ,hs0]
  have e9:=pI i U
  unfold Qe;by_cases hst:fB (rnd (lK rows) n (i==0) s0).m n=fB s0.m n
  ·have c2:(((fB (rnd (lK rows) n (i==0) s0).m n:Nat):Int)==((fB s0.m n:Nat):Int))=true:=by rw[hst];simp
   have hsame:=aOq hI.ml hst;simp only[gsR,l3,c2];rw[aAM];refine out H' ?_ hfr' ..;have:pJ rows n ⟨List.replicate n (-1),g,a⟩ rounds=rnd (lK rows) n (i==0) s0:=by
    have:=aCo (rows:=rows) hI0 h1 (k:=i) (by rw[<-hrk,hsame,hs0]) (rounds-i)
    rw[show i+(rounds-i)=rounds by omega] at this
    rw[this,hsame,hs0]
   rw[this];exact hS'
  ·have c2:(((fB (rnd (lK rows) n (i==0) s0).m n:Nat):Int)==((fB s0.m n:Nat):Int))=false:=by rw[beq_eq_false_iff_ne];omega
   rw[hrk] at hS';simp only[gsR,l3,c2,cR,e9];exact ih (i+1) k H' U U U hS' hfr' ..
theorem aOE {g a:List Nat}{qb rounds:Nat}(hB:Blks (kE ab ga aa g a) H)(hne:ga≠aa)(hg:g.length=n)(ha:a.length=n)(hgl: ∀z∈g,z<n)(hal: ∀z∈a,z<n)(h1:1<=n)(h15:n<=15)(hq:H[qb]? =some (gS rows))(hr:rows.length=n)(hrl: ∀z∈rows,z<65536)(hrd:1<=rounds)(hr16:rounds<=16)(hm:100<m):
  ∃H' mb,lvl prog pkN m (.func 50) [.pointer (some ⟨ab,0,none⟩),eQ qb n,.int .i64 rounds] H=some (eQ mb n,H')/\H'[mb]? =some (fD (oV (lK rows) n rounds g a).m [])/\H.length<=mb/\Fr (λb=>b=ga∨b=aa) H H'/\Blks (kE ab ga aa (oV (lK rows) n rounds g a).g (oV (lK rows) n rounds g a).a) H':=by
 have main: ∃H' r,lvl prog pkN m (.func 50) [.pointer (some ⟨ab,0,none⟩),eQ qb n,.int .i64 rounds] H=some (r,H')/\(r=eQ (H.length+1) n/\H'[H.length+1]? =some (fD (oV (lK rows) n rounds g a).m [])/\Fr (λb=>b=ga∨b=aa) H H'/\Blks (kE ab ga aa (oV (lK rows) n rounds g a).g (oV (lK rows) n rounds g a).a) H'):=by
  have h16:n<=16:=U
  have b0:H[ab]? =some (sG ga aa g.length):=hB _ (aR3 ..);have b1:H[ga]? =some (gR g):=hB (ga,gR g) (by simp[kE])
  have b2:H[aa]? =some (gR a):=hB (aa,gR a) (by simp[kE])
  rw[hg] at b0;refine gN (cH rfl) U ?_
  rw[aLS];have l0:ld1 (.pointer (some ⟨ab,0,none⟩)) H=some (eQ ga n,H):=dI b0 rfl;have e0: ∀b,aZ (eQ b n)=some (.int .i64 n):=λ_=>rfl
  have c1:((n:Int)!=(n:Int))=false:=by simp
  have c2:decide ((rounds:Int)<1)=false:=by rw[decide_eq_false_iff_not];omega
  have c3:decide ((16:Int)<(rounds:Int))=false:=by rw[decide_eq_false_iff_not];omega
  have e1:=(xW (a:=0) (i:=n) U U).1
  have hpow:2 ^ n<2 ^ 17:=Nat.pow_lt_pow_right U U
  have hpos:0<2 ^ n:=Nat.pow_pos U
  have hpl:2 ^ n<65536:=Gl U
  have e2:IntKind.u16.wrap ((2 ^ n:Nat)-(1:Int))=((2 ^ n-1:Nat):Int):=by rw[Cy];omega
  have e3:dT 3 1 1 [.int .i64 0] [(0,.int .i64 (-1))] H=some (.slice (some ⟨H.length,0,none⟩) 1 1,H++[.cells [.int .i64 (-1)] 3 .row]):=rfl;obtain⟨H1,hH1⟩:=aD (H++[Blk.cells [.int .i64 (-1)] 3 .row]);rw[<-hH1] at e3;have h1l:H1.length=H.length+1:=by rw[hH1];simp
  have e4:=aN6 (H:=H1) (m:=m-1) U n h1 h16 (c:=1) (by rw[hH1];exact eD H _)
  obtain⟨H2,hH2⟩:=aD (H1++[mE n n]);rw[<-hH2] at e4;have h2l:H2.length=H.length+2:=by rw[hH2];simp;omega
  have e5:bld prog 201 [(0,eQ H1.length n),(1,.int .u16 (2 ^ n-1:Nat)),(2,.int .u16 (2 ^ n-1:Nat))]=some (.agg #[eQ H1.length n,.int .u16 (2 ^ n-1:Nat),.int .u16 (2 ^ n-1:Nat)]):=rfl;have e6:H2++[Blk.cells (Value.cells (.agg #[eQ H1.length n,.int .u16 (2 ^ n-1:Nat),.int .u16 (2 ^ n-1:Nat)])).toList 201 .fix]=H2++[stB H1.length n (2 ^ n-1) (2 ^ n-1)]:=rfl;obtain⟨H3,hH3⟩:=aD (H2++[stB H1.length n (2 ^ n-1) (2 ^ n-1)]);have h3l:H3.length=H.length+3:=by rw[hH3];simp;omega
  have x3:Ext H H3:=by
   have y1:Ext H H1:=by rw[hH1];exact Fr.app _ _ _
   have y2:Ext H1 H2:=by rw[hH2];exact Fr.app _ _ _
   have y3:Ext H2 H3:=by rw[hH3];exact Fr.app _ _ _
   exact(y1.tr y2).tr y3
  have hq3:H3[qb]? =some (gS rows):=by rw[x3.2 _ (dO hq) id,hq]
  have e7:lvl prog pkN (m-1) (.func 101) [eQ qb n,.I n] H3=some (eQ H3.length n,H3++[gS (kQ rows n)]):=by
   rw[aIw _ U]
   unfold vY eQ;simp only;rw[if_pos U,hq3]
   unfold gS;simp only;rw[if_pos (by simp;omega),List.drop_zero,List.take_of_length_le (by simp;omega),Xr rows hrl]
   simp only[aSm]
  simp only[gsR,l0,e0,c1,c2,c3,e1,iC,e2,e3,e4,e5,e6,<-hH3,e7];have hI0:MatI n ⟨List.replicate n (-1),g,a⟩:=MatI.aBs hg ha hgl hal;have x4:Ext H (H3++[gS (kQ rows n)]):=by
   have y4:Ext H3 (H3++[gS (kQ rows n)]):=Fr.app _ _ _;exact x3.tr y4
  have x4':Ext H3 (H3++[gS (kQ rows n)]):=Fr.app _ _ _;have hm3:H3[H1.length]? =some (fD (List.replicate n (-1)) []):=by
   have:H2[H1.length]? =some (mE n n):=by rw[hH2];exact eD _ _
   rw[hH3,oX this];unfold mE fD;rw[Nat.sub_self,List.map_replicate];rfl
  have hs3:H3[H2.length]? =some (stB H1.length n (2 ^ n-1) (2 ^ n-1)):=by rw[hH3];exact eD _ _
  have hS:RunS (H3++[gS (kQ rows n)]) ab ga aa H2.length H1.length H3.length rows n ⟨List.replicate n (-1),g,a⟩:=by
   refine⟨Blks.dx _ _ _ hB x4,?_,by rw[x4'.2 _ (dO hm3) id,hm3],eD _ _⟩
   rw[x4'.2 _ (dO hs3) id,hs3];simp only;rw[aOk,aOn]
  have hgal:=dO b1;have haal:=dO b2;refine aOF (H0:=H) (rounds:=rounds) hI0 h1 h16 hne U U U U hr hrd hr16 U ?_ rounds 0 (m-1) _ U U U hS (x4.Cu λ_ h=>h.elim) ..
  intro H' hS' hfr';have hmt:=hS'.mt;obtain⟨r',hr'⟩: ∃r',rounds=r'+1:=⟨rounds-1,by omega⟩
  have harb:=hS'.arb;rw[hr',Sb,<-hr',h1l] at hmt;rw[hr',Sb,<-hr'] at harb
  exact⟨by rw[h1l],hmt,hfr',harb⟩
 obtain⟨H',r,g1,rfl,g2,g3,g4⟩:=main
 exact⟨H',H.length+1,g1,g2,by omega,g3,g4⟩
theorem aOD (h1:1<=n)(h16:n<=16)(hm:0<m): ∃ab ga aa H',lvl prog pkN m (.func 40) [.int .i64 n] H=some (.pointer (some ⟨ab,0,none⟩),H')/\Blks (kE ab ga aa (List.replicate n 0) (List.replicate n 0)) H'/\ga≠aa/\Ext H H'/\H.length<=ab/\H.length<=ga/\H.length<=aa:=by
 have mk:=λH:aF=>wW (H:=H) 3 1 8 [.I 0] .i64 .i64 (n:Int) U U U rfl
 have hz: ∀H:aF,H++[Blk.cells (List.replicate (n:Int).toNat [Value.int .i64 0]).flatten 3 .row]=H++[gR (List.replicate n 0)]:=λH=>by
  have: ∀n,(List.replicate n [Value.I 0]).flatten=List.replicate n (.I 0):=by
   intro n;induction n with
   |zero=>rfl
   |succ n ih=>rw[List.replicate_succ,aSu,ih];rfl
  rw[aSm,this,gR,fD,wI,List.map_replicate,List.map_replicate,List.append_nil];rfl
 have mk': ∀H:aF,lR 3 1 8 [.I 0] (.I (n:Int)) (.I (n:Int)) H=some (eQ H.length n,H++[gR (List.replicate n 0)]):=λH=>by
  have:=mk H;rw[hz,aSm] at this;exact this
 obtain⟨H1,hH1⟩:=aD (H++[gR (List.replicate n 0)]);obtain⟨H2,hH2⟩:=aD (H1++[gR (List.replicate n 0)]);have h1l:H1.length=H.length+1:=by rw[hH1];simp
 have h2l:H2.length=H.length+2:=by rw[hH2];simp;omega
 have e5:bld prog 176 [(0,eQ H.length n),(1,eQ H1.length n)]=some (.agg #[eQ H.length n,eQ H1.length n]):=rfl;have c2:decide ((n:Int)<1)=false:=by rw[decide_eq_false_iff_not];omega
 have c3:decide ((16:Int)<(n:Int))=false:=by rw[decide_eq_false_iff_not];omega
 have e6:H2++[Blk.cells (Value.cells (.agg #[eQ H.length n,eQ H1.length n])).toList 176 .fix]=H2++[sG H.length H1.length n]:=rfl;have y1:Ext H H1:=by rw[hH1];exact Fr.app _ _ _
 have y2:Ext H1 H2:=by rw[hH2];exact Fr.app _ _ _
 have y3:Ext H2 (H2++[sG H.length H1.length n]):=Fr.app _ _ _;refine⟨H2.length,H.length,H1.length,H2++[sG H.length H1.length n],cS (cH rfl) U ?_,λp hp=> ?_,by omega,(y1.tr y2).tr y3,by omega,by omega,by omega⟩
 ·rw[aLJ]
  simp only[gsR,c2,c3,mk',<-hH1,<-hH2,e5,e6]
 ·have q1:H1[H.length]? =some (gR (List.replicate n 0)):=by rw[hH1];exact eD _ _
  have q2:H2[H1.length]? =some (gR (List.replicate n 0)):=by rw[hH2];exact eD _ _
  simp only[kE,aSd,aSk,or_false,aSA] at hp;rcases hp with rfl|rfl|rfl
  ·exact eD _ _
  ·simp only
   rw[y3.2 _ (by rw[h2l];omega) id,y2.2 _ U id,q1]
  ·simp only
   rw[y3.2 _ (by rw[h2l,h1l];omega) id,q2]
end
end Go.Proofs.YtkeilicinggjmaaGreatDoor
namespace Go.Proofs.YtkeilicinggjmaaGreatDoor
open Go.Proofs.Tryz
open Go.Abs Go.Abs.M
open Classical
def kL (p:PlanD)(me:Nat):Cfg where
 nodes:=p.nodes.toNat
 lanes:=p.lanes.toNat
 room:=p.room.toNat
 queue:=p.queue.toNat
 rounds:=p.rounds.toNat
 every:=p.every.toNat
 weights:=p.weights
 start:=p.start.toNat
 me:=me
 by':=(bes p.edges me).map Int.toNat
 port:=λd=>if d=me then 0 else match ((bes p.edges me).map Int.toNat).findIdx? λw:Nat=>decide ((w:Int)=nx p me d) with
  |some j=>j+1
  |none=>0
structure Lay where
 nb:Nat
 pb:Nat
 pcap:Nat
 prest:List Value
 lb:Nat->Nat
 lcap:Nat->Nat
 lrest:Nat->List Value
 wh:Nat->Nat
 ww:Nat->Nat
 wl:Nat->Nat
 wc:Nat->Nat
 lc:Nat->Nat
 wr:Nat->List Value
 lr:Nat->List Value
 sb:Nat->Nat->Nat
 rb:Nat->Nat->Nat
 ab:Nat
 ga:Nat
 aa:Nat
 hb:Nat
 rg:Nat
inductive Part where
 |node
 |host
 |rings
 |arb
 |whl (i:Nat)
 |snd (i k:Nat)
 |rcv (i k:Nat)
abbrev pt (b:Nat):Value:= .Q b 0
def lL (c:Cfg)(i:Nat):Nat:=if i=0 then c.me else c.by'.getD (i-1) 0
def nU (y:Lay)(c:Cfg)(i:Nat):Value:=if i=0 then .slice none 0 0 else .slice (some ⟨y.lb i,0,none⟩) c.lanes (y.lcap i)
def fV (y:Lay)(c:Cfg)(i:Nat):List Value:=[.I (lL c i),nU y c i,pt (y.wh i)]
def nI (y:Lay)(i k:Nat):List Value:=[pt (y.sb i k),pt (y.rb i k)]
def iG (y:Lay)(c:Cfg):Value:= .slice (some ⟨y.pb,0,none⟩) c.aK y.pcap
def Se (bag:Int)(ev wv nv:Value)(y:Lay)(c:Cfg)(ticks:Nat):List Value:=
 [pt y.ab,.I c.nodes,ev,.I c.lanes,.I c.room,.I c.queue,.I c.rounds,.I c.every,.I bag,wv,.int .u16 c.start,nv,.I c.me,iG y c,pt y.hb,pt y.rg,.I ticks]
def xX (bag:Int)(ev wv nv:Value)(y:Lay)(c:Cfg)(ticks:Nat):Blk:= .cells (Se bag ev wv nv y c ticks) 89 .fix
def zY (y:Lay)(c:Cfg):Blk:= .cells (((List.range c.aK).map (fV y c)).flatten++y.prest) 94 .row
def pK (y:Lay)(c:Cfg)(i:Nat):Blk:= .cells (((List.range c.lanes).map (nI y i)).flatten++y.lrest i) 100 .row
def nJ (bag:Int)(ev wv nv:Value)(y:Lay)(c:Cfg)(ticks:Nat):List (Nat×Blk):=
 (y.nb,xX bag ev wv nv y c ticks)::(y.pb,zY y c)::(List.range c.by'.length).map λj=>(y.lb (j+1),pK y c (j+1))
def mG (bag:Int)(ev wv nv:Value)(y:Lay)(c:Cfg)(s:NS):Part->aF->Prop
 | .node=>Blks (nJ bag ev wv nv y c s.ticks)
 | .host=>λD=>HostAt D y.hb s.hL s.hG c.lanes c.queue
 | .rings=>λD=>RingsN D y.rg s.rL (c.aK*c.lanes*c.room) c.aK c.lanes
 | .arb=>Blks (kE y.ab y.ga y.aa s.g s.a)
 | .whl i=>Blks (if i<c.aK then mF (y.wh i) (y.ww i) (y.wl i) (y.wc i) (y.lc i) (y.wr i) (y.lr i) c.weights (s.whl i) else [])
 | .snd i k=>Blks (if 1<=i/\i<c.aK/\k<c.lanes then [(y.sb i k,nH (s.snd i k))] else [])
 | .rcv i k=>Blks (if 1<=i/\i<c.aK/\k<c.lanes then [(y.rb i k,kK (s.rcv i k) c.room)] else [])
structure LayOk (y:Lay)(c:Cfg):Prop where
 pcap:c.aK<=y.pcap
 lcap: ∀i,1<=i->i<c.aK->c.lanes<=y.lcap i
 ga:y.ga≠y.aa
 ww: ∀i,i<c.aK->y.ww i≠y.wl i
structure NodeAt (H0 H:aF)(F:Part->Nat->Prop)(y:Lay)(p:PlanD)(ev wv nv:Value)(c:Cfg)(t:Nat)(s:NS):Prop where
 ok:c.ok
 hc:c=kL p c.me
 hp: ∃n,OkP p n
 lay:LayOk y c
 ext:Ext H0 H
 old: ∀b,Un F b->H0.length<=b
 plan:PV H0 p ev wv nv
 inv:NInv c t s
 sep:Sep (mG p.bag ev wv nv y c s) F H
theorem vJ (bag:Int)(ev wv nv:Value)(y:Lay)(c:Cfg)(s:NS)(i:Part):DX (mG bag ev wv nv y c s i):=by
 cases i with
 |host=>exact λD D' h he=>h.ext he
 |rings=>exact λD D' h he=>h.ext he
 |_=>exact Blks.dx _
theorem Jj {l:List (Nat×Blk)}(h: ∀p∈l,∃cs e k,p.2= .cells cs e k):uA l:=λp hp hd=>by
 obtain⟨cs,e,k,he⟩:=h p hp;rw[he] at hd;cases hd
theorem zX {bag:Int}{ev wv nv:Value}{y:Lay}{c:Cfg}{ticks:Nat}:uA (nJ bag ev wv nv y c ticks):=Jj λp hp=>by
 simp only[nJ,aSd,aSx] at hp;rcases hp with rfl|rfl|⟨j,_,rfl⟩<;>exact⟨_,_,_,rfl⟩
theorem aCu {ab ga aa:Nat}{g a:List Nat}:uA (kE ab ga aa g a):=Jj λp hp=>by
 simp only[kE,aSd,aSk,or_false] at hp;rcases hp with rfl|rfl|rfl<;>exact⟨_,_,_,rfl⟩
theorem aCv {wh ww wl wc lc:Nat}{wr lr:List Value}{W:List Int}{x:Whl}:uA (mF wh ww wl wc lc wr lr W x):=Jj λp hp=>by
 simp only[mF,aSd,aSk,or_false] at hp;rcases hp with rfl|rfl|rfl<;>exact⟨_,_,_,rfl⟩
theorem Jk {b:Nat}{cs:List Value}{e:TypeId}{k:Kind}:uA [(b,Blk.cells cs e k)]:=Jj λp hp=>by
 simp only[aSd,aSk,or_false] at hp;subst hp
 exact⟨_,_,_,rfl⟩
section
variable {H0 H : aF} {F : Part → Nat → Prop} {y : Lay} {p : PlanD} {ev wv nv : Value} {c : Cfg} {t : Nat} {s : NS}
theorem NodeAt.lH {H':aF}(h:NodeAt H0 H F y p ev wv nv c t s)(he:Ext H H'):NodeAt H0 H' F y p ev wv nv c t s:=
 {h with ext:=h.ext.tr he,sep:=h.sep.ext (vJ _ _ _ _ _ _ _) he}
theorem NodeAt.nbB (h:NodeAt H0 H F y p ev wv nv c t s):H[y.nb]? =some (xX p.bag ev wv nv y c s.ticks):=h.sep.zU .node rfl zX (aR3 ..)
theorem NodeAt.ld (h:NodeAt H0 H F y p ev wv nv c t s)(j:Nat)(v:Value)(hv:(Se p.bag ev wv nv y c s.ticks)[j]? =some v):ld1 (.Q y.nb j) H=some (v,H):=dI h.nbB hv
theorem D7 (y:Lay)(c:Cfg)(i:Nat):(fV y c i).length=3:=rfl
theorem aCw (y:Lay)(i k:Nat):(nI y i k).length=2:=rfl
theorem NodeAt.aCr (h:NodeAt H0 H F y p ev wv nv c t s):Rs (fV y c) 94 H (iG y c) (List.range c.aK):=by
 have hb:H[y.pb]? =some (zY y c):=h.sep.zU .node rfl zX (by simp[nJ])
 refine .inr ⟨y.pb,0,y.pcap,by rw[aSo];rfl,by rw[aSo];exact h.lay.pcap,λ_=>⟨_,_,[],y.prest,rfl,λ_=>rfl,by rw[hb,List.nil_append];rfl⟩⟩
theorem NodeAt.aOG (h:NodeAt H0 H F y p ev wv nv c t s){i:Nat}(h1:1<=i)(h2:i<c.aK):Rs (nI y i) 100 H (nU y c i) (List.range c.lanes):=by
 have hb:H[y.lb i]? =some (pK y c i):=h.sep.zU .node rfl zX (by
  simp only[nJ,aSd,aSx,aSy];exact .inr (.inr ⟨i-1,by unfold Cfg.aK at h2;omega,by rw[Nat.sub_add_cancel h1]⟩))
 unfold nU;rw[if_neg U]
 refine .inr ⟨y.lb i,0,y.lcap i,by rw[aSo],by rw[aSo];exact h.lay.lcap i h1 h2,λ_=>⟨_,_,[],y.lrest i,rfl,λ_=>rfl,by rw[hb,List.nil_append];rfl⟩⟩
theorem NodeAt.zW (h:NodeAt H0 H F y p ev wv nv c t s){i:Nat}(hi:i<c.aK): ∃b o,aT 3 (iG y c) (.I (i:Int))=some (.Q b o)/\ ∀H',NodeAt H0 H' F y p ev wv nv c t s∨H'[b]? =H[b]? ->
  ldN 3 (.Q b o) H'=some (.agg ⟨fV y c i⟩,H')/\ld1 (.Q b o) H'=some (.I (lL c i),H')/\ld1 (.Q b (o+1)) H'=some (nU y c i,H')/\ld1 (.Q b (o+2)) H'=some (pt (y.wh i),H'):=by
 obtain⟨b,o,g1,g2,g3⟩:=h.aCr.fS (D7 y c) (i:=i) (x:=i) (by simp[hi]) .i64
 have hb:b=y.pb:=by
  obtain⟨o',n',c',hh⟩:=g2;unfold iG at hh;injection hh with hh;injection hh with hh;injection hh with hh;exact hh.symm
 refine⟨b,o,g1,λH' hH'=> ?_⟩
 have hsame:H'[b]? =H[b]? :=by
  rcases hH' with h'|h'
  ·have q1:H[y.pb]? =some (zY y c):=h.sep.zU .node rfl zX (by simp[nJ])
   have q2:H'[y.pb]? =some (zY y c):=h'.sep.zU .node rfl zX (by simp[nJ])
   rw[hb,q1,q2]
  ·exact h'
 obtain⟨q1,q2,_⟩:=g3 H' hsame
 exact⟨q1,q2 0 _ rfl,q2 1 _ rfl,q2 2 _ rfl⟩
theorem NodeAt.D6 (h:NodeAt H0 H F y p ev wv nv c t s){i k:Nat}(h1:1<=i)(hi:i<c.aK)(hk:k<c.lanes): ∃b o,aT 2 (nU y c i) (.I (k:Int))=some (.Q b o)/\
  ldN 2 (.Q b o) H=some (.agg ⟨nI y i k⟩,H)/\ld1 (.Q b o) H=some (pt (y.sb i k),H)/\ld1 (.Q b (o+1)) H=some (pt (y.rb i k),H):=by
 obtain⟨b,o,g1,g2,g3⟩:=(h.aOG h1 hi).fS (aCw y i) (i:=k) (x:=k) (by simp[hk]) .i64
 obtain⟨q1,q2,_⟩:=g3 H rfl
 exact⟨b,o,g1,q1,q2 0 _ rfl,q2 1 _ rfl⟩
theorem NodeAt.Ji (h:NodeAt H0 H F y p ev wv nv c t s){i k:Nat}(h1:1<=i)(hi:i<c.aK)(hk:k<c.lanes):H[y.sb i k]? =some (nH (s.snd i k)):=
 h.sep.zU (.snd i k) (l:=[(y.sb i k,Go.Proofs.YtkeilicinggjmaaGreatDoor.nH (s.snd i k))]) (by simp only[mG];rw[if_pos ⟨h1,hi,hk⟩]) Jk (aR3 ..)
theorem NodeAt.Jg (h:NodeAt H0 H F y p ev wv nv c t s){i k:Nat}(h1:1<=i)(hi:i<c.aK)(hk:k<c.lanes):H[y.rb i k]? =some (kK (s.rcv i k) c.room):=
 h.sep.zU (.rcv i k) (l:=[(y.rb i k,Go.Proofs.YtkeilicinggjmaaGreatDoor.kK (s.rcv i k) c.room)]) (by simp only[mG];rw[if_pos ⟨h1,hi,hk⟩]) Jk (aR3 ..)
theorem NodeAt.aOH (h:NodeAt H0 H F y p ev wv nv c t s){i:Nat}(hi:i<c.aK):Blks (mF (y.wh i) (y.ww i) (y.wl i) (y.wc i) (y.lc i) (y.wr i) (y.lr i) c.weights (s.whl i)) H:=
 h.sep.see (.whl i) (by simp only[mG];rw[if_pos hi]) aCv
theorem NodeAt.Sd (h:NodeAt H0 H F y p ev wv nv c t s)(ht:t<1000000000)(i k:Nat):SndOk (s.snd i k):=by
 have:=h.inv.snd i k
 exact⟨this.le,this.wide,by have h1:=this.big;have h2:=this.wide;omega⟩
theorem NodeAt.Jh (h:NodeAt H0 H F y p ev wv nv c t s)(ht:t<1000000000)(i k:Nat):RcvOk (s.rcv i k) c.room:=by
 have:=h.inv.rcv i k
 exact⟨this.h,h.ok.room.2,by have:=this.big;omega⟩
theorem NodeAt.aCt {H':aF}{F':Part->Nat->Prop}{t':Nat}{s':NS}(h:NodeAt H0 H F y p ev wv nv c t s)(hi:NInv c t' s')(hs:Sep (mG p.bag ev wv nv y c s') F' H')(hm:Mv (Un F) (Un F') H H'):NodeAt H0 H' F' y p ev wv nv c t' s':=
 {h with inv:=hi,sep:=hs,ext:=⟨aSa h.ext.1 hm.le,λb hb _=>by
   rw[hm.keep b (aR9 hb h.ext.1) (λhu=>by have:=h.old b hu;omega),h.ext.2 b hb id]⟩,old:=λb hb=>(hm.own b hb).elim (h.old b) λhl=>aSa h.ext.1 hl}
theorem NodeAt.aCq {H':aF}{F':Nat->Prop}{t':Nat}{s':NS}(h:NodeAt H0 H F y p ev wv nv c t s)(i:Part){B:aF->Prop}(hB:Has B F' H')(hm:Mv (F i) F' H H')(hi:NInv c t' s')
  (hBi: ∀D,B D->mG p.bag ev wv nv y c s' i D)(hj: ∀j,j≠i-> ∀D,mG p.bag ev wv nv y c s j D->mG p.bag ev wv nv y c s' j D):NodeAt H0 H' (updI F i F') y p ev wv nv c t' s'/\Mv (Un F) (Un (updI F i F')) H H':=by
 obtain⟨h1,h2⟩:=h.sep.Mk i (λj _=>vJ _ _ _ _ _ _ _ j) hB hm
 refine⟨h.aCt hi (h1.yZ λj D hD=> ?_) h2,h2⟩
 by_cases hji:j=i
 ·rw[hji,iK] at hD
  rw[hji];exact hBi D hD
 ·rw[eI _ _ hji] at hD
  exact hj j hji D hD
theorem NodeAt.D5 {H':aF}{t':Nat}{s':NS}(h:NodeAt H0 H F y p ev wv nv c t s)(i:Part){l l':List (Nat×Blk)}(hA:mG p.bag ev wv nv y c s i=Blks l)(hl:uA l)(hsub: ∀q∈l',InB l q.1)(hf:Fr (InB l) H H')(hB:Blks l' H')(hi:NInv c t' s')
  (hBi:mG p.bag ev wv nv y c s' i=Blks l')(hj: ∀j,j≠i->mG p.bag ev wv nv y c s' j=mG p.bag ev wv nv y c s j):NodeAt H0 H' F y p ev wv nv c t' s'/\Mv (Un F) (Un F) H H':=by
 obtain⟨h1,h2⟩:=h.sep.aOa i (λj _=>vJ _ _ _ _ _ _ _ j) hA hl hsub hf hB
 refine⟨h.aCt hi (h1.yZ λj D hD=> ?_) h2,h2⟩
 by_cases hji:j=i
 ·rw[hji,iK] at hD
  rw[hji,hBi];exact hD
 ·rw[eI _ _ hji] at hD
  rw[hj j hji];exact hD
theorem NodeAt.aCs {H':aF}{t':Nat}{i k:Nat}{x':Snd}(h:NodeAt H0 H F y p ev wv nv c t s)(h1:1<=i)(h2:i<c.aK)(hk:k<c.lanes)(hp:Put1 H (y.sb i k) (Go.Proofs.YtkeilicinggjmaaGreatDoor.nH x') H')(hi:NInv c t' {s with snd:=up2 s.snd i k x'}):
  NodeAt H0 H' F y p ev wv nv c t' {s with snd:=up2 s.snd i k x'}/\Mv (Un F) (Un F) H H':=by
 refine h.D5 (.snd i k) (l:=[(y.sb i k,Go.Proofs.YtkeilicinggjmaaGreatDoor.nH (s.snd i k))]) (l':=[(y.sb i k,Go.Proofs.YtkeilicinggjmaaGreatDoor.nH x')]) (by simp only[mG];rw[if_pos ⟨h1,h2,hk⟩]) Jk ?_ ?_ ?_ hi ?_ ?_
 ·intro q hq
  simp only[aSd,aSk,or_false] at hq;subst hq
  exact⟨_,aR3 ..,rfl⟩
 ·exact⟨hp.le,λb hb hn=>hp.keep b hb λhh=>hn ⟨_,aR3 ..,hh.symm⟩⟩
 ·intro q hq
  simp only[aSd,aSk,or_false] at hq;subst hq;exact hp.at_
 ·simp only[mG]
  rw[if_pos ⟨h1,h2,hk⟩,up2,if_pos ⟨rfl,rfl⟩]
 ·intro j hj
  cases j with
  |snd i' k'=>
   have e:up2 s.snd i k x' i' k'=s.snd i' k':=if_neg λhh=>hj (by rw[hh.1,hh.2])
   simp only[mG];rw[e]
  |_=>rfl
theorem NodeAt.Sc {H':aF}{t':Nat}{i k:Nat}{x':Rcv}(h:NodeAt H0 H F y p ev wv nv c t s)(h1:1<=i)(h2:i<c.aK)(hk:k<c.lanes)(hp:Put1 H (y.rb i k) (Go.Proofs.YtkeilicinggjmaaGreatDoor.kK x' c.room) H')(hi:NInv c t' {s with rcv:=up2 s.rcv i k x'}):
  NodeAt H0 H' F y p ev wv nv c t' {s with rcv:=up2 s.rcv i k x'}/\Mv (Un F) (Un F) H H':=by
 refine h.D5 (.rcv i k) (l:=[(y.rb i k,Go.Proofs.YtkeilicinggjmaaGreatDoor.kK (s.rcv i k) c.room)]) (l':=[(y.rb i k,Go.Proofs.YtkeilicinggjmaaGreatDoor.kK x' c.room)]) (by simp only[mG];rw[if_pos ⟨h1,h2,hk⟩]) Jk ?_ ?_ ?_ hi ?_ ?_
 ·intro q hq
  simp only[aSd,aSk,or_false] at hq;subst hq
  exact⟨_,aR3 ..,rfl⟩
 ·exact⟨hp.le,λb hb hn=>hp.keep b hb λhh=>hn ⟨_,aR3 ..,hh.symm⟩⟩
 ·intro q hq
  simp only[aSd,aSk,or_false] at hq;subst hq;exact hp.at_
 ·simp only[mG]
  rw[if_pos ⟨h1,h2,hk⟩,up2,if_pos ⟨rfl,rfl⟩]
 ·intro j hj
  cases j with
  |rcv i' k'=>
   have e:up2 s.rcv i k x' i' k'=s.rcv i' k':=if_neg λhh=>hj (by rw[hh.1,hh.2])
   simp only[mG];rw[e]
  |_=>rfl
end
def B0:Value:= .agg #[.pointer none,.pointer none]
def kX (a b:Value):Blk:= .cells [a,b] 100 .fix
section
variable {H0 H : aF} {F : Part → Nat → Prop} {y : Lay} {p : PlanD} {ev wv nv : Value} {c : Cfg} {t : Nat} {s : NS} {m : Nat}
theorem Jl:bld prog 100 []=some B0:=rfl
theorem Sf {b:Nat}{a0 b0:Value}(a1 b1:Value)(h:H[b]? =some (kX a0 b0))(ha:dV [a1,b1]=true):stN 2 (.Q b 0) (.agg #[a1,b1]) H=some (undef,H.set b (kX a1 b1)):=wD h aC rfl rfl (aRZ 2) ha
theorem B1 {b:Nat}{a0 b0:Value}(h:H[b]? =some (kX a0 b0)):ldN 2 (.Q b 0) H=some (.agg #[a0,b0],H)/\ld1 (.Q b 0) H=some (a0,H)/\ld1 (.Q b 1) H=some (b0,H):=⟨rG h (aRZ 2),dI h rfl,dI h rfl⟩
theorem aOK (h:NodeAt H0 H F y p ev wv nv c t s)(hm:0<m)(i k:Int)(hno: ¬(1<=i/\i<c.aK/\0<=k/\k<c.lanes)): ∃H',lvl prog pkN m (.func 64) [pt y.nb,.I i,.I k] H=some (.tuple #[B0,.bool false],H')/\Ext H H':=by
 refine nQ (cH rfl) U ?_
 rw[aAR];have e0: ∀H:aF,H++[Blk.cells [Value.pointer none,.pointer none] 100 .fix]=H++[kX (.pointer none) (.pointer none)]:=λ_=>rfl
 have h1:=h.lH (H':=H++[kX (.pointer none) (.pointer none)]) (Fr.app _ _ _);have l13:=h1.ld 13 (iG y c) rfl;have l3:=h1.ld 3 (.I c.lanes) rfl;have e1:aZ (iG y c)=some (.I c.aK):=rfl;have st:stN 2 (.Q H.length 0) B0 (H++[kX (.pointer none) (.pointer none)])=some (undef,H++[kX (.pointer none) (.pointer none)]):=by
  rw[B0,Sf _ _ (eD _ _) rfl,mW]
 have ld:=(B1 (eD H (kX (.pointer none) (.pointer none)))).1;have fin: ∃H',(some (Value.tuple #[.agg #[.pointer none,.pointer none],.bool false],H++[kX (.pointer none) (.pointer none)]):Option (Value×aF))=some (.tuple #[B0,.bool false],H')/\Ext H H':=⟨_,rfl,Fr.app _ _ _⟩;by_cases c1:i<1
 ·simp -implicitDefEqProofs only[gsR,e0,aSE c1,Jl,st,ld]
  exact fin
 ·by_cases c2:(c.aK:Int)<=i
  ·simp -implicitDefEqProofs only[gsR,e0,aSF c1,l13,e1,aSE c2,Jl,st,ld]
   exact fin
  ·by_cases c3:k<0
   ·simp -implicitDefEqProofs only[gsR,e0,aSF c1,l13,e1,aSF c2,aSE c3,Jl,st,ld]
    exact fin
   ·have c4:(c.lanes:Int)<=k:=U
    simp -implicitDefEqProofs only[gsR,e0,aSF c1,l13,e1,aSF c2,aSF c3,l3,aSE c4,Jl,st,ld];exact fin
theorem aOJ (h:NodeAt H0 H F y p ev wv nv c t s)(hm:0<m){i k:Nat}(h1:1<=i)(h2:i<c.aK)(hk:k<c.lanes): ∃H',lvl prog pkN m (.func 64) [pt y.nb,.I i,.I k] H=some (.tuple #[.agg #[pt (y.sb i k),pt (y.rb i k)],.bool true],H')/\Ext H H':=by
 refine nQ (cH rfl) U ?_
 rw[aAR];have e0: ∀H:aF,H++[Blk.cells [Value.pointer none,.pointer none] 100 .fix]=H++[kX (.pointer none) (.pointer none)]:=λ_=>rfl
 have g1:=h.lH (H':=H++[kX (.pointer none) (.pointer none)]) (Fr.app _ _ _);have l13:=g1.ld 13 (iG y c) rfl;have l3:=g1.ld 3 (.I c.lanes) rfl;have e1:aZ (iG y c)=some (.I c.aK):=rfl;obtain⟨b,o,a1,a2⟩:=g1.zW h2;obtain⟨_,_,a3,_⟩:=a2 _ (.inl g1);obtain⟨b',o',a4,a5,_,_⟩:=g1.D6 h1 h2 hk;have a5:ldN 2 (.Q b' o') (H++[kX (.pointer none) (.pointer none)])=some (.agg #[pt (y.sb i k),pt (y.rb i k)],H++[kX (.pointer none) (.pointer none)]):=a5;have st:stN 2 (.Q H.length 0) (.agg #[pt (y.sb i k),pt (y.rb i k)]) (H++[kX (.pointer none) (.pointer none)])=some (undef,H++[kX (pt (y.sb i k)) (pt (y.rb i k))]):=by
  rw[Sf _ _ (eD _ _) rfl,mW]
 have ld:=(B1 (eD H (kX (pt (y.sb i k)) (pt (y.rb i k))))).1;have c1:decide ((i:Int)<1)=false:=by rw[decide_eq_false_iff_not];omega
 have c2:decide ((c.aK:Int)<=(i:Int))=false:=by rw[decide_eq_false_iff_not];omega
 have c3:decide ((k:Int)<0)=false:=by rw[decide_eq_false_iff_not];omega
 have c4:decide ((c.lanes:Int)<=(k:Int))=false:=by rw[decide_eq_false_iff_not];omega
 simp -implicitDefEqProofs only[gsR,e0,c1,l13,e1,c2,c3,l3,c4,a1,a3,a4,a5,st,ld]
 exact⟨_,rfl,Fr.app _ _ _⟩
theorem tE (a b:Value):ext 0 (.tuple #[a,b])=some a/\ext 1 (.tuple #[a,b])=some b:=⟨rfl,rfl⟩
theorem aCy (h:NodeAt H0 H F y p ev wv nv c t s)(hm:0<m):lvl prog pkN m (.func 42) [pt y.nb] H=some (pt y.hb,H):=by
 refine cS (cH rfl) U ?_
 rw[aLK];simp -implicitDefEqProofs only[gsR,h.ld 14 (pt y.hb) rfl]
def fiI (l:List Nat)(z:Int):Int:=match l.findIdx? (λw:Nat=>decide ((w:Int)=z)) with
 |some j=>(j:Int)
 |none=> -1
theorem aOL {l:List Nat}{z:Int}{i:Nat}(hi:i<l.length)(h1:(l.getD i 0:Int)=z)(h2: ∀j,j<i->(l.getD j 0:Int)≠z):fiI l z=i:=by
 have:l.findIdx? (λw:Nat=>decide ((w:Int)=z))=some i:=by
  rw[List.findIdx?_eq_some_iff_getElem];refine⟨hi,?_,λj hj=> ?_⟩
  ·rw[aRY,aRW hi] at h1
   simpa using h1
  ·have:=h2 j hj
   rw[aRY,aRW U] at this
   simpa using this
 unfold fiI;rw[this]
theorem aOM {l:List Nat}{z:Int}(h: ∀j,j<l.length->(l.getD j 0:Int)≠z):fiI l z= -1:=by
 have:l.findIdx? (λw:Nat=>decide ((w:Int)=z))=none:=by
  rw[List.findIdx?_eq_none_iff];intro x hx;obtain⟨j,hj,rfl⟩:=List.mem_iff_getElem.mp hx;have:=h j hj;rw[aRY,aRW hj] at this;simpa using this
 unfold fiI;rw[this]
def oR (y:Lay)(c:Cfg)(i:Nat):Blk:= .cells (fV y c i) 94 .fix
theorem aOP (hm:0<m){cb:Nat}{z:Int}(i:Nat)(hc:H[cb]? =some (.cells [.I z] 3 .fix)):lvl prog pkN m (.func 144) [.agg ⟨fV y c i⟩,pt cb] H=some (.bool ((lL c i:Int)==z),H++[oR y c i]):=by
 refine cS (cH rfl) U ?_
 rw[aLv];have e0:H++[Blk.cells (Value.cells (.agg ⟨fV y c i⟩)).toList 94 .fix]=H++[oR y c i]:=rfl;have l0:ld1 (.pointer (some ⟨H.length,0,none⟩)) (H++[oR y c i])=some (.int .i64 (lL c i),H++[oR y c i]):=dI (eD _ _) rfl;have l1:ld1 (pt cb) (H++[oR y c i])=some (.int .i64 z,H++[oR y c i]):=dI (oX hc _) rfl;simp -implicitDefEqProofs only[gsR,e0,l0,l1]
theorem aOO (hm:0<m){cb:Nat}{z:Int}(i:Nat)(hc:H[cb]? =some (.cells [.I z] 3 .fix)):lvl prog pkN m (.func 86) [.agg ⟨fV y c i⟩,pt cb] H=some (.bool ((lL c i:Int)==z),H++[oR y c i]):=by
 refine cS (cH rfl) U ?_
 rw[aL1];have e0:H++[Blk.cells (Value.cells (.agg ⟨fV y c i⟩)).toList 94 .fix]=H++[oR y c i]:=rfl;have l0:ld1 (.pointer (some ⟨H.length,0,none⟩)) (H++[oR y c i])=some (.int .i64 (lL c i),H++[oR y c i]):=dI (eD _ _) rfl;have l1:ld1 (pt cb) (H++[oR y c i])=some (.int .i64 z,H++[oR y c i]):=dI (oX hc _) rfl;simp -implicitDefEqProofs only[gsR,e0,l0,l1]
theorem aON {fid:FuncId}{cb:Nat}{z:Int}{v:Value}(hf: ∀(H:aF)(i:Nat),H[cb]? =some (.cells [.I z] 3 .fix)->lvl prog pkN m (.func fid) [.agg ⟨fV y c i⟩,pt cb] H=some (.bool ((lL c i:Int)==z),H++[oR y c i]))
  (hb:c.by'.length<=5): ∀(q i k:Nat)(H:aF),c.by'.length-i=q->i<=c.by'.length->q<k->Rs (fV y c) 94 H v ((List.range c.aK).drop 1)->H[cb]? =some (.cells [.I z] 3 .fix)->(∀j,j<i->(c.by'.getD j 0:Int)≠z)-> ∀(x2 x3 x4 x5 x6 x9 bS cE aV aR aS aQ aW aX aU:Value),
  ∃H2,aM k (aN prog (lvl prog pkN m) (aM m) Qt) (Il (lvl prog pkN m) (aM m)) [v,(.func (.func fid) #[] #[pt cb]),x2,x3,x4,x5,x6,(.I c.by'.length),(.I (i:Nat)),x9,bS,cE,aV,aR,aS,aQ,aW,aX,aU] H=some (.I (fiI c.by' z),H2)/\Ext H H2:=by
 intro q;induction q with
 |zero=>
  intro i k H hq hi hk hv hc hno;intros;obtain⟨k,rfl⟩: ∃k',k=k'+1:=⟨k-1,by omega⟩
  have c1:decide ((i:Int)<(c.by'.length:Int))=false:=by rw[decide_eq_false_iff_not];omega
  rw[aM,aAS];simp -implicitDefEqProofs only[gsR,c1];rw[aLY];rw[aOM λj hj=>hno j U]
  simp -implicitDefEqProofs only[gsR]
  exact⟨_,rfl,Fr.kO _ _⟩
 |succ q ih=>
  intro i k H hq hi hk hv hc hno;intros;obtain⟨k,rfl⟩: ∃k',k=k'+1:=⟨k-1,by omega⟩
  have c1:decide ((i:Int)<(c.by'.length:Int))=true:=by rw[decide_eq_true_eq];omega
  have hx:((List.range c.aK).drop 1)[i]? =some (i+1):=by
   rw[List.getElem?_drop,aSC (by unfold Cfg.aK;omega),Nat.add_comm]
  obtain⟨b,o,a1,_,a3⟩:=hv.fS (D7 y c) hx .i64;have a3:=(a3 H rfl).1;have hcall:=hf H (i+1) hc;have hto:lL c (i+1)=c.by'.getD i 0:=by unfold lL;rw[if_neg U];rfl
  rw[hto] at hcall;have e9:=pI i U
  have hcv:oJ (lvl prog pkN m) (.func (.func fid) #[] #[pt cb]) [.agg ⟨fV y c (i+1)⟩] H=some (.bool ((c.by'.getD i 0:Int)==z),H++[oR y c (i+1)]):=hcall;rw[aM,aAS];by_cases he:(c.by'.getD i 0:Int)=z
  ·have c2:((c.by'.getD i 0:Int)==z)=true:=by simpa using he
   rw[c2] at hcv;simp -implicitDefEqProofs only[gsR,c1,a1,a3,hcv];rw[aL0];rw[aOL U he hno]
   simp -implicitDefEqProofs only[gsR]
   exact⟨_,rfl,Fr.app _ _ _⟩
  ·have c2:((c.by'.getD i 0:Int)==z)=false:=by simpa using he
   rw[c2] at hcv;simp -implicitDefEqProofs only[gsR,c1,a1,a3,hcv,cR,e9];obtain⟨H2,g1,g2⟩:=ih (i+1) k (H++[oR y c (i+1)]) U U U (hv.ext (Fr.app _ _ _)) (oX hc _) (λj hj=>by
    by_cases hji:j=i
    ·rw[hji];exact he
    ·exact hno j U) ..
   exact⟨H2,g1,(show Ext H (H++[oR y c (i+1)]) from Fr.app _ _ _).tr g2⟩
theorem aCz {fid:FuncId}{cb:Nat}{z:Int}{v:Value}(hm:20<m)(hf: ∀(H:aF)(i:Nat),H[cb]? =some (.cells [.I z] 3 .fix)->lvl prog pkN (m-1) (.func fid) [.agg ⟨fV y c i⟩,pt cb] H=some (.bool ((lL c i:Int)==z),H++[oR y c i]))
  (hb:c.by'.length<=5)(hv:Rs (fV y c) 94 H v ((List.range c.aK).drop 1))(hc:H[cb]? =some (.cells [.I z] 3 .fix)): ∃H2,lvl prog pkN m (.func 85) [v,.func (.func fid) #[] #[pt cb]] H=some (.I (fiI c.by' z),H2)/\Ext H H2:=by
 refine nQ (cH rfl) U ?_
 rw[aLZ];have hl:=hv.gW;have:((List.range c.aK).drop 1).length=c.by'.length:=by simp[Cfg.aK]
 rw[this] at hl;simp -implicitDefEqProofs only[gsR,hl];exact aON hf hb c.by'.length 0 (m-1) H U U U hv hc (λj hj=>by omega) ..
theorem aOI:prog.cellsOf 94=3:=by kernel_rfl
theorem NodeAt.aCx (h:NodeAt H0 H F y p ev wv nv c t s): ∃v,slc prog 3 (iG y c) (some (.I 1)) none none H=some (v,H)/\Rs (fV y c) 94 H v ((List.range c.aK).drop 1):=by
 have hne:List.range c.aK≠[]:=by unfold Cfg.aK;simp
 obtain⟨v',g1,g2,_⟩:=h.aCr.Gd (P:=prog) (D7 y c) aOI hne (l:=1) (r:=c.aK) (lo:=some (.I 1)) (hi:=none) (lU 0 .i64 1) (by rw[aSo];rfl) (by unfold Cfg.aK;omega) (by rw[aSo];exact aRZ _)
 rw[List.take_of_length_le (by rw[aSo];exact aRZ _)] at g2
 exact⟨v',g1,g2⟩
end
section
variable {H0 H : aF} {F : Part → Nat → Prop} {y : Lay} {p : PlanD} {ev wv nv : Value} {c : Cfg} {t : Nat} {s : NS} {m : Nat}
def zZ (z:Int):Blk:= .cells [.int .i64 z] 3 .fix
theorem aCA (h:NodeAt H0 H F y p ev wv nv c t s)(hm:40<m)(d:Nat)(hd:d<c.nodes): ∃H',lvl prog pkN m (.func 99) [pt y.nb,.I d] H=some (.I (c.port d:Nat),H')/\Ext H H':=by
 have hport:c.port d=if d=c.me then 0 else match c.by'.findIdx? λw:Nat=>decide ((w:Int)=nx p c.me d) with
   |some j=>j+1
   |none=>0:=by
  have:=congrArg Cfg.port h.hc;have h2:=congrArg Cfg.by' h.hc;rw[this,h2];rfl
 refine nQ (cH rfl) U ?_
 rw[aL9];have l12:=h.ld 12 (.I c.me) rfl;by_cases hme:d=c.me
 ·have c1:((d:Int)==(c.me:Int))=true:=by rw[hme];simp
  rw[if_pos hme] at hport;rw[hport];simp -implicitDefEqProofs only[gsR,l12,c1]
  exact⟨_,rfl,Fr.kO _ _⟩
 ·have c1:((d:Int)==(c.me:Int))=false:=by rw[beq_eq_false_iff_ne];omega
  rw[if_neg hme] at hport;obtain⟨n,hn⟩:=h.hp;have hnn:c.nodes=n:=by
   have:=congrArg Cfg.nodes h.hc;rw[this];show p.nodes.toNat=n
   rw[hn.hn];simp
  have hmen:c.me<n:=by rw[<-hnn];exact h.ok.me
  obtain⟨row,hrow⟩: ∃row,p.next[c.me]? =some row:=⟨_,aRW (by rw[hn.nl];exact hmen)⟩
  have l11:=h.ld 11 nv rfl;obtain⟨pp,u,r1,r2,r3⟩:=(h.plan.ext h.ext).n.Gw hrow .i64;have hrl:row.length=n:=hn.rl _ (aR4 hrow);have hx:row[d]? =some (nx p c.me d):=by
   unfold nx;rw[aSm,aSm,aRY,aRY,hrow,aSn];rw[aRW (by rw[hrl];omega)]
   rfl
  obtain⟨b,o,i1,_,i3⟩:=r3.fS gV hx .i64;have i3:=(i3 H rfl).2.1 0 _ rfl;have i3:ld1 (.pointer (some ⟨b,o,none⟩)) H=some (.int .i64 (nx p c.me d),H):=i3;have e0: ∀H:aF,H++[Blk.cells [Value.int .i64 0] 3 .fix]=H++[zZ 0]:=λ_=>rfl
  have st:stN 1 (.Q H.length 0) (.I (nx p c.me d)) (H++[zZ 0])=some (undef,H++[zZ (nx p c.me d)]):=by
   rw[lN (eD H (zZ 0)) aC (by simp),mW]
   rfl
  obtain⟨H1,hH1⟩:=aD (H++[zZ (nx p c.me d)]);have x1:Ext H H1:=by rw[hH1];exact Fr.app _ _ _
  have h1:=h.lH x1;have l13:=h1.ld 13 (iG y c) rfl;obtain⟨v,t1,t2⟩:=h1.aCx;obtain⟨H2,g1,g2⟩:=aCz (m:=m-1) (fid:=144) (cb:=H.length) (z:=nx p c.me d) U (λG i hG=>aOP U i hG) h.ok.by' t2 (by rw[hH1];exact eD _ _)
  have e1:IntKind.i64.wrap (fiI c.by' (nx p c.me d)+1)=(c.port d:Nat):=by
   rw[hport];unfold fiI;cases hf:c.by'.findIdx? λw:Nat=>decide ((w:Int)=nx p c.me d) with
   |none=>rfl
   |some j=>
    have:=(List.findIdx?_eq_some_iff_getElem.mp hf).1;have:=h.ok.by';exact pI j U
  simp -implicitDefEqProofs only[gsR,l12,c1,l11,r1,r2,i1,i3,e0,st,<-hH1,l13,t1,g1,cR,e1]
  exact⟨_,rfl,x1.tr g2⟩
theorem aOS (x:Pkt):(s9 c x s).2={s with hL:=(s9 c x s).2.hL}:=by
 unfold s9;split
 ·rfl
 ·split<;>rfl
theorem aOQ {D:aF}{hb:Nat}(hm:2<m)(x:Pkt)(hq: ∀k:Int,(gQ s.hL k).length<=c.queue)(h8:c.queue<=8)(h:HostAt D hb s.hL s.hG c.lanes c.queue):
  ∃r D',lvl prog pkN m (.func 63) [pt hb,x.dN] D=some (r,D')/\(r= .int .u16 (s9 c x s).1/\HostAt D' hb (s9 c x s).2.hL s.hG c.lanes c.queue):=by
 obtain⟨w0,w1,w2,cv,h⟩:=h;unfold s9;by_cases h1:0<=x.lane/\x.lane<c.lanes
 ·rw[if_neg (not_not_intro h1)]
  by_cases h2:(gQ s.hL x.lane).length=c.queue
  ·rw[if_pos h2]
   exact⟨_,_,aMO h hm x h1 h2,rfl,HostAt.ext ⟨w0,w1,w2,cv,h⟩ (Fr.app _ _ _)⟩
  ·rw[if_neg h2]
   obtain⟨H',g1,g2⟩:=aMQ h hm x h1 h2 (iE (n:=1000) aC (by have:=hq x.lane;omega))
   exact⟨_,_,g1,rfl,g2⟩
 ·rw[if_pos h1]
  exact⟨_,_,aMP h hm x h1,rfl,HostAt.ext ⟨w0,w1,w2,cv,h⟩ (Fr.app _ _ _)⟩
theorem NodeAt.Jm {H':aF}{F':Nat->Prop}{t':Nat}{L G:List Pkt}(h:NodeAt H0 H F y p ev wv nv c t s)(hB:Has (λD=>HostAt D y.hb L G c.lanes c.queue) F' H')(hm:Mv (F .host) F' H H')(hi:NInv c t' {s with hL:=L,hG:=G}):
  NodeAt H0 H' (updI F .host F') y p ev wv nv c t' {s with hL:=L,hG:=G}/\Mv (Un F) (Un (updI F .host F')) H H':=
 h.aCq .host hB hm hi (λD hD=>hD) λj hj D hD=>by
  cases j with
  |host=>exact absurd rfl hj
  |_=>exact hD
theorem NodeAt.Sg {H':aF}{F':Nat->Prop}{t':Nat}{L:List (Go.Abs.gO×Pkt)}(h:NodeAt H0 H F y p ev wv nv c t s)(hB:Has (λD=>RingsN D y.rg L (c.aK*c.lanes*c.room) c.aK c.lanes) F' H')(hm:Mv (F .rings) F' H H')(hi:NInv c t' {s with rL:=L}):
  NodeAt H0 H' (updI F .rings F') y p ev wv nv c t' {s with rL:=L}/\Mv (Un F) (Un (updI F .rings F')) H H':=
 h.aCq .rings hB hm hi (λD hD=>hD) λj hj D hD=>by
  cases j with
  |rings=>exact absurd rfl hj
  |_=>exact hD
theorem Has.xY {A B:aF->Prop}{F:Nat->Prop}{H:aF}(h:Has A F H)(hAB: ∀D,A D->B D):Has B F H:=⟨hAB _ h.at_,h.lt⟩
theorem aOR (h:NodeAt H0 H F y p ev wv nv c t s)(hm:10<m)(x:Pkt)(hb:0<=x.body/\x.body<4294967296): ∃H' F',lvl prog pkN m (.func 18) [pt y.nb,x.dN] H=some (.int .u16 (tX c x s).1,H')/\NodeAt H0 H' F' y p ev wv nv c t (tX c x s).2/\Mv (Un F) (Un F') H H':=by
 have hinv:=h.inv.aMV h.ok hb;obtain⟨H1,hH1⟩:=aD (H++[dK x]);have x1:Ext H H1:=by rw[hH1];exact Fr.app _ _ _
 have h1:=h.lH x1;have b1:H1[H.length]? =some (dK x):=by rw[hH1];exact eD _ _
 have e0:H++[Blk.cells (Value.cells x.dN).toList 54 .fix]=H1:=by rw[hH1];rfl
 have l0:ld1 (.Q H.length 0) H1=some (.I x.src,H1):=dI b1 rfl;have l1:ld1 (.Q H.length 1) H1=some (.I x.dst,H1):=dI b1 rfl;have l4:=(rK b1).2;have n1:=h1.ld 1 (.I c.nodes) rfl;have n12:=h1.ld 12 (.I c.me) rfl;have n14:=h1.ld 14 (pt y.hb) rfl;have mvx:Mv (Un F) (Un F) H H1:=Mv.rB x1 _;by_cases hno:x.src≠c.me∨x.dst<0∨(c.nodes:Int)<=x.dst∨x.dst=c.me
 ·have hr:tX c x s=(1,s):=by unfold tX;rw[if_pos hno]
  rw[hr];refine⟨H1,F,cS (cH rfl) U ?_,h1,mvx⟩
  rw[aAH];by_cases c1:x.src=c.me
  ·have c1':(x.src !=(c.me:Int))=false:=by simp[c1]
   by_cases c2:x.dst<0
   ·simp -implicitDefEqProofs only[gsR,e0,l0,n12,c1',l1,aSE c2]
    rfl
   ·by_cases c3:(c.nodes:Int)<=x.dst
    ·simp -implicitDefEqProofs only[gsR,e0,l0,n12,c1',l1,aSF c2,n1,aSE c3]
     rfl
    ·have c4:x.dst=c.me:=by
      rcases hno with h|h|h|h
      ·exact absurd c1 h
      ·exact absurd h c2
      ·exact absurd h c3
      ·exact h
     have c4':(x.dst==(c.me:Int))=true:=by simp[c4]
     simp -implicitDefEqProofs only[gsR,e0,l0,n12,c1',l1,aSF c2,n1,aSF c3,c4'];rfl
  ·have c1':(x.src !=(c.me:Int))=true:=by simpa using c1
   simp -implicitDefEqProofs only[gsR,e0,l0,n12,c1'];rfl
 ·have hr:tX c x s=s9 c x s:=by unfold tX;rw[if_neg hno]
  rw[hr] at hinv⊢;rw[aOS] at hinv⊢;obtain⟨r,H2,F',g1,g2,g3⟩:=(h1.sep.own .host).A7 tW (n:=m-1) (λD hD=>aOQ (m:=m-1) U x h1.inv.hQ h.ok.queue.2 hD)
  obtain⟨hrv,_⟩:=g2.at_;obtain⟨k1,k2⟩:=h1.Jm (Has.xY g2 λD hD=>hD.2) g3 hinv
  have c1:(x.src !=(c.me:Int))=false:=by
   simp only[bne_eq_false_iff_eq];exact Classical.byContradiction λhh=>hno (.inl hh)
  have c2:decide (x.dst<0)=false:=by rw[decide_eq_false_iff_not];exact λhh=>hno (.inr (.inl hh))
  have c3:decide ((c.nodes:Int)<=x.dst)=false:=by rw[decide_eq_false_iff_not];exact λhh=>hno (.inr (.inr (.inl hh)))
  have c4:(x.dst==(c.me:Int))=false:=by rw[beq_eq_false_iff_ne];exact λhh=>hno (.inr (.inr (.inr hh)))
  refine⟨H2,_,cS (cH rfl) U ?_,k1,mvx.rC k2⟩
  rw[aAH];have g1:lvl prog pkN (m-1) (.func 63) [pt y.hb,x.dN] H1=some (.int .u16 (s9 c x s).1,H2):=by rw[<-hrv];exact g1
  simp -implicitDefEqProofs only[gsR,e0,l0,n12,c1,l1,c2,n1,c3,c4,n14,l4,g1]
end
theorem aOY (a b c d:UInt8):fC [a,b,c,d]<4294967296:=Q7 4 _ rfl
theorem aCB (a b:UInt8):fC [a,b]<65536:=Q7 2 _ rfl
theorem aOX {bs:List UInt8}{f:Frm}(h:pC bs=some f):f.ok:=by
 have h1:(kH bs).ok:=⟨UInt8.toNat_lt _,UInt8.toNat_lt _,aCB _ _,by show 0<256;decide,by show 0<256;decide,by show 0<4294967296;decide⟩
 have h2:(oF bs).ok:=⟨UInt8.toNat_lt _,UInt8.toNat_lt _,aCB _ _,UInt8.toNat_lt _,UInt8.toNat_lt _,aOY _ _ _ _⟩;unfold pC xP at h
 split at h
 ·split at h
  ·cases h;exact h1
  ·cases h
 ·split at h
  ·split at h
   ·cases h;exact h2
   ·cases h
  ·cases h
theorem aOZ {α:Type}(f:Nat->Nat->α)(i k:Nat):up2 f i k (f i k)=f:=by
 funext j l
 unfold up2;split
 ·rename_i h
  rw[h.1,h.2]
 ·rfl
theorem xZ (b:Nat)(H':aF):chk (some (pt b,H')) (pt b)=true:=by simp[chk,veq]
theorem aCD (x:Pkt)(H':aF):chk (some (x.dN,H')) x.dN=true:=by simp[chk,veq,uI,Pkt.dN,Pkt.oD]
theorem aCC {n:Nat}(h:n≠0):((n:Int)!=0)=true:=by
 rw[bne_iff_ne];omega
theorem aOT {room:Nat}{x:Rcv}{s:Nat}:(x.lO room s).1≠0->(x.lO room s).2=x:=by
 unfold Rcv.lO
 generalize eF x.n s=w
 by_cases c1:w<x.n
 ·simp only[if_pos c1]
  exact λ_=>trivial
 ·by_cases c2:x.mZ room<=w
  ·simp only[if_neg c1,if_pos c2]
   exact λ_=>trivial
  ·simp only[if_neg c1,if_neg c2]
   exact λh=>absurd rfl h
theorem aOV {c:Cfg}{s:NS}{i:Nat}{f:Frm}(hn: ¬c.nodes<=max f.src f.dst)(h0:((s.rcv i f.lane).lO c.room f.seq).1=0):
  sY c i f s=(0,{s with rcv:=up2 s.rcv i f.lane ((s.rcv i f.lane).lO c.room f.seq).2,rL:=vD c s.rL ((i:Int),(c.port f.dst:Int),(f.lane:Int)) ⟨f.src,f.dst,f.lane,f.body⟩}):=by
 unfold sY;rw[if_neg hn]
 generalize (s.rcv i f.lane).lO c.room f.seq=q at*
 obtain⟨e,r⟩:=q;simp only at h0;subst h0;rfl
theorem aOU {c:Cfg}{s:NS}{i:Nat}{f:Frm}(hn: ¬c.nodes<=max f.src f.dst)(h0:((s.rcv i f.lane).lO c.room f.seq).1≠0):
  sY c i f s=(((s.rcv i f.lane).lO c.room f.seq).1,s):=by
 unfold sY;rw[if_neg hn]
 generalize (s.rcv i f.lane).lO c.room f.seq=q at*
 obtain⟨e,r⟩:=q;cases e with
 |zero=>exact absurd rfl h0
 |succ e=>rfl
section
variable {H0 H : aF} {F : Part → Nat → Prop} {y : Lay} {p : PlanD} {ev wv nv : Value} {c : Cfg} {t : Nat} {s : NS} {m : Nat}
theorem aOW (h:NodeAt H0 H F y p ev wv nv c t s)(ht:t<1000000000)(hm:200<m){i:Nat}{f:Frm}(h1:1<=i)(h2:i<c.aK)(hl:f.lane<c.lanes)(hf:f.ok):
  ∃H' F',lvl prog pkN m (.func 90) [pt y.nb,.I i,.agg #[pt (y.sb i f.lane),pt (y.rb i f.lane)],frV f] H=some (.int .u16 (sY c i f s).1,H')/\NodeAt H0 H' F' y p ev wv nv c (t+1) (sY c i f s).2/\Mv (Un F) (Un F') H H':=by
 have hinv:=h.inv.aMT h.ok i f hl hf.body;have hm0:0<m:=U
 have fs:=hf.src;have fd:=hf.dst;have fl:=hf.lane;have fq:=hf.seq;obtain⟨H1,hH1⟩:=aD (H++[kX (pt (y.sb i f.lane)) (pt (y.rb i f.lane))]);obtain⟨H2,hH2⟩:=aD (H1++[frB f]);have x1:Ext H H1:=by rw[hH1];exact Fr.app _ _ _
 have x2:Ext H1 H2:=by rw[hH2];exact Fr.app _ _ _
 have g2:=(h.lH x1).lH x2;have mv2:Mv (Un F) (Un F) H H2:=Mv.rB (x1.tr x2) _;have e1:H++[Blk.cells (Value.cells (.agg #[pt (y.sb i f.lane),pt (y.rb i f.lane)])).toList 100 .fix]=H1:=by rw[hH1];rfl
 have e2:H1++[Blk.cells (Value.cells (frV f)).toList 39 .fix]=H2:=by rw[hH2];rfl
 have bl:H2[H.length]? =some (kX (pt (y.sb i f.lane)) (pt (y.rb i f.lane))):=by
  have:H1[H.length]? =some (kX (pt (y.sb i f.lane)) (pt (y.rb i f.lane))):=by rw[hH1];exact eD _ _
  rw[x2.2 _ (dO this) id,this]
 have bf:H2[H1.length]? =some (frB f):=by rw[hH2];exact eD _ _
 obtain⟨l0,l1,l2,l3,l4,l5,l6⟩:=pH bf;have n1:=g2.ld 1 (.I c.nodes) rfl;have ec:IntKind.i64.wrap (max (f.src:Int) (f.dst:Int))=max (f.src:Int) (f.dst:Int):=dL U U
 by_cases c1:c.nodes<=max f.src f.dst
 ·have hr:sY c i f s=(30,s):=by unfold sY;rw[if_pos c1]
  rw[hr];have c1':decide ((c.nodes:Int)<=max (f.src:Int) (f.dst:Int))=true:=by rw[decide_eq_true_eq];omega
  refine⟨H2,F,cS (cH rfl) U ?_,{g2 with inv:=g2.inv.tA (Nat.le_succ t)},mv2⟩
  rw[Qu];simp -implicitDefEqProofs only[gsR,e1,e2,l3,l4,zM,fU _ _ u8U iU,ec,n1,c1'];rfl
 ·have c1':decide ((c.nodes:Int)<=max (f.src:Int) (f.dst:Int))=false:=by rw[decide_eq_false_iff_not];omega
  have lr:=(B1 bl).2.2;obtain⟨H3,r1,r2⟩:=aMp (m:=m-1) U (g2.Jg h1 h2 hl) (g2.Jh ht i f.lane) f.seq fq
  have hri:NInv c (t+1) {s with rcv:=up2 s.rcv i f.lane ((s.rcv i f.lane).lO c.room f.seq).2}:=
   {g2.inv.tA (t':=t+1) U with rcv:=Bq (g2.inv.tA (t':=t+1) U).rcv ((g2.inv.rcv i f.lane).aBv h.ok.room.2 f.seq)}
  obtain⟨g3,mv3⟩:=g2.Sc h1 h2 hl r2 hri;by_cases c2:((s.rcv i f.lane).lO c.room f.seq).1=0
  ·have c2':((((s.rcv i f.lane).lO c.room f.seq).1:Int)!=0)=false:=by rw[c2];rfl
   have hr:=aOV (c:=c) (s:=s) (i:=i) c1 c2;rw[hr] at hinv⊢;obtain⟨x,hx⟩: ∃x:Pkt,x=⟨f.src,f.dst,f.lane,f.body⟩:=⟨_,rfl⟩;obtain⟨H4,hH4⟩:=aD (H3++[dK x]);have x4:Ext H3 H4:=by rw[hH4];exact Fr.app _ _ _
   have g4:=g3.lH x4;have b4:H4[H3.length]? =some (dK x):=by rw[hH4];exact eD _ _
   have bf3:H3[H1.length]? =some (frB f):=by
    rw[mv3.keep _ (dO bf) (λhu=> ?_),bf]
    have h3:=h.sep.rD _ hu;have:=x1.1;omega
   obtain⟨k0,k1,k2,k3,k4,k5,k6⟩:=pH bf3;have eb:bld prog 54 [(0,.I f.src),(1,.I f.dst),(2,.I f.lane),(3,.int .u32 f.body)]=some x.dN:=by rw[hx];rfl
   have ez: ∀H:aF,H++[Blk.cells [Value.int .i64 0,.int .i64 0,.int .i64 0,.int .u32 0] 54 .fix]=H++[dK pk0]:=λ_=>rfl
   have st:stN 4 (.Q H3.length 0) x.dN (H3++[dK pk0])=some (undef,H4):=by rw[I9 x (eD _ _),mW,hH4]
   have q1:ld1 (.Q H3.length 1) H4=some (.I f.dst,H4):=dI b4 (by rw[hx];rfl)
   have n15:=g4.ld 15 (pt y.rg) rfl;have hdn:f.dst<c.nodes:=U
   obtain⟨H5,t1,x5⟩:=aCA g4 (m:=m-1) U f.dst hdn
   have g5:=g4.lH x5;have n15':=g5.ld 15 (pt y.rg) rfl;have b5:H5[H3.length]? =some (dK x):=by rw[x5.2 _ (dO b4) id,b4]
   have q2:ld1 (.Q H3.length 2) H5=some (.I f.lane,H5):=dI b5 (by rw[hx];rfl)
   have q2':ld1 (.Q H3.length 2) H4=some (.I f.lane,H4):=dI b4 (by rw[hx];rfl)
   have q3:=(rK b5).2;have q3':=(rK b4).2;obtain⟨r,H6,F',p1,p2,p3⟩:=(g5.sep.own .rings).A7 tW (n:=m-1) (λD hD=>aB3 (m:=m-1) hD U ((i:Int),(c.port f.dst:Int),(f.lane:Int)) x)
   have hpw:(if Dq ((i:Int),(c.port f.dst:Int),(f.lane:Int)) c.aK c.lanes=true/\s.rL.length<c.aK*c.lanes*c.room then s.rL++[(((i:Int),(c.port f.dst:Int),(f.lane:Int)),x)] else s.rL)=vD c s.rL ((i:Int),(c.port f.dst:Int),(f.lane:Int)) ⟨f.src,f.dst,f.lane,f.body⟩:=by
    rw[hx];rfl
   obtain⟨k1',k2'⟩:=g5.Sg (Has.xY p2 λD hD=>by rw[<-hpw];exact hD) p3 hinv
   refine⟨H6,_,cS (cH rfl) U ?_,k1',((mv2.rC mv3).rC (Mv.rB (x4.tr x5) _)).rC k2'⟩
   rw[Qu];have es:IntKind.i64.wrap (f.src:Int)=f.src:=Bj _ U
   have ed:IntKind.i64.wrap (f.dst:Int)=f.dst:=Bj _ U
   have el:IntKind.i64.wrap (f.lane:Int)=f.lane:=Bj _ U
   have p1:lvl prog pkN (m-1) (.func 98) [pt y.rg,.I i,.I (c.port f.dst:Nat),.I f.lane,x.dN] H5=some (r,H6):=p1;simp -implicitDefEqProofs only[gsR,e1,e2,l3,l4,zM,fU _ _ u8U iU,ec,n1,c1',lr,l2,r1,c2',k3,k4,k1,k5,es,ed,el,eb,ez,st,n15,q1,t1,n15',xZ,q2,q2',D4,q3,q3',aCD,p1];rfl
  ·have hsame:=aOT c2
   have hr:=aOU (c:=c) (s:=s) (i:=i) c1 c2;obtain⟨e,he⟩:=aD (((s.rcv i f.lane).lO c.room f.seq).1);rw[<-he] at hr r1 c2;have c2':=aCC c2;rw[hr];rw[hsame,aOZ] at g3;refine⟨H3,F,cS (cH rfl) hm0 ?_,g3,mv2.rC mv3⟩;rw[Qu];simp -implicitDefEqProofs only[gsR,e1,e2,l3,l4,zM,fU _ _ u8U iU,ec,n1,c1',lr,l2,r1,c2']
end
section
variable {H0 H : aF} {F : Part → Nat → Prop} {y : Lay} {p : PlanD} {ev wv nv : Value} {c : Cfg} {t : Nat} {s : NS} {m : Nat}
theorem D8 (H:aF):H++[Blk.cells [Value.int .u8 0,.int .u8 0,.int .u16 0,.int .u8 0,.int .u8 0,.int .u32 0] 39 .fix]=H++[zfB]:=rfl
theorem D9 (H:aF):H++[Blk.cells [Value.pointer none,.pointer none] 100 .fix]=H++[kX (.pointer none) (.pointer none)]:=rfl
theorem Ea (H:aF)(f:Frm):stN 6 (.Q H.length 0) (frV f) (H++[zfB])=some (undef,H++[frB f]):=by
 rw[Iq f (eD H zfB),mW]
theorem Sh (H:aF)(a b:Value)(ha:dV [a,b]=true):stN 2 (.Q H.length 0) (.agg #[a,b]) (H++[kX (.pointer none) (.pointer none)])=some (undef,H++[kX a b]):=by
 rw[Sf a b (eD _ _) ha,mW]
theorem aO1 {bs:List UInt8}{f:Frm}(h:pC bs=some f):oP bs= .tuple #[frV f,.int .u16 0]:=by
 unfold oP;rw[h]
theorem aO0 {bs:List UInt8}(h:pC bs=none):oP bs= .tuple #[frV Frm.pB,.int .u16 30]:=by
 unfold oP;rw[h]
theorem aO2 (h:NodeAt H0 H F y p ev wv nv c t s)(ht:t<1000000000)(hm:400<m)(fr:Int){u:Value}{bs:List UInt8}(hu:Bs H u bs):
  ∃H' F',lvl prog pkN m (.func 45) [pt y.nb,.I fr,u] H=some (.int .u16 (pG c fr bs s).1,H')/\NodeAt H0 H' F' y p ev wv nv c (t+1) (pG c fr bs s).2/\Mv (Un F) (Un F') H H':=by
 have hm0:0<m:=U
 have hmono:=h.inv.tA (Nat.le_succ t);obtain⟨H1,hH1⟩:=aD (H++[zZ fr]);have x1:Ext H H1:=by rw[hH1];exact Fr.app _ _ _
 have g1:=h.lH x1;have b1:H1[H.length]? =some (zZ fr):=by rw[hH1];exact eD _ _
 have e0:H++[Blk.cells (Value.cells (.int .i64 fr)).toList 3 .fix]=H1:=by rw[hH1];rfl
 have l13:=g1.ld 13 (iG y c) rfl;obtain⟨v,t1,t2⟩:=g1.aCx;obtain⟨H2,i1,x2⟩:=aCz (m:=m-1) (fid:=86) (cb:=H.length) (z:=fr) U (λG i hG=>aOO U i hG) h.ok.by' t2 b1
 have g2:=g1.lH x2;cases hfi:c.by'.findIdx? λw:Nat=>decide ((w:Int)=fr) with
 |none=>
  have hr:pG c fr bs s=(1,s):=by unfold pG;rw[hfi]
  have hf:fiI c.by' fr= -1:=by unfold fiI;rw[hfi]
  have e1:IntKind.i64.wrap ((-1:Int)+1)=0:=rfl;have c1:((0:Int)==0)=true:=rfl;rw[hf] at i1;rw[hr];refine⟨H2,F,cS (cH rfl) hm0 ?_,{g2 with inv:=hmono},Mv.rB (x1.tr x2) _⟩;rw[Bh];simp -implicitDefEqProofs only[gsR,e0,l13,t1,i1,cR,e1,c1];rfl
 |some j=>
  have hjl:=(List.findIdx?_eq_some_iff_getElem.mp hfi).1;have hf:fiI c.by' fr=(j:Int):=by unfold fiI;rw[hfi]
  have h5:=h.ok.by';have e1:IntKind.i64.wrap ((j:Int)+1)=((j+1:Nat):Int):=pI j U
  have c1:(((j+1:Nat):Int)==0)=false:=by rw[beq_eq_false_iff_ne];omega
  have hp1:1<=j+1:=U
  have hp2:j+1<c.aK:=by unfold Cfg.aK;omega
  rw[hf] at i1;obtain⟨H3,d1,x3⟩:=aMJ (m:=m-1) U (hu.ext (x1.tr x2))
  have g3:=g2.lH x3;cases hdec:pC bs with
  |none=>
   have hr:pG c fr bs s=(30,s):=by unfold pG;rw[hfi];simp only;rw[hdec]
   rw[aO0 hdec] at d1;have c2:((30:Int)!=0)=true:=rfl;rw[hr];have x4:Ext H3 (H3++[frB Frm.pB]):=Fr.app _ _ _;refine⟨H3++[frB Frm.pB],F,cS (cH rfl) hm0 ?_,{g3.lH x4 with inv:=hmono},Mv.rB (((x1.tr x2).tr x3).tr x4) _⟩;rw[Bh];simp -implicitDefEqProofs only[gsR,e0,l13,t1,i1,cR,e1,c1,d1,tE,D8,Ea,c2];rfl
  |some f=>
   have hok:=aOX hdec;have fl:=hok.lane;rw[aO1 hdec] at d1;have c2:((0:Int)!=0)=false:=rfl;obtain⟨H4,hH4⟩:=aD (H3++[frB f]);have x4:Ext H3 H4:=by rw[hH4];exact Fr.app _ _ _
   have g4:=g3.lH x4;have b4:H4[H3.length]? =some (frB f):=by rw[hH4];exact eD _ _
   have l4:=(pH b4).2.1;have el:IntKind.i64.wrap (f.lane:Int)=f.lane:=Bj _ U
   by_cases hl:c.lanes<=f.lane
   ·have hr:pG c fr bs s=(30,s):=by unfold pG;rw[hfi];simp only;rw[hdec];simp only;rw[if_pos hl]
    obtain⟨H5,n1,x5⟩:=aOK g4 (m:=m-1) U ((j+1:Nat):Int) (f.lane:Int) U
    have x6:Ext H5 (H5++[kX (.pointer none) (.pointer none)]):=Fr.app _ _ _;rw[hr];refine⟨H5++[kX (.pointer none) (.pointer none)],F,cS (cH rfl) hm0 ?_,{(g4.lH x5).lH x6 with inv:=hmono},Mv.rB (((((x1.tr x2).tr x3).tr x4).tr x5).tr x6) _⟩;rw[Bh];have st:=Sh H5 (.pointer none) (.pointer none) rfl;simp -implicitDefEqProofs only[gsR,e0,l13,t1,i1,cR,e1,c1,d1,tE,D8,Ea,c2,<-hH4,l4,fU _ _ u8U iU,el,n1,D9,B0,st];rfl
   ·have hlt:f.lane<c.lanes:=U
    obtain⟨H5,n1,x5⟩:=aOJ g4 (m:=m-1) U hp1 hp2 hlt
    obtain⟨H6,hH6⟩:=aD (H5++[kX (pt (y.sb (j+1) f.lane)) (pt (y.rb (j+1) f.lane))]);have x6:Ext H5 H6:=by rw[hH6];exact Fr.app _ _ _
    have g6:=(g4.lH x5).lH x6;have b6:H6[H5.length]? =some (kX (pt (y.sb (j+1) f.lane)) (pt (y.rb (j+1) f.lane))):=by rw[hH6];exact eD _ _
    obtain⟨q0,q1,q2⟩:=B1 b6;have b46:H6[H3.length]? =some (frB f):=by rw[(x5.tr x6).2 _ (dO b4) id,b4]
    obtain⟨k0,k1,k2,k3,k4,k5,k6⟩:=pH b46;have st:=Sh H5 (pt (y.sb (j+1) f.lane)) (pt (y.rb (j+1) f.lane)) rfl;have mv6:Mv (Un F) (Un F) H H6:=Mv.rB (((((x1.tr x2).tr x3).tr x4).tr x5).tr x6) _;by_cases hk2:f.kind=2
    ·have hr:pG c fr bs s=(0,{s with snd:=up2 s.snd (j+1) f.lane ((s.snd (j+1) f.lane).rH f.seq)}):=by unfold pG;rw[hfi];simp only;rw[hdec];simp only;rw[if_neg hl,if_pos hk2]
     have c3:((f.kind:Int)==2)=true:=by rw[hk2];rfl
     obtain⟨H7,w,s1,s2⟩:=aMu (m:=m-1) U (g6.Ji hp1 hp2 hlt) (g6.Sd ht _ _) f.seq hok.seq
     have hri:NInv c (t+1) {s with snd:=up2 s.snd (j+1) f.lane ((s.snd (j+1) f.lane).rH f.seq)}:=
      {hmono with snd:=Bq hmono.snd (((h.inv.snd _ _).aM0 _).Re (Nat.le_succ t))}
     obtain⟨g7,mv7⟩:=g6.aCs hp1 hp2 hlt s2 hri;rw[hr];refine⟨H7,F,cS (cH rfl) hm0 ?_,g7,mv6.rC mv7⟩;rw[Bh];simp -implicitDefEqProofs only[gsR,e0,l13,t1,i1,cR,e1,c1,d1,tE,D8,Ea,c2,<-hH4,l4,fU _ _ u8U iU,el,n1,D9,st,<-hH6,k0,c3,q1,k2,s1];rfl
    ·have c3:((f.kind:Int)==2)=false:=by rw[beq_eq_false_iff_ne];omega
     by_cases hk3:f.kind=3
     ·have hr:pG c fr bs s=(0,{s with rcv:=up2 s.rcv (j+1) f.lane ((s.rcv (j+1) f.lane).pW c.room f.seq)}):=by unfold pG;rw[hfi];simp only;rw[hdec];simp only;rw[if_neg hl,if_neg hk2,if_pos hk3]
      have c4:((f.kind:Int)==3)=true:=by rw[hk3];rfl
      obtain⟨H7,w,s1,s2⟩:=aMr (m:=m-1) U (g6.Jg hp1 hp2 hlt) (g6.Jh ht _ _) f.seq hok.seq
      have hri:NInv c (t+1) {s with rcv:=up2 s.rcv (j+1) f.lane ((s.rcv (j+1) f.lane).pW c.room f.seq)}:=
       {hmono with rcv:=Bq hmono.rcv ((h.inv.rcv _ _).aMZ h.ok.room.2 _)}
      obtain⟨g7,mv7⟩:=g6.Sc hp1 hp2 hlt s2 hri;rw[hr];refine⟨H7,F,cS (cH rfl) hm0 ?_,g7,mv6.rC mv7⟩;rw[Bh];simp -implicitDefEqProofs only[gsR,e0,l13,t1,i1,cR,e1,c1,d1,tE,D8,Ea,c2,<-hH4,l4,fU _ _ u8U iU,el,n1,D9,st,<-hH6,k0,c3,c4,q2,k2,s1];rfl
     ·have c4:((f.kind:Int)==3)=false:=by rw[beq_eq_false_iff_ne];omega
      have hr:pG c fr bs s=sY c (j+1) f s:=by unfold pG;rw[hfi];simp only;rw[hdec];simp only;rw[if_neg hl,if_neg hk2,if_neg hk3]
      obtain⟨H7,F',s1,g7,mv7⟩:=aOW g6 ht (m:=m-1) U hp1 hp2 hlt hok
      rw[hr];refine⟨H7,F',cS (cH rfl) hm0 ?_,g7,mv6.rC mv7⟩;rw[Bh];simp -implicitDefEqProofs only[gsR,e0,l13,t1,i1,cR,e1,c1,d1,tE,D8,Ea,c2,<-hH4,l4,fU _ _ u8U iU,el,n1,D9,st,<-hH6,k0,c3,c4,q0,k6,s1]
end
theorem aPa {H H':aF}{a n ports lanes p s mb:Nat}{L:List Rg.En}{l:List Rg.kS}{top free:Int}{fl:List Nat}{f:Rg.lP->Option Value}(h:Rg.RI H a L n ports lanes p s mb l top free fl f)(hk: ∀(b:Nat)(x:Blk),H[b]? =some x->x≠ .dead->H'[b]? =some x):Rg.RI H' a L n ports lanes p s mb l top free fl f:=by
 refine⟨hk _ _ h.hd (λhd=>by cases hd),⟨⟨hk _ _ h.pool.pool.hp (λhd=>by cases hd),hk _ _ h.pool.pool.hs (λhd=>by cases hd),λi q x d hi=>hk _ _ (h.pool.pool.hq i q x d hi) (λhd=>by cases hd)⟩,h.pool.chain,h.pool.nodup,h.pool.full,h.pool.cnt,h.pool.len⟩,
  h.len,h.cnt,h.nd,h.full,?_,h.no,λw v hv=>⟨?_,(h.yes w v hv).2⟩,h.sep,h.b1,h.b2⟩
 ·obtain⟨es,c,h1,h2⟩:=h.mp
  exact⟨es,c,hk _ _ h1 (λhd=>by cases hd),h2⟩
 ·refine(h.yes w v hv).1.uV λb hb=> ?_
  obtain⟨xs,hx⟩:=(h.yes w v hv).1.blk hb;rw[hx];exact hk _ _ hx (λhd=>by cases hd)
theorem RingsN.aO7 {D H:aF}{a cap ports lanes:Nat}{L:List (Go.Abs.gO×Pkt)}(hs:Sub D H)(h:RingsN D a L cap ports lanes):RingsN H a L cap ports lanes:=by
 obtain⟨Le,⟨p,s,mb,l,top,free,fl,f,hi⟩,h2⟩:=h
 exact⟨Le,⟨p,s,mb,l,top,free,fl,f,aPa hi hs.2⟩,h2⟩
theorem HostAt.aO3 {D H:aF}{a lanes queue:Nat}{L G:List Pkt}(hs:Sub D H)(h:HostAt D a L G lanes queue):HostAt H a L G lanes queue:=by
 obtain⟨w0,w1,w2,cv,h⟩:=h;have key: ∀w (xs:List Pkt),Pq D w xs->Pq H w xs:=λw xs hw=>hw.zP λb hb=>by
  obtain⟨cs,hc⟩:=hw.blk hb;rw[hc];exact hs.2 b _ hc (λhd=>by cases hd)
 exact⟨w0,w1,w2,cv,hs.2 a _ h.blk (λhd=>by cases hd),h.lanes,h.queue,λk hk=>key _ _ (h.q k hk),key _ _ h.came,h.apart,h.apartC⟩
section
variable {H0 H : aF} {F : Part → Nat → Prop} {y : Lay} {p : PlanD} {ev wv nv : Value} {c : Cfg} {t : Nat} {s : NS} {m : Nat}
theorem NodeAt.aO6 (h:NodeAt H0 H F y p ev wv nv c t s):RingsN H y.rg s.rL (c.aK*c.lanes*c.room) c.aK c.lanes:=RingsN.aO7 (Ge _ _) (h.sep.own .rings).at_
theorem NodeAt.aO4 (h:NodeAt H0 H F y p ev wv nv c t s):HostAt H y.hb s.hL s.hG c.lanes c.queue:=HostAt.aO3 (Ge _ _) (h.sep.own .host).at_
theorem aCE (h:NodeAt H0 H F y p ev wv nv c t s)(hm:0<m)(i o k:Nat):lvl prog pkN m (.func 96) [pt y.rg,.I i,.I o,.I k] H=some (.I (qP s.rL i o k),H):=aNR h.aO6 hm i o k
theorem aO9 {i o:Nat}(hi:i<c.aK)(ho:o<c.aK)(h3:c.lanes<=3)(ht:t<1000000000)(hm:10<m): ∀(q k l:Nat)(H:aF),c.lanes-k=q->k<=c.lanes->q<l->NodeAt H0 H F y p ev wv nv c t s-> ∀(x3 x4 x5 x6 x8 x9 bS cE aV aQ aW aX aU bA bP bQ bO bK aY bC bE bG bH bI bJ bM bN bU cK cL cD bV bX bY b9 cA cF cM cO cP cT dB dE dF:Value),
  ∃H2,aM l (aN prog (lvl prog pkN m) (aM m) Pr) (Ps (lvl prog pkN m) (aM m)) [(pt y.nb),(.I (i:Nat)),(.I (o:Nat)),x3,x4,x5,x6,(.int .u16 (dU (iB c s i o) k:Nat)),x8,x9,bS,cE,aV,(.I c.lanes),(.I (k:Nat)),aQ,aW,aX,aU,bA,bP,bQ,bO,bK,aY,bC,bE,bG,bH,bI,bJ,bM,bN,bU,cK,cL,cD,bV,bX,bY,b9,cA,cF,cM,cO,cP,cT,dB,dE,dF] H=some (.int .u16 (dU (iB c s i o) c.lanes:Nat),H2)/\Ext H H2:=by
 intro q;induction q with
 |zero=>
  intro k l H hq hk hl h;intros;obtain⟨l,rfl⟩: ∃l',l=l'+1:=⟨l-1,by omega⟩
  have hke:k=c.lanes:=U
  have c1:decide ((k:Int)<(c.lanes:Int))=false:=by rw[decide_eq_false_iff_not];omega
  rw[aM,aAA];simp -implicitDefEqProofs only[gsR,c1];rw[aLa];simp -implicitDefEqProofs only[gsR]
  exact⟨_,by rw[hke],Fr.kO _ _⟩
 |succ q ih=>
  intro k l H hq hk hl h;intros;obtain⟨l,rfl⟩: ∃l',l=l'+1:=⟨l-1,by omega⟩
  have hkl:k<c.lanes:=U
  have c1:decide ((k:Int)<(c.lanes:Int))=true:=by rw[decide_eq_true_eq];omega
  have l15:=h.ld 15 (pt y.rg) rfl;have r1:=aCE h (m:=m) U i o k
  have e9:=pI k U
  rw[aM,aAA];by_cases hz:qP s.rL i o k=0
  ·have c2:(((qP s.rL i o k:Nat):Int)==0)=true:=by rw[hz];rfl
   have hno:iB c s i o k=false:=by unfold iB;rw[hz];simp
   simp -implicitDefEqProofs only[gsR,c1,l15,r1,c2,cR,e9];rw[<-Jc hno];exact ih (k+1) l H U U U h ..
  ·have c2:(((qP s.rL i o k:Nat):Int)==0)=false:=by rw[beq_eq_false_iff_ne];omega
   obtain⟨s1,s2⟩:=xW (a:=dU (iB c s i o) k) (i:=k) (tC _ U) U
   by_cases ho0:o=0
   ·have c3:((o:Int)==0)=true:=by rw[ho0];rfl
    have hyes:iB c s i o k=true:=by unfold iB;simp[hkl,ho0];rw[<-ho0];omega
    simp -implicitDefEqProofs only[gsR,c1,l15,r1,c2,c3,s1,s2,cR,e9];rw[<-Jd hyes];exact ih (k+1) l H U U U h ..
   ·have c3:((o:Int)==0)=false:=by rw[beq_eq_false_iff_ne];omega
    have l13:=h.ld 13 (iG y c) rfl;obtain⟨b,oo,a1,a2⟩:=h.zW ho;obtain⟨_,_,a3,_⟩:=a2 _ (.inl h);obtain⟨b',o',a4,_,a5,_⟩:=h.D6 U ho hkl
    have u1:=aMy (m:=m) U (h.Ji U ho hkl) (h.Sd ht o k)
    obtain⟨H1,hH1⟩:=aD (H++[Blk.cells [.int .u64 (s.snd o k).s,.int .u64 (s.snd o k).l] 141 .fix]);rw[<-hH1] at u1;have x1:Ext H H1:=by rw[hH1];exact Fr.app _ _ _
    by_cases hu:0<(s.snd o k).rI
    ·have c4:decide (0<((s.snd o k).rI:Int))=true:=by rw[decide_eq_true_eq];omega
     have hyes:iB c s i o k=true:=by unfold iB;simp[hkl,hu];omega
     simp -implicitDefEqProofs only[gsR,Nat.add_zero,c1,l15,r1,c2,c3,l13,a1,a3,a4,a5,u1,c4,s1,s2,cR,e9];rw[<-Jd hyes];obtain⟨H2,k1,k2⟩:=ih (k+1) l H1 U U U (h.lH x1) ..
     exact⟨H2,k1,x1.tr k2⟩
    ·have c4:decide (0<((s.snd o k).rI:Int))=false:=by rw[decide_eq_false_iff_not];omega
     have hno:iB c s i o k=false:=by unfold iB;simp[hkl,hu,ho0]
     simp -implicitDefEqProofs only[gsR,Nat.add_zero,c1,l15,r1,c2,c3,l13,a1,a3,a4,a5,u1,c4,cR,e9];rw[<-Jc hno];obtain⟨H2,k1,k2⟩:=ih (k+1) l H1 U U U (h.lH x1) ..
     exact⟨H2,k1,x1.tr k2⟩
theorem aCF (h:NodeAt H0 H F y p ev wv nv c t s)(ht:t<1000000000)(hm:20<m){i o:Nat}(hi:i<c.aK)(ho:o<c.aK): ∃H2,lvl prog pkN m (.func 104) [pt y.nb,.I i,.I o] H=some (.int .u16 (dU (iB c s i o) c.lanes:Nat),H2)/\Ext H H2:=by
 refine nQ (cH rfl) U ?_
 rw[aLb];have l3:=h.ld 3 (.I c.lanes) rfl;simp -implicitDefEqProofs only[gsR,l3];exact aO9 hi ho h.ok.lanes.2 ht U c.lanes 0 (m-1) H U U (by have:=h.ok.lanes;omega) h ..
theorem NodeAt.aO5 (h:NodeAt H0 H F y p ev wv nv c t s){b:Nat}(hb: ¬Un F b)(hb0:H0.length<=b)(x:Blk):NodeAt H0 (H.set b x) F y p ev wv nv c t s:=by
 have hm:Mv (λa=>a=b) (λa=>a=b) H (H.set b x):=⟨by simp,λ_ h=> .inl h,λa _ ha=>aRV λhh=>ha hh.symm⟩
 refine {h with ext:=⟨by simp;exact h.ext.1,λa ha _=> ?_⟩,sep:=h.sep.zA (vJ _ _ _ _ _ _ _) hm λa ha hh=>hb (by rw[<-hh];exact ha)}
 rw[aRV U,h.ext.2 a ha id]
def lQ (c:Cfg)(s:NS)(i o:Nat):List Nat:=(List.range c.aK).map λj=>if j<i then dU (lX c s j) c.aK else if j=i then dU (lX c s i) o else 0
theorem wJ (c:Cfg)(s:NS)(i o:Nat):(lQ c s i o).length=c.aK:=by simp[lQ]
theorem Aa {c:Cfg}{s:NS}{i o j:Nat}(hj:j<c.aK):(lQ c s i o)[j]? =some (if j<i then dU (lX c s j) c.aK else if j=i then dU (lX c s i) o else 0):=by simp[lQ,hj]
theorem aPb (c:Cfg)(s:NS)(i:Nat):lQ c s i c.aK=lQ c s (i+1) 0:=by
 unfold lQ;refine List.map_congr_left λj hj=> ?_
 by_cases h1:j<i
 ·rw[if_pos h1,if_pos U]
 ·by_cases h2:j=i
  ·rw[if_neg h1,if_pos h2,if_pos U,h2]
  ·rw[if_neg h1,if_neg h2,if_neg U]
   split<;>rfl
theorem aPc (c:Cfg)(s:NS):lQ c s 0 0=List.replicate c.aK 0:=by
 apply aSv;intro j;by_cases hj:j<c.aK
 ·rw[Aa hj,List.getElem?_replicate_of_lt hj,if_neg U]
  split<;>rfl
 ·rw[aR5 (by rw[wJ];omega),aR5 (by simp;omega)]
theorem aCG {c:Cfg}{s:NS}{i o v:Nat}(hi:i<c.aK)(hv:dU (lX c s i) (o+1)=v):lQ c s i (o+1)=(lQ c s i o).set i v:=by
 apply aSv;intro j;by_cases hj:j<c.aK
 ·by_cases hij:i=j
  ·subst hij
   rw[aR0 (by rw[wJ];exact hi),Aa hj,if_neg U,if_pos rfl,hv]
  ·rw[aRV hij,Aa hj,Aa hj,if_neg (show¬j=i by omega),if_neg (show¬j=i by omega)]
 ·rw[aR5 (by rw[wJ];omega),aR5 (by rw[List.length_set,wJ];omega)]
theorem aPe (c:Cfg)(s:NS):lK (lQ c s c.aK 0)=lX c s:=by
 funext i k
 unfold lK;by_cases hi:i<c.aK
 ·rw[aRY,Aa hi,if_pos hi,aSn,lW]
  unfold lX;cases decide (k<c.aK)<;>simp
 ·rw[aRY,aR5 (by rw[wJ];omega)]
  unfold lX;simp[hi]
theorem aPd {c:Cfg}{s:NS}(h6:c.aK<=16): ∀z∈lQ c s c.aK 0,z<65536:=λz hz=>by
 unfold lQ at hz;obtain⟨j,hj,rfl⟩:=aSx.mp hz;rw[if_pos (aSy.mp hj)];exact tC _ h6
theorem aO8 {c:Cfg}{s:NS}{i o:Nat}(hi:i<c.aK)(ho:o<c.aK):lX c s i o=o6 (iB c s i o) c.lanes:=by
 unfold lX o6;simp[hi,ho]
end
section
variable {H0 H : aF} {F : Part → Nat → Prop} {y : Lay} {p : PlanD} {ev wv nv : Value} {c : Cfg} {t : Nat} {s : NS} {m : Nat}
theorem aPf {Ha:aF}{i:Nat}(hi:i<c.aK)(hun: ¬Un F Ha.length)(hb0:H0.length<=Ha.length)(ht:t<1000000000)(hm:30<m)(h6:c.aK<=6){K:Ex->K (Value×aF)}{Q:aF->Value->Prop}
  (hK: ∀H',NodeAt H0 H' F y p ev wv nv c t s->H'[Ha.length]? =some (gS (lQ c s i c.aK))->Ext Ha H'-> ∀(x1 x2 x4 x5 x6 x7 x8 x9 bS cE aV aR aS aQ aU bA bP bQ bO bK aY bC bE bG bH bI bJ bM bN bU cK cL cD bV bX bY b9 cA cF cM:Value),∃H2 r,Qj (lvl prog pkN m) (aM m) K (pt y.nb) x1 x2 (eQ Ha.length c.aK) x4 x5 x6 x7 x8 x9 bS cE aV aR aS aQ (.I c.aK) (.I (i:Nat)) aU bA bP bQ bO bK aY bC bE bG bH bI bJ bM bN bU cK cL cD bV bX bY b9 cA cF cM H'=some (r,H2)/\Q H2 r):
  ∀(q o k:Nat)(H:aF),c.aK-o=q->o<=c.aK->q<k->NodeAt H0 H F y p ev wv nv c t s->H[Ha.length]? =some (gS (lQ c s i o))->Ext Ha H-> ∀(x1 x2 x5 x6 x7 x8 x9 bS cE aV aR aS aQ aU bA bP bQ bO bK bE bG bH bI bJ bM bN bU cK cL cD bV bX bY b9 cA cF cM:Value),
  ∃H2 r,aM k (aN prog (lvl prog pkN m) (aM m) Qi) (Ql (lvl prog pkN m) (aM m) K) [(pt y.nb),x1,x2,(eQ Ha.length c.aK),(.I (i:Nat)),x5,x6,x7,x8,x9,bS,cE,aV,aR,aS,aQ,(.I c.aK),(.I (i:Nat)),aU,bA,bP,bQ,bO,bK,(.I c.aK),(.I (o:Nat)),bE,bG,bH,bI,bJ,bM,bN,bU,cK,cL,cD,bV,bX,bY,b9,cA,cF,cM] H=some (r,H2)/\Q H2 r:=by
 intro q;induction q with
 |zero=>
  intro o k H hq ho hk h hb he;intros;obtain⟨k,rfl⟩: ∃k',k=k'+1:=⟨k-1,by omega⟩
  have hoe:o=c.aK:=U
  subst hoe;have c1:decide ((c.aK:Int)<(c.aK:Int))=false:=by simp
  rw[aM,aAO];simp -implicitDefEqProofs only[gsR,c1];rw[aLU];exact hK H h hb he ..
 |succ q ih=>
  intro o k H hq ho hk h hb he;intros;obtain⟨k,rfl⟩: ∃k',k=k'+1:=⟨k-1,by omega⟩
  have hol:o<c.aK:=U
  have c1:decide ((o:Int)<(c.aK:Int))=true:=by rw[decide_eq_true_eq];omega
  obtain⟨H1,m1,x1⟩:=aCF h ht (m:=m) U hi hol
  have h1:=h.lH x1;have b1:H1[Ha.length]? =some (gS (lQ c s i o)):=by rw[x1.2 _ (dO hb) id,hb]
  have e9:=pI o U
  have hask:=aO8 (c:=c) (s:=s) hi hol;rw[aM,aAO];by_cases hz:dU (iB c s i o) c.lanes=0
  ·have c2:(((dU (iB c s i o) c.lanes:Nat):Int)!=0)=false:=by rw[hz];rfl
   have hno:lX c s i o=false:=by rw[hask];exact(Bw _ _).mp hz
   have hr:lQ c s i (o+1)=lQ c s i o:=by
    rw[aCG hi (Jc hno)];apply aSv;intro j;by_cases hij:i=j
    ·subst hij
     rw[aR0 (by rw[wJ];exact hi),Aa hi,if_neg U,if_pos rfl]
    ·rw[aRV hij]
   simp -implicitDefEqProofs only[gsR,c1,m1,c2,cR,e9];exact ih (o+1) k H1 U U U h1 (by rw[hr];exact b1) (he.tr x1) ..
  ·have c2:(((dU (iB c s i o) c.lanes:Nat):Int)!=0)=true:=aCC hz
   have hyes:lX c s i o=true:=by
    rw[hask];cases hw:o6 (iB c s i o) c.lanes with
    |true=>rfl
    |false=>exact absurd ((Bw _ _).mpr hw) hz
   obtain⟨a1,a2⟩:=Jf (c:=c.aK) b1 (wJ _ _ _ _) hi;have a1:aT 1 (eQ Ha.length c.aK) (.I (i:Int))=some (.Q Ha.length i):=a1;have hv:(lQ c s i o).getD i 0=dU (lX c s i) o:=by rw[aRY,Aa hi,if_neg U,if_pos rfl];rfl
   rw[hv] at a2;obtain⟨s1,s2⟩:=xW (a:=dU (lX c s i) o) (i:=o) (tC _ U) U
   have st:=aCl (dU (lX c s i) o|||2 ^ o) b1 (i:=i) (by rw[wJ];exact hi)
   rw[<-aCG hi (Jd hyes)] at st;simp -implicitDefEqProofs only[gsR,c1,m1,c2,a1,a2,s1,s2,st,cR,e9];refine ih (o+1) k _ U U U (h1.aO5 hun hb0 _) (fW b1) ?_ ..
   have he1:=he.tr x1
   exact⟨by simp;exact he1.1,λb hb hn=>by rw[aRV U,he1.2 b hb id]⟩
theorem aPh {Ha:aF}(hun: ¬Un F Ha.length)(hb0:H0.length<=Ha.length)(ht:t<1000000000)(hm:40<m)(h6:c.aK<=6):
  ∀(q i k:Nat)(H:aF),c.aK-i=q->i<=c.aK->q<k->NodeAt H0 H F y p ev wv nv c t s->H[Ha.length]? =some (gS (lQ c s i 0))->Ext Ha H-> ∀(x1 x2 x4 x5 x6 x7 x8 x9 bS cE aV aR aS aQ aU bA bP bQ bO bK aY bC bE bG bH bI bJ bM bN bU cK cL cD bV bX bY b9 cA cF cM:Value),
  ∃H2 r,aM k (aN prog (lvl prog pkN m) (aM m) Qh) (Qk (lvl prog pkN m) (aM m)) [(pt y.nb),x1,x2,(eQ Ha.length c.aK),x4,x5,x6,x7,x8,x9,bS,cE,aV,aR,aS,aQ,(.I c.aK),(.I (i:Nat)),aU,bA,bP,bQ,bO,bK,aY,bC,bE,bG,bH,bI,bJ,bM,bN,bU,cK,cL,cD,bV,bX,bY,b9,cA,cF,cM] H=some (r,H2)/\(r=eQ Ha.length c.aK/\H2[Ha.length]? =some (gS (lQ c s c.aK 0))/\Ext Ha H2/\NodeAt H0 H2 F y p ev wv nv c t s):=by
 intro q;induction q with
 |zero=>
  intro i k H hq hi hk h hb he;intros;obtain⟨k,rfl⟩: ∃k',k=k'+1:=⟨k-1,by omega⟩
  have hie:i=c.aK:=U
  subst hie;have c1:decide ((c.aK:Int)<(c.aK:Int))=false:=by simp
  rw[aM,aAN];simp -implicitDefEqProofs only[gsR,c1];rw[aLT];simp -implicitDefEqProofs only[gsR]
  exact⟨_,_,rfl,rfl,hb,he,h⟩
 |succ q ih=>
  intro i k H hq hi hk h hb he;intros;obtain⟨k,rfl⟩: ∃k',k=k'+1:=⟨k-1,by omega⟩
  have hil:i<c.aK:=U
  have c1:decide ((i:Int)<(c.aK:Int))=true:=by rw[decide_eq_true_eq];omega
  have l13:=h.ld 13 (iG y c) rfl;have e1:aZ (iG y c)=some (.I c.aK):=rfl;rw[aM,aAN];simp -implicitDefEqProofs only[gsR,c1,l13,e1];refine aPf hil hun hb0 ht U h6 ?_ c.aK 0 m H U U U h hb he ..
  intro H' h' hb' he';intros;have e9:=pI i U
  unfold Qj;simp -implicitDefEqProofs only[gsR,cR,e9];rw[aPb] at hb';exact ih (i+1) k H' U U U h' hb' he' ..
theorem aPg (h:NodeAt H0 H F y p ev wv nv c t s)(ht:t<1000000000)(hm:50<m): ∃H2,lvl prog pkN m (.func 51) [pt y.nb] H=some (eQ H.length c.aK,H2)/\H2[H.length]? =some (gS (lQ c s c.aK 0))/\Ext H H2:=by
 have h6:c.aK<=6:=by have:=h.ok.by';unfold Cfg.aK;omega
 have main: ∃H2 r,lvl prog pkN m (.func 51) [pt y.nb] H=some (r,H2)/\(r=eQ H.length c.aK/\H2[H.length]? =some (gS (lQ c s c.aK 0))/\Ext H H2/\NodeAt H0 H2 F y p ev wv nv c t s):=by
  refine gN (cH rfl) U ?_
  rw[aLV];have l13:=h.ld 13 (iG y c) rfl;have e1:aZ (iG y c)=some (.I c.aK):=rfl;have mk:=wW (H:=H) 23 1 2 [.int .u16 0] .i64 .i64 (c.aK:Int) U U U rfl
  have hz:H++[Blk.cells (List.replicate (c.aK:Int).toNat [Value.int .u16 0]).flatten 23 .row]=H++[gS (lQ c s 0 0)]:=by
   have: ∀n,(List.replicate n [Value.int .u16 0]).flatten=List.replicate n (.int .u16 0):=by
    intro n;induction n with
    |zero=>rfl
    |succ n ih=>rw[List.replicate_succ,aSu,ih];rfl
   rw[aSm,this,aPc,gS,List.map_replicate];rfl
  rw[hz,aSm] at mk;have x1:Ext H (H++[gS (lQ c s 0 0)]):=Fr.app _ _ _;have h1:=h.lH x1;have l13':=h1.ld 13 (iG y c) rfl;simp -implicitDefEqProofs only[gsR,l13,e1,mk,l13'];exact aPh (λhu=>by have:=h.sep.rD _ hu;omega) h.ext.1 ht U h6 c.aK 0 (m-1) _ U U U h1 (eD _ _) x1 ..
 obtain⟨H2,r,g1,rfl,g2,g3,_⟩:=main
 exact⟨H2,g1,g2,g3⟩
theorem aCJ (L:List (Go.Abs.gO×Pkt))(i o k:Nat):qP L i o k<=L.length:=by
 unfold qP pZ;rw[aR8];exact List.length_filter_le _ _
def wK (L:List (Go.Abs.gO×Pkt))(k o:Nat):Nat:=((List.range o).map λo=>qP L 0 o k).sum
theorem aCI (L:List (Go.Abs.gO×Pkt))(k o:Nat):wK L k (o+1)=wK L k o+qP L 0 o k:=by
 unfold wK;rw[aSt,List.map_append,List.sum_append];simp
theorem aCH (L:List (Go.Abs.gO×Pkt))(k:Nat): ∀o,wK L k o<=o*L.length
 |0=>by simp[wK]
 |o+1=>by
  have:=aCH L k o;have:=aCJ L 0 o k;rw[aCI,Nat.succ_mul];omega
theorem aCK (h:c.ok):c.aK*c.lanes*c.room<=144:=by
 have h1:c.aK<=6:=by have:=h.by';unfold Cfg.aK;omega
 have h2:=h.lanes.2;have h3:=h.room.2
 calc c.aK*c.lanes*c.room<=6*3*8:=Nat.mul_le_mul (Nat.mul_le_mul h1 h2) h3
  _=144:=rfl
theorem aPi {kk:Nat}(hm:30<m){K:Ex->K (Value×aF)}{Q:aF->Value->Prop}(h:NodeAt H0 H F y p ev wv nv c t s)
  (hK: ∀(x1 x4 x5 x6 x7 x8 x9 bS aR aS aQ aW aX aU bA bP bQ bO bK aY bC bE bG bH bI bJ bM bN bU cK cL cD bV bX bY b9 cA cF cM cO cP cT dB dE dF cU cV cW cY dJ dG dH cZ dP dS dQ dX:Value),∃H2 r,Ij (lvl prog pkN m) (aM m) K (pt y.nb) x1 (.I (kk:Nat)) (.I (Bk c s.rL kk:Nat)) x4 x5 x6 x7 x8 x9 bS (.I c.lanes) (.I (kk:Nat)) aR aS aQ aW aX aU bA bP bQ bO bK aY bC bE bG bH bI bJ bM bN bU cK cL cD bV bX bY b9 cA cF cM cO cP cT dB dE dF cU cV cW cY dJ dG dH cZ dP dS dQ dX H=some (r,H2)/\Q H2 r):
  ∀(q o k:Nat),c.aK-o=q->o<=c.aK->q<k-> ∀(x1 x4 x5 x6 x7 x8 x9 bS aR aS aQ aW aX aU bQ bO bK aY bC bE bG bH bI bJ bM bN bU cK cL cD bV bX bY b9 cA cF cM cO cP cT dB dE dF cU cV cW cY dJ dG dH cZ dP dS dQ dX:Value),
  ∃H2 r,aM k (aN prog (lvl prog pkN m) (aM m) P8) (Qa (lvl prog pkN m) (aM m) K) [(pt y.nb),x1,(.I (kk:Nat)),(.I (wK s.rL kk o:Nat)),x4,x5,x6,x7,x8,x9,bS,(.I c.lanes),(.I (kk:Nat)),aR,aS,aQ,aW,aX,aU,(.I c.aK),(.I (o:Nat)),bQ,bO,bK,aY,bC,bE,bG,bH,bI,bJ,bM,bN,bU,cK,cL,cD,bV,bX,bY,b9,cA,cF,cM,cO,cP,cT,dB,dE,dF,cU,cV,cW,cY,dJ,dG,dH,cZ,dP,dS,dQ,dX] H=some (r,H2)/\Q H2 r:=by
 intro q;induction q with
 |zero=>
  intro o k hq ho hk;intros;obtain⟨k,rfl⟩: ∃k',k=k'+1:=⟨k-1,by omega⟩
  have hoe:o=c.aK:=U
  subst hoe;have c1:decide ((c.aK:Int)<(c.aK:Int))=false:=by simp
  rw[aM,aAJ];simp -implicitDefEqProofs only[gsR,c1];rw[aLP];exact hK ..
 |succ q ih=>
  intro o k hq ho hk;intros;obtain⟨k,rfl⟩: ∃k',k=k'+1:=⟨k-1,by omega⟩
  have h6:c.aK<=6:=by have:=h.ok.by';unfold Cfg.aK;omega
  have c1:decide ((o:Int)<(c.aK:Int))=true:=by rw[decide_eq_true_eq];omega
  have l15:=h.ld 15 (pt y.rg) rfl;have r1:=aCE h (m:=m) U 0 o kk
  have e9:=pI o U
  have hrl:=aSa h.inv.rN (aCK h.ok);have hb1:wK s.rL kk o<=6*144:=aSa (aCH _ _ _) (Nat.mul_le_mul U hrl)
  have hb2:=aCJ s.rL 0 o kk;have e8:IntKind.i64.wrap ((wK s.rL kk o:Nat)+((qP s.rL 0 o kk:Nat):Int))=(wK s.rL kk (o+1):Nat):=by
   rw[aCI,dL U U]
   omega
  have r1:lvl prog pkN m (.func 96) [pt y.rg,.I 0,.I o,.I kk] H=some (.I (qP s.rL 0 o kk),H):=r1;rw[aM,aAJ];simp -implicitDefEqProofs only[gsR,c1,l15,r1,cR,e8,e9];exact ih (o+1) k U U U ..
def aPk (w:List Pkt):Value:=match w with
 |[]=> .tuple #[pk0.dN,.bool false]
 |x::_=> .tuple #[x.dN,.bool true]
def Ab (L:List Pkt)(k:Nat):List Pkt:=if gQ L k=[] then L else sZ L k
theorem aPj {D:aF}{hb:Nat}(hm:3<m){k:Nat}(hk:k<c.lanes)(h:HostAt D hb s.hL s.hG c.lanes c.queue):
  ∃r D',lvl prog pkN m (.func 97) [pt hb,.I k] D=some (r,D')/\(r=aPk (gQ s.hL k)/\HostAt D' hb (Ab s.hL k) s.hG c.lanes c.queue):=by
 obtain⟨w0,w1,w2,cv,h⟩:=h;cases hw:gQ s.hL k with
 |nil=>
  obtain⟨H',g1,g2⟩:=aNY h hm k hk hw
  exact⟨_,_,g1,rfl,by unfold Ab;rw[if_pos hw];exact g2⟩
 |cons x xs=>
  obtain⟨H',g1,g2⟩:=aNZ h hm k hk hw
  exact⟨_,_,g1,rfl,by unfold Ab;rw[if_neg (by rw[hw];simp)];exact g2⟩
end
theorem B2 (H:aF):H++[Blk.cells [Value.int .i64 0,.int .i64 0,.int .i64 0,.int .u32 0] 54 .fix]=H++[dK pk0]:=rfl
theorem Si (H:aF)(x:Pkt):stN 4 (.Q H.length 0) x.dN (H++[dK pk0])=some (undef,H++[dK x]):=by rw[I9 x (eD _ _),mW]
theorem aPo {c:Cfg}{t:Nat}{s:NS}(h:NInv c t s)(k:Int):NInv c t {s with hL:=sZ s.hL k}:=by
 refine {h with hL:=λx hx=>h.hL x (aBw hx),hQ:=λj=> ?_}
 have e:=Iz s.hL k j
 show(gQ (sZ s.hL k) j).length<=c.queue
 rw[e];by_cases hj:j=k
 ·rw[if_pos hj,List.length_tail]
  have:=h.hQ k;omega
 ·rw[if_neg hj]
  exact h.hQ j
section
variable {H0 H : aF} {F : Part → Nat → Prop} {y : Lay} {p : PlanD} {ev wv nv : Value} {c : Cfg} {t : Nat} {s : NS} {m : Nat}
theorem aPm {K:Ex->K (Value×aF)}{Q:aF->Value->Prop}{k:Nat}(hk:k<c.lanes)(hm:200<m)(h:NodeAt H0 H F y p ev wv nv c t s)
  (hK: ∀H' F',NodeAt H0 H' F' y p ev wv nv c t (nS c s k)->Mv (Un F) (Un F') H H'-> ∀(x1 x2 x3 x4 x5 x6 x7 x8 x9 bS aR aS aQ aW aX aU bA bP bQ bO bK aY bC bE bG bH bI bJ bM bN bU cK cL cD bV bX bY b9 cA cF cM cO cP cT dB dE dF cU cV cW cY dJ dG dH cZ dP dS dQ dX:Value),∃H2 r,K .normal [(pt y.nb),x1,x2,x3,x4,x5,x6,x7,x8,x9,bS,(.I c.lanes),(.I (k+1:Nat)),aR,aS,aQ,aW,aX,aU,bA,bP,bQ,bO,bK,aY,bC,bE,bG,bH,bI,bJ,bM,bN,bU,cK,cL,cD,bV,bX,bY,b9,cA,cF,cM,cO,cP,cT,dB,dE,dF,cU,cV,cW,cY,dJ,dG,dH,cZ,dP,dS,dQ,dX] H'=some (r,H2)/\Q H2 r):
  ∀(x1 x4 x5 x6 x7 x8 x9 bS aR aS aQ aW aX aU bA bP bQ bO bK aY bC bE bG bH bI bJ bM bN bU cK cL cD bV bX bY b9 cA cF cM cO cP cT dB dE dF cU cV cW cY dJ dG dH cZ dP dS dQ dX:Value),∃H2 r,Ij (lvl prog pkN m) (aM m) K (pt y.nb) x1 (.I (k:Nat)) (.I (Bk c s.rL k:Nat)) x4 x5 x6 x7 x8 x9 bS (.I c.lanes) (.I (k:Nat)) aR aS aQ aW aX aU bA bP bQ bO bK aY bC bE bG bH bI bJ bM bN bU cK cL cD bV bX bY b9 cA cF cM cO cP cT dB dE dF cU cV cW cY dJ dG dH cZ dP dS dQ dX H=some (r,H2)/\Q H2 r:=by
 intros;have h3:=h.ok.lanes.2;have e9:=pI k U
 have l4:=h.ld 4 (.I c.room) rfl;unfold Ij;by_cases c1:c.room<=Bk c s.rL k
 ·have c1':decide ((c.room:Int)<=(Bk c s.rL k:Nat))=true:=by rw[decide_eq_true_eq];omega
  have hr:nS c s k=s:=by unfold nS;rw[if_pos c1]
  rw[hr] at hK;simp -implicitDefEqProofs only[gsR,l4,c1',cR,e9];exact hK H F h (Mv.Xi _ _) ..
 ·have c1':decide ((c.room:Int)<=(Bk c s.rL k:Nat))=false:=by rw[decide_eq_false_iff_not];omega
  have l14:=h.ld 14 (pt y.hb) rfl;obtain⟨r,H1,F1,n1,n2,n3⟩:=(h.sep.own .host).A7 tW (n:=m) (λD hD=>aPj (m:=m) U hk hD)
  obtain⟨hrv,_⟩:=n2.at_;rw[hrv] at n1;cases hw:gQ s.hL k with
  |nil=>
   have hr:nS c s k=s:=by unfold nS;rw[if_neg c1,hw]
   rw[hr] at hK;have hnl:Ab s.hL k=s.hL:=by unfold Ab;rw[if_pos hw]
   obtain⟨g1,mv1⟩:=h.Jm (L:=s.hL) (G:=s.hG) (Has.xY n2 λD hD=>by rw[<-hnl];exact hD.2) n3 h.inv
   rw[hw] at n1;have n1:lvl prog pkN m (.func 97) [pt y.hb,.I k] H=some (.tuple #[pk0.dN,.bool false],H1):=n1;have x2:Ext H1 (H1++[dK pk0]):=Fr.app _ _ _;simp -implicitDefEqProofs only[gsR,l4,c1',l14,n1,tE,B2,Si,cR,e9];exact hK (H1++[dK pk0]) _ (g1.lH x2) (mv1.rC (Mv.rB x2 _)) ..
  |cons x xs=>
   have hr:nS c s k={s with hL:=sZ s.hL k,rL:=vD c s.rL (0,(c.port x.dst.toNat:Int),k) x}:=by unfold nS;rw[if_neg c1,hw]
   have hinv:=h.inv.aBt h.ok k;rw[hr] at hK hinv;have hnl:Ab s.hL k=sZ s.hL k:=by unfold Ab;rw[if_neg (by rw[hw];simp)]
   obtain⟨g1,mv1⟩:=h.Jm (L:=sZ s.hL k) (G:=s.hG) (Has.xY n2 λD hD=>by rw[<-hnl];exact hD.2) n3 (aPo h.inv k)
   rw[hw] at n1;have n1:lvl prog pkN m (.func 97) [pt y.hb,.I k] H=some (.tuple #[x.dN,.bool true],H1):=n1;obtain⟨H2,hH2⟩:=aD (H1++[dK x]);have x2:Ext H1 H2:=by rw[hH2];exact Fr.app _ _ _
   have g2:=g1.lH x2;have b2:H2[H1.length]? =some (dK x):=by rw[hH2];exact eD _ _
   have hxm:x∈s.hL:=by
    have:x∈gQ s.hL k:=by rw[hw];exact aR3 ..
    exact(List.mem_filter.mp this).1
   have hxd:=(h.inv.hL x hxm).dst;obtain⟨d,hd⟩: ∃d:Nat,x.dst=d:=⟨x.dst.toNat,by omega⟩
   have hdt:x.dst.toNat=d:=U
   rw[hdt] at hK hinv;have q1:ld1 (.Q H1.length 1) H2=some (.I d,H2):=dI b2 (by rw[<-hd];rfl)
   have l15:=g2.ld 15 (pt y.rg) rfl;obtain⟨H3,t1,x3⟩:=aCA g2 (m:=m) U d U
   have g3:=g2.lH x3;have l15':=g3.ld 15 (pt y.rg) rfl;have b3:H3[H1.length]? =some (dK x):=by rw[x3.2 _ (dO b2) id,b2]
   have q3:=(rK b3).2;have q3':=(rK b2).2;obtain⟨r',H4,F4,p1,p2,p3⟩:=(g3.sep.own .rings).A7 tW (n:=m) (λD hD=>aB3 (m:=m) hD U (0,(c.port d:Int),(k:Int)) x)
   obtain⟨g4,mv4⟩:=g3.Sg (L:=vD c s.rL (0,(c.port d:Int),k) x) p2 p3 hinv;have p1:lvl prog pkN m (.func 98) [pt y.rg,.I 0,.I (c.port d:Nat),.I k,x.dN] H3=some (r',H4):=p1;simp -implicitDefEqProofs only[gsR,l4,c1',l14,n1,tE,B2,Si,<-hH2,l15,q1,t1,l15',xZ,q3,q3',aCD,p1,cR,e9];exact hK H4 _ g4 ((mv1.rC (Mv.rB (x2.tr x3) _)).rC mv4) ..
theorem aPn {Hs:aF}{Fs:Part->Nat->Prop}{s0:NS}(h3:c.lanes<=3)(hm:300<m)(h6:c.aK<=6):
  ∀(q k l:Nat)(H:aF)(F:Part->Nat->Prop),c.lanes-k=q->k<=c.lanes->q<l->NodeAt H0 H F y p ev wv nv c t ((List.range k).foldl (nS c) s0)->Mv (Un Fs) (Un F) Hs H-> ∀(x1 x2 x3 x4 x5 x6 x7 x8 x9 bS aR aS aQ aW aX aU bA bP bQ bO bK aY bC bE bG bH bI bJ bM bN bU cK cL cD bV bX bY b9 cA cF cM cO cP cT dB dE dF cU cV cW cY dJ dG dH cZ dP dS dQ dX:Value),
  ∃H2 r,aM l (aN prog (lvl prog pkN m) (aM m) P7) (P9 (lvl prog pkN m) (aM m)) [(pt y.nb),x1,x2,x3,x4,x5,x6,x7,x8,x9,bS,(.I c.lanes),(.I (k:Nat)),aR,aS,aQ,aW,aX,aU,bA,bP,bQ,bO,bK,aY,bC,bE,bG,bH,bI,bJ,bM,bN,bU,cK,cL,cD,bV,bX,bY,b9,cA,cF,cM,cO,cP,cT,dB,dE,dF,cU,cV,cW,cY,dJ,dG,dH,cZ,dP,dS,dQ,dX] H=some (r,H2)/\(r=aL []/\ ∃F2,NodeAt H0 H2 F2 y p ev wv nv c t (lD c s0)/\Mv (Un Fs) (Un F2) Hs H2):=by
 intro q;induction q with
 |zero=>
  intro k l H F hq hk hl h hmv;intros;obtain⟨l,rfl⟩: ∃l',l=l'+1:=⟨l-1,by omega⟩
  have hke:k=c.lanes:=U
  have c1:decide ((k:Int)<(c.lanes:Int))=false:=by rw[decide_eq_false_iff_not];omega
  rw[aM,aAI];simp -implicitDefEqProofs only[gsR,c1];rw[aLO];rw[hke] at h
  exact⟨_,_,rfl,rfl,F,h,hmv⟩
 |succ q ih=>
  intro k l H F hq hk hl h hmv;intros;obtain⟨l,rfl⟩: ∃l',l=l'+1:=⟨l-1,by omega⟩
  have hkl:k<c.lanes:=U
  have c1:decide ((k:Int)<(c.lanes:Int))=true:=by rw[decide_eq_true_eq];omega
  have l13:=h.ld 13 (iG y c) rfl;have e1:aZ (iG y c)=some (.I c.aK):=rfl;rw[aM,aAI];simp -implicitDefEqProofs only[gsR,c1,l13,e1];refine aPi (kk:=k) U h ?_ c.aK 0 m U U U ..
  refine aPm hkl U h ?_
  intro H' F' h' hmv';intros;have hn:(List.range (k+1)).foldl (nS c) s0=nS c ((List.range k).foldl (nS c) s0) k:=by rw[aSt,List.foldl_append];rfl
  rw[<-hn] at h';exact ih (k+1) l H' F' U U U h' (hmv.rC hmv') ..
theorem aPl (h:NodeAt H0 H F y p ev wv nv c t s)(hm:400<m): ∃H2 F2,lvl prog pkN m (.func 49) [pt y.nb] H=some (aL [],H2)/\NodeAt H0 H2 F2 y p ev wv nv c t (lD c s)/\Mv (Un F) (Un F2) H H2:=by
 have h6:c.aK<=6:=by have:=h.ok.by';unfold Cfg.aK;omega
 have main: ∃H2 r,lvl prog pkN m (.func 49) [pt y.nb] H=some (r,H2)/\(r=aL []/\ ∃F2,NodeAt H0 H2 F2 y p ev wv nv c t (lD c s)/\Mv (Un F) (Un F2) H H2):=by
  refine gN (cH rfl) U ?_
  rw[aLQ];have l3:=h.ld 3 (.I c.lanes) rfl;simp -implicitDefEqProofs only[gsR,l3];exact aPn h.ok.lanes.2 U h6 c.lanes 0 (m-1) H F U U (by have:=h.ok.lanes;omega) h (Mv.Xi _ _) ..
 obtain⟨H2,r,g1,rfl,F2,g2,g3⟩:=main
 exact⟨H2,F2,g1,g2,g3⟩
end
def slV (v:Value):Value:=if dV [v]=true then v else .slice none 0 0
theorem aPu (v:Value):dV [slV v]=true:=by
 unfold slV;split
 ·assumption
 ·rfl
def qR (u:Nat×Value):List Value:=[.I u.1,slV u.2]
theorem aCM (u:Nat×Value):(qR u).length=2:=rfl
theorem aCL (u:Nat×Value):dV (qR u)=true:=by
 have:=aPu u.2;unfold dV qR at*;simp only[List.all_cons,List.all_nil,Bool.and_true] at*;rw[this];rfl
theorem aPs {H:aF}{v:Value}{bs:List UInt8}(h:By H v bs):slV v=v/\dT 43 2 1 [.int .i64 0,.slice none 0 0] [(0,.agg #[.int .i64 0,v])] []=some (.slice (some ⟨0,0,none⟩) 1 1,[Blk.cells [.int .i64 0,v] 43 .row]):=by
 obtain⟨_,⟨rfl,_⟩|⟨c,cap,rest,rfl,_⟩⟩:=h<;>exact⟨rfl,rfl⟩
theorem aPq {H:aF}{v:Value}{bs:List UInt8}(h:By H v bs)(to:Nat)(G:aF):dT 43 2 1 [.I 0,.slice none 0 0] [(0,.agg #[.I to,v])] G=some (.slice (some ⟨G.length,0,none⟩) 1 1,G++[.cells (qR (to,v)) 43 .row]):=by
 obtain⟨_,⟨rfl,_⟩|⟨c,cap,rest,rfl,_⟩⟩:=h<;>rfl
theorem aPr {H:aF}{v:Value}{bs:List UInt8}(h:By H v bs)(to:Nat):bld prog 43 [(0,.I to),(1,v)]=some (.agg #[.I to,v]):=by
 obtain⟨_,⟨rfl,_⟩|⟨c,cap,rest,rfl,_⟩⟩:=h<;>rfl
theorem B3 {α:Type}{el:α->List Value}{e:TypeId}{sz:Nat}{H:aF}{v:Value}{xs:List α}(h:Rw el e sz H v xs):v.cells.toList=[v]/\dV [v]=true:=by
 obtain⟨_,⟨rfl,_⟩|⟨c,cap,rest,rfl,_⟩⟩:=h<;>exact⟨rfl,rfl⟩
theorem aCN {α:Type}{el:α->List Value}{e:TypeId}{sz:Nat}{H:aF}{v:Value}{xs:List α}(h:Rw el e sz H v xs)(H':aF):chk (some (v,H')) v=true:=by
 obtain⟨_,⟨rfl,_⟩|⟨c,cap,rest,rfl,_⟩⟩:=h<;>simp[chk,veq]
def yA (v:Value):Blk:= .cells [v] 35 .fix
def pnB (nb:Nat):Blk:= .cells [pt nb] 30 .fix
def uB (vb cb:Nat):Value:= .func (.func 47) #[] #[pt vb,pt cb]
structure OutR (H:aF)(A:Nat->Prop)(v:Value)(us:List (Nat×Value))(outs:kJ):Prop where
 rw_:Rw qR 43 2 H v us
 home: ∀b,cJ v b->A b
 len:us.length=outs.length
 at_: ∀(i:Nat)(u:Nat×Value)(o:Nat×List UInt8),us[i]? =some u->outs[i]? =some o->u.1=o.1/\By H u.2 o.2/\ ∀b,Go.Abs.cJ u.2 b->A b
structure TickS (H0 Hs H:aF)(Fs F:Part->Nat->Prop)(y:Lay)(p:PlanD)(ev wv nv:Value)(c:Cfg)(t:Nat)(s:NS)(vb cb:Nat)(outs:kJ):Prop where
 node:NodeAt H0 H F y p ev wv nv c t s
 mv:Mv (Un Fs) (Un F) Hs H
 h0:H0.length<=Hs.length
 cell:H[cb]? =some (pnB y.nb)
 cbF: ¬Un F cb
 vbF: ¬Un F vb
 vb0:Hs.length<=vb
 rows: ∃v us,H[vb]? =some (yA v)/\OutR H (λb=>Hs.length<=b/\ ¬Un F b) v us outs
theorem OutR.Ac {H H':aF}{A A':Nat->Prop}{v:Value}{us:List (Nat×Value)}{outs:kJ}(h:OutR H A v us outs)(hk: ∀b,b<H.length->A b->H'[b]? =H[b]? /\A' b):OutR H' A' v us outs where
 rw_:=h.rw_.eY λb hb=>(hk b (h.rw_.gU hb) (h.home b hb)).1
 home:=λb hb=>(hk b (h.rw_.gU hb) (h.home b hb)).2
 len:=h.len
 at_:=λi u o hu ho=>by
  obtain⟨g1,g2,g3⟩:=h.at_ i u o hu ho
  exact⟨g1,g2.eY λb hb=>(hk b (g2.gU hb) (g3 b hb)).1,λb hb=>(hk b (g2.gU hb) (g3 b hb)).2⟩
section
variable {H0 Hs H : aF} {Fs F : Part → Nat → Prop} {y : Lay} {p : PlanD} {ev wv nv : Value} {c : Cfg} {t : Nat} {s : NS} {m : Nat} {vb cb : Nat} {outs : kJ}
theorem TickS.wL {H':aF}{F':Part->Nat->Prop}{t':Nat}{s':NS}(h:TickS H0 Hs H Fs F y p ev wv nv c t s vb cb outs)(hn:NodeAt H0 H' F' y p ev wv nv c t' s')(hm:Mv (Un F) (Un F') H H'):TickS H0 Hs H' Fs F' y p ev wv nv c t' s' vb cb outs:=by
 have key: ∀b,b<H.length-> ¬Un F b->H'[b]? =H[b]? /\ ¬Un F' b:=λb hb hF=>⟨hm.keep b hb hF,λhF'=>(hm.own b hF').elim hF λhl=>by omega⟩
 obtain⟨v,us,r1,r2⟩:=h.rows
 exact⟨hn,h.mv.rC hm,h.h0,by rw[(key cb (dO h.cell) h.cbF).1,h.cell],(key cb (dO h.cell) h.cbF).2,(key vb (dO r1) h.vbF).2,h.vb0,v,us,by rw[(key vb (dO r1) h.vbF).1,r1],
  r2.Ac λb hb hA=>⟨(key b hb hA.2).1,hA.1,(key b hb hA.2).2⟩⟩
theorem TickS.ext {H':aF}(h:TickS H0 Hs H Fs F y p ev wv nv c t s vb cb outs)(he:Ext H H'):TickS H0 Hs H' Fs F y p ev wv nv c t s vb cb outs:=h.wL (h.node.lH he) (Mv.rB he _)
theorem NodeAt.aPp {H':aF}{N:Nat->Prop}(h:NodeAt H0 H F y p ev wv nv c t s)(hf:Fr N H H')(hN: ∀b,N b-> ¬Un F b/\H0.length<=b):NodeAt H0 H' F y p ev wv nv c t s:=by
 have hm:Mv N N H H':=⟨hf.1,λ_ h=> .inl h,λb hb hn=>hf.2 b hb hn⟩
 refine {h with ext:=⟨aSa h.ext.1 hf.1,λa ha _=> ?_⟩,sep:=h.sep.zA (vJ _ _ _ _ _ _ _) hm λa ha hh=>(hN a hh).1 ha}
 rw[hf.2 a (aR9 ha h.ext.1) (λhh=>by have:=(hN a hh).2;omega),h.ext.2 a ha id]
theorem aPt {n:Nat}(h:n<3000):hP n 32=true:=iE (n:=3000) aC U
theorem Sj (h:TickS H0 Hs H Fs F y p ev wv nv c t s vb cb outs)(hm:200<m){o:Nat}(ho:o<c.aK){f:Frm}(hf:f.ok)(hl:outs.length<1000):
  ∃H',oJ (lvl prog pkN m) (uB vb cb) [.I o,frV f] H=some (aL [],H')/\TickS H0 Hs H' Fs F y p ev wv nv c t s vb cb (outs++[(lL c o,qO f)])/\
   ∀(b:Nat)(cs:List Value)(e:TypeId)(k:Kind),H[b]? =some (.cells cs e k)->e≠43->b≠vb->H'[b]? =some (.cells cs e k):=by
 show∃H',lvl prog pkN m (.func 47) [.I o,frV f,pt vb,pt cb] H=_/\_
 obtain⟨H1,hH1⟩:=aD (H++[frB f]);have x1:Ext H H1:=by rw[hH1];exact Fr.app _ _ _
 have e0:H++[Blk.cells (Value.cells (frV f)).toList 39 .fix]=H1:=by rw[hH1];rfl
 have b1:H1[H.length]? =some (frB f):=by rw[hH1];exact eD _ _
 have l6:=(pH b1).2.2.2.2.2.2;obtain⟨H2,w,n1,x2,n2,n3⟩:=aMA (H:=H1) (m:=m-1) U f hf
 have h2:=(h.ext x1).ext x2;obtain⟨v,us,r1,r2⟩:=h2.rows;have lv:ld1 (pt vb) H2=some (v,H2):=dI r1 rfl;have lc:ld1 (pt cb) H2=some (pt y.nb,H2):=dI h2.cell rfl;have l13:=h2.node.ld 13 (iG y c) rfl;obtain⟨b,oo,a1,a2⟩:=h2.node.zW ho;obtain⟨_,a3,_,_⟩:=a2 _ (.inl h2.node);have eb:=aPr n2 (lL c o);have es:=aPq n2 (lL c o) H2;have hw:Rr qR 43 (H2++[.cells (qR (lL c o,w)) 43 .row]) (.slice (some ⟨H2.length,0,none⟩) 1 1) [(lL c o,w)]:=yW (el:=qR) _ H2;obtain⟨H3,hH3⟩:=aD (H2++[Blk.cells (qR (lL c o,w)) 43 .row]);have hul:us.length<1000:=by have:=r2.len;omega
 obtain⟨v',H4,k1,k2,k3,k4,k5⟩:=(r2.rw_.wY [Blk.cells (qR (lL c o,w)) 43 .row]).yX aCM aCL aC (by':=32) hw.rs (aPt (by show us.length+1<3000;omega))
 rw[<-hH3] at k1 k3 k4 k5 es;have h3l:H3.length=H2.length+1:=by rw[hH3];simp
 have hvb:vb<H2.length:=dO r1;have hvh: ¬cJ v vb:=λhh=>by
  obtain⟨cs,hc⟩:=r2.rw_.blk hh;rw[r1] at hc;injection hc with hc;injection hc with _ h2 _
  revert h2
  decide
 have r4:H4[vb]? =some (yA v):=by
  rw[k4 vb U hvh,hH3,aRX hvb,r1]
 have sh:=B3 k2;have st:stN 1 (pt vb) v' H4=some (undef,H4.set vb (yA v')):=qN r4 aC (by simp) sh.1 sh.2
 refine nQ (cH rfl) U ⟨H4.set vb (yA v'),?_,?_,?_⟩
 ·rw[aLM]
  simp -implicitDefEqProofs only[gsR,Nat.add_zero,e0,l6,n1,tE,lv,lc,l13,a1,a3,eb,es,k1,st]
 ·have hfr:Fr (λb=>b=vb∨cJ v b) H2 (H4.set vb (yA v')):=⟨by simp;omega,λb hb hn=>by
   rw[aRV (λhh=>hn (.inl hh.symm)),k4 b U (λhh=>hn (.inr hh)),hH3,aRX hb]⟩
  have hN: ∀b,(b=vb∨cJ v b)-> ¬Un F b/\Hs.length<=b:=λb hb=>by
   rcases hb with rfl|hb
   ·exact⟨h2.vbF,h2.vb0⟩
   ·exact⟨(r2.home b hb).2,(r2.home b hb).1⟩
  have hnF: ∀b,H2.length<=b-> ¬Un F b:=λb hb hu=>by have:=h2.node.sep.rD b hu;omega
  have hs2:=h2.mv.le;refine⟨h2.node.aPp hfr λb hb=>⟨(hN b hb).1,aSa h2.h0 (hN b hb).2⟩,⟨aSa hs2 hfr.1,h2.mv.own,λb hb hF=> ?_⟩,h2.h0,?_,h2.cbF,h2.vbF,h2.vb0,v',us++[(lL c o,w)],fW r4,?_⟩
  ·rw[hfr.2 b (aR9 hb hs2) (λhh=>by have:=(hN b hh).2;omega),h2.mv.keep b hb hF]
  ·rw[hfr.2 cb (dO h2.cell) (λhh=> ?_),h2.cell]
   rcases hh with hh|hh
   ·have:=h2.cell
    rw[hh,r1] at this;injection this with this;injection this with _ h2 _
    revert h2
    decide
   ·obtain⟨cs,hc⟩:=r2.rw_.blk hh
    rw[h2.cell] at hc;injection hc with hc;injection hc with _ h2 _
    revert h2
    decide
  ·have hv'vb: ¬cJ v' vb:=λhh=>by
    rcases k5 vb hh with hh|hh
    ·exact hvh hh
    ·omega
   have keepB: ∀(bv:Value)(bs:List UInt8),By H2 bv bs->By (H4.set vb (yA v')) bv bs:=λbv bs hb=>hb.eY λb hhb=>hfr.2 b (hb.gU hhb) λhh=>by
    obtain⟨cs,hc⟩:=hb.blk hhb;rcases hh with rfl|hh
    ·rw[r1] at hc
     injection hc with hc;injection hc with _ h2 _
     revert h2
     decide
    ·obtain⟨cs',hc'⟩:=r2.rw_.blk hh
     rw[hc] at hc';injection hc' with hc';injection hc' with _ h2 _
     revert h2
     decide
   refine⟨k2.eY λb hb=>aRV λhh=>hv'vb (by rw[hh];exact hb),λb hb=> ?_,by simp[r2.len],λi u oo hu hoo=> ?_⟩
   ·rcases k5 b hb with hh|hh
    ·exact r2.home b hh
    ·exact⟨by omega,hnF b U⟩
   ·by_cases hi:i<us.length
    ·rw[aRX hi] at hu
     rw[aRX (by rw[<-r2.len];exact hi)] at hoo
     obtain⟨g1,g2,g3⟩:=r2.at_ i u oo hu hoo
     exact⟨g1,keepB _ _ g2,g3⟩
    ·have hi2:i=us.length:=by
      have:=(aRU.mp hu).1;simp at this;omega
     subst hi2;rw[aSe (aRZ _),Nat.sub_self] at hu;rw[aSe (by rw[r2.len];exact aRZ _),r2.len,Nat.sub_self] at hoo
     simp only[List.getElem?_cons_zero,aSl] at hu hoo;subst hu hoo;refine⟨rfl,keepB _ _ n2,λb hb=> ?_⟩
     have hbn:=n3 b hb;have hsb:Hs.length<=b:=by
      have:=h.mv.le;have:=x1.1;omega
     refine⟨hsb,λhu=> ?_⟩
     have:=h.node.sep.rD b hu;have:=x1.1;omega
 ·intro b cs e k hb hne hbv
  have hb2:H2[b]? =some (.cells cs e k):=by rw[(x1.tr x2).2 _ (dO hb) id,hb]
  rw[aRV (λhh=>hbv hh.symm),k4 b (by rw[h3l];have:=dO hb2;omega) (λhh=> ?_),hH3,aRX (dO hb2),hb2]
  obtain⟨cs',hc'⟩:=r2.rw_.blk hh;rw[hb2] at hc';injection hc' with hc';injection hc' with _ h2 _;exact hne h2
end
theorem aPz {W:List Int}{x w:Whl}{may:Nat->Bool}(h:lV W x may=(none,w)):w=x:=by
 unfold lV at h
 split at h
 ·split at h
  ·cases h
  ·cases h;rfl
 ·cases h;rfl
theorem aPy {α:Type}(f:Nat->α)(i:Nat):up1 f i (f i)=f:=by
 funext j
 unfold up1;split
 ·rename_i h
  rw[h]
 ·rfl
theorem Eb (y:Lay)(c:Cfg)(H':aF):chk (some (iG y c,H')) (iG y c)=true:=by simp[chk,veq,iG]
section
variable {H0 Hs H : aF} {Fs F : Part → Nat → Prop} {y : Lay} {p : PlanD} {ev wv nv : Value} {c : Cfg} {t : Nat} {s : NS} {m : Nat} {vb cb : Nat} {outs : kJ}
theorem NodeAt.aPv {H':aF}{t' o:Nat}{x':Whl}(h:NodeAt H0 H F y p ev wv nv c t s)(ho:o<c.aK)(hf:Fr (λb=>b=y.wh o∨b=y.wl o) H H')(hB:Blks (mF (y.wh o) (y.ww o) (y.wl o) (y.wc o) (y.lc o) (y.wr o) (y.lr o) c.weights x') H')(hi:NInv c t' {s with whl:=up1 s.whl o x'}):
  NodeAt H0 H' F y p ev wv nv c t' {s with whl:=up1 s.whl o x'}/\Mv (Un F) (Un F) H H':=by
 refine h.D5 (.whl o) (l:=mF (y.wh o) (y.ww o) (y.wl o) (y.wc o) (y.lc o) (y.wr o) (y.lr o) c.weights (s.whl o)) (l':=mF (y.wh o) (y.ww o) (y.wl o) (y.wc o) (y.lc o) (y.wr o) (y.lr o) c.weights x') (by simp only[mG];rw[if_pos ho]) aCv ?_ ?_ hB hi ?_ ?_
 ·intro q hq
  simp only[mF,aSd,aSk,or_false] at hq;rcases hq with rfl|rfl|rfl
  ·exact⟨_,aR3 ..,rfl⟩
  ·exact⟨_,aSb _ (aR3 ..),rfl⟩
  ·exact⟨_,aSb _ (aSb _ (aR3 ..)),rfl⟩
 ·refine hf.Cu λb hb=> ?_
  rcases hb with rfl|rfl
  ·exact⟨_,aR3 ..,rfl⟩
  ·exact⟨_,aSb _ (aSb _ (aR3 ..)),rfl⟩
 ·have e:up1 s.whl o x' o=x':=if_pos rfl
  simp only[mG];rw[if_pos ho,e]
 ·intro j hj
  cases j with
  |whl i'=>
   have e:up1 s.whl o x' i'=s.whl i':=if_neg λhh=>hj (by rw[hh])
   simp only[mG];rw[e]
  |_=>rfl
theorem aPA (h:NodeAt H0 H F y p ev wv nv c t s)(hm:30<m){i o:Nat}(ho:o<c.aK)(hi:NInv c (t+1) {s with whl:=up1 s.whl o (lV c.weights (s.whl o) (iB c s i o)).2}):
  ∃H',lvl prog pkN m (.func 105) [pt (y.wh o),.int .u16 (dU (iB c s i o) c.lanes:Nat)] H=some (qQ (lV c.weights (s.whl o) (iB c s i o)).1,H')/\NodeAt H0 H' F y p ev wv nv c (t+1) {s with whl:=up1 s.whl o (lV c.weights (s.whl o) (iB c s i o)).2}/\Mv (Un F) (Un F) H H':=by
 have hw:=h.ok.wlen;have hl:=h.ok.lanes;have hx:=h.inv.whl o;rw[<-hw] at hx;obtain⟨H',g1,g2,g3⟩:=aOv (m:=m) U (h.aOH ho) (h.lay.ww o ho) hx (λy hy=>by have:=h.ok.wts y hy;omega) U U (dU (iB c s i o) c.lanes) (tC _ U)
 have hc:lV c.weights (s.whl o) (λj=>(dU (iB c s i o) c.lanes).testBit j)=lV c.weights (s.whl o) (iB c s i o):=aOr λj hj=>by
  rw[lW,aSE U,aSh]
 rw[hc] at g1 g3;obtain⟨k1,k2⟩:=h.aPv ho g2 g3 hi
 exact⟨H',g1,k1,k2⟩
theorem aPx (h:NodeAt H0 H F y p ev wv nv c t s)(hm:100<m)(i o k:Nat)(hi:NInv c t {s with rL:=pY s.rL ((i:Int),(o:Int),(k:Int))}):
  ∃H' F',lvl prog pkN m (.func 106) [pt y.rg,.I i,.I o,.I k] H=some (Rg.wG (pZ s.rL ((i:Int),(o:Int),(k:Int))),H')/\NodeAt H0 H' F' y p ev wv nv c t {s with rL:=pY s.rL ((i:Int),(o:Int),(k:Int))}/\Mv (Un F) (Un F') H H':=by
 obtain⟨r,H',F',p1,p2,p3⟩:=(h.sep.own .rings).A7 tW (n:=m) (B:=λr D'=>r=Rg.wG (pZ s.rL ((i:Int),(o:Int),(k:Int)))/\RingsN D' y.rg (pY s.rL ((i:Int),(o:Int),(k:Int))) (c.aK*c.lanes*c.room) c.aK c.lanes) (λD hD=>by
  obtain⟨D',g1,g2⟩:=aNT (m:=m) hD U i o k
  exact⟨_,D',g1,rfl,g2⟩)
 obtain⟨hr,_⟩:=p2.at_;rw[hr] at p1;obtain⟨g4,mv4⟩:=h.Sg (Has.xY p2 λD hD=>hD.2) p3 hi
 exact⟨H',_,p1,g4,mv4⟩
theorem aPw (h:NodeAt H0 H F y p ev wv nv c t s)(hm:10<m)(x:Pkt)(hl:s.hG.length<1000000000)(hi:NInv c t {s with hG:=s.hG++[x]}):
  ∃H' F',lvl prog pkN m (.func 108) [pt y.hb,x.dN] H=some (aL [],H')/\NodeAt H0 H' F' y p ev wv nv c t {s with hG:=s.hG++[x]}/\Mv (Un F) (Un F') H H':=by
 obtain⟨r,H',F',p1,p2,p3⟩:=(h.sep.own .host).A7 tW (n:=m) (B:=λr D'=>r=aL []/\HostAt D' y.hb s.hL (s.hG++[x]) c.lanes c.queue) (λD hD=>by
  obtain⟨w0,w1,w2,cv,hI⟩:=hD;obtain⟨D',g1,g2⟩:=aMS hI (m:=m) U x (iE (n:=1000000001) aC U)
  exact⟨_,D',g1,rfl,g2⟩)
 obtain⟨hr,_⟩:=p2.at_;rw[hr] at p1;obtain⟨g4,mv4⟩:=h.Jm (L:=s.hL) (Has.xY p2 λD hD=>hD.2) p3 hi
 exact⟨H',_,p1,g4,mv4⟩
end
section
variable {H0 Hs H : aF} {Fs F : Part → Nat → Prop} {y : Lay} {p : PlanD} {ev wv nv : Value} {c : Cfg} {t : Nat} {s : NS} {m : Nat} {vb cb : Nat} {outs : kJ}
def Sk (s:NS)(o k:Nat)(x:Pkt):Frm:=⟨1,k,(s.snd o k).pE.1%65536,(x.src%256).toNat,(x.dst%256).toNat,x.body.toNat⟩
theorem aPD (s:NS)(o k:Nat)(x:Pkt)(hk:k<3)(hb:0<=x.body/\x.body<4294967296):(Sk s o k x).ok where
 kind:=by show 1<256;decide
 lane:=by show k<256;omega
 seq:=Nat.mod_lt _ aC
 src:=by show(x.src%256).toNat<256;omega
 dst:=by show(x.dst%256).toNat<256;omega
 body:=by show x.body.toNat<4294967296;omega
theorem aPC (s:NS)(o k:Nat)(x:Pkt)(hb:0<=x.body)(hk:k<3):
  bld prog 39 [(0,.int .u8 1),(1,.int .u8 k),(2,.int .u16 ((s.snd o k).pE.1%65536:Nat)),(3,.int .u8 (x.src%256)),(4,.int .u8 (x.dst%256)),(5,.int .u32 x.body)]=some (frV (Sk s o k x)):=by
 have e1:(((x.src%256).toNat:Nat):Int)=x.src%256:=Int.toNat_of_nonneg (Int.emod_nonneg _ aC)
 have e2:(((x.dst%256).toNat:Nat):Int)=x.dst%256:=Int.toNat_of_nonneg (Int.emod_nonneg _ aC)
 have e3:((x.body.toNat:Nat):Int)=x.body:=Int.toNat_of_nonneg hb;rw[<-e1,<-e2,<-e3];rfl
theorem TickS.b15 {H':aF}{F':Part->Nat->Prop}{b:Nat}{x:Blk}(hm:Mv (Un F) (Un F') H H')(hb:H[b]? =some x)(hF: ¬Un F b):H'[b]? =some x/\ ¬Un F' b:=
 ⟨by rw[hm.keep b (dO hb) hF,hb],λhF'=>(hm.own b hF').elim hF λhl=>by have:=dO hb;omega⟩
def aPB (H0 Hs:aF)(Fs:Part->Nat->Prop)(y:Lay)(p:PlanD)(ev wv nv:Value)(c:Cfg)(t:Nat)(vb cb:Nat)(outs:kJ)(r:NS×kJ)(mb:Nat)(X:Blk)(H':aF)(v:Value):Prop:=
 v=aL []/\H'[mb]? =some X/\ ∃F',TickS H0 Hs H' Fs F' y p ev wv nv c (t+1) r.1 vb cb (outs++r.2)/\ ¬Un F' mb
theorem aPE (h:TickS H0 Hs H Fs F y p ev wv nv c t s vb cb outs)(ht:t<100000000)(hm:300<m){i o:Nat}(hi:i<c.aK)(ho:o<c.aK)(hl:outs.length<1000){mb:Nat}{zs:List Int}(hmb:H[mb]? =some (fD zs []))(hmF: ¬Un F mb)(hmv:mb≠vb):
    ∃H' v,lvl prog pkN m (.func 52) [pt y.nb,.I i,.I o,uB vb cb] H=some (v,H')/\aPB H0 Hs Fs y p ev wv nv c t vb cb outs (pF c s i o) mb (fD zs []) H' v:=by
  have hm0:0<m:=U
  have hn:=h.node;have hlanes:=hn.ok.lanes;have hmono:=hn.inv.tA (Nat.le_succ t);have l13:=hn.ld 13 (iG y c) rfl;obtain⟨b,oo,a1,a2⟩:=hn.zW ho;obtain⟨_,_,_,a3⟩:=a2 _ (.inl hn);obtain⟨H1,m1,x1⟩:=aCF hn U (m:=m-1) U hi ho
  have h1:=h.ext x1;obtain⟨_,_,_,a4⟩:=a2 _ (.inl h1.node);have l13':=h1.node.ld 13 (iG y c) rfl;have hwi:NInv c (t+1) {s with whl:=up1 s.whl o (lV c.weights (s.whl o) (iB c s i o)).2}:={hmono with whl:=aM8 hmono.whl (aNa hn.ok (hmono.whl o) _)};obtain⟨H2,w1,g2,mv2⟩:=aPA h1.node (m:=m-1) U ho hwi
  have h2:=h1.wL g2 mv2;have hb2:=TickS.b15 ((Mv.rB x1 (Un F)).rC mv2) hmb hmF;cases hpk:(lV c.weights (s.whl o) (iB c s i o)).1 with
  |none=>
    obtain⟨w',hw'⟩: ∃w',lV c.weights (s.whl o) (iB c s i o)=(none,w'):=⟨_,Prod.ext hpk rfl⟩;have hr:pF c s i o=(s,[]):=by unfold pF;rw[hw']
    have hww:=aPz hw';rw[hw'] at h2 w1;simp only at h2 w1;rw[hww,aPy] at h2;have c1:decide ((-1:Int)<0)=true:=rfl;refine⟨H2,_,cS (cH rfl) hm0 ?_,rfl,hb2.1,F,?_,hb2.2⟩
    · rw[Qm]
      simp -implicitDefEqProofs only[gsR,l13,a1,a3,m1,a4,xZ,l13',Eb,w1,qQ,c1]
    · rw[hr]
      rw[List.append_nil];exact h2
  |some k=>
    obtain⟨w',hw'⟩: ∃w',lV c.weights (s.whl o) (iB c s i o)=(some k,w'):=⟨_,Prod.ext hpk rfl⟩;rw[hw'] at h2 w1 hwi;simp only at h2 w1 hwi;obtain⟨hkl,hmk⟩:=aM9 hw';rw[hn.ok.wlen] at hkl;have c1:decide ((k:Int)<0)=false:=by rw[decide_eq_false_iff_not];omega
    -- the queue has one
    have hq0:0<qP s.rL i o k:=by
      unfold iB at hmk;rw[aR2,aR2,decide_eq_true_eq,decide_eq_true_eq] at hmk;exact hmk.1.2
    obtain⟨x,xs,hq⟩: ∃x xs,pZ s.rL ((i:Int),(o:Int),(k:Int))=x::xs:=by
      unfold qP at hq0;cases hh:pZ s.rL ((i:Int),(o:Int),(k:Int)) with
      |nil=>rw[hh] at hq0;simp at hq0
      |cons x xs=>exact⟨x,xs,rfl⟩
    have hxm:x∈pZ s.rL ((i:Int),(o:Int),(k:Int)):=by rw[hq];exact aR3 ..
    obtain⟨e,he1,he2,_⟩:=aM7 hxm;have hpk0:=hn.inv.rL e he1;rw[he2] at hpk0;have hr:pF c s i o=if o=0 then({s with whl:=up1 s.whl o w',rL:=pY s.rL ((i:Int),(o:Int),(k:Int)),rcv:=vB s i k,hG:=s.hG++[x]},[])
        else({s with whl:=up1 s.whl o w',rL:=pY s.rL ((i:Int),(o:Int),(k:Int)),rcv:=vB s i k,snd:=up2 s.snd o k (s.snd o k).pE.2},[(lL c o,qO (Sk s o k x))]):=by
      unfold pF;rw[hw'];simp only;rw[hq];by_cases h0:o=0
      · rw[if_pos h0,if_pos h0]
        rfl
      · rw[if_neg h0,if_neg h0]
        unfold tY lL;rw[if_neg h0];rfl
    have hi3:NInv c (t+1) {s with whl:=up1 s.whl o w',rL:=pY s.rL ((i:Int),(o:Int),(k:Int))}:={hwi with rL:=λe he=>hwi.rL e (aM6 he),rN:=aSa (aM5 _ _) hwi.rN}
    obtain⟨H3,F3,p1,g3,mv3⟩:=aPx h2.node (m:=m-1) U i o k hi3
    have h3:=h2.wL g3 mv3;have hb3:=TickS.b15 mv3 hb2.1 hb2.2;have p1:lvl prog pkN (m-1) (.func 106) [pt y.rg,.I i,.I o,.I k] H2=some (.tuple #[x.dN,.bool true],H3):=by
      rw[p1];show some (Rg.wG (pZ s.rL ((i:Int),(o:Int),(k:Int))),H3)=_
      rw[hq];rfl
    obtain⟨H4,hH4⟩:=aD (H3++[dK x]);have x4:Ext H3 H4:=by rw[hH4];exact Fr.app _ _ _
    have h4:=h3.ext x4;have q4:H4[H3.length]? =some (dK x):=by rw[hH4];exact eD _ _
    have qF4: ¬Un F3 H3.length:=λhu=>by have:=h3.node.sep.rD _ hu;omega
    have hb4:=TickS.b15 (Mv.rB x4 (Un F3)) hb3.1 hb3.2;have l15:=h2.node.ld 15 (pt y.rg) rfl
    -- behind the pop: the lane of the input is free
    have free: ∃H5,TickS H0 Hs H5 Fs F3 y p ev wv nv c (t+1) {s with whl:=up1 s.whl o w',rL:=pY s.rL ((i:Int),(o:Int),(k:Int)),rcv:=vB s i k} vb cb outs/\H5[H3.length]? =some (dK x)/\H5[mb]? =some (fD zs [])/\
        ((i=0/\H5=H4)∨(0<i/\ ∃u,lvl prog pkN (m-1) (.func 107) [pt (y.rb i k)] H4=some (u,H5))):=by
      by_cases hi0:i=0
      · refine⟨H4,?_,q4,hb4.1,.inl ⟨hi0,rfl⟩⟩
        have:vB s i k=s.rcv:=by unfold vB;rw[if_pos hi0]
        rw[this];exact h4
      · obtain⟨H5,u,r1,r2⟩:=aMq (m:=m-1) U (h4.node.Jg U hi hkl) (h4.node.Jh U i k)
        have hfr:vB s i k=up2 s.rcv i k (s.rcv i k).wF:=by unfold vB;rw[if_neg hi0]
        have hi5:NInv c (t+1) {s with whl:=up1 s.whl o w',rL:=pY s.rL ((i:Int),(o:Int),(k:Int)),rcv:=up2 s.rcv i k (s.rcv i k).wF}:={hi3 with rcv:=Bq hi3.rcv (hi3.rcv i k).aMY};obtain⟨g5,mv5⟩:=h4.node.Sc U hi hkl r2 hi5
        refine⟨H5,?_,(TickS.b15 mv5 q4 qF4).1,(TickS.b15 mv5 hb4.1 hb4.2).1,.inr ⟨by omega,u,r1⟩⟩
        rw[hfr];exact h4.wL g5 mv5
    obtain⟨H5,h5,q5,hb5,hfree⟩:=free
    -- behind that: it is at the host, or on its way
    have hi5:=h5.node.inv;obtain⟨l0,l1,l2,l3,l4⟩:ld1 (.pointer (some ⟨H3.length,0,none⟩)) H5=some (.int .i64 x.src,H5)/\ld1 (.pointer (some ⟨H3.length,1,none⟩)) H5=some (.int .i64 x.dst,H5)/\ld1 (.pointer (some ⟨H3.length,2,none⟩)) H5=some (.int .i64 x.lane,H5)/\ld1 (.pointer (some ⟨H3.length,3,none⟩)) H5=some (.int .u32 x.body,H5)/\ldN 4 (.pointer (some ⟨H3.length,0,none⟩)) H5=some (x.dN,H5):=⟨dI q5 rfl,dI q5 rfl,dI q5 rfl,dI q5 rfl,(rK q5).2⟩;have hst:=Si H3 x;rw[<-hH4] at hst;have ifree:0<i-> ∃bi oi bj oj,aT 3 (iG y c) (.int .i64 (i:Int))=some (.pointer (some ⟨bi,oi,none⟩))/\ld1 (.pointer (some ⟨bi,oi+1,none⟩)) H4=some (nU y c i,H4)/\aT 2 (nU y c i) (.int .i64 (k:Int))=some (.pointer (some ⟨bj,oj,none⟩))/\ld1 (.pointer (some ⟨bj,oj+1,none⟩)) H4=some (pt (y.rb i k),H4):=λhpos=>by
      obtain⟨bi,oi,j1,j2⟩:=h4.node.zW hi;obtain⟨_,_,j3,_⟩:=j2 _ (.inl h4.node);obtain⟨bj,oj,j4,_,_,j5⟩:=h4.node.D6 U hi hkl
      exact⟨bi,oi,bj,oj,j1,j3,j4,j5⟩
    have l13'':=h4.node.ld 13 (iG y c) rfl;by_cases ho0:o=0
    · rw[if_pos ho0] at hr
      have c3:((o:Int)==0)=true:=by rw[ho0];rfl
      have hgl:s.hG.length<=t:=hn.inv.hG;have hi6:NInv c (t+1) {s with whl:=up1 s.whl o w',rL:=pY s.rL ((i:Int),(o:Int),(k:Int)),rcv:=vB s i k,hG:=s.hG++[x]}:={hi5 with hG:=by simp;omega}
      obtain⟨H6,F6,k1,g6,mv6⟩:=aPw h5.node (m:=m-1) U x (by show s.hG.length<_;omega) hi6
      have h6:=h5.wL g6 mv6;have hb6:=TickS.b15 mv6 hb5 hb4.2;have l14:=h5.node.ld 14 (pt y.hb) rfl;refine⟨H6,aL [],cS (cH rfl) hm0 ?_,rfl,hb6.1,F6,by rw[hr,List.append_nil];exact h6,hb6.2⟩
      rw[Qm];rcases hfree with⟨hi0,hH5⟩|⟨hpos,u,r1⟩
      · have c2:decide ((0:Int)<(i:Int))=false:=by rw[decide_eq_false_iff_not];omega
        rw[hH5] at l14 l4 k1;simp -implicitDefEqProofs only[gsR,l13,a1,a3,m1,a4,xZ,l13',Eb,w1,qQ,c1,l15,p1,tE,B2,hst,<-hH4,c2,c3,l14,l4,k1]
      · have c2:decide ((0:Int)<(i:Int))=true:=by rw[decide_eq_true_eq];omega
        obtain⟨bi,oi,bj,oj,j1,j2,j3,j4⟩:=ifree hpos;simp -implicitDefEqProofs only[gsR,l13,a1,a3,m1,a4,xZ,l13',Eb,w1,qQ,c1,l15,p1,tE,B2,hst,<-hH4,c2,l13'',j1,j2,j3,j4,r1,c3,l14,l4,k1]
    · rw[if_neg ho0] at hr
      have c3:((o:Int)==0)=false:=by rw[beq_eq_false_iff_ne];omega
      obtain⟨H6,r6,p6⟩:=aMw (m:=m-1) U (h5.node.Ji U ho hkl) (h5.node.Sd U o k)
      have hi6:NInv c (t+1) {s with whl:=up1 s.whl o w',rL:=pY s.rL ((i:Int),(o:Int),(k:Int)),rcv:=vB s i k,snd:=up2 s.snd o k (s.snd o k).pE.2}:={hi5 with snd:=Bq hi5.snd (hn.inv.snd o k).aM1};obtain⟨g6,mv6⟩:=h5.node.aCs U ho hkl p6 hi6
      have h6:=h5.wL g6 mv6;have q6:=(TickS.b15 mv6 q5 qF4).1;have hb6:=TickS.b15 mv6 hb5 hb4.2;obtain⟨n0,n1,n3⟩:ld1 (.Q H3.length 0) H6=some (.I x.src,H6)/\ld1 (.Q H3.length 1) H6=some (.I x.dst,H6)/\ld1 (.Q H3.length 3) H6=some (.int .u32 x.body,H6):=⟨dI q6 rfl,dI q6 rfl,dI q6 rfl⟩;obtain⟨H7,s7,h7,hk7⟩:=Sj h6 (m:=m-1) U ho (aPD s o k x U hpk0.body) hl
      have hb7:=hk7 mb _ _ _ hb6.1 aC hmv
      obtain⟨bi',oi',i1,i2⟩:=h5.node.zW ho;obtain⟨_,_,i3,_⟩:=i2 _ (.inl h5.node);obtain⟨rfl,rfl⟩:bi'=b/\oi'=oo:=by
        have:=i1.symm.trans a1;simpa using this
      obtain⟨bj',oj',i4,_,i5,_⟩:=h5.node.D6 U ho hkl
      have l13c:=h5.node.ld 13 (iG y c) rfl;have ek:IntKind.u8.wrap (k:Int)=(k:Int):=by rw[Cz];omega
      have eq:IntKind.u16.wrap ((s.snd o k).pE.1:Int)=(((s.snd o k).pE.1%65536:Nat):Int):=Do _;have ebl:=aPC s o k x hpk0.body.1 U
      have r6:lvl prog pkN (m-1) (.func 109) [pt (y.sb o k)] H5=some (.tuple #[.int .u64 (s.snd o k).pE.1,.bool (decide ((s.snd o k).l≠(s.snd o k).s))],H6):=r6;refine⟨H7,aL [],cS (cH rfl) hm0 ?_,rfl,hb7,F3,by rw[hr];exact h7,hb6.2⟩
      rw[Qm];rcases hfree with⟨hi0,hH5⟩|⟨hpos,u,r1⟩
      · have c2:decide ((0:Int)<(i:Int))=false:=by rw[decide_eq_false_iff_not];omega
        rw[hH5] at l13c i3 i5 r6;simp -implicitDefEqProofs only[gsR,Nat.add_zero,l13,a1,a3,m1,a4,xZ,l13',Eb,w1,qQ,c1,l15,p1,tE,B2,hst,<-hH4,c2,c3,l13c,i1,i3,i4,i5,r6,fU _ _ iU u8U,fU _ _ sF oG,ek,eq,n0,n1,n3,Cz,ebl,s7]
      · have c2:decide ((0:Int)<(i:Int))=true:=by rw[decide_eq_true_eq];omega
        obtain⟨bi,oi,bj,oj,j1,j2,j3,j4⟩:=ifree hpos;simp -implicitDefEqProofs only[gsR,Nat.add_zero,l13,a1,a3,m1,a4,xZ,l13',Eb,w1,qQ,c1,l15,p1,tE,B2,hst,<-hH4,c2,l13'',j1,j2,j3,j4,r1,c3,l13c,i1,i3,i4,i5,r6,fU _ _ iU u8U,fU _ _ sF oG,ek,eq,n0,n1,n3,Cz,ebl,s7]
end
def exF (s:NS)(c:Cfg)(i k:Nat):kJ:=[tY c i ⟨3,k,(s.snd i k).s%65536,0,0,0⟩,tY c i ⟨2,k,(s.rcv i k).mZ c.room%65536,0,0,0⟩]
def uC (s:NS)(c:Cfg)(i k:Nat):kJ:=(List.range k).flatMap (exF s c i)
def exP (s:NS)(c:Cfg)(i:Nat):kJ:=if i=0 then [] else uC s c i c.lanes
def rM (s:NS)(c:Cfg)(i:Nat):kJ:=(List.range i).flatMap (exP s c)
theorem aCO (s:NS)(c:Cfg)(i k:Nat):uC s c i (k+1)=uC s c i k++exF s c i k:=by
 unfold uC;rw[aSt,List.flatMap_append];simp
theorem So (s:NS)(c:Cfg)(i:Nat):rM s c (i+1)=rM s c i++exP s c i:=by
 unfold rM;rw[aSt,List.flatMap_append];simp
theorem Sm (s:NS)(c:Cfg)(i:Nat): ∀k,(uC s c i k).length=2*k
 |0=>rfl
 |k+1=>by
  rw[aCO,aR6,Sm s c i k];simp[exF];omega
theorem aCP (s:NS)(c:Cfg)(h3:c.lanes<=3): ∀i,(rM s c i).length<=6*i
 |0=>by simp[rM]
 |i+1=>by
  rw[So,aR6];have:=aCP s c h3 i;have:(exP s c i).length<=6:=by
   unfold exP;split
   ·simp
   ·rw[Sm]
    omega
  omega
theorem aPH (s:NS)(c:Cfg):oO c s=rM s c c.aK:=by
 unfold oO rM Cfg.aK;rw[List.range_succ_eq_map,List.flatMap_cons,List.flatMap_map];have:exP s c 0=[]:=rfl;rw[this,List.nil_append];rfl
section
variable {H0 Hs H : aF} {Fs F : Part → Nat → Prop} {y : Lay} {p : PlanD} {ev wv nv : Value} {c : Cfg} {t : Nat} {s : NS} {m : Nat} {vb cb : Nat} {outs : kJ}
theorem aPG (k q:Nat):bld prog 39 [(0,.int .u8 3),(1,.int .u8 k),(2,.int .u16 q)]=some (frV ⟨3,k,q,0,0,0⟩):=rfl
theorem aPF (k q:Nat):bld prog 39 [(0,.int .u8 2),(1,.int .u8 k),(2,.int .u16 q)]=some (frV ⟨2,k,q,0,0,0⟩):=rfl
theorem aCQ (a k q:Nat)(ha:a<256)(hk:k<256):(⟨a,k,q%65536,0,0,0⟩:Frm).ok:=⟨ha,hk,Nat.mod_lt _ aC,by show 0<256;decide,by show 0<256;decide,by show 0<4294967296;decide⟩
theorem aPI {i:Nat}(h1:1<=i)(hi:i<c.aK)(h3:c.lanes<=3)(ht:t<100000000)(hol:outs.length<900)(hm:220<m){K:Ex->K (Value×aF)}{Q:aF->Value->Prop}
  (hK: ∀H',TickS H0 Hs H' Fs F y p ev wv nv c t s vb cb (outs++uC s c i c.lanes)-> ∀(x2 x3 x4 x5 x6 x7 x8 x9 bS aS aQ aW aX aU bA bP bQ bO bK aY bC bE bG bH bI bJ bM bN bU cK cL cD bV bX bY b9 cA cF cM cO cP cT dB:Value),∃H2 r,Ik (lvl prog pkN m) (aM m) K (pt y.nb) (uB vb cb) x2 x3 x4 x5 x6 x7 x8 x9 bS (iG y c) (.I c.aK) (.I (i:Nat)) aS aQ aW aX aU bA bP bQ bO bK aY bC bE bG bH bI bJ bM bN bU cK cL cD bV bX bY b9 cA cF cM cO cP cT dB H'=some (r,H2)/\Q H2 r):
  ∀(q k l:Nat)(H:aF),c.lanes-k=q->k<=c.lanes->q<l->TickS H0 Hs H Fs F y p ev wv nv c t s vb cb (outs++uC s c i k)-> ∀(x2 x3 x5 x6 x7 x8 x9 bS aS aQ aW aX aU bO bK aY bC bE bG bH bI bJ bM bN bU cK cL cD bV bX bY b9 cA cF cM cO cP cT dB:Value),
  ∃H2 r,aM l (aN prog (lvl prog pkN m) (aM m) Qp) (Qr (lvl prog pkN m) (aM m) K) [(pt y.nb),(uB vb cb),x2,x3,(.I (i:Nat)),x5,x6,x7,x8,x9,bS,(iG y c),(.I c.aK),(.I (i:Nat)),aS,aQ,aW,aX,aU,(nU y c i),(.I c.lanes),(.I (k:Nat)),bO,bK,aY,bC,bE,bG,bH,bI,bJ,bM,bN,bU,cK,cL,cD,bV,bX,bY,b9,cA,cF,cM,cO,cP,cT,dB] H=some (r,H2)/\Q H2 r:=by
 intro q;induction q with
 |zero=>
  intro k l H hq hk hl h;intros;obtain⟨l,rfl⟩: ∃l',l=l'+1:=⟨l-1,by omega⟩
  have hke:k=c.lanes:=U
  subst hke;have c1:decide ((c.lanes:Int)<(c.lanes:Int))=false:=by simp
  rw[aM,Qn];simp -implicitDefEqProofs only[gsR,c1];rw[aAQ];exact hK H h ..
 |succ q ih=>
  intro k l H hq hk hl h;intros;obtain⟨l,rfl⟩: ∃l',l=l'+1:=⟨l-1,by omega⟩
  have hkl:k<c.lanes:=U
  have c1:decide ((k:Int)<(c.lanes:Int))=true:=by rw[decide_eq_true_eq];omega
  have hil:=Sm s c i k;obtain⟨b,o,a1,a2,_,_⟩:=h.node.D6 h1 hi hkl;have a2:ldN 2 (.Q b o) H=some (.agg #[pt (y.sb i k),pt (y.rb i k)],H):=a2;obtain⟨H1,hH1⟩:=aD (H++[kX (pt (y.sb i k)) (pt (y.rb i k))]);have x1:Ext H H1:=by rw[hH1];exact Fr.app _ _ _
  have g1:=h.ext x1;have st:=Sh H (pt (y.sb i k)) (pt (y.rb i k)) rfl;rw[<-hH1] at st;have b1:H1[H.length]? =some (kX (pt (y.sb i k)) (pt (y.rb i k))):=by rw[hH1];exact eD _ _
  have l0:=(B1 b1).2.1;have s1:=aMx (m:=m) U (g1.node.Ji h1 hi hkl)
  have ek:IntKind.u8.wrap (k:Int)=(k:Int):=by rw[Cz];omega
  have e1:IntKind.u16.wrap ((s.snd i k).s:Int)=(((s.snd i k).s%65536:Nat):Int):=Do _;obtain⟨H2,r1,g2,k2⟩:=Sj g1 (m:=m) U hi (aCQ 3 k (s.snd i k).s aC U) (by rw[aR6];omega)
  have hvb:H.length≠vb:=λhh=>by
   obtain⟨v,us,r,_⟩:=h.rows;have:=dO r;omega
  have b2:H2[H.length]? =some (kX (pt (y.sb i k)) (pt (y.rb i k))):=k2 _ _ _ _ b1 aC hvb
  have l1:=(B1 b2).2.2;have s2:=aMs (m:=m) U (g2.node.Jg h1 hi hkl) (g2.node.Jh U i k)
  have e2:IntKind.u16.wrap (((s.rcv i k).mZ c.room:Nat):Int)=(((s.rcv i k).mZ c.room%65536:Nat):Int):=Do _;obtain⟨H3,r2,g3,_⟩:=Sj g2 (m:=m) U hi (aCQ 2 k ((s.rcv i k).mZ c.room) aC U) (by simp only[aR6,aSg,List.length_nil];omega)
  have e9:=pI k U
  have hto:lL c i=c.by'.getD (i-1) 0:=by unfold lL;rw[if_neg U]
  have hnext:outs++uC s c i k++[(lL c i,qO ⟨3,k,(s.snd i k).s%65536,0,0,0⟩)]++[(lL c i,qO ⟨2,k,(s.rcv i k).mZ c.room%65536,0,0,0⟩)]=outs++uC s c i (k+1):=by
   rw[aCO,hto];simp[exF,tY]
  rw[hnext] at g3;rw[aM,Qn];simp -implicitDefEqProofs only[gsR,c1,a1,a2,D9,st,fU _ _ iU u8U,ek,l0,s1,fU _ _ sF oG,e1,aPG,r1,l1,s2,e2,aPF,r2,cR,e9];exact ih (k+1) l H3 U U U g3 ..
theorem aPK (h3:c.lanes<=3)(h6:c.aK<=6)(ht:t<100000000)(hol:outs.length<800)(hm:300<m):
  ∀(q i l:Nat)(H:aF),c.aK-i=q->i<=c.aK->q<l->TickS H0 Hs H Fs F y p ev wv nv c t s vb cb (outs++rM s c i)-> ∀(x2 x3 x4 x5 x6 x7 x8 x9 bS aS aQ aW aX aU bA bP bQ bO bK aY bC bE bG bH bI bJ bM bN bU cK cL cD bV bX bY b9 cA cF cM cO cP cT dB:Value),
  ∃H2 r,aM l (aN prog (lvl prog pkN m) (aM m) Qo) (Qq (lvl prog pkN m) (aM m)) [(pt y.nb),(uB vb cb),x2,x3,x4,x5,x6,x7,x8,x9,bS,(iG y c),(.I c.aK),(.I (i:Nat)),aS,aQ,aW,aX,aU,bA,bP,bQ,bO,bK,aY,bC,bE,bG,bH,bI,bJ,bM,bN,bU,cK,cL,cD,bV,bX,bY,b9,cA,cF,cM,cO,cP,cT,dB] H=some (r,H2)/\(r=aL []/\TickS H0 Hs H2 Fs F y p ev wv nv c t s vb cb (outs++oO c s)):=by
 intro q;induction q with
 |zero=>
  intro i l H hq hi hl h;intros;obtain⟨l,rfl⟩: ∃l',l=l'+1:=⟨l-1,by omega⟩
  have hie:i=c.aK:=U
  subst hie;have c1:decide ((c.aK:Int)<(c.aK:Int))=false:=by simp
  rw[aM,aAP];simp -implicitDefEqProofs only[gsR,c1];rw[aLW];rw[aPH]
  exact⟨_,_,rfl,rfl,h⟩
 |succ q ih=>
  intro i l H hq hi hl h;intros;obtain⟨l,rfl⟩: ∃l',l=l'+1:=⟨l-1,by omega⟩
  have hil:i<c.aK:=U
  have c1:decide ((i:Int)<(c.aK:Int))=true:=by rw[decide_eq_true_eq];omega
  have hul:=aCP s c h3 i;obtain⟨b,o,a1,a2⟩:=h.node.zW hil;obtain⟨a3,_,_,_⟩:=a2 _ (.inl h.node);obtain⟨H1,hH1⟩:=aD (H++[oR y c i]);have x1:Ext H H1:=by rw[hH1];exact Fr.app _ _ _
  have g1:=h.ext x1;have hlv:dV [nU y c i]=true:=by unfold nU;split<;>rfl
  have st:stN 3 (.pointer (some ⟨H.length,0,none⟩)) (.agg ⟨fV y c i⟩) (H++[Blk.cells [Value.int .i64 0,.slice none 0 0,.pointer none] 94 .fix])=some (undef,H1):=by
   rw[wD (n:=3) (vs:=fV y c i) (eD H _) aC rfl rfl (aRZ 3) (by unfold fV nU;split<;>rfl),mW,hH1]
   rfl
  have b1:H1[H.length]? =some (oR y c i):=by rw[hH1];exact eD _ _
  have l1:ld1 (.Q H.length 1) H1=some (nU y c i,H1):=dI b1 rfl;have e9:=pI i U
  rw[aM,aAP];by_cases hi0:i=0
  ·have e1:aZ (nU y c i)=some (.I 0):=by unfold nU;rw[if_pos hi0];rfl
   simp -implicitDefEqProofs only[gsR,c1,a1,a3,st,l1,e1];have hx:outs++rM s c (i+1)=outs++rM s c i:=by rw[So];unfold exP;rw[if_pos hi0,List.append_nil]
   obtain⟨m',hm'⟩: ∃m',m=m'+1:=⟨m-1,by omega⟩
   have c2:decide ((0:Int)<0)=false:=rfl;rw[show aM m=aM (m'+1) by rw[hm'],aM,<-hm',Qn]
   simp -implicitDefEqProofs only[gsR,c2];rw[aAQ];unfold Ik;simp -implicitDefEqProofs only[gsR,cR,e9];exact ih (i+1) l H1 U U U (by rw[hx];exact g1) ..
  ·have e1:aZ (nU y c i)=some (.I c.lanes):=by unfold nU;rw[if_neg hi0];rfl
   simp -implicitDefEqProofs only[gsR,c1,a1,a3,st,l1,e1];refine aPI (outs:=outs++rM s c i) U hil h3 ht (by rw[aR6];omega) U ?_ c.lanes 0 m H1 U U U (by unfold uC;simpa using g1) ..
   intro H' h';intros;unfold Ik;simp -implicitDefEqProofs only[gsR,cR,e9];have hx:outs++rM s c (i+1)=outs++rM s c i++uC s c i c.lanes:=by rw[So];unfold exP;rw[if_neg hi0,aR1]
   exact ih (i+1) l H' U U U (by rw[hx];exact h') ..
theorem aPJ (h:TickS H0 Hs H Fs F y p ev wv nv c t s vb cb outs)(ht:t<100000000)(hol:outs.length<800)(hm:400<m):
  ∃H2,lvl prog pkN m (.func 53) [pt y.nb,uB vb cb] H=some (aL [],H2)/\TickS H0 Hs H2 Fs F y p ev wv nv c t s vb cb (outs++oO c s):=by
 have h6:c.aK<=6:=by have:=h.node.ok.by';unfold Cfg.aK;omega
 have main: ∃H2 r,lvl prog pkN m (.func 53) [pt y.nb,uB vb cb] H=some (r,H2)/\(r=aL []/\TickS H0 Hs H2 Fs F y p ev wv nv c t s vb cb (outs++oO c s)):=by
  refine gN (cH rfl) U ?_
  rw[aLX];have l13:=h.node.ld 13 (iG y c) rfl;have e1:aZ (iG y c)=some (.I c.aK):=rfl;simp -implicitDefEqProofs only[gsR,l13,e1];exact aPK h.node.ok.lanes.2 h6 ht hol U c.aK 0 (m-1) H U U U (by unfold rM;simpa using h) ..
 obtain⟨H2,r,g1,rfl,g2⟩:=main
 exact⟨H2,g1,g2⟩
end
end Go.Proofs.YtkeilicinggjmaaGreatDoor
