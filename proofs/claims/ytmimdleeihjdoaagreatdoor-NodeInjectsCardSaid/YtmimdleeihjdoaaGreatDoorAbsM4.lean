/-
  PARTS OF THIS CLAIM'S PROOF, laid together by a program of mine.
-/
import Derived.Test.YtmimdleeihjdoaaGreatDoorProg
import Derived.Ground.NamesProg
import Derived.Shelf.Sort.Plain
import Derived.Shelf.Slices.In.SortNone
import Derived.Test.YtmimdleeihjdoaaGreatDoorAbsM2
import Derived.Test.YtmimdleeihjdoaaGreatDoorAbsM1
import Derived.Calls
import Derived.LoopN
import Derived.Orders
import Derived.Laws.Sem
import Derived.Laws.Tables
import Derived.Laws.Cells
import Derived.Laws.StructEq
import Derived.Laws.Append
import Derived.Laws.MakeOwn
import Derived.Laws.Slices
import Derived.Lib.UnsafeStr
import Derived.Laws.BytesString
import Derived.Laws.BytesArg
import Derived.Laws.Pointers
import Derived.Lib.SliceRun
import Derived.Laws.Cover3
import Derived.MapKept
import Derived.WideKeyRuns
import Derived.Scope
import Derived.ProofKit
import Derived.RowKit
import Derived.RowKit3
import Derived.ChangeSame
import Derived.OpenShut
import Derived.Deep.Slices
import Derived.SizedLaws
import Derived.Test.YtmimdleeihjdoaaGreatDoorAbsM3
import Derived.KernelRfl
import Derived.Sort.Grow
import Derived.RangeFuncNested
import Derived.RangeFuncBound
import Derived.RangeFuncCalls
import Derived.RangeFuncLeaves
import Derived.Shelf.Abstract
import Derived.Shelf.RegionOpen
import Derived.WalkKit
import Derived.OwnWalkIn
import Derived.TacticsInMore
import Derived.LoopNIn
import Derived.LoopIn
import Derived.Lib.TrailingZeros
import Derived.Tactics
import Derived.Tactics2
set_option linter.unusedVariables false
set_option linter.unusedSimpArgs false
namespace Go.Proofs.YtmimdleeihjdoaaGreatDoor
open Go.Proofs.Tryz
open Go.Shelf
def Tryz.aEv:Go.Shelf.Ren:=⟨λ|189=>169|125=>232|257=>231|128=>269|129=>270|294=>260|295=>261|296=>262|297=>263|298=>264|299=>265|216=>266|300=>267|301=>268|328=>278|329=>279|330=>280|331=>281|332=>282|215=>283|343=>284|n=>n,λ|28=>37|3=>3|46=>187|0=>0|51=>29|53=>83|4=>4|183=>355|182=>354|131=>334|5=>5|9=>9|218=>369|222=>372|228=>375|229=>376|n=>n,λ|n=>n⟩
theorem Tryz.Sh:Go.Proofs.Lays.n189 prog Tryz.aEv:={
 mixed:=by kernel_rfl
 f125:=Tryz.func232.trans (congrArg some (by kernel_rfl))
 f128:=Tryz.func269.trans (congrArg some (by kernel_rfl))
 f129:=Tryz.func270.trans (congrArg some (by kernel_rfl))
 f189:=Tryz.func169.trans (congrArg some (by kernel_rfl))
 f215:=Tryz.func283.trans (congrArg some (by kernel_rfl))
 f216:=Tryz.func266.trans (congrArg some (by kernel_rfl))
 f257:=Tryz.func231.trans (congrArg some (by kernel_rfl))
 f294:=Tryz.func260.trans (congrArg some (by kernel_rfl))
 f295:=Tryz.func261.trans (congrArg some (by kernel_rfl))
 f296:=Tryz.func262.trans (congrArg some (by kernel_rfl))
 f297:=Tryz.func263.trans (congrArg some (by kernel_rfl))
 f298:=Tryz.func264.trans (congrArg some (by kernel_rfl))
 f299:=Tryz.func265.trans (congrArg some (by kernel_rfl))
 f300:=Tryz.func267.trans (congrArg some (by kernel_rfl))
 f301:=Tryz.func268.trans (congrArg some (by kernel_rfl))
 f328:=Tryz.func278.trans (congrArg some (by kernel_rfl))
 f329:=Tryz.func279.trans (congrArg some (by kernel_rfl))
 f330:=Tryz.func280.trans (congrArg some (by kernel_rfl))
 f331:=Tryz.func281.trans (congrArg some (by kernel_rfl))
 f332:=Tryz.func282.trans (congrArg some (by kernel_rfl))
 f343:=Tryz.func284.trans (congrArg some (by kernel_rfl))
 t0:=Tryz.underlying0
 a0:=Tryz.isAgg0
 z0:=Tryz.sizeOf0
 v0:=Tryz.zeroValue0
 t3:=Tryz.underlying3
 a3:=Tryz.isAgg3
 z3:=Tryz.sizeOf3
 v3:=Tryz.zeroValue3
 t4:=Tryz.underlying4
 a4:=Tryz.isAgg4
 z4:=Tryz.sizeOf4
 v4:=Tryz.zeroValue4
 t5:=Tryz.underlying5
 a5:=Tryz.isAgg5
 z5:=Tryz.sizeOf5
 v5:=Tryz.zeroValue5
 t9:=Tryz.underlying9
 a9:=Tryz.isAgg9
 z9:=Tryz.sizeOf9
 v9:=Tryz.zeroValue9
 t28:=Tryz.underlying37
 a28:=Tryz.isAgg37
 z28:=Tryz.sizeOf37
 v28:=Tryz.zeroValue37
 t46:=Tryz.underlying187
 a46:=Tryz.isAgg187
 z46:=Tryz.sizeOf187
 v46:=Tryz.zeroValue187
 t51:=Tryz.underlying29
 a51:=Tryz.isAgg29
 z51:=Tryz.sizeOf29
 v51:=Tryz.zeroValue29
 t53:=Tryz.underlying83
 a53:=Tryz.isAgg83
 z53:=Tryz.sizeOf83
 v53:=Tryz.zeroValue83
 t131:=Tryz.underlying334
 a131:=Tryz.isAgg334
 z131:=Tryz.sizeOf334
 v131:=Tryz.zeroValue334
 t182:=Tryz.underlying354
 a182:=Tryz.isAgg354
 z182:=Tryz.sizeOf354
 v182:=Tryz.zeroValue354
 t183:=Tryz.underlying355
 a183:=Tryz.isAgg355
 z183:=Tryz.sizeOf355
 v183:=Tryz.zeroValue355
 t218:=Tryz.underlying369
 a218:=Tryz.isAgg369
 z218:=Tryz.sizeOf369
 v218:=Tryz.zeroValue369
 t222:=Tryz.underlying372
 a222:=Tryz.isAgg372
 z222:=Tryz.sizeOf372
 v222:=Tryz.zeroValue372
 t228:=Tryz.underlying375
 a228:=Tryz.isAgg375
 z228:=Tryz.sizeOf375
 v228:=Tryz.zeroValue375
 t229:=Tryz.underlying376
 a229:=Tryz.isAgg376
 z229:=Tryz.sizeOf376
 v229:=Tryz.zeroValue376}
end Go.Proofs.YtmimdleeihjdoaaGreatDoor
namespace Go.Abs
def gsR:=And.intro @r_opt (And.intro @r_ret (And.intro @ob_some (And.intro @ifB_true (And.intro @iteV_true (And.intro @iteV_false (And.intro @r_gdt (And.intro @r_gdt2 (And.intro @r_gdtf (And.intro @r_gdtf2 (And.intro @r_gdff (And.intro @r_gdff2 (And.intro @r_gdft (And.intro @r_gdft2 (And.intro @r_gdu (And.intro @r_gdu2 (And.intro @pick_t (And.intro @pick_f (And.intro @ext_0 (And.intro @ext_1 (And.intro @x_newB (And.intro @r_nil (And.intro @r_fAddr (And.intro @Nat.zero_add (And.intro @b_lss (And.intro @b_leq (And.intro @b_gtr (And.intro @b_geq (And.intro @b_eql (And.intro @b_neq (And.intro @u_not (And.intro @Bool.not_true (And.intro @Bool.not_false (And.intro @oneOf_one (And.intro @oneOf_two (And.intro @again_normal (And.intro @again_exit (And.intro @again_ret @Bool.and_true)))))))))))))))))))))))))))))))))))))
end Go.Abs
set_option maxRecDepth 100000
namespace Go.Proofs.YtmimdleeihjdoaaGreatDoor
open Go.Proofs.Tryz
open Go.Abs
theorem aEx:SortOk prog 169:=⟨enters_of Tryz.func169 (by kernel_rfl) rfl,Any.slices_Sort_int_none Tryz.Sh,Any.slices_Sort_int Tryz.Sh⟩
theorem Si:prog.follows .mixedOrders=true:=by kernel_rfl
theorem aEw:PrimsOk prog (rR []):=aBr Si λg hg=>by simp at hg
theorem aEy:PrimsOk prog (pM [] 169):=aCf aEw aEx
abbrev pkN:gO:=pO 182 sA (pO 180 (sX 23) (pM [] 169))
abbrev bY:gO:=pkN
theorem rA:FrP pkN:=Rj aDm (Rj (aDn _) (aC7 _ _))
theorem fR {k:FuncId}(h:((k==182)||(k==180))=false)(h2:(k==169)=false):pkN (.func k)=none:=by
 rw[Bool.or_eq_false_iff] at h;rw[pkN,zM h.1,zM h.2];exact aCe h2 rfl
theorem cF {k:FuncId}(h:((k==182)||(k==180)||(k==169))=false):pkN (.func k)=none:=by
 rw[Bool.or_eq_false_iff] at h;exact fR h.1 h.2
theorem Sj (n:Nat)(hn:0<n)(args:List Value)(H:aA):lvl prog bY n (.func 169) args H=qC args H:=
 Hk (((zM rfl).trans (zM rfl)).trans aCg) hn args H
theorem I5 (n:Nat)(hn:0<n)(args:List Value)(H:aA):lvl prog pkN n (.func 182) args H=sA args H:=Hk Rn hn args H
theorem aEz (n:Nat)(hn:0<n)(args:List Value)(H:aA):lvl prog pkN n (.func 180) args H=sX 23 args H:=Hk ((zM rfl).trans Rn) hn args H
end Go.Proofs.YtmimdleeihjdoaaGreatDoor
namespace Go.Proofs.YtmimdleeihjdoaaGreatDoor
open Go.Proofs.Tryz
open Go Go.RowKit Go.Abs
theorem aEE:Fg prog=some 0:=by kernel_rfl
theorem aEF:u6=Lib.deBruijn32tab.map Int.ofNat:=by decide+kernel
theorem Sk {w:World}(h:yR prog w):TabC w:=by
 obtain⟨cs,e,r,h1,h2⟩:=h 0 aEE;intro j hj;unfold World.cell?;rw[h1];show cs[j]? =_
 rw[<-Array.getElem?_toList,h2,aEF,List.map_map,aMM];have hl:Lib.deBruijn32tab.length=32:=by decide+kernel
 rw[aMB (by omega),aMD,aMB (by omega)]
 rfl
theorem aEA {args:List Value}{H H':aA}{v:Value}(h:sA args H=some (v,H')):H'=H:=by
 unfold sA at h
 split at h
 ·split at h
  ·cases h
   rfl
  ·cases h
 ·cases h
theorem aEG {t:TypeId}{args:List Value}{H H':aA}{v:Value}(h:sX t args H=some (v,H')):H.length<=H'.length:=by
 unfold sX at h
 split at h
 ·split at h
  ·split at h
   ·split at h
    ·split at h
     ·cases h
      simp
     ·cases h
    ·cases h
   ·cases h
  ·cases h
 ·cases h
theorem aEB {args:List Value}{H H':aA}{v:Value}(h:sA args H=some (v,H')){ρ:Ren}{w:World}{args':List Value}(hr:Rel prog ρ (cZ H) w)(ha:Vrs ρ args args'):
  vB prog (.func 182) args'.toArray w (Post prog ρ H w v H'):=by
 have he:(callFunc 182 args'.toArray).run prog w= .ok (.enter 182 args'.toArray) w:=enters_of Tryz.func182 (by kernel_rfl) rfl _ _
 refine⟨he,?_⟩;unfold sA at h
 split at h
 ·rename_i m fr n
  split at h
  ·rename_i hm
   cases h;obtain⟨hl,h1⟩:=ha
   match args',hl with
   |[a',b',c'],_=>
    obtain rfl:=(h1 0 _ a' rfl rfl).j8 rfl
    obtain rfl:=(h1 1 _ b' rfl rfl).j8 rfl
    obtain rfl:=(h1 2 _ c' rfl rfl).j8 rfl
    exact(aDu m fr n hm.1 hm.2 w (Sk hr.Fe)).mono λe w' ⟨h2,hB⟩=>⟨_,h2,ρ,.nY rfl,Step.Pp hr hB.size (λc hc=>hB.block c hc) hB.os hB.tape hB.output⟩
  ·cases h
 ·cases h
theorem aED (rows:List Nat)(n:Nat):(jC (λk=>cW (λi=>(rows.getD i 0).testBit k) rows.length) n).toList=(iW rows n).map λz:Nat=>Value.int .u16 (z:Int):=by
 unfold jC iW;rw[List.map_map];rfl
theorem aEH {args:List Value}{H H':aA}{v:Value}(h:sX 23 args H=some (v,H')){ρ:Ren}{w:World}{args':List Value}(hr:Rel prog ρ (cZ H) w)(ha:Vrs ρ args args')
  (hfree: ∀b,H.length<=b->b<H'.length->ρ b=none):vB prog (.func 180) args'.toArray w (Post prog ρ H w v H'):=by
 have he:(callFunc 180 args'.toArray).run prog w= .ok (.enter 180 args'.toArray) w:=enters_of Tryz.func180 (by kernel_rfl) rfl _ _
 refine⟨he,?_⟩;unfold sX at h
 split at h
 ·rename_i b o len cap n
  try dsimp only at h
  split at h
  ·rename_i hc
   try dsimp only at h
   split at h
   ·rename_i cs e k hb
    try dsimp only at h
    split at h
    ·rename_i hlen
     try dsimp only at h
     split at h
     ·rename_i rows hrows
      cases h;obtain⟨hl,h1⟩:=ha
      match args',hl with
      |[a',b'],_=>
       obtain rfl:=(h1 1 _ b' rfl rfl).j8 rfl
       have hv:=h1 0 _ a' rfl rfl;cases hv with
       |same hls=>simp[eW] at hls
       |slice0=>omega
       | @slice _ _ _ _ cap' pl hpl hn hcc hroom=>
        obtain⟨ccs,ce,lo,hi,ho,hcv,_,_,_⟩:=hr.blk b pl _ hpl hb;obtain⟨hz,h16⟩:=Rm _ _ hrows;have hzl:rows.length=len:=by
         have:=congrArg List.length hz;simp at this;omega
        obtain⟨n',rfl⟩: ∃n':Nat,n=n':=⟨n.toNat,by omega⟩
        have hin: ∀i,i<len->w.cell? ⟨pl.c,pl.base+o+i,none⟩=some (.int .u16 (rows.getD i 0:Nat)):=by
         intro i hi;have hzi:rows[i]? =some rows[i]:=aMB (by omega)
         have h2:cs[o+i]? =some (.int .u16 (rows[i]:Nat)):=by
          have:=congrArg (·[i]?) hz
          simp only[List.getElem?_take,List.getElem?_drop,aMM,hzi,if_pos hi,Option.map_some] at this;exact this
         obtain⟨v',h3,h4⟩:=hcv (o+i) _ h2;have h5:=h4.j8 rfl;subst h5;rw[yU ho,aMD,hzi,Nat.add_assoc];exact h3
        have hcall:=(callsIn_wide (n:=6)).1 (aDO pl.c (pl.base+o) len cap' n' (by omega) (by omega) (by omega) (by omega) (by omega) w (Sk hr.Fe) rows hzl h16 (hr.lt b pl hpl) hin)
        refine hcall.mono λe w' ⟨h2,hB,hrow⟩=>⟨_,h2,ρ.upd H.length ⟨w.heap.size,0,some (1,n')⟩,?_,?_⟩
        ·have:=Vr.slice (ρ:=ρ.upd H.length ⟨w.heap.size,0,some (1,n')⟩) (o:=0) (n:=n') (cap:=n') (cap':=n') (Ren.nZ _ _ _) (aME _) (aME _) (by
          intro e' T hT;simp only[aM0,Prod.mk.injEq] at hT;obtain⟨rfl,rfl⟩:=hT;simp)
         simpa using this
        ·have hlt:w.heap.size<w'.heap.size:=(aMY.mp hrow).1
         have hcell:prog.cellsOf 23=1:=by kernel_rfl
         refine Step.Fi hr (hfree _ (aME _) (by simp)) (aME _) hB.size hlt (λc hc=>hB.block c hc) ?_ (by simp) hB.os hB.tape hB.output
         refine⟨_,_,0,0,hrow,λi v hi=> ?_,λ_ off _=>by omega,λ_=> ?_,λhk=>absurd rfl hk⟩
         ·refine⟨v,?_,?_⟩
          ·rw[<-hi,aM1,<-aED,<-hzl,Array.getElem?_toList]
           simp
          ·rw[aMM] at hi
           cases hx:(iW rows (n':Int).toNat)[i]? with
           |none=>rw[hx] at hi;cases hi
           |some z=>
            rw[hx] at hi;cases hi;exact .nY rfl
         ·show some (1,n')=some (prog.cellsOf 23,_)
          rw[hcell,Rz]
     ·cases h
    ·cases h
   ·cases h
  ·cases h
 ·cases h
theorem Sm {P:Program}{g:FuncId}{p:List Value->aA->Option (Value×aA)}{pr:gO}(h:PrimsOk P pr)(hm: ∀args H v H',p args H=some (v,H')->H.length<=H'.length)
  (hs: ∀args H v H',p args H=some (v,H')-> ∀ρ w args',Rel P ρ (cZ H) w->Vrs ρ args args'->(∀b,H.length<=b->b<H'.length->ρ b=none)->vB P (.func g) args'.toArray w (Post P ρ H w v H')):PrimsOk P (pO g p pr):=by
 constructor
 ·intro f q hf args H v H' hp
  cases f with
  |func k=>
   by_cases hk:k=g
   ·simp only[pO,if_pos hk] at hf
    cases hf;exact hm _ _ _ _ hp
   ·simp only[pO,if_neg hk] at hf
    exact h.mono _ _ hf _ _ _ _ hp
  |_=>cases hf
 ·intro f q hf args H v H' hp ρ w args' hr ha hfree
  cases f with
  |func k=>
   by_cases hk:k=g
   ·simp only[pO,if_pos hk] at hf
    cases hf;subst hk;exact hs _ _ _ _ hp _ _ _ hr ha hfree
   ·simp only[pO,if_neg hk] at hf
    exact h.sound _ _ hf _ _ _ _ hp _ _ _ hr ha hfree
  |_=>cases hf
theorem aEC:PrimsOk prog pkN:=
 Sm (Sm aEy (λ_ _ _ _ h=>aEG h) λ_ _ _ _ h _ _ _ hr ha hf=>aEH h hr ha hf) (λ_ _ _ _ h=>by rw[aEA h];exact aME _) λ_ _ _ _ h _ _ _ hr ha _=>aEB h hr ha
end Go.Proofs.YtmimdleeihjdoaaGreatDoor
namespace Go.Proofs.YtmimdleeihjdoaaGreatDoor
open Go.Proofs.Tryz
open Go.Abs
theorem szI:prog.cellsOf 3=1:=by kernel_rfl
theorem aEQ:prog.cellsOf 67=2:=by kernel_rfl
abbrev Ed:=Int×Int
def edC (e:Ed):List Value:=[.int .i64 e.1,.int .i64 e.2]
theorem sY (e:Ed):(edC e).length=2:=rfl
theorem I6 (e:Ed):dK (edC e)=true:=rfl
def edV (e:Ed):Value:= .agg ⟨edC e⟩
abbrev Is (H:aA)(v:Value)(xs:List Int):=Rs inC 3 H v xs
abbrev Iw (H:aA)(v:Value)(xs:List Int):=Rw inC 3 1 H v xs
abbrev Es (H:aA)(v:Value)(xs:List Ed):=Rs edC 67 H v xs
abbrev Ew (H:aA)(v:Value)(xs:List Ed):=Rw edC 67 2 H v xs
def vC (u:Value):List Value:=[u]
theorem aER (u:Value):(vC u).length=1:=rfl
def Rows (H:aA)(v:Value)(xss:List (List Int)):Prop:= ∃us,Rs vC 37 H v us/\us.length=xss.length/\ ∀(i:Nat)(u:Value)(xs:List Int),us[i]? =some u->xss[i]? =some xs->Is H u xs
theorem Rows.ext {H H':aA}{v:Value}{xss:List (List Int)}(h:Rows H v xss)(he:Ext H H'):Rows H' v xss:=by
 obtain⟨us,h1,h2,h3⟩:=h
 exact⟨us,h1.ext he,h2,λi u xs hu hx=>(h3 i u xs hu hx).ext he⟩
theorem Rows.So {H:aA}{v:Value}{xss:List (List Int)}(h:Rows H v xss):bJ v=some (.int .i64 xss.length):=by
 obtain⟨us,h1,h2,h3⟩:=h;rw[h1.jQ,h2]
theorem Rows.Cp {H:aA}{v:Value}{xss:List (List Int)}(h:Rows H v xss){i:Nat}{xs:List Int}(hx:xss[i]? =some xs)(k:IntKind): ∃p u,aQ 1 v (.int k i)=some p/\ld1 p H=some (u,H)/\Is H u xs:=by
 obtain⟨us,h1,h2,h3⟩:=h;have hi:=(aMz.mp hx).1;have hu:us[i]? =some us[i]:=aMB (by omega)
 obtain⟨b,o,g1,g2,g3⟩:=h1.iQ aER hu k;have:=(g3 H rfl).2.1 0 us[i] rfl
 exact⟨_,_,g1,this,h3 i _ _ hu hx⟩
structure PlanD where
 nodes:Int
 edges:List Ed
 lanes:Int
 room:Int
 queue:Int
 rounds:Int
 every:Int
 bag:Int
 weights:List Int
 start:Int
 next:List (List Int)
def plC (p:PlanD)(ev wv nv:Value):List Value:=[.int .i64 p.nodes,ev,.int .i64 p.lanes,.int .i64 p.room,.int .i64 p.queue,.int .i64 p.rounds,.int .i64 p.every,.int .i64 p.bag,wv,.int .u16 p.start,nv]
def plV (p:PlanD)(ev wv nv:Value):Value:= .agg ⟨plC p ev wv nv⟩
def plB (p:PlanD)(ev wv nv:Value):Blk:= .cells (plC p ev wv nv) 40 .fix
structure PV (H:aA)(p:PlanD)(ev wv nv:Value):Prop where
 e:Es H ev p.edges
 w:Is H wv p.weights
 n:Rows H nv p.next
 be:p.edges.length<=17592186043000
 bw:p.weights.length<=17592186044500
 bn:p.next.length<=17592186043000
theorem PV.ext {H H':aA}{p:PlanD}{ev wv nv:Value}(h:PV H p ev wv nv)(he:Ext H H'):PV H' p ev wv nv:=⟨h.e.ext he,h.w.ext he,h.n.ext he,h.be,h.bw,h.bn⟩
theorem kL (p:PlanD)(ev wv nv:Value):Blk.cells (plV p ev wv nv).cells.toList 40 .fix=plB p ev wv nv:=rfl
theorem eE {H:aA}{b:Nat}{p:PlanD}{ev wv nv:Value}(h:H[b]? =some (plB p ev wv nv))(j:Nat)(v:Value)(hv:(plC p ev wv nv)[j]? =some v):ld1 (.pointer (some ⟨b,j,none⟩)) H=some (v,H):=by
 rw[jO,h];unfold plB;rw[sT,hv,vI]
theorem kD {H:aA}{b:Nat}{p:PlanD}{ev wv nv:Value}(h:H[b]? =some (plB p ev wv nv)):ldN 11 (.pointer (some ⟨b,0,none⟩)) H=some (plV p ev wv nv,H):=by
 rw[qZ,h];unfold plB;rw[rS _ _ _ _ _ (by simp[plC])]
 rfl
theorem fQ (H:aA)(x:Blk):(H++[x])[H.length]? =some x:=by simp
theorem fC {H H':aA}{b:Nat}{x:Blk}(h:H[b]? =some x)(he:Ext H H'):H'[b]? =some x:=by
 rw[he.2 b (aMz.mp h).1 id,h]
def wi (x lo hi:Int):Bool:=decide (lo<=x)&&decide (x<=hi)
def uB (p:PlanD):Bool:=wi p.nodes 2 6&&(wi p.lanes 1 3&&(wi p.room 1 8&&(wi p.queue 1 8&&(wi p.rounds 1 4&&(wi p.every 1 8&&wi p.bag 1 64)))))
section
variable {H : aA} {m : Nat} {p : PlanD} {ev wv nv : Value}
theorem Sr (hm:0<m)(x lo hi:Int)(H:aA):lvl prog bY m (.func 216) [.int .i64 x,.int .i64 lo,.int .i64 hi] H=some (.bool (wi x lo hi),H):=by
 refine cX (fR rfl rfl) hm ?_;rw[aD0];unfold wi;by_cases h:lo<=x
 ·simp -implicitDefEqProofs only[gsR,h,decide_true,aMW]
 ·simp -implicitDefEqProofs only[gsR,h,decide_false,Bool.false_and]
theorem aEP (hm:1<m)(p:PlanD)(ev wv nv:Value):lvl prog bY m (.func 225) [plV p ev wv nv] H=some (.bool (uB p),H++[plB p ev wv nv]):=by
 refine cX (fR rfl rfl) (by omega) ?_
 have w:=λx lo hi H=>Sr (m:=m-1) (by omega) x lo hi H
 have hb:=fQ H (plB p ev wv nv);have l0:=eE hb 0 _ rfl;have l2:=eE hb 2 _ rfl;have l3:=eE hb 3 _ rfl;have l4:=eE hb 4 _ rfl;have l5:=eE hb 5 _ rfl;have l6:=eE hb 6 _ rfl;have l7:=eE hb 7 _ rfl;rw[aD5];unfold uB;cases c1:wi p.nodes 2 6 with
 |false=>simp -implicitDefEqProofs only[gsR,kL,w,l0,l2,l3,l4,l5,l6,c1,Bool.false_and,aMW]
 |true=>
   cases c2:wi p.lanes 1 3 with
   |false=>simp -implicitDefEqProofs only[gsR,kL,w,l0,l2,l3,l4,l5,l6,c1,c2,Bool.false_and,aMW]
   |true=>
     cases c3:wi p.room 1 8 with
     |false=>simp -implicitDefEqProofs only[gsR,kL,w,l0,l2,l3,l4,l5,l6,c1,c2,c3,Bool.false_and,aMW]
     |true=>
       cases c4:wi p.queue 1 8 with
       |false=>simp -implicitDefEqProofs only[gsR,kL,w,l0,l2,l3,l4,l5,l6,c1,c2,c3,c4,Bool.false_and,aMW]
       |true=>
         cases c5:wi p.rounds 1 4 with
         |false=>simp -implicitDefEqProofs only[gsR,kL,w,l0,l2,l3,l4,l5,l6,c1,c2,c3,c4,c5,Bool.false_and,aMW]
         |true=>
           cases c6:wi p.every 1 8 with
           |false=>simp -implicitDefEqProofs only[gsR,kL,w,l0,l2,l3,l4,l5,l6,c1,c2,c3,c4,c5,c6,Bool.false_and,aMW]
           |true=>
             simp -implicitDefEqProofs only[gsR,kL,w,l0,l2,l3,l4,l5,l6,l7,c1,c2,c3,c4,c5,c6,aMW]
def fst (p:Nat->Bool):Nat->Nat->Int
 |0,_=> -1
 |q+1,i=>if p i=true then i else fst p q (i+1)
theorem I7 (p:Nat->Bool): ∀q i,(0<=fst p q i)↔ ∃j,i<=j/\j<i+q/\p j=true
 |0,i=>by simp[fst];omega
 |q+1,i=>by
  unfold fst;by_cases h:p i=true
  ·rw[if_pos h]
   exact⟨λ_=>⟨i,by omega,by omega,h⟩,λ_=>by omega⟩
  ·rw[if_neg h,I7 p q (i+1)]
   constructor
   ·rintro ⟨j,h1,h2,h3⟩
    exact⟨j,by omega,by omega,h3⟩
   ·rintro ⟨j,h1,h2,h3⟩
    have:j≠i:=λhh=>h (hh▸h3)
    exact⟨j,by omega,by omega,h3⟩
theorem Cq (p:Nat->Bool)(n:Nat):decide (0<=fst p n 0)=(List.range n).any p:=by
 rw[Bool.eq_iff_iff,decide_eq_true_iff,I7,List.any_eq_true];constructor
 ·rintro ⟨j,h1,h2,h3⟩
  exact⟨j,aNd.mpr (by omega),h3⟩
 ·rintro ⟨j,h1,h2⟩
  exact⟨j,by omega,by have:=aNd.mp h1;omega,h2⟩
theorem zQ {α:Type}(xs:List α)(q:α->Bool)(p:Nat->Bool)(h: ∀i x,xs[i]? =some x->p i=q x):(List.range xs.length).any p=xs.any q:=by
 rw[Bool.eq_iff_iff,List.any_eq_true,List.any_eq_true];constructor
 ·rintro ⟨i,h1,h2⟩
  have hi:=aNd.mp h1;have hx:xs[i]? =some xs[i]:=aMB hi
  exact⟨xs[i],List.getElem_mem hi,by rw[<-h i _ hx];exact h2⟩
 ·rintro ⟨x,h1,h2⟩
  obtain⟨i,hi⟩:=List.getElem?_of_mem h1
  exact⟨i,aNd.mpr (aMz.mp hi).1,by rw[h i x hi];exact h2⟩
theorem aEM {v fv:Value}{n:Nat}(p:Nat->Bool)(hd: ∀i,i<n-> ∃a u,aQ 1 v (.int .i64 (i:Nat))=some a/\ld1 a H=some (u,H)/\nJ (lvl prog bY m) fv [u] H=some (.bool (p i),H))(hn:n<=72057594037927936): ∀(q i k:Nat),n-i=q->i<=n->q<k-> ∀(x2 x3 x4 x5 x6 x9 bI cA aP aN aL aM aR aS aO:Value),
  aH k (aI prog (lvl prog bY m) (aH m) Ij) (Cl (lvl prog bY m) (aH m)) [v,fv,x2,x3,x4,x5,x6,(.int .i64 n),(.int .i64 (i:Nat)),x9,bI,cA,aP,aN,aL,aM,aR,aS,aO] H=some (.int .i64 (fst p q i),H):=by
 intro q;induction q with
 |zero=>
  intro i k hr hi hk;intros;obtain⟨k,rfl⟩: ∃n,k=n+1:=⟨k-1,by omega⟩
  obtain rfl:i=n:=by omega
  have e:decide ((i:Int)<i)=false:=by simp
  rw[dS,R7];simp -implicitDefEqProofs only[gsR,e];rw[aEa];rfl
 |succ q ih=>
  intro i k hr hi hk;intros;obtain⟨k,rfl⟩: ∃n,k=n+1:=⟨k-1,by omega⟩
  have e:decide ((i:Int)<n)=true:=by simp;omega
  have e3:IntKind.i64.wrap ((i:Int)+1)=((i+1:Nat):Int):=by rw[dJ (by omega) (by omega)];omega
  obtain⟨a,u,g1,g2,g3⟩:=hd i (by omega)
  rw[dS,R7];unfold fst;cases h:p i with
  |true=>
   rw[h] at g3;simp -implicitDefEqProofs only[gsR,e,g1,g2,g3,if_true];rw[aEc];rfl
  |false=>
   rw[h] at g3;simp -implicitDefEqProofs only[gsR,e,g1,g2,g3,cH,e3,Bool.false_eq_true,if_false];exact ih (i+1) k (by omega) (by omega) (by omega) ..
theorem Sp {v fv:Value}{n:Nat}(p:Nat->Bool)(hl:bJ v=some (.int .i64 n))(hn:n+10<m)(hm:m<=72057594037927936)(hd: ∀i,i<n-> ∃a u,aQ 1 v (.int .i64 (i:Nat))=some a/\ld1 a H=some (u,H)/\nJ (lvl prog bY (m-1-1)) fv [u] H=some (.bool (p i),H)):
  lvl prog bY m (.func 167) [v,fv] H=some (.bool ((List.range n).any p),H):=by
 have g:lvl prog bY (m-1) (.func 230) [v,fv] H=some (.int .i64 (fst p n 0),H):=by
  refine cX (fR rfl rfl) (by omega) ?_
  rw[aEb];simp -implicitDefEqProofs only[gsR,hl];exact aEM p hd (by omega) n 0 (m-1-1) (by omega) (by omega) (by omega) ..
 refine cX (fR rfl rfl) (by omega) ?_
 rw[aDU];simp -implicitDefEqProofs only[gsR,g,Cq]
theorem aEN {v fv:Value}{n:Nat}(p:Nat->Bool)(hd: ∀i,i<n-> ∃a u,aQ 1 v (.int .i64 (i:Nat))=some a/\ld1 a H=some (u,H)/\nJ (lvl prog bY m) fv [u] H=some (.bool (p i),H))(hn:n<=72057594037927936): ∀(q i k:Nat),n-i=q->i<=n->q<k-> ∀(x2 x3 x4 x5 x6 x9 bI cA aP aN aL aM aR aS aO:Value),
  aH k (aI prog (lvl prog bY m) (aH m) Ik) (Cm (lvl prog bY m) (aH m)) [v,fv,x2,x3,x4,x5,x6,(.int .i64 n),(.int .i64 (i:Nat)),x9,bI,cA,aP,aN,aL,aM,aR,aS,aO] H=some (.int .i64 (fst p q i),H):=by
 intro q;induction q with
 |zero=>
  intro i k hr hi hk;intros;obtain⟨k,rfl⟩: ∃n,k=n+1:=⟨k-1,by omega⟩
  obtain rfl:i=n:=by omega
  have e:decide ((i:Int)<i)=false:=by simp
  rw[dS,R8];simp -implicitDefEqProofs only[gsR,e];rw[aEe];rfl
 |succ q ih=>
  intro i k hr hi hk;intros;obtain⟨k,rfl⟩: ∃n,k=n+1:=⟨k-1,by omega⟩
  have e:decide ((i:Int)<n)=true:=by simp;omega
  have e3:IntKind.i64.wrap ((i:Int)+1)=((i+1:Nat):Int):=by rw[dJ (by omega) (by omega)];omega
  obtain⟨a,u,g1,g2,g3⟩:=hd i (by omega)
  rw[dS,R8];unfold fst;cases h:p i with
  |true=>
   rw[h] at g3;simp -implicitDefEqProofs only[gsR,e,g1,g2,g3,if_true];rw[aEg];rfl
  |false=>
   rw[h] at g3;simp -implicitDefEqProofs only[gsR,e,g1,g2,g3,cH,e3,Bool.false_eq_true,if_false];exact ih (i+1) k (by omega) (by omega) (by omega) ..
theorem aEI {v fv:Value}{n:Nat}(p:Nat->Bool)(hl:bJ v=some (.int .i64 n))(hn:n+10<m)(hm:m<=72057594037927936)(hd: ∀i,i<n-> ∃a u,aQ 1 v (.int .i64 (i:Nat))=some a/\ld1 a H=some (u,H)/\nJ (lvl prog bY (m-1-1)) fv [u] H=some (.bool (p i),H)):
  lvl prog bY m (.func 227) [v,fv] H=some (.bool ((List.range n).any p),H):=by
 have g:lvl prog bY (m-1) (.func 258) [v,fv] H=some (.int .i64 (fst p n 0),H):=by
  refine cX (fR rfl rfl) (by omega) ?_
  rw[aEf];simp -implicitDefEqProofs only[gsR,hl];exact aEN p hd (by omega) n 0 (m-1-1) (by omega) (by omega) (by omega) ..
 refine cX (fR rfl rfl) (by omega) ?_
 rw[aD8];simp -implicitDefEqProofs only[gsR,g,Cq]
theorem Sq (a b:Ed):bin prog .eql 67 (edV a) (edV b)=some (.bool (a==b)):=by
 have k:rH prog 67=some [true,true]:=by kernel_rfl
 obtain⟨a1,a2⟩:=a;obtain⟨b1,b2⟩:=b;simp[bin,edV,dP,oL,k,eqT,edC];rfl
theorem aEO {v:Value}{xs:List Ed}{a:Nat}{y:Ed}(hx:Es H v xs)(ha:H[a]? =some (.cells (edC y) 67 .fix))(hn:xs.length<=72057594037927936): ∀(q i k:Nat),xs.length-i=q->i<=xs.length->q<k-> ∀(x1 x2 x4 x5 x6 x9 bI cA aP aN aL aM aR aS aO:Value),
  aH k (aI prog (lvl prog bY m) (aH m) Im) (Co (lvl prog bY m) (aH m)) [v,x1,x2,(.pointer (some ⟨a,0,none⟩)),x4,x5,x6,(.int .i64 xs.length),(.int .i64 (i:Nat)),x9,bI,cA,aP,aN,aL,aM,aR,aS,aO] H=some (.int .i64 (fst (λj=>xs[j]? ==some y) q i),H):=by
 intro q;have la:ldN 2 (.pointer (some ⟨a,0,none⟩)) H=some (edV y,H):=by
  rw[qZ,ha,rS _ _ _ _ _ (by simp[edC])]
  rfl
 induction q with
 |zero=>
  intro i k hr hi hk;intros;obtain⟨k,rfl⟩: ∃n,k=n+1:=⟨k-1,by omega⟩
  obtain rfl:i=xs.length:=by omega
  have e:decide ((xs.length:Int)<xs.length)=false:=by simp
  rw[dS,Sa];simp -implicitDefEqProofs only[gsR,e];rw[aEk];rfl
 |succ q ih=>
  intro i k hr hi hk;intros;obtain⟨k,rfl⟩: ∃n,k=n+1:=⟨k-1,by omega⟩
  have e:decide ((i:Int)<xs.length)=true:=by simp;omega
  have e3:IntKind.i64.wrap ((i:Int)+1)=((i+1:Nat):Int):=by rw[dJ (by omega) (by omega)];omega
  have hxi:xs[i]? =some xs[i]:=aMB (by omega)
  obtain⟨b,o,g1,g2,g3⟩:=hx.iQ sY hxi .i64;have l1:ldN 2 (.pointer (some ⟨b,o,none⟩)) H=some (edV xs[i],H):=(g3 H rfl).1;rw[dS,Sa];unfold fst;by_cases h:y=xs[i]
  ·have d:(y==xs[i])=true:=by rw[h];simp
   have d2:(xs[i]? ==some y)=true:=by rw[hxi,h];simp
   simp -implicitDefEqProofs only[gsR,e,la,g1,l1,Sq,d];rw[aEm,if_pos d2];rfl
  ·have d:(y==xs[i])=false:=by simpa using h
   have d2: ¬(xs[i]? ==some y)=true:=by rw[hxi];simpa using λhh=>h hh.symm
   simp -implicitDefEqProofs only[gsR,e,la,g1,l1,Sq,d,cH,e3];rw[if_neg d2];exact ih (i+1) k (by omega) (by omega) (by omega) ..
theorem aEL {v:Value}{xs:List Ed}(hx:Es H v xs)(y:Ed)(hn:xs.length+10<m)(hm:m<=72057594037927936): ∃H',lvl prog bY m (.func 257) [v,edV y] H=some (.bool (xs.any λx=>x==y),H')/\Ext H H':=by
 have c:Blk.cells (edV y).cells.toList 67 .fix= .cells (edC y) 67 .fix:=rfl;have b0:=fQ H (.cells (edC y) 67 .fix);have l0:ldN 2 (.pointer (some ⟨H.length,0,none⟩)) (H++[.cells (edC y) 67 .fix])=some (edV y,H++[.cells (edC y) 67 .fix]):=by
  rw[qZ,b0,rS _ _ _ _ _ (by simp[edC])]
  rfl
 obtain⟨H1,hH1⟩: ∃H1,H1=H++[Blk.cells (edC y) 67 .fix]:=⟨_,rfl⟩;have x1:Ext H H1:=by rw[hH1];exact Fr.app _ _ _
 have x2:Ext H (H1++[.cells (edC y) 67 .fix]):=x1.tr (Fr.app _ _ _);have hx2:=hx.ext x2;have hlen:=hx.jQ;have g:lvl prog bY (m-1) (.func 277) [v,edV y] H1=some (.int .i64 (fst (λj=>xs[j]? ==some y) xs.length 0),H1++[.cells (edC y) 67 .fix]):=by
  refine cX (fR rfl rfl) (by omega) ?_
  rw[aEl];simp -implicitDefEqProofs only[gsR,c,hlen];exact aEO hx2 (fQ H1 _) (by omega) xs.length 0 (m-1-1) (by omega) (by omega) (by omega) ..
 refine⟨_,cX (fR rfl rfl) (by omega) ?_,x2⟩
 rw[aEd];have hb:decide (0<=fst (λj=>xs[j]? ==some y) xs.length 0)=xs.any λx=>x==y:=by
  rw[Cq];exact zQ xs _ _ λi x h=>by rw[h];rfl
 rw[<-hH1] at l0;simp -implicitDefEqProofs only[gsR,c,<-hH1,l0,g,hb]
def sZ (n:Int):List Ed->List Ed->Bool
 |_,[]=>true
 |old,e::r=>(!(decide (e.1<0)||(decide (e.2<=e.1)||(decide (n<=e.2)||old.any λx=>x==e))))&&sZ n (old++[e]) r
def vT (p:PlanD):Bool:=sZ p.nodes [] p.edges&&decide ((p.edges.length:Int)<=15)
theorem aEK {a:Nat}(hx:Es H ev p.edges)(hn:p.edges.length+20<m)(hm:m<=72057594037927936): ∀(q i k:Nat)(H':aA),p.edges.length-i=q->i<=p.edges.length->q<k->Ext H H'->H'[a]? =some (plB p ev wv nv)-> ∀(x0 x3 x4 x5 x9 bI cA aP aN aL aM aR aS aO bC bH bV bG bE aT aU aV aW aX aY aZ bA bB bK bL bM bN bO bP bQ bR bS bT:Value),
  ∃H2,aH k (aI prog (lvl prog bY m) (aH m) Ii) (Cj (lvl prog bY m) (aH m)) [x0,(.pointer (some ⟨a,0,none⟩)),(.bool false),x3,x4,x5,ev,(.int .i64 p.edges.length),(.int .i64 (i:Nat)),x9,bI,cA,aP,aN,aL,aM,aR,aS,aO,bC,bH,bV,bG,bE,aT,aU,aV,aW,aX,aY,aZ,bA,bB,bK,bL,bM,bN,bO,bP,bQ,bR,bS,bT] H'=some (.bool (sZ p.nodes (p.edges.take i) (p.edges.drop i)&&decide ((p.edges.length:Int)<=15)),H2)/\Ext H H2:=by
 intro q;induction q with
 |zero=>
  intro i k H' hr hi hk he ha;intros;obtain⟨k,rfl⟩: ∃n,k=n+1:=⟨k-1,by omega⟩
  obtain rfl:i=p.edges.length:=by omega
  have e:decide ((p.edges.length:Int)<p.edges.length)=false:=by simp
  have l1:=eE ha 1 _ rfl;have hlen:=hx.jQ;refine⟨H',?_,he⟩;rw[dS,R6];simp -implicitDefEqProofs only[gsR,e];rw[aD6];rw[List.drop_length,sZ,aMW];simp -implicitDefEqProofs only[gsR,l1,hlen]
 |succ q ih=>
  intro i k H' hr hi hk he ha;intros;obtain⟨k,rfl⟩: ∃n,k=n+1:=⟨k-1,by omega⟩
  have e:decide ((i:Int)<p.edges.length)=true:=by simp;omega
  have e3:IntKind.i64.wrap ((i:Int)+1)=((i+1:Nat):Int):=by rw[dJ (by omega) (by omega)];omega
  have hxi:p.edges[i]? =some p.edges[i]:=aMB (by omega)
  obtain⟨b,o,g1,g2,g3⟩:=(hx.ext he).iQ sY hxi .i64;obtain⟨y,hy⟩: ∃y,y=p.edges[i]:=⟨_,rfl⟩;have l1:ldN 2 (.pointer (some ⟨b,o,none⟩)) H'=some (edV y,H'):=by rw[hy];exact(g3 H' rfl).1
  have hdrop:p.edges.drop i=y::p.edges.drop (i+1):=by rw[hy];exact List.drop_eq_getElem_cons (by omega)
  have htake:p.edges.take i++[y]=p.edges.take (i+1):=by rw[List.take_add_one,hxi,hy];rfl
  have z:Blk.cells [Value.int .i64 0,.int .i64 0] 67 .fix= .cells (edC (0,0)) 67 .fix:=rfl;have st:stN 2 (.pointer (some ⟨H'.length,0,none⟩)) (edV y) (H'++[.cells (edC (0,0)) 67 .fix])=some (undef,H'++[.cells (edC y) 67 .fix]):=by
   rw[mE 2 _ _ _ rfl,fQ,nK _ _ _ _ _ _ (by decide) (by simp[edC,edV,Value.cells]) rfl]
   simp[edC,edV,Value.cells,eD]
  obtain⟨H1,hH1⟩: ∃H1,H1=H'++[Blk.cells (edC y) 67 .fix]:=⟨_,rfl⟩;rw[<-hH1] at st;have x1:Ext H' H1:=by rw[hH1];exact Fr.app _ _ _
  have hb1:H1[H'.length]? =some (.cells (edC y) 67 .fix):=by rw[hH1];exact fQ _ _
  have la:ld1 (.pointer (some ⟨H'.length,0,none⟩)) H1=some (.int .i64 y.1,H1):=by rw[jO,hb1];rfl
  have lb:ld1 (.pointer (some ⟨H'.length,1,none⟩)) H1=some (.int .i64 y.2,H1):=by rw[jO,hb1];rfl
  have lab:ldN 2 (.pointer (some ⟨H'.length,0,none⟩)) H1=some (edV y,H1):=by
   rw[qZ,hb1,rS _ _ _ _ _ (by simp[edC])]
   rfl
  have ha1:=fC ha x1;have p0:=eE ha1 0 _ rfl;have p1:=eE ha1 1 _ rfl;obtain⟨v',s1,s2,s3⟩:=((hx.ext he).ext x1).B8 (P:=prog) sY aEQ (λh=>by have:=congrArg List.length h;simp only[List.length_nil] at this;omega) (lo:=none) rfl (nA p.edges.length .i64 i) (Nat.zero_le _) (by omega)
  rw[List.drop_zero] at s2;obtain⟨H2,t1,t2⟩:=aEL s2 y (m:=m) (by rw[List.length_take];omega) hm
  rw[dS,R6,hdrop,sZ,htake];by_cases c1:y.1<0
  ·refine⟨H1,?_,he.tr x1⟩
   simp -implicitDefEqProofs only[gsR,e,g1,l1,z,st,la,lb,c1,decide_true,Bool.true_or,Bool.false_and];rw[Ck];rfl
  ·by_cases c2:y.2<=y.1
   ·refine⟨H1,?_,he.tr x1⟩
    simp -implicitDefEqProofs only[gsR,e,g1,l1,z,st,la,lb,c1,c2,decide_true,decide_false,Bool.false_or,Bool.true_or,Bool.false_and];rw[Ck];rfl
   ·by_cases c3:p.nodes<=y.2
    ·refine⟨H1,?_,he.tr x1⟩
     simp -implicitDefEqProofs only[gsR,e,g1,l1,z,st,la,lb,p0,c1,c2,c3,decide_true,decide_false,Bool.false_or,Bool.true_or,Bool.false_and];rw[Ck];rfl
    ·cases c4:(p.edges.take i).any λx=>x==y with
     |true=>
      rw[c4] at t1;refine⟨H2,?_,(he.tr x1).tr t2⟩;simp -implicitDefEqProofs only[gsR,e,g1,l1,z,st,la,lb,lab,p0,p1,s1,t1,c1,c2,c3,decide_true,decide_false,Bool.false_or,Bool.false_and];rw[Ck];rfl
     |false=>
      rw[c4] at t1;simp -implicitDefEqProofs only[gsR,e,g1,l1,z,st,la,lb,lab,p0,p1,s1,t1,c1,c2,c3,decide_false,Bool.false_or,aMW,cH,e3];exact ih (i+1) k H2 (by omega) (by omega) (by omega) ((he.tr x1).tr t2) (fC ha1 t2) ..
theorem aEJ (hp:PV H p ev wv nv)(hn:p.edges.length+20<m-1)(hm:m<=72057594037927936): ∃H',lvl prog bY m (.func 226) [plV p ev wv nv] H=some (.bool (vT p),H')/\Ext H H':=by
 refine kJ (fR rfl rfl) (by omega) ?_
 have hb:=fQ H (plB p ev wv nv);have l1:=eE hb 1 _ rfl;have hlen:=hp.e.jQ;rw[aD7];simp -implicitDefEqProofs only[gsR,kL,l1,hlen];exact aEK hp.e (m:=m-1) hn (by omega) p.edges.length 0 (m-1) _ (by omega) (by omega) (by omega) (Fr.app _ _ _) hb ..
end
def qF (n:Int):Bool:=decide (n<1)||decide (5<n)
def wOk (ws:List Int):Bool:= !(decide ((ws.length:Int)=0)||(decide ((3:Int)<ws.length)||ws.any qF))
def uD (p:PlanD):Bool:= !(p.next.any λr=>decide ((r.length:Int)≠p.nodes))
def lF (p:PlanD):Bool:=uB p&&(vT p&&(decide ((p.weights.length:Int)=p.lanes)&&(wOk p.weights&&(decide ((p.next.length:Int)=p.nodes)&&uD p))))
def uC (b:Bool):Int:=if b=true then 0 else 120
section
variable {H : aA} {m : Nat} {p : PlanD} {ev wv nv : Value}
theorem St (hm:0<m)(n:Int)(H:aA):lvl prog bY m (.func 166) [.int .i64 n] H=some (.bool (qF n),H):=by
 refine cX (fR rfl rfl) hm ?_;rw[aDT];unfold qF;by_cases h:n<1
 ·simp -implicitDefEqProofs only[gsR,h,decide_true,Bool.true_or]
 ·simp -implicitDefEqProofs only[gsR,h,decide_false,Bool.false_or]
theorem aES (b o n c:Nat):bin prog .eql 37 (.slice (some ⟨b,o,none⟩) n c) (.slice none 0 0)=some (.bool false):=by
 have h1:prog.underlying 37=some (.slice 3):=by kernel_rfl
 simp[bin,dP,oL,mX,eqV,h1]
theorem Cr {v:Value}{xs:List Int}(hx:Is H v xs)(hne:xs≠[])(hl:xs.length<=1000)(hm:0<m): ∃H' u,lvl prog bY m (.func 168) [v] H=some (u,H')/\Ext H H'/\Iw H' u xs/\New H u:=by
 have hv: ∃b o c,v= .slice (some ⟨b,o,none⟩) xs.length c:=by
  rcases hx with⟨_,h⟩|⟨b,o,cap,h,_⟩
  ·exact absurd h hne
  ·exact⟨b,o,cap,h⟩
 have b0:dL 3 1 0 [.int .i64 0] [] H=some (.slice (some ⟨H.length,0,none⟩) 0 0,H++[.cells [] 3 .row]):=rfl;have h0:Iw (H++[.cells [] 3 .row]) (.slice (some ⟨H.length,0,none⟩) 0 0) []:=⟨rfl,.inr ⟨H.length,0,[],rfl,aME _,rfl,by simp⟩⟩
 obtain⟨u,H',g1,g2,g3,g4⟩:=h0.xK gQ oO (by decide) (by':=8) (H0:=H) (hx.ext (Fr.app _ _ _)) (λb ⟨_,_,_,h⟩=>by cases h;exact aME _) (Fr.app _ _ _) (jI (n:=1000) (by decide) (by simp;omega))
 refine iK (fR rfl rfl) (by omega) ⟨H',u,?_,g4,g2,g3⟩
 obtain⟨b,o,c,rfl⟩:=hv;rw[aDV];simp -implicitDefEqProofs only[gsR,aES,b0,g1]
theorem ePW (a:Addr):bin prog .eql 163 (.pointer (some a)) (.pointer none)=some (.bool false):=Bx 163 266 (by kernel_rfl) a
theorem I8:bin prog .eql 163 (.pointer none) (.pointer none)=some (.bool true):=Pz 163 266 (by kernel_rfl)
theorem aET {v:Value}{ws:List Int}(hw:Is H v ws)(hl:ws.length<=17592186044500)(hm:ws.length+100<m)(hm2:m<=72057594037927936): ∃H' u,lvl prog bY m (.func 87) [v] H=some (u,H')/\Ext H H'/\bin prog .eql 163 u (.pointer none)=some (.bool (!wOk ws)):=by
 have hlen:=hw.jQ;have hcf:lvl prog bY (m-1) (.func 167) [v,.func (.func 166) #[] #[]] H=some (.bool (ws.any qF),H):=by
  have:=Sp (H:=H) (m:=m-1) (v:=v) (fv:= .func (.func 166) #[] #[]) (n:=ws.length) (λi=>(ws[i]?.map qF).getD false) hlen (by omega) (by omega) (λi hi=>by
   have hx:ws[i]? =some ws[i]:=aMB hi;obtain⟨b,o,g1,g2,g3⟩:=hw.iQ gQ hx .i64;have l1:=(g3 H rfl).2.1 0 _ rfl;refine⟨_,_,g1,l1,?_⟩;have:=St (m:=m-1-1-1) (by omega) ws[i] H
   rw[hx];exact this)
  rw[this,zQ ws qF _ λi x h=>by rw[h];rfl]
 by_cases c1:(ws.length:Int)=0
 ·have e1:((ws.length:Int)==0)=true:=by simpa using c1
  have hno:wOk ws=false:=by unfold wOk;simp only[c1,decide_true,Bool.true_or,Bool.not_true]
  refine iK (fR rfl rfl) (by omega) ⟨H,.pointer none,?_,Fr.mZ _ _,by rw[hno];exact I8⟩
  rw[zP];simp -implicitDefEqProofs only[gsR,hlen,e1]
 ·have e1:((ws.length:Int)==0)=false:=by simpa using c1
  by_cases c2:(3:Int)<ws.length
  ·have hno:wOk ws=false:=by unfold wOk;simp only[c2,decide_true,Bool.true_or,Bool.or_true,Bool.not_true]
   refine iK (fR rfl rfl) (by omega) ⟨H,.pointer none,?_,Fr.mZ _ _,by rw[hno];exact I8⟩
   rw[zP];simp -implicitDefEqProofs only[gsR,hlen,e1,c2,decide_true]
  ·cases c3:ws.any qF with
   |true=>
    have hno:wOk ws=false:=by unfold wOk;simp only[c3,Bool.or_true,Bool.not_true]
    rw[c3] at hcf;refine iK (fR rfl rfl) (by omega) ⟨H,.pointer none,?_,Fr.mZ _ _,by rw[hno];exact I8⟩
    rw[zP];simp -implicitDefEqProofs only[gsR,hlen,e1,c2,decide_false,hcf]
   |false=>
    have hyes:wOk ws=true:=by unfold wOk;simp only[c1,c2,c3,decide_false,Bool.or_false,Bool.not_false]
    rw[c3] at hcf;obtain⟨H1,u1,g1,g2,g3,g4⟩:=Cr (m:=m-1) hw (λh=>c1 (by rw[h];rfl)) (by omega) (by omega)
    obtain⟨H2,u2,q1,q2,q3,q4⟩:=Cr (m:=m-1) (hw.ext g2) (λh=>c1 (by rw[h];rfl)) (by omega) (by omega)
    have hb:bld prog 266 [(0,u1),(1,u2)]=some (.agg #[u1,u2,.int .i64 0]):=by
     rcases g3 with⟨_,⟨rfl,_⟩|⟨_,_,_,rfl,_⟩⟩<;>rcases q3 with⟨_,⟨rfl,_⟩|⟨_,_,_,rfl,_⟩⟩<;>rfl
    refine iK (fR rfl rfl) (by omega) ⟨H2++[.cells (Value.agg #[u1,u2,.int .i64 0]).cells.toList 266 .fix],.pointer (some ⟨H2.length,0,none⟩),?_,(g2.tr q2).tr (Fr.app _ _ _),by rw[hyes];exact ePW _⟩
    rw[zP];simp -implicitDefEqProofs only[gsR,hlen,e1,c2,decide_false,hcf,g1,q1,hb]
theorem Ss (hp:PV H p ev wv nv)(hm:17592186045000<m)(hm2:m<=72057594037927936): ∃H',lvl prog bY m (.func 162) [plV p ev wv nv] H=some (.int .u16 (uC (lF p)),H')/\Ext H H':=by
 have h1:=hp.be;have h2:=hp.bw;have h3:=hp.bn;obtain⟨H0,hH0⟩: ∃H0,H0=H++[plB p ev wv nv]:=⟨_,rfl⟩;have x0:Ext H H0:=by rw[hH0];exact Fr.app _ _ _
 have b0:H0[H.length]? =some (plB p ev wv nv):=by rw[hH0];exact fQ _ _
 have l11:=kD b0;have g1:=aEP (H:=H0) (m:=m-1) (by omega) p ev wv nv
 obtain⟨H1,hH1⟩: ∃H1,H1=H0++[plB p ev wv nv]:=⟨_,rfl⟩;have x1:Ext H0 H1:=by rw[hH1];exact Fr.app _ _ _
 rw[<-hH1] at g1;have b1:=fC b0 x1;have l11':=kD b1;obtain⟨H2,g2,x2⟩:=aEJ (m:=m-1) (hp.ext (x0.tr x1)) (by omega) (by omega)
 have b2:=fC b1 x2;have w2:=eE b2 8 _ rfl;have la2:=eE b2 2 _ rfl;have p2:=hp.ext ((x0.tr x1).tr x2);have wl:=p2.w.jQ;obtain⟨H3,u3,g3,x3,g4⟩:=aET p2.w (m:=m-1) (by omega) (by omega) (by omega)
 have b3:=fC b2 x3;have n3:=eE b3 10 _ rfl;have no3:=eE b3 0 _ rfl;have p3:=p2.ext x3;have nl:=p3.n.So;have hcf:lvl prog bY (m-1) (.func 227) [nv,.func (.func 224) #[] #[.pointer (some ⟨H.length,0,none⟩)]] H3=some (.bool (p.next.any λr=>decide ((r.length:Int)≠p.nodes)),H3):=by
  have:=aEI (H:=H3) (m:=m-1) (v:=nv) (fv:= .func (.func 224) #[] #[.pointer (some ⟨H.length,0,none⟩)]) (n:=p.next.length) (λi=>(p.next[i]?.map λr=>decide ((r.length:Int)≠p.nodes)).getD false) nl (by omega) (by omega) (λi hi=>by
   have hx:p.next[i]? =some p.next[i]:=aMB hi;obtain⟨a,u,q1,q2,q3⟩:=p3.n.Cp hx .i64;refine⟨a,u,q1,q2,?_⟩;have hlen:=q3.jQ;have:lvl prog bY (m-1-1-1+0) (.func 224) [u,.pointer (some ⟨H.length,0,none⟩)] H3=some (.bool (decide ((p.next[i].length:Int)≠p.nodes)),H3):=by
    refine cX (fR rfl rfl) (by omega) ?_
    rw[aD4];have e:(((p.next[i].length:Nat):Int)!=p.nodes)=decide ((p.next[i].length:Int)≠p.nodes):=by
     rw[Bool.eq_iff_iff];simp
    simp -implicitDefEqProofs only[gsR,hlen,no3,e]
   rw[hx];exact this)
  rw[this,zQ p.next (λr=>decide ((r.length:Int)≠p.nodes)) _ λi x h=>by rw[h];rfl]
 have hn1:((p.weights.length:Int)!=p.lanes)= !decide ((p.weights.length:Int)=p.lanes):=by rw[Bool.eq_iff_iff];simp
 have hn2:((p.next.length:Int)!=p.nodes)= !decide ((p.next.length:Int)=p.nodes):=by rw[Bool.eq_iff_iff];simp
 have hr:(p.next.any λr=>decide ((r.length:Int)≠p.nodes))= !uD p:=by unfold uD;rw[Bool.not_not]
 rw[hr] at hcf;have hz:uC false=120:=rfl;have hz1:uC true=0:=rfl;refine kJ (fR rfl rfl) (by omega) ?_
 rw[aDS];unfold lF;cases c1:uB p with
 |false=>exact⟨H1,by simp -implicitDefEqProofs only[gsR,kL,<-hH0,l11,g1,c1,hz,hz1,Bool.false_and,aMW],x0.tr x1⟩
 |true=>
   cases c2:vT p with
   |false=>exact⟨H2,by simp -implicitDefEqProofs only[gsR,kL,<-hH0,l11,g1,l11',g2,c1,c2,hz,hz1,Bool.false_and,aMW],(x0.tr x1).tr x2⟩
   |true=>
     cases c3:decide ((p.weights.length:Int)=p.lanes) with
     |false=>exact⟨H2,by simp -implicitDefEqProofs only[gsR,kL,<-hH0,l11,g1,l11',g2,w2,wl,la2,hn1,c1,c2,c3,hz,hz1,Bool.false_and,aMW],(x0.tr x1).tr x2⟩
     |true=>
       cases c4:wOk p.weights with
       |false=>exact⟨H3,by simp -implicitDefEqProofs only[gsR,kL,<-hH0,l11,g1,l11',g2,w2,wl,la2,hn1,g3,g4,c1,c2,c3,c4,hz,hz1,Bool.false_and,aMW],((x0.tr x1).tr x2).tr x3⟩
       |true=>
         cases c5:decide ((p.next.length:Int)=p.nodes) with
         |false=>exact⟨H3,by simp -implicitDefEqProofs only[gsR,kL,<-hH0,l11,g1,l11',g2,w2,wl,la2,hn1,g3,g4,n3,nl,no3,hn2,c1,c2,c3,c4,c5,hz,hz1,Bool.false_and,aMW],((x0.tr x1).tr x2).tr x3⟩
         |true=>
           cases c6:uD p with
           |false=>exact⟨H3,by simp -implicitDefEqProofs only[gsR,kL,<-hH0,l11,g1,l11',g2,w2,wl,la2,hn1,g3,g4,n3,nl,no3,hn2,hcf,c1,c2,c3,c4,c5,c6,hz,hz1,Bool.false_and,aMW],((x0.tr x1).tr x2).tr x3⟩
           |true=>
             exact⟨H3,by simp -implicitDefEqProofs only[gsR,kL,<-hH0,l11,g1,l11',g2,w2,wl,la2,hn1,g3,g4,n3,nl,no3,hn2,hcf,c1,c2,c3,c4,c5,c6,hz,hz1,Bool.false_and,aMW],((x0.tr x1).tr x2).tr x3⟩
end
def dd:List Int->List Int
 |[]=>[]
 |[x]=>[x]
 |x::y::r=>if x=y then dd (y::r) else x::dd (y::r)
theorem Sx: ∀(l:List Int)(a b:Int),dd (l++[a,b])=if a=b then dd (l++[a]) else dd (l++[a])++[b]
 |[],a,b=>by
  by_cases h:a=b<;>simp[dd,h]
 |[x],a,b=>by
  by_cases h:a=b<;>by_cases h2:x=a<;>simp[dd,h,h2]<;>simp_all
 |x::y::l,a,b=>by
  have ih:=Sx (y::l) a b;simp only[List.cons_append] at ih⊢;simp only[dd];by_cases h2:x=y
  ·rw[if_pos h2,if_pos h2,ih]
  ·rw[if_neg h2,if_neg h2,ih]
   by_cases h:a=b
   ·rw[if_pos h,if_pos h]
   ·rw[if_neg h,if_neg h]
    rfl
theorem Sy {zs:List Int}{j:Nat}{a b:Int}(h0:0<j)(ha:zs[j-1]? =some a)(hb:zs[j]? =some b):dd (zs.take (j+1))=if b=a then dd (zs.take j) else dd (zs.take j)++[b]:=by
 have e1:zs.take j=zs.take (j-1)++[a]:=by
  have:=List.take_add_one (l:=zs) (i:=j-1);rw[ha,show j-1+1=j by omega] at this
  simpa using this
 have e2:zs.take (j+1)=zs.take (j-1)++[a,b]:=by
  rw[List.take_add_one,hb,e1];simp
 rw[e2,Sx,<-e1];by_cases h:a=b
 ·rw[if_pos h,if_pos h.symm]
 ·rw[if_neg h,if_neg (Ne.symm h)]
theorem Sw: ∀l:List Int,(dd l).length<=l.length
 |[]=>aME _
 |[x]=>aME _
 |x::y::r=>by
  have:=Sw (y::r);unfold dd;split
  ·simp only[aMV] at *; omega
  ·simp only[aMV] at *; omega
section
variable {H : aA} {m c cap : Nat} {ys rest : List Value}
theorem ia {o n i:Nat}(h:i<n):aQ 1 (.slice (some ⟨c,o,none⟩) n cap) (.int .i64 (i:Nat))=some (.pointer (some ⟨c,o+i,none⟩)):=by
 rw[pL _ _ _ _ _ _ _ (by omega) (by omega)]
 simp
def oC (ys:List Int)(rest:List Value):Blk:= .cells (ys.map (Value.int .i64)++rest) 3 .row
theorem xP {ys:List Int}{i:Nat}{y:Int}(hc:H[c]? =some (oC ys rest))(hi:ys[i]? =some y):ld1 (.pointer (some ⟨c,i,none⟩)) H=some (.int .i64 y,H):=by
 have:=(aMz.mp hi).1;rw[jO,hc];unfold oC;rw[sT,aMC (by rw[aMN];exact this),aMM,hi]
 rfl
theorem Sz {ys:List Int}{i:Nat}(y:Int)(hc:H[c]? =some (oC ys rest))(hi:i<ys.length):stN 1 (.pointer (some ⟨c,i,none⟩)) (.int .i64 y) H=some (undef,H.set c (oC (ys.set i y) rest)):=by
 rw[mE 1 _ _ _ rfl,hc];unfold oC;have e:(Value.int .i64 y).cells.toList=[.int .i64 y]:=rfl;rw[e,nK _ _ _ _ _ _ (by decide) (by simp;omega) rfl]
 congr 3
 simp only[eD];rw[List.set_append_left _ _ (by rw[aMN];exact hi),<-List.map_set]
theorem aEW {zs ys:List Int}{k:Nat}(hc:H[c]? =some (oC ys rest))(hy:ys.length=zs.length)(hk:k<zs.length)(hcap:zs.length<=cap)(hrest:rest.length=cap-zs.length)(hd:ys.take k=dd zs):
  ∃w H',slc prog 1 (.slice (some ⟨c,0,none⟩) zs.length cap) (some (.int .i64 (k:Nat))) none none H=some (w,H)/\clr 1 [.int .i64 0] w H=some (.tuple #[],H')/\
   slc prog 1 (.slice (some ⟨c,0,none⟩) zs.length cap) none (some (.int .i64 (k:Nat))) none H'=some (.slice (some ⟨c,0,none⟩) k cap,H')/\Iw H' (.slice (some ⟨c,0,none⟩) k cap) (dd zs)/\H'.length=H.length/\ ∀b,b≠c->H'[b]? =H[b]? :=by
 have hlt:=(aMz.mp hc).1;have g1:=sV (P:=prog) (H:=H) (o:=0) (sz:=1) (len:=zs.length) (cap:=cap) (lo:=some (.int .i64 (k:Nat))) (hi:=none) (mx:=none) (h:=zs.length) (m:=cap) (l:=k) hc (λ_=>szI) (nA 0 .i64 k) rfl rfl (by omega) (by omega) (aME _)
 rw[aMU,Nat.mul_one] at g1;obtain⟨H',hH'⟩: ∃H',H'=H.set c (oC (ys.take k) ((List.replicate (zs.length-k) [Value.int .i64 0]).flatten++rest)):=⟨_,rfl⟩;have hc':H'[c]? =some (oC (ys.take k) ((List.replicate (zs.length-k) [Value.int .i64 0]).flatten++rest)):=by rw[hH'];exact aMF hlt
 have hyk:(ys.take k).length=k:=by rw[List.length_take];omega
 have g2:clr 1 [.int .i64 0] (.slice (some ⟨c,k,none⟩) (zs.length-k) (cap-k)) H=some (.tuple #[],H'):=by
  unfold clr;simp only;rw[if_neg (by omega),hc]
  unfold oC;simp only;rw[if_pos ⟨by decide,by simp;omega,rfl,rfl⟩,hH']
  congr 3
  unfold oC
  congr 1
  have hsplit:ys.map (Value.int .i64)=(ys.take k).map (Value.int .i64)++(ys.drop k).map (Value.int .i64):=by rw[<-List.map_append,List.take_append_drop]
  have hl:((List.replicate (zs.length-k) [Value.int .i64 0]).flatten).length=zs.length-k:=by simp
  rw[hsplit];have:=tW ((List.replicate (zs.length-k) [Value.int .i64 0]).flatten) ((ys.drop k).map (Value.int .i64)) ((ys.take k).map (Value.int .i64)) rest (by rw[hl,aMN,List.length_drop];omega)
  rw[aMN,hyk] at this;rw[this,aMG]
 have g3:=sV (P:=prog) (H:=H') (o:=0) (sz:=1) (len:=zs.length) (cap:=cap) (lo:=none) (hi:=some (.int .i64 (k:Nat))) (mx:=none) (h:=k) (m:=cap) (l:=0) hc' (λ_=>szI) rfl (nA _ .i64 k) rfl (by omega) (by omega) (aME _)
 rw[Nat.zero_mul,aMU,Nat.sub_zero,Nat.sub_zero] at g3;refine⟨_,H',g1,g2,g3,?_,by rw[hH'];simp,λb hb=>by rw[hH'];exact aMA (Ne.symm hb)⟩
 have hdl:(dd zs).length=k:=by rw[<-hd,hyk]
 refine⟨by rw[sW,aMN,Nat.mul_one],.inr ⟨c,cap,(List.replicate (zs.length-k) [Value.int .i64 0]).flatten++rest,by rw[hdl],by omega,?_,by rw[sW,hc',hd];rfl⟩⟩
 simp[hdl];omega
def Su (H0:aA)(c cap:Nat)(zs:List Int)(v:Value)(H':aA):Prop:=Iw H' v (dd zs)/\(∀b,cG v b->b=c)/\H'.length=H0.length/\ ∀b,b≠c->H'[b]? =H0[b]?
theorem aEY {zs:List Int}{rest:List Value}{k0 kk:Nat}{H0:aA}{Q:aA->Value->Prop}(hQ: ∀H' v,Su H0 c cap zs v H'->Q H' v)(hcap:zs.length<=cap)(hrest:rest.length=cap-zs.length)(hn:zs.length<=72057594037927936)(h1:1<=k0):
  ∀(q j t k:Nat)(H:aA)(ys:List Int),zs.length-j=q->j<=zs.length->q<k->k0<j->t<j->H[c]? =some (oC ys rest)->ys.length=zs.length->ys.take t=dd (zs.take j)->ys.drop t=zs.drop t->H.length=H0.length->(∀b,b≠c->H[b]? =H0[b]?)-> ∀(x1 x2 x6 x7 x8 x9 bI cA aP aN aL aM aR aS aO bC bH bV bG bE aT aU aV aW aX aY aZ bA bB bK bL bM bN bO bP bQ bR bS bT cC cD cE cI cP cR cS cM cN cO cQ cV cT cU cY dD dG dE:Value),
  ∃H' v,aH k (aI prog (lvl prog bY m) (aH m) If) (Ig (lvl prog bY m) (aH m) (y5 kk (aI prog (lvl prog bY m) (aH m) Cg) (zO (lvl prog bY m) (aH m)))) [(.slice (some ⟨c,0,none⟩) zs.length cap),x1,x2,(.int .i64 (t:Nat)),(.slice (some ⟨c,k0,none⟩) (zs.length-k0) (cap-k0)),(.int .i64 (j-k0:Nat)),x6,x7,x8,x9,bI,cA,aP,aN,aL,aM,aR,aS,aO,bC,bH,bV,bG,bE,aT,aU,aV,aW,aX,aY,aZ,bA,bB,bK,bL,bM,bN,bO,bP,bQ,bR,bS,bT,cC,cD,cE,cI,cP,cR,cS,cM,cN,cO,cQ,cV,cT,cU,cY,dD,dG,dE] H=some (v,H')/\Q H' v:=by
 intro q;induction q with
 |zero=>
  intro j t k H ys hr hj hk hkj htj hc hy hd hdr hl hf;intros;obtain⟨k,rfl⟩: ∃n,k=n+1:=⟨k-1,by omega⟩
  obtain rfl:j=zs.length:=by omega
  rw[List.take_of_length_le (aME _)] at hd;obtain⟨w,H',g1,g2,g3,g4,g5,g6⟩:=aEW hc hy htj hcap hrest hd;have e:decide (((zs.length-k0:Nat):Int)<(zs.length-k0:Nat))=false:=by simp
  refine⟨H',.slice (some ⟨c,0,none⟩) t cap,?_,hQ _ _ ⟨g4,λb ⟨_,_,_,h⟩=>by cases h;rfl,by omega,λb hb=>by rw[g6 b hb,hf b hb]⟩⟩
  rw[dS,R4];simp -implicitDefEqProofs only[gsR,tT,e];rw[aDX];simp -implicitDefEqProofs only[gsR,g1,g2,g3];rw[aDZ];rfl
 |succ q ih=>
  intro j t k H ys hr hj hk hkj htj hc hy hd hdr hl hf;intros;obtain⟨k,rfl⟩: ∃n,k=n+1:=⟨k-1,by omega⟩
  have e:decide (((j-k0:Nat):Int)<(zs.length-k0:Nat))=true:=by simp;omega
  have e3:IntKind.i64.wrap (((j-k0:Nat):Int)+1)=((j+1-k0:Nat):Int):=by rw[dJ (by omega) (by omega)];omega
  have e4:IntKind.i64.wrap (((j-k0:Nat):Int)-1)=((j-1-k0:Nat):Int):=by rw[dJ (by omega) (by omega)];omega
  have e5:IntKind.i64.wrap ((t:Int)+1)=((t+1:Nat):Int):=by rw[dJ (by omega) (by omega)];omega
  have get: ∀i,t<=i->ys[i]? =zs[i]? :=λi hi=>by
   have:=congrArg (·[i-t]?) hdr
   simp only[List.getElem?_drop] at this;rwa [show t+(i-t)=i by omega] at this
  have ga:ys[j-1]? =some (zs[j-1]'(by omega)):=by rw[get _ (by omega)];exact aMB (by omega)
  have gb:ys[j]? =some (zs[j]'(by omega)):=by rw[get _ (by omega)];exact aMB (by omega)
  have i1:aQ 1 (.slice (some ⟨c,k0,none⟩) (zs.length-k0) (cap-k0)) (.int .i64 (j-k0:Nat))=some (.pointer (some ⟨c,j,none⟩)):=by rw[ia (by omega),show k0+(j-k0)=j by omega]
  have i2:aQ 1 (.slice (some ⟨c,k0,none⟩) (zs.length-k0) (cap-k0)) (.int .i64 (j-1-k0:Nat))=some (.pointer (some ⟨c,j-1,none⟩)):=by rw[ia (by omega),show k0+(j-1-k0)=j-1 by omega]
  have i3:aQ 1 (.slice (some ⟨c,0,none⟩) zs.length cap) (.int .i64 (t:Nat))=some (.pointer (some ⟨c,t,none⟩)):=by rw[ia (by omega),aMU]
  have l1:=xP hc gb;have l2:=xP hc ga;have s1:=Sz (i:=t) (zs[j]'(by omega)) hc (by omega)
  have hdt:=Sy (zs:=zs) (j:=j) (by omega) (aMB (show j-1<zs.length by omega)) (aMB (show j<zs.length by omega))
  rw[dS,R4];by_cases hx:zs[j]'(by omega)=zs[j-1]'(by omega)
  ·have d:((zs[j]'(by omega))!=(zs[j-1]'(by omega)))=false:=by simp[hx]
   rw[if_pos hx] at hdt;simp -implicitDefEqProofs only[gsR,tT,e,i1,l1,gJ,e4,i2,l2,d,cH,e3];exact ih (j+1) t k H ys (by omega) (by omega) (by omega) (by omega) (by omega) hc hy (by rw[hdt];exact hd) hdr hl hf ..
  ·have d:((zs[j]'(by omega))!=(zs[j-1]'(by omega)))=true:=by simp[hx]
   rw[if_neg hx] at hdt;simp -implicitDefEqProofs only[gsR,tT,e,i1,l1,gJ,e4,i2,l2,d,i3,s1,cH,e3,e5];refine ih (j+1) (t+1) k _ (ys.set t (zs[j]'(by omega))) (by omega) (by omega) (by omega) (by omega) (by omega) (aMF (aMz.mp hc).1) (by rw[List.length_set];exact hy) ?_ ?_ (by rw[List.length_set];exact hl) (λb hb=>by rw[aMA (Ne.symm hb)];exact hf b hb) ..
   ·rw[hdt,<-hd,List.take_add_one,aMF (by omega),List.take_set_of_le (aME _)]
    rfl
   ·rw[List.drop_set_of_lt (by omega),<-aNi (i:=1),hdr,aNi]
theorem aEX {zs:List Int}{rest:List Value}{Q:aA->Value->Prop}(hQ: ∀H' v,Su H c cap zs v H'->Q H' v)(hcap:zs.length<=cap)(hrest:rest.length=cap-zs.length)(hn:zs.length+10<m)(hm:m<=72057594037927936)(hc:H[c]? =some (oC zs rest)):
  ∀(q j k:Nat),zs.length-j=q->1<=j->j<=zs.length->q<k->dd (zs.take j)=zs.take j-> ∀(x1 x2 x4 x5 x6 x7 x8 x9 bI cA aP aN aL aM aR aS aO bC bH bV bG bE aT aU aV aW aX aY aZ bA bB bK bL bM bN bO bP bQ bR bS bT cC cD cE cI cP cR cS cM cN cO cQ cV cT cU cY dD dG dE:Value),
  ∃H' v,aH k (aI prog (lvl prog bY m) (aH m) Cg) (zO (lvl prog bY m) (aH m)) [(.slice (some ⟨c,0,none⟩) zs.length cap),x1,x2,(.int .i64 (j:Nat)),x4,x5,x6,x7,x8,x9,bI,cA,aP,aN,aL,aM,aR,aS,aO,bC,bH,bV,bG,bE,aT,aU,aV,aW,aX,aY,aZ,bA,bB,bK,bL,bM,bN,bO,bP,bQ,bR,bS,bT,cC,cD,cE,cI,cP,cR,cS,cM,cN,cO,cQ,cV,cT,cU,cY,dD,dG,dE] H=some (v,H')/\Q H' v:=by
 intro q;induction q with
 |zero=>
  intro j k hr h1 hj hk hd;intros;obtain⟨k,rfl⟩: ∃n,k=n+1:=⟨k-1,by omega⟩
  obtain rfl:j=zs.length:=by omega
  rw[List.take_of_length_le (aME _)] at hd;have e:decide ((zs.length:Int)<zs.length)=false:=by simp
  refine⟨H,.slice (some ⟨c,0,none⟩) zs.length cap,?_,hQ _ _ ⟨?_,λb ⟨_,_,_,h⟩=>by cases h;rfl,rfl,λb hb=>rfl⟩⟩
  ·rw[dS,R3]
   simp -implicitDefEqProofs only[gsR,tT,e];rw[aDW];rfl
  ·rw[hd]
   exact⟨by rw[sW,aMN,Nat.mul_one],.inr ⟨c,cap,rest,rfl,hcap,by rw[hrest,Nat.mul_one],by rw[sW,hc];rfl⟩⟩
 |succ q ih=>
  intro j k hr h1 hj hk hd;intros;obtain⟨k,rfl⟩: ∃n,k=n+1:=⟨k-1,by omega⟩
  have e:decide ((j:Int)<zs.length)=true:=by simp;omega
  have e3:IntKind.i64.wrap ((j:Int)+1)=((j+1:Nat):Int):=by rw[dJ (by omega) (by omega)];omega
  have e4:IntKind.i64.wrap ((j:Int)-1)=((j-1:Nat):Int):=by rw[dJ (by omega) (by omega)];omega
  have i1:aQ 1 (.slice (some ⟨c,0,none⟩) zs.length cap) (.int .i64 (j:Nat))=some (.pointer (some ⟨c,j,none⟩)):=by rw[ia (by omega),aMU]
  have i2:aQ 1 (.slice (some ⟨c,0,none⟩) zs.length cap) (.int .i64 (j-1:Nat))=some (.pointer (some ⟨c,j-1,none⟩)):=by rw[ia (by omega),aMU]
  have ga:zs[j-1]? =some (zs[j-1]'(by omega)):=aMB (by omega)
  have gb:zs[j]? =some (zs[j]'(by omega)):=aMB (by omega)
  have l1:=xP hc gb;have l2:=xP hc ga;have hdt:=Sy (zs:=zs) (j:=j) (by omega) ga gb
  rw[dS,R3];by_cases hx:zs[j]'(by omega)=zs[j-1]'(by omega)
  ·have d:((zs[j]'(by omega))==(zs[j-1]'(by omega)))=true:=by simp[hx]
   have g1:=sV (P:=prog) (H:=H) (o:=0) (sz:=1) (len:=zs.length) (cap:=cap) (lo:=some (.int .i64 (j:Nat))) (hi:=none) (mx:=none) (h:=zs.length) (m:=cap) (l:=j) hc (λ_=>szI) (nA 0 .i64 j) rfl rfl (by omega) (by omega) (aME _)
   rw[aMU,Nat.mul_one] at g1;rw[if_pos hx] at hdt;have e1:(1:Int)=((j+1-j:Nat):Int):=by omega
   simp -implicitDefEqProofs only[gsR,tT,e,i1,l1,gJ,e4,i2,l2,d,g1];have:=aEY (m:=m) (kk:=k) (H0:=H) (cap:=cap) (c:=c) (k0:=j) hQ hcap hrest (by omega) h1 (zs.length-(j+1)) (j+1) j m H zs rfl (by omega) (by omega) (by omega) (by omega) hc rfl (by rw[hdt,hd]) rfl rfl (λ_ _=>rfl)
   rw[<-e1] at this;exact this ..
  ·have d:((zs[j]'(by omega))==(zs[j-1]'(by omega)))=false:=by simp[hx]
   rw[if_neg hx] at hdt;simp -implicitDefEqProofs only[gsR,tT,e,i1,l1,gJ,e4,i2,l2,d,cH,e3];exact ih (j+1) k (by omega) (by omega) (by omega) (by omega) (by rw[hdt,hd,List.take_add_one,gb];rfl) ..
theorem Sv {v:Value}{zs:List Int}{H0:aA}(hv:Iw H v zs)(hnew:New H0 v)(he:Ext H0 H)(hn:zs.length+20<m)(hm:m<=72057594037927936): ∃H' u,lvl prog bY m (.func 170) [v] H=some (u,H')/\Ext H0 H'/\Iw H' u (dd zs)/\New H0 u:=by
 have hlen:=hv.xJ;refine iK (fR rfl rfl) (by omega) ?_
 rw[aDY];by_cases h2:zs.length<2
 ·have e:decide ((zs.length:Int)<2)=true:=by simp;omega
  have hd:dd zs=zs:=by
   match zs,h2 with
   |[],_=>rfl
   |[x],_=>rfl
   |x::y::r,h=>exact absurd h (by simp only[aMV];omega)
  refine⟨H,v,?_,he,by rw[hd];exact hv,hnew⟩
  simp -implicitDefEqProofs only[gsR,hlen,e]
 ·have e:decide ((zs.length:Int)<2)=false:=by simp;omega
  obtain⟨hcs,⟨rfl,h0⟩|⟨c,cap,rest,rfl,h1,h2',h3⟩⟩:=hv
  ·omega
  ·rw[sW] at h3
   rw[Nat.mul_one] at h2';have hcl:=hnew c ⟨_,_,_,rfl⟩;simp -implicitDefEqProofs only[gsR,hlen,e];have hd1:dd (zs.take 1)=zs.take 1:=by
    match zs with
    |[]=>rfl
    |x::r=>rfl
   refine aEX (λH' u hC=> ?_) h1 h2' (by omega) (by omega) h3 (zs.length-1) 1 (m-1) rfl (aME _) (by omega) (by omega) hd1 ..
   obtain⟨g2,g3,g4,g5⟩:=hC;refine⟨⟨by rw[g4];exact he.1,λb hb _=> ?_⟩,g2,λb hb=>by rw[g3 b hb];exact hcl⟩
   rw[g5 b (by omega),he.2 b hb id]
end
def pP (v:Int)(e:Ed):List Int:=if e.1=e.2 then [] else if e.1=v then [e.2] else if e.2=v then [e.1] else []
def nM (es:List Ed)(v:Int):List Int:=es.flatMap (pP v)
def bes (es:List Ed)(v:Int):List Int:=dd (srt (nM es v))
theorem Cs (v:Int): ∀es:List Ed,(nM es v).length<=es.length
 |[]=>aME _
 |e::es=>by
  have:=Cs v es;unfold nM at*;rw[List.flatMap_cons,aML];have h1:(pP v e).length<=1:=by
   unfold pP;split
   ·simp
   ·split
    ·simp
    ·split<;>simp
  simp only[aMV];omega
theorem aEV {es:List Ed}{i:Nat}{e:Ed}(v:Int)(h:es[i]? =some e):nM (es.take (i+1)) v=nM (es.take i) v++pP v e:=by
 unfold nM;rw[List.take_add_one,h];simp
theorem oB (H:aA)(k:Int):dL 3 1 1 [.int .i64 0] [(0,.int .i64 k)] H=some (.slice (some ⟨H.length,0,none⟩) 1 1,H++[.cells (inC k) 3 .row]):=rfl
theorem zEd:Blk.cells [Value.int .i64 0,.int .i64 0] 67 .fix= .cells (edC (0,0)) 67 .fix:=rfl
def edB (y:Ed):Blk:= .cells (edC y) 67 .fix
theorem aE1 (y:Ed)(H:aA):stN 2 (.pointer (some ⟨H.length,0,none⟩)) (edV y) (H++[.cells (edC (0,0)) 67 .fix])=some (undef,H++[edB y]):=by
 rw[mE 2 _ _ _ rfl,fQ,nK _ _ _ _ _ _ (by decide) (by simp[edC,edV,Value.cells]) rfl]
 simp[edC,edV,Value.cells,eD,edB]
theorem aEZ {H:aA}{b:Nat}{y:Ed}(h:H[b]? =some (edB y)):ld1 (.pointer (some ⟨b,0,none⟩)) H=some (.int .i64 y.1,H):=by rw[jO,h];rfl
theorem aE0 {H:aA}{b:Nat}{y:Ed}(h:H[b]? =some (edB y)):ld1 (.pointer (some ⟨b,1,none⟩)) H=some (.int .i64 y.2,H):=by rw[jO,h];rfl
section
variable {H : aA} {m : Nat} {p : PlanD} {ev wv nv : Value}
theorem aEU {v:Int}{Q:aA->Value->Prop}(hQ: ∀H' u,Ext H H'->Iw H' u (bes p.edges v)->New H u->Q H' u)(hx:Es H ev p.edges)(hL:p.edges.length<=17592186043000)(hn:p.edges.length+30<m)(hm:m<=72057594037927936): ∀(q i k:Nat)(H1:aA)(acc:Value),p.edges.length-i=q->i<=p.edges.length->q<k->Ext H H1->Iw H1 acc (nM (p.edges.take i) v)->New H acc-> ∀(x0 x2 x3 x4 x6 x7 x8 aP aN aL aM aR aS aO bC bH bV bG bE aT aU aV aW aX aY aZ bA bB bK bL bM bN bO bP bQ bR bS bT cC cD cE:Value),
  ∃H' u,aH k (aI prog (lvl prog bY m) (aH m) I3) (I4 (lvl prog bY m) (aH m)) [x0,(.int .i64 v),x2,x3,x4,acc,x6,x7,x8,ev,(.int .i64 p.edges.length),(.int .i64 (i:Nat)),aP,aN,aL,aM,aR,aS,aO,bC,bH,bV,bG,bE,aT,aU,aV,aW,aX,aY,aZ,bA,bB,bK,bL,bM,bN,bO,bP,bQ,bR,bS,bT,cC,cD,cE] H1=some (u,H')/\Q H' u:=by
 intro q;induction q with
 |zero=>
  intro i k H1 acc hr hi hk he ha hnew;intros;obtain⟨k,rfl⟩: ∃n,k=n+1:=⟨k-1,by omega⟩
  obtain rfl:i=p.edges.length:=by omega
  have e:decide ((p.edges.length:Int)<p.edges.length)=false:=by simp
  rw[List.take_of_length_le (aME _)] at ha;have hcl:=Cs v p.edges;obtain⟨H2,g1,g2,g3⟩:=Q6 ha (by omega) hnew he
  have g1':=Sj m (by omega) [acc] H1
  rw[g1] at g1';have hsl:=qD (nM p.edges v);obtain⟨H3,u,q1,q2,q3,q4⟩:=Sv (m:=m) g2 hnew g3 (by omega) (by omega)
  refine⟨H3,u,?_,hQ _ _ q2 q3 q4⟩;rw[dS,Sg];simp -implicitDefEqProofs only[gsR,e];rw[aEt];simp -implicitDefEqProofs only[gsR,g1',q1]
 |succ q ih=>
  intro i k H1 acc hr hi hk he ha hnew;intros;obtain⟨k,rfl⟩: ∃n,k=n+1:=⟨k-1,by omega⟩
  have e:decide ((i:Int)<p.edges.length)=true:=by simp;omega
  have e3:IntKind.i64.wrap ((i:Int)+1)=((i+1:Nat):Int):=by rw[dJ (by omega) (by omega)];omega
  have hxi:p.edges[i]? =some p.edges[i]:=aMB (by omega)
  obtain⟨b,o,g1,g2,g3⟩:=(hx.ext he).iQ sY hxi .i64;obtain⟨y,hy⟩: ∃y,y=p.edges[i]:=⟨_,rfl⟩;have l1:ldN 2 (.pointer (some ⟨b,o,none⟩)) H1=some (edV y,H1):=by rw[hy];exact(g3 H1 rfl).1
  rw[<-hy] at hxi;have hct:=aEV v hxi;have hcl:=Cs v (p.edges.take i);rw[List.length_take] at hcl;have st:=aE1 y H1;obtain⟨H2,hH2⟩: ∃H2,H2=H1++[edB y]:=⟨_,rfl⟩;rw[<-hH2] at st;have x1:Ext H1 H2:=by rw[hH2];exact Fr.app _ _ _
  have hb:H2[H1.length]? =some (edB y):=by rw[hH2];exact fQ _ _
  have la:=aEZ hb;have lb:=aE0 hb;have ha2:Iw H2 acc (nM (p.edges.take i) v):=by rw[hH2];exact ha.tX _
  rw[dS,Sg];by_cases c1:y.1=y.2
  ·have d1:(y.1==y.2)=true:=by simpa using c1
   have hc0:pP v y=[]:=if_pos c1;rw[hc0,List.append_nil] at hct;simp -implicitDefEqProofs only[gsR,e,g1,l1,zEd,st,la,lb,d1,cH,e3];exact ih (i+1) k H2 acc (by omega) (by omega) (by omega) (he.tr x1) (by rw[hct];exact ha2) hnew ..
  ·have d1:(y.1==y.2)=false:=by simpa using c1
   by_cases c2:y.1=v
   ·have d2:(y.1==v)=true:=by simpa using c2
    have hc0:pP v y=[y.2]:=by unfold pP;rw[if_neg c1,if_pos c2]
    rw[hc0] at hct;obtain⟨u,H3,t1,t2,t3,t4⟩:=ha2.q8 (by':=8) gQ oO (by decide) y.2 hnew (he.tr x1) (jI (n:=17592186044100) (by decide) (by omega))
    simp -implicitDefEqProofs only[gsR,e,g1,l1,zEd,st,la,lb,d1,d2,oB,t1,cH,e3];exact ih (i+1) k H3 u (by omega) (by omega) (by omega) t4 (by rw[hct];exact t2) t3 ..
   ·have d2:(y.1==v)=false:=by simpa using c2
    by_cases c3:y.2=v
    ·have d3:(y.2==v)=true:=by simpa using c3
     have hc0:pP v y=[y.1]:=by unfold pP;rw[if_neg c1,if_neg c2,if_pos c3]
     rw[hc0] at hct;obtain⟨u,H3,t1,t2,t3,t4⟩:=ha2.q8 (by':=8) gQ oO (by decide) y.1 hnew (he.tr x1) (jI (n:=17592186044100) (by decide) (by omega))
     simp -implicitDefEqProofs only[gsR,e,g1,l1,zEd,st,la,lb,d1,d2,d3,oB,t1,cH,e3];exact ih (i+1) k H3 u (by omega) (by omega) (by omega) t4 (by rw[hct];exact t2) t3 ..
    ·have d3:(y.2==v)=false:=by simpa using c3
     have hc0:pP v y=[]:=by unfold pP;rw[if_neg c1,if_neg c2,if_neg c3]
     rw[hc0,List.append_nil] at hct;simp -implicitDefEqProofs only[gsR,e,g1,l1,zEd,st,la,lb,d1,d2,d3,cH,e3];exact ih (i+1) k H2 acc (by omega) (by omega) (by omega) (he.tr x1) (by rw[hct];exact ha2) hnew ..
theorem I9 (hp:PV H p ev wv nv)(hn:p.edges.length+40<m)(hm:m<=72057594037927936)(v:Int): ∃H' u,lvl prog bY m (.func 88) [plV p ev wv nv,.int .i64 v] H=some (u,H')/\Ext H H'/\Iw H' u (bes p.edges v)/\New H u:=by
 refine iK (fR rfl rfl) (by omega) ?_
 have hb:=fQ H (plB p ev wv nv);have l1:=eE hb 1 _ rfl;have hlen:=hp.e.jQ;rw[aEu];simp -implicitDefEqProofs only[gsR,kL,l1,hlen];exact aEU (λH' u h1 h2 h3=>⟨h1,h2,h3⟩) hp.e hp.be (m:=m-1) (by omega) (by omega) p.edges.length 0 (m-1) _ _ (by omega) (by omega) (by omega) (Fr.app _ _ _) (Rw.lD (el:=inC)) (New.nB _) ..
end
def Jd (xs:List Int)(w:Int):Int:=fst (λj=>xs[j]? ==some w) xs.length 0
def oP (es:List Ed)(v:Nat):List Ed:=((bes es v).filter λw=>wi w 0 5).map λw=>((v:Int),w)
def lW (p:PlanD):Nat:=(min (max p.nodes 0) 6).toNat
def kM (p:PlanD):List Ed:=(List.range (lW p)).flatMap (oP p.edges)
abbrev Hs (H:aA)(v:Value)(xs:List Ed):=Rs edC 117 H v xs
abbrev Hw (H:aA)(v:Value)(xs:List Ed):=Rw edC 117 2 H v xs
theorem Cu (z:Int): ∀l,z∈dd l↔z∈l
 |[]=>Iff.rfl
 |[x]=>Iff.rfl
 |x::y::r=>by
  have ih:=Cu z (y::r);unfold dd;split
  ·rename_i h
   subst h;rw[ih];simp
  ·simp only[aMS] at ih⊢
   rw[ih]
theorem Ja: ∀l:List Int,l.Pairwise (· <= ·)->(dd l).Pairwise (· < ·)
 |[],_=>List.Pairwise.nil
 |[x],_=>by simp[dd]
 |x::y::r,h=>by
  obtain⟨h1,h2⟩:=List.pairwise_cons.mp h;have ih:=Ja (y::r) h2;unfold dd;split
  ·exact ih
  ·rename_i hne
   refine List.pairwise_cons.mpr ⟨λz hz=> ?_,ih⟩
   have hz':=(Cu z _).mp hz;have h3:=h1 y (by simp)
   have h4:y<=z:=by
    rcases aMS.mp hz' with rfl|hz'
    ·exact Int.le_refl _
    ·exact(List.pairwise_cons.mp h2).1 z hz'
   omega
theorem Ct (es:List Ed)(v:Int):(bes es v).Pairwise (· < ·):=Ja _ (B4 _)
theorem Cv: ∀(l:List Int)(lo hi:Int),l.Pairwise (· < ·)->(∀x∈l,lo<=x/\x<=hi)->lo<=hi+1->(l.length:Int)<=hi+1-lo
 |[],lo,hi,_,_,h=>by simp;omega
 |x::r,lo,hi,hp,hb,h=>by
  obtain⟨h1,h2⟩:=List.pairwise_cons.mp hp;have hx:=hb x (by simp)
  have:=Cv r (x+1) hi h2 (λy hy=>⟨by have:=h1 y hy;omega,(hb y (by simp[hy])).2⟩) (by omega)
  simp only[aMV];omega
theorem S2 (l:List Int)(h:l.Pairwise (· < ·)):(l.filter λw=>wi w 0 5).length<=6:=by
 have:=Cv (l.filter λw=>wi w 0 5) 0 5 (h.sublist (List.filter_sublist)) (λx hx=>by
  have:=(List.mem_filter.mp hx).2;unfold wi at this;simpa using this) (by omega)
 omega
section
variable {H : aA} {m : Nat} {p : PlanD} {ev wv nv : Value}
theorem aE8 {v:Value}{xs:List Int}{w:Int}(hx:Is H v xs)(hn:xs.length<=72057594037927936): ∀(q i k:Nat),xs.length-i=q->i<=xs.length->q<k-> ∀(x2 x3 x4 x5 x6 x9 bI cA aP aN aL aM aR aS aO:Value),
  aH k (aI prog (lvl prog bY m) (aH m) Ih) (Ci (lvl prog bY m) (aH m)) [v,(.int .i64 w),x2,x3,x4,x5,x6,(.int .i64 xs.length),(.int .i64 (i:Nat)),x9,bI,cA,aP,aN,aL,aM,aR,aS,aO] H=some (.int .i64 (fst (λj=>xs[j]? ==some w) q i),H):=by
 intro q;induction q with
 |zero=>
  intro i k hr hi hk;intros;obtain⟨k,rfl⟩: ∃n,k=n+1:=⟨k-1,by omega⟩
  obtain rfl:xs.length=i:=by omega
  have e:decide (((xs.length:Nat):Int)<(xs.length:Nat))=false:=by simp
  rw[dS,R5];simp -implicitDefEqProofs only[gsR,e];rw[aD1];rfl
 |succ q ih=>
  intro i k hr hi hk;intros;obtain⟨k,rfl⟩: ∃n,k=n+1:=⟨k-1,by omega⟩
  have e:decide ((i:Int)<(xs.length:Nat))=true:=decide_eq_true (by omega)
  have e3:IntKind.i64.wrap ((i:Int)+1)=((i+1:Nat):Int):=by rw[dJ (by omega) (by omega)];omega
  have hxi:xs[i]? =some xs[i]:=aMB (by omega)
  obtain⟨b,o,g1,g2,g3⟩:=hx.iQ gQ hxi .i64;have l1:ld1 (.pointer (some ⟨b,o,none⟩)) H=some (.int .i64 xs[i],H):=(g3 H rfl).2.1 0 _ rfl;rw[dS,R5];unfold fst;by_cases h:w=xs[i]
  ·have d:(w==xs[i])=true:=by rw[h];simp
   have d2:(xs[i]? ==some w)=true:=by rw[hxi,h];simp
   simp -implicitDefEqProofs only[gsR,e,g1,l1,d];rw[aD3,if_pos d2];rfl
  ·have d:(w==xs[i])=false:=by simpa using h
   have d2: ¬(xs[i]? ==some w)=true:=by rw[hxi];simpa using λhh=>h hh.symm
   simp -implicitDefEqProofs only[gsR,e,g1,l1,d,cH,e3];rw[if_neg d2];exact ih (i+1) k (by omega) (by omega) (by omega) ..
theorem aE7 {v:Value}{xs:List Int}(hx:Is H v xs)(w:Int)(hn:xs.length+10<m)(hm:m<=72057594037927936):lvl prog bY m (.func 221) [v,.int .i64 w] H=some (.int .i64 (Jd xs w),H):=by
 have hlen:=hx.jQ;refine cX (fR rfl rfl) (by omega) ?_
 rw[aD2];simp -implicitDefEqProofs only[gsR,hlen];exact aE8 hx (by omega) xs.length 0 (m-1) (by omega) (by omega) (by omega) ..
theorem S1 (es:List Ed)(v:Int):(bes es v).length<=es.length:=by
 have h1:=Sw (srt (nM es v));have h2:=qD (nM es v);have h3:=Cs v es;unfold bes;omega
theorem S0 (a b:Int):bld prog 117 [(0,.int .i64 a),(1,.int .i64 b)]=some (edV (a,b)):=rfl
theorem aE2 (H:aA)(y:Ed):dL 117 2 1 [.int .i64 0,.int .i64 0] [(0,edV y)] H=some (.slice (some ⟨H.length,0,none⟩) 1 1,H++[.cells (edC y) 117 .row]):=rfl
theorem aE6 {H0:aA}{a:Nat}{v:Nat}{ws:List Int}{hs:List Ed}{Q:aA->Value->Prop}{K:Ex->K (Value×aA)}{bn:Int}{u:Value}(hs1:hs.length+(ws.filter λw=>wi w 0 5).length<=1000)(hws:ws.length<=72057594037927936)(hm:0<m)
  (hK: ∀(H':aA)(acc:Value),Ext H0 H'->Hw H' acc (hs++(ws.filter λw=>wi w 0 5).map λw=>((v:Int),w))->New H0 acc-> ∀(x0 x2 x4 x5 x6 x7 x8 x9 aP aN aL aM aR aS aO bC bH bV bG bE aT aU aV aW aX aY aZ bA bB:Value),∃H2 u2,K .normal [x0,(.pointer (some ⟨a,0,none⟩)),x2,acc,x4,x5,x6,x7,x8,x9,(.int .i64 bn),(.int .i64 (IntKind.i64.wrap ((v:Int)+1))),aP,aN,aL,aM,aR,aS,aO,bC,bH,bV,bG,bE,aT,aU,aV,aW,aX,aY,aZ,bA,bB] H'=some (u2,H2)/\Q H2 u2): ∀(q i k:Nat)(H1:aA)(acc:Value),ws.length-i=q->i<=ws.length->q<k->Ext H0 H1->Is H1 u ws->Apart H1 u acc->Hw H1 acc (hs++((ws.take i).filter λw=>wi w 0 5).map λw=>((v:Int),w))->New H0 acc-> ∀(x0 x2 x5 x6 x7 x8 x9 aP aN aL aM bC bH bV bG bE aT aU aV aW aX aY aZ bA bB:Value),
  ∃H' u2,aH k (aI prog (lvl prog bY m) (aH m) Ib) (Ie (lvl prog bY m) (aH m) K) [x0,(.pointer (some ⟨a,0,none⟩)),x2,acc,(.int .i64 (v:Nat)),x5,x6,x7,x8,x9,(.int .i64 bn),(.int .i64 (v:Nat)),aP,aN,aL,aM,u,(.int .i64 ws.length),(.int .i64 (i:Nat)),bC,bH,bV,bG,bE,aT,aU,aV,aW,aX,aY,aZ,bA,bB] H1=some (u2,H')/\Q H' u2:=by
 intro q;induction q with
 |zero=>
  intro i k H1 acc hr hi hk he hu hap ha hnew;intros;obtain⟨k,rfl⟩: ∃n,k=n+1:=⟨k-1,by omega⟩
  obtain rfl:ws.length=i:=by omega
  have e:decide (((ws.length:Nat):Int)<(ws.length:Nat))=false:=by simp
  rw[List.take_of_length_le (aME _)] at ha;rw[dS,R2];simp -implicitDefEqProofs only[gsR,e];rw[aDQ];simp -implicitDefEqProofs only[gsR,cH];exact hK H1 acc he ha hnew ..
 |succ q ih=>
  intro i k H1 acc hr hi hk he hu hap ha hnew;intros;obtain⟨k,rfl⟩: ∃n,k=n+1:=⟨k-1,by omega⟩
  have e:decide ((i:Int)<(ws.length:Nat))=true:=decide_eq_true (by omega)
  have e3:IntKind.i64.wrap ((i:Int)+1)=((i+1:Nat):Int):=by rw[dJ (by omega) (by omega)];omega
  have hxi:ws[i]? =some ws[i]:=aMB (by omega)
  obtain⟨b,o,g1,g2,g3⟩:=hu.iQ gQ hxi .i64;have l1:ld1 (.pointer (some ⟨b,o,none⟩)) H1=some (.int .i64 ws[i],H1):=(g3 H1 rfl).2.1 0 _ rfl;have htake:ws.take (i+1)=ws.take i++[ws[i]]:=by rw[List.take_add_one,hxi];rfl
  have w1:=Sr (m:=m) hm ws[i] 0 5 H1;have hfl:((ws.take i).filter λw=>wi w 0 5).length<=(ws.filter λw=>wi w 0 5).length:=(List.Sublist.filter _ (List.take_sublist i ws)).length_le
  rw[dS,R2];cases c:wi ws[i] 0 5 with
  |true=>
   rw[c] at w1;obtain⟨acc2,H2,t1,t2,t3,t4,t5,t6⟩:=ha.Q5 (by':=16) sY I6 (by decide) ((v:Int),ws[i]) hnew he (jI (n:=1000000) (by decide) (by simp only[aML,aMN];omega))
   simp -implicitDefEqProofs only[gsR,e,g1,l1,w1,S0,aE2,t1,cH,e3];refine ih (i+1) k H2 acc2 (by omega) (by omega) (by omega) t4 (hu.aC0 hap t5) (hap.up t5 t6) ?_ t3 ..
   ·rw[htake,List.filter_append,List.map_append,<-aMG]
    have:([ws[i]].filter λw=>wi w 0 5)=[ws[i]]:=by rw[List.filter_cons,if_pos c];rfl
    rw[this];exact t2
  |false=>
   rw[c] at w1;simp -implicitDefEqProofs only[gsR,e,g1,l1,w1,cH,e3];refine ih (i+1) k H1 acc (by omega) (by omega) (by omega) he hu hap ?_ hnew ..
   have:([ws[i]].filter λw=>wi w 0 5)=[]:=by rw[List.filter_cons,if_neg (by rw[c];decide)];rfl
   rw[htake,List.filter_append,this,List.append_nil];exact ha
theorem aE3 (es:List Ed)(v:Nat):(oP es v).length<=6:=by
 have h2:=S2 _ (Ct es v);unfold oP;rw[aMN];omega
theorem Jb (es:List Ed): ∀i,((List.range i).flatMap (oP es)).length<=i*6
 |0=>by simp
 |i+1=>by
  have:=Jb es i;have:=aE3 es i;rw[aM8,List.flatMap_append,aML,Nat.succ_mul];simp only[List.flatMap_cons,List.flatMap_nil,List.append_nil];omega
theorem Jc (p:PlanD):(kM p).length<=36:=by
 have:=Jb p.edges (lW p);have h6:lW p<=6:=by unfold lW;omega
 unfold kM;omega
theorem aFa (a b:Int):lJ prog false [.int .i64 a,.int .i64 b]=some (.int .i64 (min a b)):=by
 simp[lJ,dP,gN,pur,Builtin.min_,Builtin.min2,pure,bind,Sem.bind]
 split<;>omega
theorem aE9 (a b:Int):lJ prog true [.int .i64 a,.int .i64 b]=some (.int .i64 (max a b)):=by
 simp[lJ,dP,gN,pur,Builtin.max_,Builtin.max2,pure,bind,Sem.bind]
 split<;>omega
theorem aE5 {H0:aA}{a:Nat}(hp:PV H0 p ev wv nv)(hn:p.edges.length+60<m)(hm:m<=72057594037927936): ∀(q i k:Nat)(H1:aA)(acc:Value),(lW p)-i=q->i<=(lW p)->q<k->Ext H0 H1->H0[a]? =some (plB p ev wv nv)->Hw H1 acc ((List.range i).flatMap (oP p.edges))->New H0 acc-> ∀(x0 x2 x4 x5 x6 x7 x8 x9 aP aN aL aM aR aS aO bC bH bV bG bE aT aU aV aW aX aY aZ bA bB:Value),
  ∃H' u2,aH k (aI prog (lvl prog bY m) (aH m) Ia) (Ic (lvl prog bY m) (aH m)) [x0,(.pointer (some ⟨a,0,none⟩)),x2,acc,x4,x5,x6,x7,x8,x9,(.int .i64 (lW p)),(.int .i64 (i:Nat)),aP,aN,aL,aM,aR,aS,aO,bC,bH,bV,bG,bE,aT,aU,aV,aW,aX,aY,aZ,bA,bB] H1=some (u2,H')/\Ext H0 H'/\Hw H' u2 (kM p)/\New H0 u2:=by
 intro q;have h6:lW p<=6:=by unfold lW;omega
 induction q with
 |zero=>
  intro i k H1 acc hr hi hk he hb0 ha hnew;intros;obtain⟨k,rfl⟩: ∃n,k=n+1:=⟨k-1,by omega⟩
  obtain rfl:(lW p)=i:=by omega
  have e:decide ((((lW p):Nat):Int)<((lW p):Nat))=false:=by simp
  refine⟨H1,acc,?_,he,ha,hnew⟩;rw[dS,R1];simp -implicitDefEqProofs only[gsR,e];rw[aDP];rfl
 |succ q ih=>
  intro i k H1 acc hr hi hk he hb0 ha hnew;intros;obtain⟨k,rfl⟩: ∃n,k=n+1:=⟨k-1,by omega⟩
  have e:decide ((i:Int)<((lW p):Nat))=true:=decide_eq_true (by omega)
  have e3:IntKind.i64.wrap ((i:Int)+1)=((i+1:Nat):Int):=by rw[dJ (by omega) (by omega)];omega
  have hb:=fC hb0 he;have l11:=kD hb;obtain⟨H2,u,g1,g2,g3,g4⟩:=I9 (hp.ext he) (m:=m) (by omega) (by omega) (i:Int)
  have hlen:=g3.xJ;have hble:=S1 p.edges (i:Int);have hol:=Jb p.edges i;have hff:=S2 _ (Ct p.edges (i:Int));have hL:=hp.be;have hap:Apart H2 u acc:=λb hb=>⟨g3.iT hb,λhc=>by have:=g4 b hb;have:=ha.iT hc;omega⟩
  have ha2:Hw H2 acc ((List.range i).flatMap (oP p.edges)):=ha.fP λb hb=>g2.2 b (ha.iT hb) id
  rw[dS,R1];simp -implicitDefEqProofs only[gsR,e,l11,g1,hlen];refine aE6 (H0:=H0) (a:=a) (v:=i) (ws:=bes p.edges (i:Int)) (hs:=(List.range i).flatMap (oP p.edges)) (Q:=λH' u2=>Ext H0 H'/\Hw H' u2 (kM p)/\New H0 u2) (by omega) (by omega) (by omega) ?_ (bes p.edges (i:Int)).length 0 m H2 acc (by omega) (by omega) (by omega) (he.tr g2) g3.rs hap (by simpa using ha2) hnew ..
  intro H3 acc3 k1 k2 k3;intros;rw[again_normal,e3];refine ih (i+1) k H3 acc3 (by omega) (by omega) (by omega) k1 hb0 ?_ k3 ..
  rw[aM8,List.flatMap_append];simpa[oP] using k2
theorem aE4 (hp:PV H p ev wv nv)(hn:p.edges.length+70<m)(hm:m<=72057594037927936): ∃H' u,lvl prog bY m (.func 139) [plV p ev wv nv] H=some (u,H')/\Ext H H'/\Hw H' u (kM p)/\New H u:=by
 have hL:=hp.be;obtain⟨H0,hH0⟩: ∃H0,H0=H++[plB p ev wv nv]:=⟨_,rfl⟩;have x0:Ext H H0:=by rw[hH0];exact Fr.app _ _ _
 have b0:H0[H.length]? =some (plB p ev wv nv):=by rw[hH0];exact fQ _ _
 have l0:=eE b0 0 _ rfl;have h6:lW p<=6:=by unfold lW;omega
 have e1:lJ prog true [.int .i64 p.nodes,.int .i64 0]=some (.int .i64 (max p.nodes 0)):=aE9 p.nodes 0;have e2:lJ prog false [.int .i64 (max p.nodes 0),.int .i64 6]=some (.int .i64 (lW p)):=by
  rw[aFa]
  congr 2
  unfold lW;omega
 obtain⟨H',u,g1,g2,g3,g4⟩: ∃H' u,lvl prog bY m (.func 139) [plV p ev wv nv] H=some (u,H')/\Ext H0 H'/\Hw H' u (kM p)/\New H0 u:=by
  refine iK (fR rfl rfl) (by omega) ?_
  rw[aDR];simp -implicitDefEqProofs only[gsR,kL,<-hH0,l0,e1,e2];exact aE5 (hp.ext x0) (m:=m-1) (by omega) (by omega) (lW p) 0 (m-1) H0 _ (by omega) (by omega) (by omega) (Fr.mZ _ _) b0 (Rw.lD (el:=edC)) (New.nB _) ..
 exact⟨H',u,g1,x0.tr g2,g3,λb hb=>aMP x0.1 (g4 b hb)⟩
end
theorem S3: ∀(l l':List Int),l.Pairwise (· < ·)->l'.Pairwise (· < ·)->(∀z,z∈l↔z∈l')->l=l'
 |[],[],_,_,_=>rfl
 |[],y::r,_,_,h=>absurd ((h y).mpr (by simp)) (by simp)
 |x::l,[],_,_,h=>absurd ((h x).mp (by simp)) (by simp)
 |x::l,y::r,h1,h2,h=>by
  obtain⟨a1,a2⟩:=List.pairwise_cons.mp h1;obtain⟨b1,b2⟩:=List.pairwise_cons.mp h2;have hxy:x=y:=by
   have h3:=(h x).mp (by simp)
   have h4:=(h y).mpr (by simp)
   rcases aMS.mp h3 with h3|h3
   ·exact h3
   ·rcases aMS.mp h4 with h4|h4
    ·exact h4.symm
    ·have:=b1 x h3
     have:=a1 y h4;omega
  subst hxy;rw[S3 l r a2 b2 λz=> ?_]
  constructor
  ·intro hz
   rcases aMS.mp ((h z).mp (by simp[hz])) with h3|h3
   ·have:=a1 z hz
    omega
   ·exact h3
  ·intro hz
   rcases aMS.mp ((h z).mpr (by simp[hz])) with h3|h3
   ·have:=b1 z hz
    omega
   ·exact h3
theorem Je (es:List Ed)(v z:Int):z∈bes es v↔z∈nM es v:=by
 unfold bes;rw[Cu,(zC _).mem_iff]
section
variable {H : aA} {m : Nat} {p : PlanD} {ev wv nv : Value}
end
def mkN (nodes:Nat):Nat:=2+nodes%5
def mkW (more:Nat)(i:Nat):Int:=((1+(i+more)%5:Nat):Int)
def prs (n:Nat):List (Nat×Nat):=(List.range n).flatMap λb=>(List.range b).map λa=>(a,b)
def nN:Nat->List (Nat×Nat)->List Ed
 |_,[]=>[]
 |bit,(a,b)::r=>if bit%2=1 then((a:Int),(b:Int))::nN (bit/2) r else nN (bit/2) r
def nxt (n:Nat)(next:List Nat)(k w:Nat):Nat:=match next[k]? with
 |some x=>if x%4=0 then(x/4)%n else w
 |none=>w
def uE (n:Nat)(next:List Nat)(v:Nat):List Int:=(List.range n).map λw=>((nxt n next (v*n+w) w:Nat):Int)
def mkP (nodes room more joined:Nat)(next:List Nat):PlanD where
 nodes:=mkN nodes
 edges:=nN joined (prs (mkN nodes))
 lanes:=((1+more%3:Nat):Int)
 room:=((1+room%8:Nat):Int)
 queue:=((1+room/8%8:Nat):Int)
 rounds:=((1+more/3%4:Nat):Int)
 every:=((1+more/12%8:Nat):Int)
 bag:=64
 weights:=(List.range (1+more%3)).map (mkW more)
 start:=joined
 next:=(List.range (mkN nodes)).map (uE (mkN nodes) next)
def u8C (n:Nat):List Value:=[.int .u8 n]
theorem Jj (n:Nat):(u8C n).length=1:=rfl
abbrev Us (H:aA)(v:Value)(xs:List Nat):=Rs u8C 5 H v xs
theorem cvU (H:aA)(n:Nat)(h:n<256):dI prog 5 3 (.int .u8 n) H=some (.int .i64 n,H):=by
 have h1:prog.underlying 5=some (.int .u8):=by kernel_rfl
 have h2:prog.underlying 3=some (.int .i64):=by kernel_rfl
 rw[eZ _ _ h1 h2,dJ (by omega) (by omega)]
theorem vU (a b:Nat)(c:Int)(hc:c=b)(hb:0<b):bin prog .rem 5 (.int .u8 a) (.int .u8 c)=some (.int .u8 (a%b:Nat)):=by rw[hc,Gu _ _ _ _ (by omega),Int.tmod_eq_emod_of_nonneg (by omega)];congr 2
theorem uF (a b:Nat)(c:Int)(hc:c=b)(hb:0<b):bin prog .rem 3 (.int .i64 a) (.int .i64 c)=some (.int .i64 (a%b:Nat)):=by rw[hc,Gu _ _ _ _ (by omega),Int.tmod_eq_emod_of_nonneg (by omega)];congr 2
theorem aFn (a b:Nat)(c:Int)(hc:c=b)(hb:0<b):bin prog .rem 23 (.int .u16 a) (.int .u16 c)=some (.int .u16 (a%b:Nat)):=by rw[hc,Gu _ _ _ _ (by omega),Int.tmod_eq_emod_of_nonneg (by omega)];congr 2
theorem aFp {n:Nat}(h:n<256):IntKind.u8.wrap (n:Int)=n:=by simp[IntKind.wrap,IntKind.bits,IntKind.signed];omega
theorem aFo {n:Nat}(h:n<65536):IntKind.u16.wrap (n:Int)=n:=by simp[IntKind.wrap,IntKind.bits,IntKind.signed];omega
theorem Cy (a b:Nat)(c:Int)(hc:c=b)(hb:0<b)(ha:a<256):bin prog .quo 5 (.int .u8 a) (.int .u8 c)=some (.int .u8 (a/b:Nat)):=by
 rw[hc,Px _ _ _ _ (by omega),Int.tdiv_eq_ediv_of_nonneg (by omega)]
 have h2:((a:Int)/(b:Int))=((a/b:Nat):Int):=by simp
 rw[h2,aFp (Nat.lt_of_le_of_lt (Nat.div_le_self a b) ha)]
theorem aFm (a b:Nat)(c:Int)(hc:c=b)(hb:0<b)(ha:a<65536):bin prog .quo 23 (.int .u16 a) (.int .u16 c)=some (.int .u16 (a/b:Nat)):=by
 rw[hc,Px _ _ _ _ (by omega),Int.tdiv_eq_ediv_of_nonneg (by omega)]
 have h2:((a:Int)/(b:Int))=((a/b:Nat):Int):=by simp
 rw[h2,aFo (Nat.lt_of_le_of_lt (Nat.div_le_self a b) ha)]
def Cw (b:Nat)(e:TypeId)(H H':aA):Prop:= ∀(c:Nat)(y:Blk),c≠b->(∀cs,y≠ .cells cs e .row)->H[c]? =some y->H'[c]? =some y
section
variable {H : aA} {m : Nat} {p : PlanD} {ev wv nv : Value}
theorem zR {α:Type}{el:α->List Value}{e:TypeId}{sz by':Nat}(hsz: ∀x,(el x).length=sz)(hall: ∀x,dK (el x)=true)(h0:0<sz){H0:aA}{v:Value}{xs:List α}{b j:Nat}{cs:List Value}(x:α)
  (hb:H[b]? =some (.cells cs 40 .fix))(hj:j<cs.length)(hv:Rw el e sz H v xs)(hn:New H0 v)(hbn:H0.length<=b)(he:Ext H0 H)(hr:iZ (xs.length+1) by'=true):
  ∃v' H1 H',app e sz by' v (.slice (some ⟨H.length,0,none⟩) 1 1) (H++[.cells (el x) e .row])=some (v',H1)/\stN 1 (.pointer (some ⟨b,j,none⟩)) v' H1=some (undef,H')/\
   Rw el e sz H' v' (xs++[x])/\New H0 v'/\Ext H0 H'/\H'[b]? =some (.cells (cs.set j v') 40 .fix)/\Cw b e H H':=by
 obtain⟨v',H1,g1,g2,g3,g4,g5,g6⟩:=hv.Q5 hsz hall h0 (by':=by') x hn he hr;have hbl:=(aMz.mp hb).1;have hnh: ¬cG v b:=λhh=>by
  obtain⟨c',hc'⟩:=hv.blk hh;rw[hb] at hc';simp at hc'
 have hb1:H1[b]? =some (.cells cs 40 .fix):=by rw[g5.2 b hbl hnh,hb]
 obtain⟨s1,s2⟩:=g2.xL;have hb1l:=(aMz.mp hb1).1;refine⟨v',H1,H1.set b (.cells (cs.set j v') 40 .fix),g1,?_,g2.fP λc hc=> ?_,g3,⟨by rw[List.length_set];exact g4.1,λc hc _=> ?_⟩,aMF hb1l,λc y hcb hA hy=> ?_⟩
 ·rw[mE 1 _ _ _ (by rw[s1];rfl),hb1,s1,nK _ _ _ _ _ _ (by decide) (by simp;omega) s2]
  rfl
 ·refine aMA λhh=> ?_
  subst hh;obtain⟨c',hc'⟩:=g2.blk hc;rw[hb1] at hc';simp at hc'
 ·rw[aMA (by omega),g4.2 c hc id]
 ·have hch: ¬cG v c:=λhh=>by
   obtain⟨c',hc'⟩:=hv.blk hh;rw[hy] at hc';cases hc';exact hA _ rfl
  rw[aMA (Ne.symm hcb),g5.2 c (aMz.mp hy).1 hch,hy]
theorem Rw.xQ {α:Type}{el:α->List Value}{e e':TypeId}{sz b:Nat}{H':aA}{v:Value}{xs:List α}{cs:List Value}(h:Rw el e' sz H v xs)(hk:Cw b e H H')(hb:H[b]? =some (.cells cs 40 .fix))(hne:e'≠e):Rw el e' sz H' v xs:=h.fP λc hc=>by
 obtain⟨cs',hx⟩:=h.blk hc;have hcb:c≠b:=λhh=>by
  subst hh;rw[hb] at hx;simp at hx
 rw[hx];exact hk c _ hcb (λcs'' hh=>by cases hh;exact hne rfl) hx
theorem bEd (a b:Int):bld prog 67 [(0,.int .i64 a),(1,.int .i64 b)]=some (edV (a,b)):=rfl
theorem aFd (H:aA)(y:Ed):dL 67 2 1 [.int .i64 0,.int .i64 0] [(0,edV y)] H=some (.slice (some ⟨H.length,0,none⟩) 1 1,H++[.cells (edC y) 67 .row]):=rfl
theorem aFj {H0:aA}{b rb n v joined:Nat}{a4:Value}{next:List Nat}{zs:List Value}{Q:aA->Value->Prop}{K:Ex->K (Value×aA)}(hn6:n<=6)(hv6:v<n)(hnx:Us H0 a4 next)(hu8: ∀x∈next,x<256)(hnl:next.length<=72057594037927936)(hpn:p.nodes=(n:Int))(hbr:H0[rb]? =some (.cells zs 40 .fix))(hb:H0[b]? =some (plB p ev wv nv))
  (hK: ∀(H':aA)(u:Value),Ext H0 H'->Iw H' u (uE n next v)->New H0 u-> ∀(x0 x1 x2 x5 x6 x7 x8 x9 aP aN aL aM bC bH bV bG bE aT aU aV aW aX aY aZ bA bB bK bL bM bN bO bP bQ bR bS bT cC cD cE cI cP cR cS cM cN cO cQ cV cT cU cY dD dG dE dH dQ dR dU dV dW dX dY dZ eA eH eI eJ eK eL eM eN eO eP eQ eS eT fD fE fF fG fH fI fJ fK fW fX fY fZ gA gB gC gD gE gF gG gH gI gR gS gT gU gV gW gX gY gZ hP hZ iA iB iC iD iE iF iG iH iI kR kS kV kX kY kZ k8 k9 lA lB lC oH oI oJ oK:Value),∃H2 u2,Iv (lvl prog bY m) (aH m) K x0 x1 x2 (.int .u16 joined) a4 x5 x6 x7 x8 x9 (.pointer (some ⟨rb,0,none⟩)) (.pointer (some ⟨b,0,none⟩)) aP aN aL aM (.int .i64 ((v+1)*n:Nat)) (.int .i64 (v:Nat)) u bC bH bV bG bE aT aU aV aW aX aY aZ bA bB bK bL bM bN bO bP bQ bR bS bT cC cD cE cI cP cR cS cM cN cO cQ cV cT cU cY dD dG dE dH dQ dR dU dV dW dX dY dZ eA eH eI eJ eK eL eM eN eO eP eQ eS eT fD fE fF fG fH fI fJ fK fW fX fY fZ gA gB gC gD gE gF gG gH gI gR gS gT gU gV gW gX gY gZ hP hZ iA iB iC iD iE iF iG iH iI kR kS kV kX kY kZ k8 k9 lA lB lC oH oI oJ oK H'=some (u2,H2)/\Q H2 u2): ∀(q i k:Nat)(H1:aA)(acc:Value),n-i=q->i<=n->q<k->Ext H0 H1->Iw H1 acc ((List.range i).map λw=>((nxt n next (v*n+w) w:Nat):Int))->New H0 acc-> ∀(x0 x1 x2 x5 x6 x7 x8 x9 aP aN aL aM bH bV bG bE aT aU aV aW aX aY aZ bA bB bK bL bM bN bO bP bQ bR bS bT cC cD cE cI cP cR cS cM cN cO cQ cV cT cU cY dD dG dE dH dQ dR dU dV dW dX dY dZ eA eH eI eJ eK eL eM eN eO eP eQ eS eT fD fE fF fG fH fI fJ fK fW fX fY fZ gA gB gC gD gE gF gG gH gI gR gS gT gU gV gW gX gY gZ hP hZ iA iB iC iD iE iF iG iH iI kR kS kV kX kY kZ k8 k9 lA lB lC oH oI oJ oK:Value),
  ∃H2 u2,aH k (aI prog (lvl prog bY m) (aH m) It) (I2 (lvl prog bY m) (aH m) K) [x0,x1,x2,(.int .u16 joined),a4,x5,x6,x7,x8,x9,(.pointer (some ⟨rb,0,none⟩)),(.pointer (some ⟨b,0,none⟩)),aP,aN,aL,aM,(.int .i64 (v*n+i:Nat)),(.int .i64 (v:Nat)),acc,(.int .i64 (i:Nat)),bH,bV,bG,bE,aT,aU,aV,aW,aX,aY,aZ,bA,bB,bK,bL,bM,bN,bO,bP,bQ,bR,bS,bT,cC,cD,cE,cI,cP,cR,cS,cM,cN,cO,cQ,cV,cT,cU,cY,dD,dG,dE,dH,dQ,dR,dU,dV,dW,dX,dY,dZ,eA,eH,eI,eJ,eK,eL,eM,eN,eO,eP,eQ,eS,eT,fD,fE,fF,fG,fH,fI,fJ,fK,fW,fX,fY,fZ,gA,gB,gC,gD,gE,gF,gG,gH,gI,gR,gS,gT,gU,gV,gW,gX,gY,gZ,hP,hZ,iA,iB,iC,iD,iE,iF,iG,iH,iI,kR,kS,kV,kX,kY,kZ,k8,k9,lA,lB,lC,oH,oI,oJ,oK] H1=some (u2,H2)/\Q H2 u2:=by
 intro q;induction q with
 |zero=>
  intro i k H1 acc hr hi hk he ha hnew;intros;obtain⟨k,rfl⟩: ∃n,k=n+1:=⟨k-1,by omega⟩
  obtain rfl:n=i:=by omega
  have e:decide (((n:Nat):Int)<(n:Nat))=false:=by simp
  have l0:=eE (fC hb he) 0 _ rfl;rw[hpn] at l0;rw[dS,Sf];simp -implicitDefEqProofs only[gsR,l0,e];rw[aEr];have hk:v*n+n=(v+1)*n:=by rw[Nat.succ_mul]
  rw[hk];exact hK H1 acc he ha hnew ..
 |succ q ih=>
  intro i k H1 acc hr hi hk he ha hnew;intros;obtain⟨k,rfl⟩: ∃n,k=n+1:=⟨k-1,by omega⟩
  have e:decide ((i:Int)<(n:Nat))=true:=decide_eq_true (by omega)
  have e3:IntKind.i64.wrap ((i:Int)+1)=((i+1:Nat):Int):=by rw[dJ (by omega) (by omega)];omega
  have l0:=eE (fC hb he) 0 _ rfl;rw[hpn] at l0;have hlen:=(hnx.ext he).jQ;have hvn:v*n+i<42:=by
   have:v*n<=5*n:=Nat.mul_le_mul_right _ (by omega)
   omega
  have e4:IntKind.i64.wrap (((v*n+i:Nat):Int)+1)=((v*n+(i+1):Nat):Int):=by rw[dJ (by omega) (by omega)];omega
  have hrange:(List.range (i+1)).map (λw=>((nxt n next (v*n+w) w:Nat):Int))=(List.range i).map (λw=>((nxt n next (v*n+w) w:Nat):Int))++[((nxt n next (v*n+i) i:Nat):Int)]:=by rw[aM8,List.map_append];rfl
  obtain⟨acc2,H2,t1,t2,t3,t4⟩:=ha.q8 (by':=8) gQ oO (by decide) ((nxt n next (v*n+i) i:Nat):Int) hnew he (jI (n:=1000) (by decide) (by simp;omega))
  rw[<-hrange] at t2;rw[dS,Sf];by_cases c:v*n+i<next.length
  ·have d:decide (((v*n+i:Nat):Int)<next.length)=true:=decide_eq_true (by omega)
   have hx:next[v*n+i]? =some next[v*n+i]:=aMB c
   obtain⟨bb,oo,g1,g2,g3⟩:=(hnx.ext he).iQ Jj hx .i64;have l1:ld1 (.pointer (some ⟨bb,oo,none⟩)) H1=some (.int .u8 (next[v*n+i]:Nat),H1):=(g3 H1 rfl).2.1 0 _ rfl
   have hx8:=hu8 _ (List.getElem_mem c);have r4:=vU next[v*n+i] 4 4 rfl (by omega)
   by_cases c4:next[v*n+i]%4=0
   ·have d4:(((next[v*n+i]%4:Nat):Int)==0)=true:=by rw[c4];rfl
    have q4:=Cy next[v*n+i] 4 4 rfl (by omega) hx8
    have hcv:=λH=>cvU H (next[v*n+i]/4) (by omega)
    have rn:=uF (next[v*n+i]/4) n n rfl (by omega)
    have hval:nxt n next (v*n+i) i=next[v*n+i]/4%n:=by unfold nxt;rw[hx];simp only;rw[if_pos c4]
    rw[hval] at t1;simp -implicitDefEqProofs only[gsR,l0,e,hlen,d,g1,l1,r4,d4,q4,hcv,rn,oB,t1,cH,e4,e3];exact ih (i+1) k H2 acc2 (by omega) (by omega) (by omega) t4 t2 t3 ..
   ·have d4:(((next[v*n+i]%4:Nat):Int)==0)=false:=by simpa using λh=>c4 (by omega)
    have hval:nxt n next (v*n+i) i=i:=by unfold nxt;rw[hx];simp only;rw[if_neg c4]
    rw[hval] at t1;simp -implicitDefEqProofs only[gsR,l0,e,hlen,d,g1,l1,r4,d4,oB,t1,cH,e4,e3];exact ih (i+1) k H2 acc2 (by omega) (by omega) (by omega) t4 t2 t3 ..
  ·have d:decide (((v*n+i:Nat):Int)<next.length)=false:=decide_eq_false (by omega)
   have hval:nxt n next (v*n+i) i=i:=by unfold nxt;rw[aMK (by omega)]
   rw[hval] at t1;simp -implicitDefEqProofs only[gsR,l0,e,hlen,d,oB,t1,cH,e4,e3];exact ih (i+1) k H2 acc2 (by omega) (by omega) (by omega) t4 t2 t3 ..
def SV:={u:Value // dK [u]=true/\u.cells= #[u]}
def sC (u:SV):List Value:=[u.1]
theorem Jg (u:SV):(sC u).length=1:=rfl
theorem Jf (u:SV):dK (sC u)=true:=u.2.1
theorem Jh: ∀us:List SV,(us.map sC)=(us.map (·.1)).map vC
 |[]=>rfl
 |u::us=>by rw[aM4,aM4,aM4,Jh us];rfl
structure RowsI (H:aA)(v:Value)(xss:List (List Int))(us:List SV):Prop where
 row:Rw sC 37 1 H v us
 len:us.length=xss.length
 el: ∀(j:Nat)(u:SV)(xs:List Int),us[j]? =some u->xss[j]? =some xs->Iw H u.1 xs
 ap: ∀(j j':Nat)(u u':SV),j<j'->us[j]? =some u->us[j']? =some u'-> ∀b,cG u.1 b->cG u'.1 b->False
def RowsW (H:aA)(v:Value)(xss:List (List Int)):Prop:= ∃us,RowsI H v xss us
theorem RowsI.S4 {H':aA}{v:Value}{xss:List (List Int)}{us:List SV}(h:RowsI H v xss us)(h1: ∀b,cG v b->H'[b]? =H[b]?)(h2: ∀u∈us,∀b,cG u.1 b->H'[b]? =H[b]?):RowsI H' v xss us:=
 ⟨h.row.fP h1,h.len,λj u xs hu hx=>(h.el j u xs hu hx).fP λb hb=>h2 u (aMJ hu) b hb,h.ap⟩
theorem RowsI.S5 {v:Value}{xss:List (List Int)}{us:List SV}(h:RowsI H v xss us){u:SV}(hu:u∈us){b:Nat}(hb:cG u.1 b):b<H.length:=by
 obtain⟨j,hj⟩:=List.getElem?_of_mem hu;have:=(aMz.mp hj).1
 exact(h.el j u _ hj (aMB (by rw[<-h.len];exact this))).iT hb
theorem RowsI.blk {v:Value}{xss:List (List Int)}{us:List SV}(h:RowsI H v xss us){u:SV}(hu:u∈us){b:Nat}(hb:cG u.1 b): ∃cs,H[b]? =some (.cells cs 3 .row):=by
 obtain⟨j,hj⟩:=List.getElem?_of_mem hu;have:=(aMz.mp hj).1
 exact(h.el j u _ hj (aMB (by rw[<-h.len];exact this))).blk hb
theorem RowsW.aFc {v:Value}{xss:List (List Int)}(h:RowsW H v xss):Rows H v xss:=by
 obtain⟨us,hi⟩:=h;refine⟨us.map (·.1),?_,by rw[aMN,hi.len],λj u xs hu hx=> ?_⟩
 ·have:=hi.row.rs
  unfold Rs at this⊢;rw[aMN,<-Jh];rcases this with⟨h1,h2⟩|⟨b,o,cap,h1,h2,h3⟩
  ·exact .inl ⟨h1,by rw[h2];rfl⟩
  ·exact .inr ⟨b,o,cap,h1,h2,λhne=>h3 λhh=>hne (by rw[hh];rfl)⟩
 ·rw[aMM] at hu
  cases hj:us[j]? with
  |none=>rw[hj] at hu;cases hu
  |some u'=>
   rw[hj] at hu;cases hu
   exact(hi.el j u' xs hj hx).rs
def RowsA (H0 H:aA)(v:Value)(xss:List (List Int))(wv:Value):Prop:= ∃us,RowsI H v xss us/\ ∀u∈us,∀b,cG u.1 b-> ¬cG wv b/\H0.length<=b
theorem RowsA.rw {H0:aA}{v wv:Value}{xss:List (List Int)}(h:RowsA H0 H v xss wv):RowsW H v xss:=let⟨us,hi,_⟩:=h;⟨us,hi⟩
structure MS (H0 H1:aA)(pb rb:Nat)(zs:List Value)(p:PlanD)(ev wv nv:Value)(E:List Ed)(W:List Int):Prop where
 ext:Ext H0 H1
 hb:H1[pb]? =some (plB p ev wv nv)
 hr:H1[rb]? =some (.cells zs 40 .fix)
 e:Ew H1 ev E
 en:New H0 ev
 w:Iw H1 wv W
 wn:New H0 wv
 ne:rb≠pb
 lp:H0.length<=pb
 lr:H0.length<=rb
 zl:zs.length=11
theorem MS.aFb {H0 H1 H2:aA}{pb rb:Nat}{zs:List Value}{E:List Ed}{W:List Int}(h:MS H0 H1 pb rb zs p ev wv nv E W)(he:Ext H1 H2):MS H0 H2 pb rb zs p ev wv nv E W:=
 ⟨h.ext.tr he,fC h.hb he,fC h.hr he,h.e.fP λb hb=>he.2 b (h.e.iT hb) id,h.en,h.w.fP λb hb=>he.2 b (h.w.iT hb) id,h.wn,h.ne,h.lp,h.lr,h.zl⟩
theorem aFi {H0 H1:aA}{pb rb:Nat}{zs:List Value}{E:List Ed}{W:List Int}{N:List (List Int)}(h:MS H0 H1 pb rb zs p ev wv nv E W)(hn:RowsA H0 H1 nv N wv){Q:aA->Value->Prop}(hQ: ∀H2,Ext H0 H2->Ew H2 ev E->Iw H2 wv W->RowsA H0 H2 nv N wv->Q H2 (plV p ev wv nv))(x0 x1 x2 x3 x4 x5 x6 x7 x8 x9 aP aN aL aM aR aS aO bC bH bV bG bE aT aU aV aW aX aY aZ bA bB bK bL bM bN bO bP bQ bR bS bT cC cD cE cI cP cR cS cM cN cO cQ cV cT cU cY dD dG dE dH dQ dR dU dV dW dX dY dZ eA eH eI eJ eK eL eM eN eO eP eQ eS eT fD fE fF fG fH fI fJ fK fW fX fY fZ gA gB gC gD gE gF gG gH gI gR gS gT gU gV gW gX gY gZ hP hZ iA iB iC iD iE iF iG iH iI kR kS kV kX kY kZ k8 k9 lA lB lC oH oI oJ oK:Value):
  ∃H2 u2,Iu (lvl prog bY m) (aH m) x0 x1 x2 x3 x4 x5 x6 x7 x8 x9 (.pointer (some ⟨rb,0,none⟩)) (.pointer (some ⟨pb,0,none⟩)) aP aN aL aM aR aS aO bC bH bV bG bE aT aU aV aW aX aY aZ bA bB bK bL bM bN bO bP bQ bR bS bT cC cD cE cI cP cR cS cM cN cO cQ cV cT cU cY dD dG dE dH dQ dR dU dV dW dX dY dZ eA eH eI eJ eK eL eM eN eO eP eQ eS eT fD fE fF fG fH fI fJ fK fW fX fY fZ gA gB gC gD gE gF gG gH gI gR gS gT gU gV gW gX gY gZ hP hZ iA iB iC iD iE iF iG iH iI kR kS kV kX kY kZ k8 k9 lA lB lC oH oI oJ oK H1=some (u2,H2)/\Q H2 u2:=by
 have l11:=kD h.hb;have hrl:=(aMz.mp h.hr).1;obtain⟨a1,a2⟩:=Rw.xL h.e;obtain⟨b1,b2⟩:=Rw.xL h.w;obtain⟨us,hi,hap⟩:=hn;obtain⟨c1,c2⟩:=Rw.xL hi.row;have hall:dK (plC p ev wv nv)=true:=by
  have e1: ∀(v:Value)(vs:List Value),dK [v]=true->dK (v::vs)=dK vs:=λv vs h=>by
   simp only[dK,List.all_cons,List.all_nil,Bool.and_true] at h⊢;rw[h,aMW]
  simp only[plC,P3,e1 _ _ a2,e1 _ _ b2,e1 _ _ c2,P4]
 have st:stN 11 (.pointer (some ⟨rb,0,none⟩)) (plV p ev wv nv) H1=some (undef,H1.set rb (plB p ev wv nv)):=by
  have e1:(plV p ev wv nv).cells.toList=plC p ev wv nv:=rfl;rw[mE 11 _ _ _ rfl,h.hr,e1,nK _ _ _ _ _ _ (by decide) (by rw[h.zl];simp[plC]) hall]
  have hs:eD zs 0 (plC p ev wv nv)=plC p ev wv nv:=by
   match zs,h.zl with
   |[z1,z2,z3,z4,z5,z6,z7,z8,z9,z10,z11],_=>rfl
  rw[hs];rfl
 have hb2:(H1.set rb (plB p ev wv nv))[rb]? =some (plB p ev wv nv):=aMF hrl;have l2:=kD hb2;have kp: ∀(b:Nat)(cs:List Value)(e:TypeId),H1[b]? =some (.cells cs e .row)->(H1.set rb (plB p ev wv nv))[b]? =H1[b]? :=λb cs e hb=>by
  refine aMA λhh=> ?_
  subst hh;rw[h.hr] at hb;simp at hb
 refine⟨H1.set rb (plB p ev wv nv),plV p ev wv nv,?_,hQ _ ⟨by rw[List.length_set];exact h.ext.1,λb hb _=> ?_⟩ (h.e.fP λb hb=> ?_) (h.w.fP λb hb=> ?_) ⟨us,hi.S4 (λb hb=> ?_) (λu hu b hb=> ?_),hap⟩⟩
 ·unfold Iu
  simp -implicitDefEqProofs only[gsR,l11,st,l2]
 ·rw[aMA (by have:=h.lr;omega),h.ext.2 b hb id]
 ·obtain⟨cs,hc⟩:=h.e.blk hb
  exact kp b cs _ hc
 ·obtain⟨cs,hc⟩:=h.w.blk hb
  exact kp b cs _ hc
 ·obtain⟨cs,hc⟩:=hi.row.blk hb
  exact kp b cs _ hc
 ·obtain⟨cs,hc⟩:=hi.blk hu hb
  exact kp b cs _ hc
def Made (H0:aA)(p:PlanD)(H2:aA)(u:Value):Prop:= ∃ev wv nv,u=plV p ev wv nv/\Ext H0 H2/\Ew H2 ev p.edges/\Iw H2 wv p.weights/\RowsA H0 H2 nv p.next wv
theorem aFk {H0:aA}{pb rb n joined:Nat}{a4:Value}{next:List Nat}{zs:List Value}(hn6:n<=6)(hnx:Us H0 a4 next)(hu8: ∀x∈next,x<256)(hnl:next.length<=72057594037927936)(hpn:p.nodes=(n:Int))(hm:50<m)(hpx:p.next=(List.range n).map (uE n next)): ∀(q i k:Nat)(H1:aA)(nv1:Value),n-i=q->i<=n->q<k->MS H0 H1 pb rb zs p ev wv nv1 p.edges p.weights->RowsA H0 H1 nv1 ((List.range i).map (uE n next)) wv->New H0 nv1-> ∀(x0 x1 x2 x5 x6 x7 x8 x9 aP aN aL aM aO bC bH bV bG bE aT aU aV aW aX aY aZ bA bB bK bL bM bN bO bP bQ bR bS bT cC cD cE cI cP cR cS cM cN cO cQ cV cT cU cY dD dG dE dH dQ dR dU dV dW dX dY dZ eA eH eI eJ eK eL eM eN eO eP eQ eS eT fD fE fF fG fH fI fJ fK fW fX fY fZ gA gB gC gD gE gF gG gH gI gR gS gT gU gV gW gX gY gZ hP hZ iA iB iC iD iE iF iG iH iI kR kS kV kX kY kZ k8 k9 lA lB lC oH oI oJ oK:Value),
  ∃H2 u2,aH k (aI prog (lvl prog bY m) (aH m) Ir) (I1 (lvl prog bY m) (aH m)) [x0,x1,x2,(.int .u16 joined),a4,x5,x6,x7,x8,x9,(.pointer (some ⟨rb,0,none⟩)),(.pointer (some ⟨pb,0,none⟩)),aP,aN,aL,aM,(.int .i64 (i*n:Nat)),(.int .i64 (i:Nat)),aO,bC,bH,bV,bG,bE,aT,aU,aV,aW,aX,aY,aZ,bA,bB,bK,bL,bM,bN,bO,bP,bQ,bR,bS,bT,cC,cD,cE,cI,cP,cR,cS,cM,cN,cO,cQ,cV,cT,cU,cY,dD,dG,dE,dH,dQ,dR,dU,dV,dW,dX,dY,dZ,eA,eH,eI,eJ,eK,eL,eM,eN,eO,eP,eQ,eS,eT,fD,fE,fF,fG,fH,fI,fJ,fK,fW,fX,fY,fZ,gA,gB,gC,gD,gE,gF,gG,gH,gI,gR,gS,gT,gU,gV,gW,gX,gY,gZ,hP,hZ,iA,iB,iC,iD,iE,iF,iG,iH,iI,kR,kS,kV,kX,kY,kZ,k8,k9,lA,lB,lC,oH,oI,oJ,oK] H1=some (u2,H2)/\Made H0 p H2 u2:=by
 intro q;induction q with
 |zero=>
  intro i k H1 nv1 hr hi hk hM hR hnew;intros;obtain⟨k,rfl⟩: ∃n,k=n+1:=⟨k-1,by omega⟩
  obtain rfl:n=i:=by omega
  have e:decide (((n:Nat):Int)<(n:Nat))=false:=by simp
  have l0:=eE hM.hb 0 _ rfl;rw[hpn] at l0;rw[dS,Se];simp -implicitDefEqProofs only[gsR,l0,e];rw[aEq];exact aFi hM hR (λH2 g2 g3 g4 g5=>⟨ev,wv,nv1,rfl,g2,g3,g4,by rw[hpx];exact g5⟩) ..
 |succ q ih=>
  intro i k H1 nv1 hr hi hk hM hR hnew;intros;obtain⟨k,rfl⟩: ∃n,k=n+1:=⟨k-1,by omega⟩
  have e:decide ((i:Int)<(n:Nat))=true:=decide_eq_true (by omega)
  have e3:IntKind.i64.wrap ((i:Int)+1)=((i+1:Nat):Int):=by rw[dJ (by omega) (by omega)];omega
  have l0:=eE hM.hb 0 _ rfl;rw[hpn] at l0;rw[dS,Se];simp -implicitDefEqProofs only[gsR,l0,e];have hz0:i*n=i*n+0:=rfl;rw[hz0];refine aFj (H0:=H1) (b:=pb) (rb:=rb) (v:=i) (zs:=zs) (next:=next) (Q:=Made H0 p) hn6 (by omega) (hnx.ext hM.ext) hu8 hnl hpn hM.hr hM.hb ?_ n 0 m H1 (.slice none 0 0) (by omega) (by omega) (by omega) (Fr.mZ _ _) (Rw.lD (el:=inC)) (New.nB _) ..
  intro H2 u x2 hu hun;intros;have hM2:=hM.aFb x2;obtain⟨us,hi1,hap⟩:=hR;have hi:RowsI H2 nv1 ((List.range i).map (uE n next)) us:=hi1.S4 (λb hb=>x2.2 b (hi1.row.iT hb) id) λu hu b hb=>x2.2 b (hi1.S5 hu hb) id
  have l10:=eE hM2.hb 10 _ rfl;obtain⟨s1,s2⟩:=Rw.xL hu;have s3:u.cells= #[u]:=Array.toList_inj.mp s1;obtain⟨su,rfl⟩: ∃su:SV,su.1=u:=⟨⟨u,s2,s3⟩,rfl⟩;have hb1:=aCT 37 (.slice none 0 0) su.1 s2 s3 H2;obtain⟨nv2,H3,H4,g1,g2,g3,g4,g5,g6,g7⟩:=zR (by':=24) Jg Jf (by decide) (j:=10) (H0:=H0) su hM2.hb (by simp[plC]) hi.row hnew hM.lp hM2.ext (jI (n:=1000) (by decide) (by have:=hi.len;rw[aMN,aM3] at this;omega))
  have g1':app 37 1 24 nv1 (.slice (some ⟨H2.length,0,none⟩) 1 1) (H2++[.cells [su.1] 37 .row])=some (nv2,H3):=g1;have hb4:H4[pb]? =some (plB p ev wv nv2):=g6;have e5:IntKind.i64.wrap ((i:Int)+1)=((i+1:Nat):Int):=e3;unfold Iv;simp -implicitDefEqProofs only[gsR,l10,hb1,g1',g2,cH,e5];have kI: ∀(w:Value)(xs:List Int),Iw H2 w xs->Iw H4 w xs:=λw xs hw=>Rw.xQ hw g7 hM2.hb (by decide)
  refine ih (i+1) k H4 nv2 (by omega) (by omega) (by omega) ⟨g5,hb4,g7 _ _ hM.ne (λcs hh=>by cases hh) hM2.hr,Rw.xQ hM2.e g7 hM2.hb (by decide),hM.en,kI _ _ hM2.w,hM.wn,hM.ne,hM.lp,hM.lr,hM.zl⟩ ⟨us++[su],⟨g3,?_,?_,?_⟩,?_⟩ g4 ..
  ·rw[aML,hi.len]
   simp
  ·intro j w xs hw hxs
   rw[aM8,List.map_append] at hxs;by_cases hj:j<us.length
   ·rw[aMC hj] at hw
    rw[aMC (by rw[<-hi.len];exact hj)] at hxs
    exact kI _ _ (hi.el j w xs hw hxs)
   ·rw[aMT (by omega)] at hw
    rw[aMT (by rw[<-hi.len];omega),<-hi.len] at hxs
    by_cases h0:j-us.length=0
    ·rw[h0] at hw hxs
     cases hw;cases hxs;exact kI _ _ hu
    ·rw[aMK (by simp;omega)] at hw
     cases hw
  ·intro j j' w w' hjj hw hw' bb hb1' hb2'
   by_cases hj':j'<us.length
   ·rw[aMC hj'] at hw'
    rw[aMC (by omega)] at hw
    exact hi.ap j j' w w' hjj hw hw' bb hb1' hb2'
   ·rw[aMT (by omega)] at hw'
    by_cases h0:j'-us.length=0
    ·rw[h0] at hw'
     cases hw';rw[aMC (by omega)] at hw
     have h1:=hi1.S5 (aMJ hw) hb1';have h2:=hun bb hb2';omega
    ·rw[aMK (by simp;omega)] at hw'
     cases hw'
  ·intro w hw bb hb1'
   rcases List.mem_append.mp hw with hw|hw
   ·exact hap w hw bb hb1'
   ·have:w=su:=by simpa using hw
    subst this;have h1:=hun bb hb1';have h3:=hM.ext.1
    exact⟨λhb2'=>by have h2:=hM.w.iT hb2';omega,by omega⟩
theorem S7 (a b:Nat): ∀(L:List (Nat×Nat))(bit:Nat),nN bit (L++[(a,b)])=nN bit L++(if bit/2 ^ L.length%2=1 then [((a:Int),(b:Int))] else [])
 |[],bit=>by
  simp only[List.nil_append,nN,List.length_nil,Nat.pow_zero,Nat.div_one]
 |(c,d)::L,bit=>by
  have ih:=S7 a b L (bit/2);have hp:bit/2/2 ^ L.length=bit/2 ^ (L.length+1):=by rw[Nat.div_div_eq_div_mul,Nat.pow_succ,Nat.mul_comm]
  rw[hp] at ih;simp only[List.cons_append,nN,aMV,ih];by_cases h:bit%2=1
  ·rw[if_pos h,if_pos h];rfl
  ·rw[if_neg h,if_neg h]
theorem Ji: ∀(L:List (Nat×Nat))(bit:Nat),(nN bit L).length<=L.length
 |[],_=>aME _
 |(c,d)::L,bit=>by
  have ih:=Ji L (bit/2);unfold nN;split
  ·simp only[aMV];omega
  ·simp only[aMV];omega
theorem Cx (n:Nat):prs (n+1)=prs n++(List.range n).map λa=>(a,n):=by
 unfold prs;rw[aM8,List.flatMap_append];simp
theorem S6: ∀n,(prs n).length<=n*n
 |0=>by simp[prs]
 |n+1=>by
  have:=S6 n;rw[Cx,aML,aMN,aM3];have e:(n+1)*(n+1)=n*n+n+n+1:=by rw[Nat.succ_mul,Nat.mul_succ];omega
  omega
theorem aFe (bit k:Nat):bit/2 ^ k/2=bit/2 ^ (k+1):=by rw[Nat.div_div_eq_div_mul,Nat.pow_succ]
theorem aFf {H0:aA}{pb rb B joined:Nat}{a4:Value}{zs:List Value}{Wt:List Int}(hB:B<=6)(hj:joined<65536){Q:aA->Value->Prop}{K:Ex->K (Value×aA)}
  (hK: ∀(H':aA)(ev':Value),MS H0 H' pb rb zs p ev' wv nv (nN joined (prs (B+1))) Wt-> ∀(x0 x1 x2 x5 x6 x7 x8 x9 aP aM aR aS aO bC bH bV bG bE aT aU aV aW aX aY aZ bA bB bK bL bM bN bO bP bQ bR bS bT cC cD cE cI cP cR cS cM cN cO cQ cV cT cU cY dD dG dE dH dQ dR dU dV dW dX dY dZ eA eH eI eJ eK eL eM eN eO eP eQ eS eT fD fE fF fG fH fI fJ fK fW fX fY fZ gA gB gC gD gE gF gG gH gI gR gS gT gU gV gW gX gY gZ hP hZ iA iB iC iD iE iF iG iH iI kR kS kV kX kY kZ k8 k9 lA lB lC oH oI oJ oK:Value),∃H2 u2,K .normal [x0,x1,x2,(.int .u16 joined),a4,x5,x6,x7,x8,x9,(.pointer (some ⟨rb,0,none⟩)),(.pointer (some ⟨pb,0,none⟩)),aP,(.int .u16 (joined/2 ^ (prs (B+1)).length:Nat)),(.int .i64 (IntKind.i64.wrap ((B:Int)+1))),aM,aR,aS,aO,bC,bH,bV,bG,bE,aT,aU,aV,aW,aX,aY,aZ,bA,bB,bK,bL,bM,bN,bO,bP,bQ,bR,bS,bT,cC,cD,cE,cI,cP,cR,cS,cM,cN,cO,cQ,cV,cT,cU,cY,dD,dG,dE,dH,dQ,dR,dU,dV,dW,dX,dY,dZ,eA,eH,eI,eJ,eK,eL,eM,eN,eO,eP,eQ,eS,eT,fD,fE,fF,fG,fH,fI,fJ,fK,fW,fX,fY,fZ,gA,gB,gC,gD,gE,gF,gG,gH,gI,gR,gS,gT,gU,gV,gW,gX,gY,gZ,hP,hZ,iA,iB,iC,iD,iE,iF,iG,iH,iI,kR,kS,kV,kX,kY,kZ,k8,k9,lA,lB,lC,oH,oI,oJ,oK] H'=some (u2,H2)/\Q H2 u2): ∀(q i k:Nat)(H1:aA)(ev1:Value),B-i=q->i<=B->q<k->MS H0 H1 pb rb zs p ev1 wv nv (nN joined (prs B++(List.range i).map λa=>(a,B))) Wt-> ∀(x0 x1 x2 x5 x6 x7 x8 x9 aP aR aS aO bC bH bV bG bE aT aU aV aW aX aY aZ bA bB bK bL bM bN bO bP bQ bR bS bT cC cD cE cI cP cR cS cM cN cO cQ cV cT cU cY dD dG dE dH dQ dR dU dV dW dX dY dZ eA eH eI eJ eK eL eM eN eO eP eQ eS eT fD fE fF fG fH fI fJ fK fW fX fY fZ gA gB gC gD gE gF gG gH gI gR gS gT gU gV gW gX gY gZ hP hZ iA iB iC iD iE iF iG iH iI kR kS kV kX kY kZ k8 k9 lA lB lC oH oI oJ oK:Value),
  ∃H2 u2,aH k (aI prog (lvl prog bY m) (aH m) Iq) (I0 (lvl prog bY m) (aH m) K) [x0,x1,x2,(.int .u16 joined),a4,x5,x6,x7,x8,x9,(.pointer (some ⟨rb,0,none⟩)),(.pointer (some ⟨pb,0,none⟩)),aP,(.int .u16 (joined/2 ^ ((prs B).length+i):Nat)),(.int .i64 (B:Nat)),(.int .i64 (i:Nat)),aR,aS,aO,bC,bH,bV,bG,bE,aT,aU,aV,aW,aX,aY,aZ,bA,bB,bK,bL,bM,bN,bO,bP,bQ,bR,bS,bT,cC,cD,cE,cI,cP,cR,cS,cM,cN,cO,cQ,cV,cT,cU,cY,dD,dG,dE,dH,dQ,dR,dU,dV,dW,dX,dY,dZ,eA,eH,eI,eJ,eK,eL,eM,eN,eO,eP,eQ,eS,eT,fD,fE,fF,fG,fH,fI,fJ,fK,fW,fX,fY,fZ,gA,gB,gC,gD,gE,gF,gG,gH,gI,gR,gS,gT,gU,gV,gW,gX,gY,gZ,hP,hZ,iA,iB,iC,iD,iE,iF,iG,iH,iI,kR,kS,kV,kX,kY,kZ,k8,k9,lA,lB,lC,oH,oI,oJ,oK] H1=some (u2,H2)/\Q H2 u2:=by
 intro q;induction q with
 |zero=>
  intro i k H1 ev1 hr hi hk hM;intros;obtain⟨k,rfl⟩: ∃n,k=n+1:=⟨k-1,by omega⟩
  obtain rfl:B=i:=by omega
  have e:decide (((B:Nat):Int)<(B:Nat))=false:=by simp
  rw[<-Cx] at hM;have hl:(prs B).length+B=(prs (B+1)).length:=by rw[Cx,aML,aMN,aM3]
  rw[hl];rw[dS,Sd];simp -implicitDefEqProofs only[gsR,e];rw[aEp];simp -implicitDefEqProofs only[gsR,cH];exact hK H1 ev1 hM ..
 |succ q ih=>
  intro i k H1 ev1 hr hi hk hM;intros;obtain⟨k,rfl⟩: ∃n,k=n+1:=⟨k-1,by omega⟩
  have e:decide ((i:Int)<(B:Nat))=true:=decide_eq_true (by omega)
  have e3:IntKind.i64.wrap ((i:Int)+1)=((i+1:Nat):Int):=by rw[dJ (by omega) (by omega)];omega
  have hpl:=S6 B;have hpl2:B*B<=36:=Nat.mul_le_mul hB hB;have hbit:joined/2 ^ ((prs B).length+i)<65536:=Nat.lt_of_le_of_lt (Nat.div_le_self _ _) hj;have r2:=aFn (joined/2 ^ ((prs B).length+i)) 2 2 rfl (by omega)
  have q2:=aFm (joined/2 ^ ((prs B).length+i)) 2 2 rfl (by omega) hbit
  rw[aFe,Nat.add_assoc] at q2;have l1:=eE hM.hb 1 _ rfl;have hlen:(prs B++(List.range i).map λa=>(a,B)).length=(prs B).length+i:=by rw[aML,aMN,aM3]
  have hsn:=S7 i B (prs B++(List.range i).map λa=>(a,B)) joined
  rw[hlen] at hsn;have hap:prs B++(List.range (i+1)).map (λa=>(a,B))=(prs B++(List.range i).map λa=>(a,B))++[(i,B)]:=by rw[aM8,List.map_append,aMG];rfl
  have hsl:=Ji (prs B++(List.range i).map λa=>(a,B)) joined
  rw[hlen] at hsl;rw[dS,Sd];by_cases c:joined/2 ^ ((prs B).length+i)%2=1
  ·have d:(((joined/2 ^ ((prs B).length+i)%2:Nat):Int)==1)=true:=by rw[c];rfl
   rw[if_pos c] at hsn;obtain⟨ev2,H3,H4,g1,g2,g3,g4,g5,g6,g7⟩:=zR (by':=16) sY I6 (by decide) (j:=1) (H0:=H0) ((i:Int),(B:Int)) hM.hb (by simp[plC]) hM.e hM.en hM.lp hM.ext (jI (n:=1000) (by decide) (by omega))
   have hb4:H4[pb]? =some (plB p ev2 wv nv):=g6;simp -implicitDefEqProofs only[gsR,e,r2,d,l1,bEd,aFd,g1,g2,q2,cH,e3];exact ih (i+1) k H4 ev2 (by omega) (by omega) (by omega) ⟨g5,hb4,g7 _ _ hM.ne (λcs hh=>by cases hh) hM.hr,by rw[hap,hsn];exact g3,g4,Rw.xQ hM.w g7 hM.hb (by decide),hM.wn,hM.ne,hM.lp,hM.lr,hM.zl⟩ ..
  ·have d:(((joined/2 ^ ((prs B).length+i)%2:Nat):Int)==1)=false:=beq_eq_false_iff_ne.mpr (λh=>c (Int.ofNat.inj h))
   rw[if_neg c,List.append_nil] at hsn;simp -implicitDefEqProofs only[gsR,e,r2,d,q2,cH,e3];exact ih (i+1) k H1 ev1 (by omega) (by omega) (by omega) (by rw[hap,hsn];exact hM) ..
theorem aFg {H0:aA}{pb rb n joined:Nat}{a4:Value}{next:List Nat}{zs:List Value}(hn6:n<=6)(hnx:Us H0 a4 next)(hu8: ∀x∈next,x<256)(hnl:next.length<=72057594037927936)(hpn:p.nodes=(n:Int))(hm:50<m)(hj:joined<65536)(hpx:p.next=(List.range n).map (uE n next))(hpe:p.edges=nN joined (prs n))(hn1:1<=n): ∀(q i k:Nat)(H1:aA)(ev1:Value),n-i=q->i<=n->q<k->1<=i->MS H0 H1 pb rb zs p ev1 wv (.slice none 0 0) (nN joined (prs i)) p.weights-> ∀(x0 x1 x2 x5 x6 x7 x8 x9 aP aM aR aS aO bC bH bV bG bE aT aU aV aW aX aY aZ bA bB bK bL bM bN bO bP bQ bR bS bT cC cD cE cI cP cR cS cM cN cO cQ cV cT cU cY dD dG dE dH dQ dR dU dV dW dX dY dZ eA eH eI eJ eK eL eM eN eO eP eQ eS eT fD fE fF fG fH fI fJ fK fW fX fY fZ gA gB gC gD gE gF gG gH gI gR gS gT gU gV gW gX gY gZ hP hZ iA iB iC iD iE iF iG iH iI kR kS kV kX kY kZ k8 k9 lA lB lC oH oI oJ oK:Value),
  ∃H2 u2,aH k (aI prog (lvl prog bY m) (aH m) Ip) (Iz (lvl prog bY m) (aH m)) [x0,x1,x2,(.int .u16 joined),a4,x5,x6,x7,x8,x9,(.pointer (some ⟨rb,0,none⟩)),(.pointer (some ⟨pb,0,none⟩)),aP,(.int .u16 (joined/2 ^ (prs i).length:Nat)),(.int .i64 (i:Nat)),aM,aR,aS,aO,bC,bH,bV,bG,bE,aT,aU,aV,aW,aX,aY,aZ,bA,bB,bK,bL,bM,bN,bO,bP,bQ,bR,bS,bT,cC,cD,cE,cI,cP,cR,cS,cM,cN,cO,cQ,cV,cT,cU,cY,dD,dG,dE,dH,dQ,dR,dU,dV,dW,dX,dY,dZ,eA,eH,eI,eJ,eK,eL,eM,eN,eO,eP,eQ,eS,eT,fD,fE,fF,fG,fH,fI,fJ,fK,fW,fX,fY,fZ,gA,gB,gC,gD,gE,gF,gG,gH,gI,gR,gS,gT,gU,gV,gW,gX,gY,gZ,hP,hZ,iA,iB,iC,iD,iE,iF,iG,iH,iI,kR,kS,kV,kX,kY,kZ,k8,k9,lA,lB,lC,oH,oI,oJ,oK] H1=some (u2,H2)/\Made H0 p H2 u2:=by
 intro q;induction q with
 |zero=>
  intro i k H1 ev1 hr hi hk h1i hM;intros;obtain⟨k,rfl⟩: ∃n,k=n+1:=⟨k-1,by omega⟩
  obtain rfl:n=i:=by omega
  have e:decide (((n:Nat):Int)<(n:Nat))=false:=by simp
  have l0:=eE hM.hb 0 _ rfl;rw[hpn] at l0;rw[<-hpe] at hM;rw[dS,Sc];simp -implicitDefEqProofs only[gsR,l0,e];rw[aEo];have:=aFk (m:=m) (pb:=pb) (rb:=rb) (zs:=zs) (wv:=wv) (ev:=ev1) (joined:=joined) hn6 hnx hu8 hnl hpn hm hpx n 0 m H1 (.slice none 0 0) (by omega) (by omega) (by omega) hM ⟨[],⟨Rw.lD,rfl,λj u xs h=>by simp at h,λj j' u u' _ h=>by simp at h⟩,λu hu=>by cases hu⟩ (New.nB _)
  rw[Nat.zero_mul] at this;exact this ..
 |succ q ih=>
  intro i k H1 ev1 hr hi hk h1i hM;intros;obtain⟨k,rfl⟩: ∃n,k=n+1:=⟨k-1,by omega⟩
  have e:decide ((i:Int)<(n:Nat))=true:=decide_eq_true (by omega)
  have e3:IntKind.i64.wrap ((i:Int)+1)=((i+1:Nat):Int):=by rw[dJ (by omega) (by omega)];omega
  have l0:=eE hM.hb 0 _ rfl;rw[hpn] at l0;rw[dS,Sc];simp -implicitDefEqProofs only[gsR,l0,e];refine aFf (H0:=H0) (pb:=pb) (rb:=rb) (B:=i) (joined:=joined) (zs:=zs) (wv:=wv) (Wt:=p.weights) (Q:=Made H0 p) (by omega) hj ?_ i 0 m H1 ev1 (by omega) (by omega) (by omega) (by simpa using hM) ..
  intro H2 ev2 hM2;intros;rw[again_normal,e3];exact ih (i+1) k H2 ev2 (by omega) (by omega) (by omega) (by omega) hM2 ..
theorem aFl {H0:aA}{pb rb n joined:Nat}{a4:Value}{next:List Nat}{zs:List Value}(hn6:n<=6)(hnx:Us H0 a4 next)(hu8: ∀x∈next,x<256)(hnl:next.length<=72057594037927936)(hpn:p.nodes=(n:Int))(hm:50<m){more:Nat}(hmore:more<256)(hj:joined<65536)(hpx:p.next=(List.range n).map (uE n next))(hpe:p.edges=nN joined (prs n))(hpw:p.weights=(List.range (1+more%3)).map (mkW more))(hpl:p.lanes=((1+more%3:Nat):Int))(hn1:1<=n): ∀(q i k:Nat)(H1:aA)(wv1:Value),(1+more%3)-i=q->i<=(1+more%3)->q<k->MS H0 H1 pb rb zs p (.slice none 0 0) wv1 (.slice none 0 0) [] ((List.range i).map (mkW more))-> ∀(x0 x1 x5 x6 x7 x8 x9 aN aL aM aR aS aO bC bH bV bG bE aT aU aV aW aX aY aZ bA bB bK bL bM bN bO bP bQ bR bS bT cC cD cE cI cP cR cS cM cN cO cQ cV cT cU cY dD dG dE dH dQ dR dU dV dW dX dY dZ eA eH eI eJ eK eL eM eN eO eP eQ eS eT fD fE fF fG fH fI fJ fK fW fX fY fZ gA gB gC gD gE gF gG gH gI gR gS gT gU gV gW gX gY gZ hP hZ iA iB iC iD iE iF iG iH iI kR kS kV kX kY kZ k8 k9 lA lB lC oH oI oJ oK:Value),
  ∃H2 u2,aH k (aI prog (lvl prog bY m) (aH m) Io) (Iy (lvl prog bY m) (aH m)) [x0,x1,(.int .u8 more),(.int .u16 joined),a4,x5,x6,x7,x8,x9,(.pointer (some ⟨rb,0,none⟩)),(.pointer (some ⟨pb,0,none⟩)),(.int .i64 (i:Nat)),aN,aL,aM,aR,aS,aO,bC,bH,bV,bG,bE,aT,aU,aV,aW,aX,aY,aZ,bA,bB,bK,bL,bM,bN,bO,bP,bQ,bR,bS,bT,cC,cD,cE,cI,cP,cR,cS,cM,cN,cO,cQ,cV,cT,cU,cY,dD,dG,dE,dH,dQ,dR,dU,dV,dW,dX,dY,dZ,eA,eH,eI,eJ,eK,eL,eM,eN,eO,eP,eQ,eS,eT,fD,fE,fF,fG,fH,fI,fJ,fK,fW,fX,fY,fZ,gA,gB,gC,gD,gE,gF,gG,gH,gI,gR,gS,gT,gU,gV,gW,gX,gY,gZ,hP,hZ,iA,iB,iC,iD,iE,iF,iG,iH,iI,kR,kS,kV,kX,kY,kZ,k8,k9,lA,lB,lC,oH,oI,oJ,oK] H1=some (u2,H2)/\Made H0 p H2 u2:=by
 intro q;induction q with
 |zero=>
  intro i k H1 wv1 hr hi hk hM;intros;obtain⟨k,rfl⟩: ∃n,k=n+1:=⟨k-1,by omega⟩
  obtain rfl:(1+more%3)=i:=by omega
  have e:decide ((((1+more%3):Nat):Int)<((1+more%3):Nat))=false:=by simp
  have l2:=eE hM.hb 2 _ rfl;rw[hpl] at l2;rw[<-hpw] at hM;rw[dS,Sb];simp -implicitDefEqProofs only[gsR,l2,e];rw[aEn];have:=aFg (m:=m) (pb:=pb) (rb:=rb) (zs:=zs) (wv:=wv1) (joined:=joined) hn6 hnx hu8 hnl hpn hm hj hpx hpe hn1 (n-1) 1 m H1 (.slice none 0 0) rfl hn1 (by omega) (aME _) hM
  have hp1:joined/2 ^ (prs 1).length=joined:=by
   have:(prs 1).length=0:=rfl;rw[this,Nat.pow_zero,Nat.div_one]
  rw[hp1] at this;exact this ..
 |succ q ih=>
  intro i k H1 wv1 hr hi hk hM;intros;obtain⟨k,rfl⟩: ∃n,k=n+1:=⟨k-1,by omega⟩
  have e:decide ((i:Int)<((1+more%3):Nat))=true:=decide_eq_true (by omega)
  have e3:IntKind.i64.wrap ((i:Int)+1)=((i+1:Nat):Int):=by rw[dJ (by omega) (by omega)];omega
  have l2:=eE hM.hb 2 _ rfl;rw[hpl] at l2;have l8:=eE hM.hb 8 _ rfl;have hcv:=λH=>cvU H more hmore
  have a1:IntKind.i64.wrap ((i:Int)+(more:Int))=((i+more:Nat):Int):=by rw[dJ (by omega) (by omega)];omega
  have a2:=uF (i+more) 5 5 rfl (by omega)
  have a3:IntKind.i64.wrap (1+((((i+more)%5:Nat)):Int))=mkW more i:=by unfold mkW;rw[dJ (by omega) (by omega)];omega
  obtain⟨wv2,H2,H3,g1,g2,g3,g4,g5,g6,g7⟩:=zR (by':=8) gQ oO (by decide) (j:=8) (H0:=H0) (mkW more i) hM.hb (by simp[plC]) hM.w hM.wn hM.lp hM.ext (jI (n:=1000) (by decide) (by simp;omega))
  have hb3:H3[pb]? =some (plB p (.slice none 0 0) wv2 (.slice none 0 0)):=g6;rw[dS,Sb];simp -implicitDefEqProofs only[gsR,l2,e,l8,hcv,cH,a1,a2,a3,oB,g1,g2,e3];exact ih (i+1) k H3 wv2 (by omega) (by omega) (by omega) ⟨g5,hb3,g7 _ _ hM.ne (λcs hh=>by cases hh) hM.hr,Rw.lD,New.nB _,by rw[aM8,List.map_append];exact g3,g4,hM.ne,hM.lp,hM.lr,hM.zl⟩ ..
theorem bPl (a b c d e f g h:Int):bld prog 40 [(0,.int .i64 a),(2,.int .i64 b),(3,.int .i64 c),(4,.int .i64 d),(5,.int .i64 e),(6,.int .i64 f),(7,.int .i64 g),(9,.int .u16 h)]=some (.agg #[.int .i64 a,.slice none 0 0,.int .i64 b,.int .i64 c,.int .i64 d,.int .i64 e,.int .i64 f,.int .i64 g,.slice none 0 0,.int .u16 h,.slice none 0 0]):=by kernel_rfl
theorem aFh (nodes room more joined:Nat)(h1:nodes<256)(h2:room<256)(h3:more<256)(h4:joined<65536){a4:Value}{next:List Nat}(hnx:Us H a4 next)(hu8: ∀x∈next,x<256)(hnl:next.length<=72057594037927936)(hm:60<m):
  ∃H2 u,lvl prog bY m (.func 44) [.int .u8 nodes,.int .u8 room,.int .u8 more,.int .u16 joined,a4] H=some (u,H2)/\Made H (mkP nodes room more joined next) H2 u:=by
 obtain⟨p,hp⟩: ∃p,p=mkP nodes room more joined next:=⟨_,rfl⟩
 rw[<-hp];obtain⟨zs,hzs⟩: ∃zs,zs=[Value.int .i64 0,.slice none 0 0,.int .i64 0,.int .i64 0,.int .i64 0,.int .i64 0,.int .i64 0,.int .i64 0,.slice none 0 0,.int .u16 0,.slice none 0 0]:=⟨_,rfl⟩;obtain⟨H1,hH1⟩: ∃H1,H1=H++[Blk.cells zs 40 .fix]:=⟨_,rfl⟩;have x1:Ext H H1:=by rw[hH1];exact Fr.app _ _ _
 have n1:=vU nodes 5 5 rfl (by omega)
 have n2:=λH=>cvU H (nodes%5) (by omega)
 have n3:IntKind.i64.wrap (2+((nodes%5:Nat):Int))=p.nodes:=by rw[dJ (by omega) (by omega),hp];simp[mkP,mkN]
 have n4:=vU more 3 3 rfl (by omega)
 have n5:=λH=>cvU H (more%3) (by omega)
 have n6:IntKind.i64.wrap (1+((more%3:Nat):Int))=p.lanes:=by rw[dJ (by omega) (by omega),hp];simp[mkP]
 have r1:=vU room 8 8 rfl (by omega)
 have r2:=λH=>cvU H (room%8) (by omega)
 have r3:IntKind.i64.wrap (1+((room%8:Nat):Int))=p.room:=by rw[dJ (by omega) (by omega),hp];simp[mkP]
 have r4:=Cy room 8 8 rfl (by omega) h2
 have r5:=vU (room/8) 8 8 rfl (by omega)
 have r6:=λH=>cvU H (room/8%8) (by omega)
 have r7:IntKind.i64.wrap (1+((room/8%8:Nat):Int))=p.queue:=by rw[dJ (by omega) (by omega),hp];simp[mkP]
 have m1:=Cy more 3 3 rfl (by omega) h3
 have m2:=vU (more/3) 4 4 rfl (by omega)
 have m3:=λH=>cvU H (more/3%4) (by omega)
 have m4:IntKind.i64.wrap (1+((more/3%4:Nat):Int))=p.rounds:=by rw[dJ (by omega) (by omega),hp];simp[mkP]
 have m5:=Cy more 12 12 rfl (by omega) h3
 have m6:=vU (more/12) 8 8 rfl (by omega)
 have m7:=λH=>cvU H (more/12%8) (by omega)
 have m8:IntKind.i64.wrap (1+((more/12%8:Nat):Int))=p.every:=by rw[dJ (by omega) (by omega),hp];simp[mkP]
 have b64:p.bag=64:=by rw[hp];rfl
 have bst:p.start=joined:=by rw[hp];rfl
 obtain⟨H2,hH2⟩: ∃H2,H2=H1++[plB p (.slice none 0 0) (.slice none 0 0) (.slice none 0 0)]:=⟨_,rfl⟩;have x2:Ext H1 H2:=by rw[hH2];exact Fr.app _ _ _
 have st:stN 11 (.pointer (some ⟨H1.length,0,none⟩)) (.agg #[.int .i64 p.nodes,.slice none 0 0,.int .i64 p.lanes,.int .i64 p.room,.int .i64 p.queue,.int .i64 p.rounds,.int .i64 p.every,.int .i64 64,.slice none 0 0,.int .u16 joined,.slice none 0 0]) (H1++[.cells zs 40 .fix])=some (undef,H2):=by
  rw[mE 11 _ _ _ rfl,fQ,nK _ _ _ _ _ _ (by decide) (by rw[hzs];simp[Value.cells]) rfl,hH2,hzs]
  simp[eD,Value.cells,plB,plC,b64,bst]
 have hr1:H1[H.length]? =some (.cells zs 40 .fix):=by rw[hH1];exact fQ _ _
 have hM:MS H H2 H1.length H.length zs p (.slice none 0 0) (.slice none 0 0) (.slice none 0 0) [] ((List.range 0).map (mkW more)):=
  ⟨x1.tr x2,by rw[hH2];exact fQ _ _,fC hr1 x2,Rw.lD,New.nB _,Rw.lD,New.nB _,by rw[hH1,aML];simp,x1.1,aME _,by rw[hzs];rfl⟩
 refine iK (fR rfl rfl) (by omega) ?_
 rw[aEs];simp -implicitDefEqProofs only[gsR,<-hzs,<-hH1,n1,n2,cH,n3,n4,n5,n6,r1,r2,r3,r4,r5,r6,r7,m1,m2,m3,m4,m5,m6,m7,m8,bPl,st];exact aFl (m:=m-1) (n:=mkN nodes) (p:=p) (pb:=H1.length) (rb:=H.length) (zs:=zs) (by unfold mkN;omega) hnx hu8 hnl (by rw[hp];rfl) (by omega) h3 h4 (by rw[hp];rfl) (by rw[hp];rfl) (by rw[hp];rfl) (by rw[hp];rfl) (by unfold mkN;omega) (1+more%3) 0 (m-1) H2 (.slice none 0 0) (by omega) (by omega) (by omega) hM ..
end
def okE (n:Int)(e:Ed):Prop:=0<=e.1/\e.1<e.2/\e.2<n
structure VE (n:Int)(E:List Ed):Prop where
 ok: ∀e∈E,okE n e
 nd:E.Nodup
theorem S9 (n:Int): ∀(E old:List Ed),sZ n old E=true↔((∀e∈E,okE n e)/\E.Nodup/\ ∀e∈E,e∉old)
 |[],old=>by simp[sZ]
 |e::E,old=>by
  have ih:=S9 n E (old++[e]);have hany:(old.any λx=>x==e)=true↔e∈old:=by
   rw[List.any_eq_true];constructor
   ·rintro ⟨x,h1,h2⟩
    have:x=e:=by simpa using h2
    exact this▸h1
   ·intro h
    exact⟨e,h,by simp⟩
  unfold sZ;rw[aMH,ih,Bool.not_eq_true',Bool.or_eq_false_iff,Bool.or_eq_false_iff,Bool.or_eq_false_iff];simp only[decide_eq_false_iff_not,List.nodup_cons,aMS,List.mem_append,aMZ,or_false];have hany':(old.any λx=>x==e)=false↔e∉old:=by rw[<-Bool.not_eq_true,hany]
  rw[hany'];constructor
  ·rintro ⟨⟨h1,h2,h3,h4⟩,h5,h6,h7⟩
   refine⟨?_,⟨λhh=>(h7 e hh) (.inr rfl),h6⟩,?_⟩
   ·rintro x (rfl|hx)
    ·exact⟨by omega,by omega,by omega⟩
    ·exact h5 x hx
   ·rintro x (rfl|hx)
    ·exact h4
    ·exact λhh=>h7 x hx (.inl hh)
  ·rintro ⟨h1,⟨h2,h3⟩,h4⟩
   obtain⟨a1,a2,a3⟩:=h1 e (.inl rfl);refine⟨⟨by omega,by omega,by omega,h4 e (.inl rfl)⟩,λx hx=>h1 x (.inr hx),h3,λx hx=> ?_⟩
   rintro (hh|rfl)
   ·exact h4 x (.inr hx) hh
   ·exact h2 hx
theorem Ta (n:Int)(E:List Ed):sZ n [] E=true↔VE n E:=by
 rw[S9]
 exact⟨λh=>⟨h.1,h.2.1⟩,λh=>⟨h.ok,h.nd,λ_ _=>aMZ⟩⟩
def xR (p:Nat×Nat):Ed:=((p.1:Int),(p.2:Int))
theorem Jm: ∀(L:List (Nat×Nat))(bit:Nat),(nN bit L).Sublist (L.map xR)
 |[],_=>List.Sublist.slnil
 |(a,b)::L,bit=>by
  unfold nN;split
  ·exact(Jm L (bit/2)).cons_cons _
  ·exact(Jm L (bit/2)).cons _
theorem Td {n a b:Nat}:(a,b)∈prs n↔a<b/\b<n:=by
 unfold prs;rw[List.mem_flatMap];constructor
 ·rintro ⟨x,h1,h2⟩
  obtain⟨y,h3,h4⟩:=aNc.mp h2;cases h4
  exact⟨aNd.mp h3,aNd.mp h1⟩
 ·rintro ⟨h1,h2⟩
  exact⟨b,aNd.mpr h2,aNc.mpr ⟨a,aNd.mpr h1,rfl⟩⟩
theorem Te: ∀n,(prs n).Nodup
 |0=>List.Pairwise.nil
 |n+1=>by
  rw[Cx];refine List.nodup_append.mpr ⟨Te n,?_,?_⟩
  ·exact(List.nodup_range).map (λa=>(a,n)) λa b hab h=>hab (by cases h;rfl)
  ·intro x hx y hy
   obtain⟨a,_,rfl⟩:=aNc.mp hy;obtain⟨x1,x2⟩:=x;have:=(Td.mp hx).2;intro hh;cases hh;omega
theorem aFr {x y:Nat×Nat}(h:xR x=xR y):x=y:=by
 obtain⟨a,b⟩:=x;obtain⟨c,d⟩:=y;simp only[xR,Prod.mk.injEq] at h;have h1:a=c:=by omega
 have h2:b=d:=by omega
 rw[h1,h2]
theorem aFu (bit n:Nat):VE n (nN bit (prs n)):=by
 have hs:=Jm (prs n) bit;refine⟨λe he=> ?_,(((Te n).map xR λa b hab h=>hab (aFr h)).sublist hs)⟩
 obtain⟨⟨a,b⟩,h1,rfl⟩:=aNc.mp (hs.subset he);obtain⟨h2,h3⟩:=Td.mp h1;simp only[okE,xR];omega
theorem aFt {n:Nat}(h:n<=6):(prs n).length<=15:=by
 have:n=0∨n=1∨n=2∨n=3∨n=4∨n=5∨n=6:=by omega
 rcases this with rfl|rfl|rfl|rfl|rfl|rfl|rfl<;>decide
theorem Jk {v w:Int}{e:Ed}:w∈pP v e↔v≠w/\(e=(v,w)∨e=(w,v)):=by
 obtain⟨a,b⟩:=e;unfold pP;simp only[Prod.mk.injEq];by_cases h1:a=b
 ·rw[if_pos h1]
  constructor
  ·intro h;cases h
  ·rintro ⟨h,⟨h2,h3⟩|⟨h2,h3⟩⟩
   ·exact absurd (h2.symm.trans (h1.trans h3)) h
   ·exact absurd (h3.symm.trans (h1.symm.trans h2)) h
 ·rw[if_neg h1]
  by_cases h2:a=v
  ·rw[if_pos h2,List.mem_singleton]
   constructor
   ·rintro rfl
    exact⟨λhh=>h1 (h2.trans hh),.inl ⟨h2,rfl⟩⟩
   ·rintro ⟨h,⟨_,h3⟩|⟨h3,h4⟩⟩
    ·exact h3.symm
    ·exact absurd (h2.symm.trans h3) h
  ·rw[if_neg h2]
   by_cases h3:b=v
   ·rw[if_pos h3,List.mem_singleton]
    constructor
    ·rintro rfl
     exact⟨λhh=>h2 hh.symm,.inr ⟨rfl,h3⟩⟩
    ·rintro ⟨h,⟨h4,_⟩|⟨h4,_⟩⟩
     ·exact absurd h4 h2
     ·exact h4.symm
   ·rw[if_neg h3]
    constructor
    ·intro h;cases h
    ·rintro ⟨h,⟨h4,_⟩|⟨_,h4⟩⟩
     ·exact absurd h4 h2
     ·exact absurd h4 h3
theorem aFq {E:List Ed}{v w:Int}:w∈nM E v↔v≠w/\((v,w)∈E∨(w,v)∈E):=by
 unfold nM;rw[List.mem_flatMap];constructor
 ·rintro ⟨e,h1,h2⟩
  obtain⟨h3,h4⟩:=Jk.mp h2;rcases h4 with rfl|rfl
  ·exact⟨h3,.inl h1⟩
  ·exact⟨h3,.inr h1⟩
 ·rintro ⟨h3,h4|h4⟩
  ·exact⟨_,h4,Jk.mpr ⟨h3,.inl rfl⟩⟩
  ·exact⟨_,h4,Jk.mpr ⟨h3,.inr rfl⟩⟩
theorem S8 {E:List Ed}{v w:Int}:w∈bes E v↔v≠w/\((v,w)∈E∨(w,v)∈E):=by rw[Je,aFq]
theorem Cz {n:Int}{E:List Ed}(hE:VE n E){v w:Int}(h:w∈bes E v):0<=w/\w<n/\0<=v/\v<n:=by
 obtain⟨_,h|h⟩:=S8.mp h
 ·have:=hE.ok _ h
  simp only[okE] at this;omega
 ·have:=hE.ok _ h
  simp only[okE] at this;omega
theorem Jl (nodes:Nat):2<=mkN nodes/\mkN nodes<=6:=by unfold mkN;omega
theorem aFs (nodes room more joined:Nat)(next:List Nat):VE (mkP nodes room more joined next).nodes (mkP nodes room more joined next).edges:=aFu joined (mkN nodes)
theorem Tb (nodes room more joined:Nat)(next:List Nat):(mkP nodes room more joined next).edges.length<=15:=
 aMP (Ji _ _) (aFt (Jl nodes).2)
theorem Tc (nodes room more joined:Nat)(next:List Nat):lF (mkP nodes room more joined next)=true:=by
 have hn:=Jl nodes;unfold lF;simp only[aMH,decide_eq_true_eq];refine⟨?_,by unfold vT;rw[aMH,decide_eq_true_eq];exact⟨(Ta _ _).mpr (aFs ..),by have:=Tb nodes room more joined next;omega⟩,?_,?_,?_,?_⟩
 ·unfold uB wi mkP
  simp only[aMH,decide_eq_true_eq];omega
 ·simp[mkP]
 ·unfold wOk
  simp only[mkP,aMN,aM3];rw[decide_eq_false (by omega),decide_eq_false (by omega)]
  simp only[Bool.false_or,Bool.not_eq_true',List.any_eq_false];intro x hx;obtain⟨i,_,rfl⟩:=aNc.mp hx;unfold qF mkW;rw[decide_eq_false (by omega),decide_eq_false (by omega)]
  simp
 ·simp[mkP]
 ·unfold uD
  simp only[Bool.not_eq_true',List.any_eq_false];intro x hx;obtain⟨i,_,rfl⟩:=aNc.mp hx;simp[uE,mkP]
theorem Made.pv {H0 H2:aA}{nodes room more joined:Nat}{next:List Nat}{u:Value}(h:Made H0 (mkP nodes room more joined next) H2 u): ∃ev wv nv,u=plV (mkP nodes room more joined next) ev wv nv/\Ext H0 H2/\PV H2 (mkP nodes room more joined next) ev wv nv:=by
 obtain⟨ev,wv,nv,h1,h2,h3,h4,h5⟩:=h;have:=Tb nodes room more joined next
 have hn:=Jl nodes
 exact⟨ev,wv,nv,h1,h2,h3.rs,h4.rs,h5.rw.aFc,by omega,by simp[mkP];omega,by simp[mkP];omega⟩
def plZ:Blk:= .cells [Value.int .i64 0,.slice none 0 0,.int .i64 0,.int .i64 0,.int .i64 0,.int .i64 0,.int .i64 0,.int .i64 0,.slice none 0 0,.int .u16 0,.slice none 0 0] 40 .fix
theorem sB:Blk.cells [Value.int .i64 0,.slice none 0 0,.int .i64 0,.int .i64 0,.int .i64 0,.int .i64 0,.int .i64 0,.int .i64 0,.slice none 0 0,.int .u16 0,.slice none 0 0] 40 .fix=plZ:=rfl
section
variable {H : aA} {m : Nat} {p : PlanD} {ev wv nv : Value}
theorem Rs.zS {α:Type}{el:α->List Value}{e:TypeId}{v:Value}{xs:List α}(h:Rs el e H v xs):v.cells.toList=[v]/\dK [v]=true/\veq 3 v v=true:=by
 rcases h with⟨rfl,_⟩|⟨b,o,cap,rfl,_⟩
 ·exact⟨rfl,rfl,rfl⟩
 ·exact⟨rfl,rfl,by simp[veq]⟩
theorem Rows.Tf {v:Value}{xss:List (List Int)}(h:Rows H v xss):v.cells.toList=[v]/\dK [v]=true/\veq 3 v v=true:=by
 obtain⟨us,h1,_⟩:=h;exact Rs.zS h1
theorem PV.Jn (h:PV H p ev wv nv):dK (plC p ev wv nv)=true:=by
 have e1: ∀(v:Value)(vs:List Value),dK [v]=true->dK (v::vs)=dK vs:=λv vs h=>by
  simp only[dK,List.all_cons,List.all_nil,Bool.and_true] at h⊢;rw[h,aMW]
 simp only[plC,P3,e1 _ _ (Rs.zS h.e).2.1,e1 _ _ (Rs.zS h.w).2.1,e1 _ _ (Rows.Tf h.n).2.1,P4]
theorem PV.chk (h:PV H p ev wv nv)(H':aA):Go.Abs.chk (some (plV p ev wv nv,H')) (plV p ev wv nv)=true:=by
 have h1:=(Rs.zS h.e).2.2;have h2:=(Rs.zS h.w).2.2;have h3:=(Rows.Tf h.n).2.2;have hi: ∀(k:IntKind)(a:Int),veq 3 (.int k a) (.int k a)=true:=λk a=>by simp[veq]
 show veq 4 (plV p ev wv nv) (plV p ev wv nv)=true
 unfold plV plC;rw[veq];simp only[sP,hi,h1,h2,h3,Bool.and_self]
theorem Jo (h:PV H p ev wv nv)(H':aA):stN 11 (.pointer (some ⟨H'.length,0,none⟩)) (plV p ev wv nv) (H'++[plZ])=some (undef,H'++[plB p ev wv nv]):=by
 have e1:(plV p ev wv nv).cells.toList=plC p ev wv nv:=rfl;rw[mE 11 _ _ _ rfl,fQ,e1];unfold plZ;rw[nK _ _ _ _ _ _ (by decide) (by simp[plC]) h.Jn]
 simp[eD,plC,plB]
theorem C0 {q q':PlanD}{ev' wv' nv' v:Value}{b j:Nat}(hb:H[b]? =some (plB q ev wv nv))(hv:v.cells.toList=[v])(ha:dK [v]=true)(hj:j<11)(hq:(plC q ev wv nv).set j v=plC q' ev' wv' nv'):stN 1 (.pointer (some ⟨b,j,none⟩)) v H=some (undef,H.set b (plB q' ev' wv' nv')):=by
 rw[mE 1 _ _ _ (by rw[hv];rfl),hb]
 unfold plB;rw[hv,nK _ _ _ _ _ _ (by decide) (by simp[plC];omega) ha]
 rw[<-hq];rfl
theorem s5 {H0 H1:aA}{b:Nat}{x:Blk}(he:Ext H0 H1)(hb:H0.length<=b):Ext H0 (H1.set b x):=⟨by rw[List.length_set];exact he.1,λc hc _=>by rw[aMA (by omega),he.2 c hc id]⟩
end
section
variable {H : aA} {m : Nat} {p : PlanD} {ev wv nv : Value}
theorem aFv (H:aA):Us H (.slice none 0 0) []:= .inl ⟨rfl,rfl⟩
end
section
variable {H : aA} {m : Nat} {p : PlanD} {ev wv nv : Value}
theorem C1 {n:Nat}{E:List Ed}(hE:VE n E)(hn:n<=6){v:Nat}{x:Ed}:x∈oP E v↔x.1=v/\x.2∈bes E v:=by
 unfold oP;simp only[aNc,List.mem_filter];constructor
 ·rintro ⟨w,⟨h1,_⟩,rfl⟩
  exact⟨rfl,h1⟩
 ·rintro ⟨h1,h2⟩
  obtain⟨a,b⟩:=x;simp only at h1 h2;refine⟨b,⟨h2,?_⟩,by rw[h1]⟩
  have:=Cz hE h2;unfold wi;simp;omega
theorem aFw {n:Nat}{E:List Ed}(hE:VE n E)(hn:n<=6){x:Ed}:x∈(List.range n).flatMap (oP E)↔x.2∈bes E x.1:=by
 rw[List.mem_flatMap];constructor
 ·rintro ⟨v,_,h2⟩
  obtain⟨h3,h4⟩:=(C1 hE hn).mp h2;rw[h3];exact h4
 ·intro h
  have:=Cz hE h;have e:((x.1.toNat:Nat):Int)=x.1:=by omega
  refine⟨x.1.toNat,aNd.mpr (by omega),(C1 hE hn).mpr ⟨e.symm,?_⟩⟩
  rw[e];exact h
theorem aFx {n:Nat}{E:List Ed}(hE:VE n E)(hn:n<=6):((List.range n).flatMap (oP E)).Pairwise (λa b=>a.1<b.1∨(a.1=b.1/\a.2<b.2)):=by
 rw[List.pairwise_flatMap];constructor
 ·intro v _
  unfold oP;rw[List.pairwise_map]
  exact(List.Pairwise.filter _ (Ct E v)).imp λh=> .inr ⟨rfl,h⟩
 ·refine List.pairwise_lt_range.imp λ{a b} hab x hx y hy=> ?_
  have h1:=((C1 hE hn).mp hx).1;have h2:=((C1 hE hn).mp hy).1
  left;omega
end
section
variable {H : aA} {m : Nat} {p : PlanD} {ev wv nv : Value}
theorem aFy (H:aA)(x:Ed):dL 67 2 1 [.int .i64 0,.int .i64 0] [(0,edV x)] H=some (.slice (some ⟨H.length,0,none⟩) 1 1,H++[.cells (edC x) 67 .row]):=rfl
end
section
variable {H : aA} {m : Nat} {p : PlanD} {ev wv nv : Value}
theorem Rs.sv {α:Type}{el:α->List Value}{e:TypeId}{v:Value}{xs:List α}(h:Rs el e H v xs):dK [v]=true/\v.cells= #[v]:=by
 rcases h with⟨rfl,_⟩|⟨b,o,cap,rfl,_⟩<;>exact⟨rfl,rfl⟩
theorem aFz {H0 H1:aA}{a u:Value}(he:Ext H0 H1)(h:ld1 a H0=some (u,H0)):ld1 a H1=some (u,H1):=by
 unfold ld1 at*;cases a with
 |pointer x=>
  cases x with
  |none=>simp at h
  |some ad=>
   obtain⟨b,o,s⟩:=ad;cases s with
   |some s=>simp at h
   |none=>
    simp only at h⊢;cases hb:H0[b]? with
    |none=>rw[hb] at h;simp at h
    |some y=>
     rw[fC hb he];rw[hb] at h;cases y with
     |cells cs e k=>
      simp only at h⊢;cases hc:cs[o]? with
      |none=>rw[hc] at h;simp at h
      |some z=>
       rw[hc] at h;simp at h;subst h;rfl
     |map=>simp at h
     |dead=>simp at h
 |_=>simp at h
end
end Go.Proofs.YtmimdleeihjdoaaGreatDoor
noncomputable section
namespace Go.Proofs.YtmimdleeihjdoaaGreatDoor
open Go.Proofs.Tryz
open Go.Abs
variable (O:aC)(L:LV)(k:KV)(N P Q R S T U V W X Y Z a b c d e f g i j l m n o p q r s t u v w x y z A B C D E F G H I J zz zy zx zw zv zu zt zs zr zq zp zo zn zm zl zk zj zi zh zg zf ze zd zc zb za yz yy yx yw yv yu yt ys yr yq yp yo yn ym yl yk yj yi yh yg yf ye yd yc yb ya xz xy xx xw xv xu xt xs xr xq xp xo xn xm xl xk xj xi xh xg xf xe xd xc xb xa wz wy wx ww wv wu wt ws wr wq wp wo wn wm wl wk wj wi wh wg wf we wd wc wb wa vz:Value)(h:aA)
theorem aFP:bX prog O L 35 [N,P,Q,R] h=ob (cL 40 [(.int .i64 0),(.slice none 0 0),(.int .i64 0),(.int .i64 0),(.int .i64 0),(.int .i64 0),(.int .i64 0),(.int .i64 0),(.slice none 0 0),(.int .u16 0),(.slice none 0 0)] .fix h) λaa h=>ob (O (.func 44) [(.int .u8 0),P,Q,R,(.slice none 0 0)] h) λab h=>ob (O (.func 84) [N] h) λac h=>ob (O (.func 83) [ab,ac] h) λad h=>ob (M.aB (ext 0 ad) h) λae h=>ob (M.aB (ext 1 ad) h) λaf h=>ob (cL 40 [(.int .i64 0),(.slice none 0 0),(.int .i64 0),(.int .i64 0),(.int .i64 0),(.int .i64 0),(.int .i64 0),(.int .i64 0),(.slice none 0 0),(.int .u16 0),(.slice none 0 0)] .fix h) λag h=>ob (stN 11 ag ae h) λah h=>ob (ldN 11 ag h) λai h=>ob (stN 11 aa ai h) λaj h=>ob (ldN 11 aa h) λw10 _=>some (aG [w10],h):=by kernel_rfl
def J4:Code:=bU [1,1,1,1,1,1,1,1,1,1,0,1,0,0,1,0,0,1,0,1,0,0] (b9 prog 83)
def J8:KV:=(dO 4 (eC prog O L (bU [1,1,1,1,1,1,1,1,1,1,0,1,0,0,1,0,0,1,1] (b9 prog 83)) (dO 3 (eC prog O L (bU [1,1,1,1,1,1,1,1,1,1,0,1,0,0,1,1] (b9 prog 83)) k))))
def J5 (O:aC)(L:LV) (k:KV) (a b c d e f g i j l m n o p q r s t u v w x y z A B C D E F G H I J zz zy zx zw zv zu zt zs zr zq zp zo zn zm zl zk zj zi zh zg zf ze zd zc zb za yz yy yx yw yv yu yt ys yr yq yp yo yn ym yl yk yj yi yh yg yf ye yd:Value) (h:aA):OV:=ob (M.aB (aE 10 c) h) λaa h=>ob (ld1 aa h) λab h=>ob (dL 37 1 1 [(.slice none 0 0)] [(0,m)] h) λac h=>ob (app 37 1 24 ab ac h) λad h=>ob (M.aB (aE 10 c) h) λae h=>ob (stN 1 ae ad h) λaf h=>ob (M.aB (bin prog .add 3 l (.int .i64 1)) h) λag h=>k .normal [a,b,c,d,e,f,g,i,j,ag,m,n,o,p,q,r,s,t,u,v,w,x,y,z,A,B,C,D,E,F,G,H,I,J,zz,zy,zx,zw,zv,zu,zt,zs,zr,zq,zp,zo,zn,zm,zl,zk,zj,zi,zh,zg,zf,l,ag,zc,zb,za,yz,yy,yx,yw,yv,yu,yt,ys,yr,yq,yp,yo,yn,ym,yl,yk,aa,ab,m,ac,ad,ae,yd] h
theorem aFS:J8 O L k (.exit 4) [a,b,c,d,e,f,g,i,j,l,m,n,o,p,q,r,s,t,u,v,w,x,y,z,A,B,C,D,E,F,G,H,I,J,zz,zy,zx,zw,zv,zu,zt,zs,zr,zq,zp,zo,zn,zm,zl,zk,zj,zi,zh,zg,zf,ze,zd,zc,zb,za,yz,yy,yx,yw,yv,yu,yt,ys,yr,yq,yp,yo,yn,ym,yl,yk,yj,yi,yh,yg,yf,ye,yd] h=J5 O L k a b c d e f g i j l m n o p q r s t u v w x y z A B C D E F G H I J zz zy zx zw zv zu zt zs zr zq zp zo zn zm zl zk zj zi zh zg zf ze zd zc zb za yz yy yx yw yv yu yt ys yr yq yp yo yn ym yl yk yj yi yh yg yf ye yd h:=by kernel_rfl
theorem Ts:aI prog O L J4 k [a,b,c,d,e,f,g,i,j,l,m,n,o,p,q,r,s,t,u,v,w,x,y,z,A,B,C,D,E,F,G,H,I,J,zz,zy,zx,zw,zv,zu,zt,zs,zr,zq,zp,zo,zn,zm,zl,zk,zj,zi,zh,zg,zf,ze,zd,zc,zb,za,yz,yy,yx,yw,yv,yu,yt,ys,yr,yq,yp,yo,yn,ym,yl,yk,yj,yi,yh,yg,yf,ye,yd] h=ob (M.aB (bin prog .lss 3 n g) h) λaa h=>aJ aa (ob (M.aB (bin prog .neq 3 l n) h) λab h=>aJ ab (ob (O (.func 161) [b,l,n] h) λac h=>ob (M.aB (aQ 1 ac (.int .i64 1)) h) λad h=>ob (ld1 ad h) λae h=>ob (dL 3 1 1 [(.int .i64 0)] [(0,ae)] h) λaf h=>ob (app 3 1 8 m af h) λag h=>ob (M.aB (bin prog .add 3 n (.int .i64 1)) h) λah h=>k .normal [a,b,c,d,e,f,g,i,j,l,ag,ah,ae,p,q,r,s,t,u,v,w,x,y,z,A,B,C,D,E,F,G,H,I,J,zz,zy,zx,zw,zv,zu,zt,zs,zr,zq,zp,zo,zn,zm,zl,zk,zj,zi,zh,zg,zf,ze,zd,n,g,aa,n,ah,l,l,n,ab,b,l,n,ac,ad,ae,m,ae,af,ag,yj,yi,yh,yg,yf,ye,yd] h) (ob (dL 3 1 1 [(.int .i64 0)] [(0,l)] h) λai h=>ob (app 3 1 8 m ai h) λaj h=>ob (M.aB (bin prog .add 3 n (.int .i64 1)) h) λak h=>k .normal [a,b,c,d,e,f,g,i,j,l,aj,ak,l,p,q,r,s,t,u,v,w,x,y,z,A,B,C,D,E,F,G,H,I,J,zz,zy,zx,zw,zv,zu,zt,zs,zr,zq,zp,zo,zn,zm,zl,zk,zj,zi,zh,zg,zf,ze,zd,n,g,aa,n,ak,l,l,n,ab,yt,ys,yr,yq,yp,yo,m,l,ai,aj,yj,yi,yh,yg,yf,ye,yd] h)) (k (.exit 4) [a,b,c,d,e,f,g,i,j,l,m,n,o,p,q,r,s,t,u,v,w,x,y,z,A,B,C,D,E,F,G,H,I,J,zz,zy,zx,zw,zv,zu,zt,zs,zr,zq,zp,zo,zn,zm,zl,zk,zj,zi,zh,zg,zf,ze,zd,n,g,aa,yz,yy,yx,yw,yv,yu,yt,ys,yr,yq,yp,yo,yn,ym,yl,yk,yj,yi,yh,yg,yf,ye,yd] h):=by kernel_rfl
def J3:Code:=bU [1,1,1,1,1,1,1,1,1,1,0,1,0,0] (b9 prog 83)
def J7:KV:=(dO 2 (eC prog O L (bU [1,1,1,1,1,1,1,1,1,1,1] (b9 prog 83)) (eG prog Tryz.f83)))
theorem aFR:J7 O L (.exit 2) [a,b,c,d,e,f,g,i,j,l,m,n,o,p,q,r,s,t,u,v,w,x,y,z,A,B,C,D,E,F,G,H,I,J,zz,zy,zx,zw,zv,zu,zt,zs,zr,zq,zp,zo,zn,zm,zl,zk,zj,zi,zh,zg,zf,ze,zd,zc,zb,za,yz,yy,yx,yw,yv,yu,yt,ys,yr,yq,yp,yo,yn,ym,yl,yk,yj,yi,yh,yg,yf,ye,yd] h=ob (ldN 11 c h) λaa h=>ob (stN 11 e aa h) λab h=>ob (ldN 11 e h) λw39 _=>some (aG [w39,(.int .i64 0)],h):=by kernel_rfl
theorem Tr:aI prog O L J3 k [a,b,c,d,e,f,g,i,j,l,m,n,o,p,q,r,s,t,u,v,w,x,y,z,A,B,C,D,E,F,G,H,I,J,zz,zy,zx,zw,zv,zu,zt,zs,zr,zq,zp,zo,zn,zm,zl,zk,zj,zi,zh,zg,zf,ze,zd,zc,zb,za,yz,yy,yx,yw,yv,yu,yt,ys,yr,yq,yp,yo,yn,ym,yl,yk,yj,yi,yh,yg,yf,ye,yd] h=ob (M.aB (bin prog .lss 3 l g) h) λaa h=>aJ aa (L (aI prog O L J4) (J8 O L k) [a,b,c,d,e,f,g,i,j,l,(.slice none 0 0),(.int .i64 0),o,p,q,r,s,t,u,v,w,x,y,z,A,B,C,D,E,F,G,H,I,J,zz,zy,zx,zw,zv,zu,zt,zs,zr,zq,zp,zo,zn,zm,zl,zk,zj,zi,l,g,aa,ze,zd,zc,zb,za,yz,yy,yx,yw,yv,yu,yt,ys,yr,yq,yp,yo,yn,ym,yl,yk,yj,yi,yh,yg,yf,ye,yd] h) (k (.exit 2) [a,b,c,d,e,f,g,i,j,l,m,n,o,p,q,r,s,t,u,v,w,x,y,z,A,B,C,D,E,F,G,H,I,J,zz,zy,zx,zw,zv,zu,zt,zs,zr,zq,zp,zo,zn,zm,zl,zk,zj,zi,l,g,aa,ze,zd,zc,zb,za,yz,yy,yx,yw,yv,yu,yt,ys,yr,yq,yp,yo,yn,ym,yl,yk,yj,yi,yh,yg,yf,ye,yd] h):=by kernel_rfl
def J2:Code:=bU [1,1,1,1,1,0,1,0,0] (b9 prog 83)
def J6:KV:=(dO 0 (eC prog O L (bU [1,1,1,1,1,1] (b9 prog 83)) (eG prog Tryz.f83)))
theorem aFQ:J6 O L (.exit 0) [a,b,c,d,e,f,g,i,j,l,m,n,o,p,q,r,s,t,u,v,w,x,y,z,A,B,C,D,E,F,G,H,I,J,zz,zy,zx,zw,zv,zu,zt,zs,zr,zq,zp,zo,zn,zm,zl,zk,zj,zi,zh,zg,zf,ze,zd,zc,zb,za,yz,yy,yx,yw,yv,yu,yt,ys,yr,yq,yp,yo,yn,ym,yl,yk,yj,yi,yh,yg,yf,ye,yd] h=ob (M.aB (aE 8 c) h) λaa h=>ob (ld1 aa h) λab h=>ob (app 3 1 8 (.slice none 0 0) ab h) λac h=>ob (M.aB (aE 8 c) h) λad h=>ob (stN 1 ad ac h) λae h=>ob (M.aB (aE 10 c) h) λaf h=>ob (stN 1 af (.slice none 0 0) h) λag h=>L (aI prog O L J3) (J7 O L) [a,b,c,d,e,f,g,i,ac,(.int .i64 0),m,n,o,p,q,r,s,t,u,v,w,x,y,z,A,B,C,D,E,F,G,H,I,J,zz,zy,zx,zw,zv,zu,zt,zs,zr,zq,zp,(.slice none 0 0),aa,ab,ac,ac,ad,af,zh,zg,zf,ze,zd,zc,zb,za,yz,yy,yx,yw,yv,yu,yt,ys,yr,yq,yp,yo,yn,ym,yl,yk,yj,yi,yh,yg,yf,ye,yd] h:=by kernel_rfl
theorem Tq:aI prog O L J2 k [a,b,c,d,e,f,g,i,j,l,m,n,o,p,q,r,s,t,u,v,w,x,y,z,A,B,C,D,E,F,G,H,I,J,zz,zy,zx,zw,zv,zu,zt,zs,zr,zq,zp,zo,zn,zm,zl,zk,zj,zi,zh,zg,zf,ze,zd,zc,zb,za,yz,yy,yx,yw,yv,yu,yt,ys,yr,yq,yp,yo,yn,ym,yl,yk,yj,yi,yh,yg,yf,ye,yd] h=ob (M.aB (bin prog .lss 3 i g) h) λaa h=>aJ aa (ob (M.aB (aE 1 c) h) λab h=>ob (ld1 ab h) λac h=>ifB (true) (ob (M.aB (bin prog .sub 3 i (.int .i64 1)) h) λad h=>ob (M.aB (aQ 1 b ad) h) λae h=>ob (ld1 ae h) λaf h=>ifB (true) (ob (M.aB (bld prog 67 [(0,af),(1,i)]) h) λag h=>ob (dL 67 2 1 [(.int .i64 0),(.int .i64 0)] [(0,ag)] h) λah h=>ob (app 67 2 16 ac ah h) λai h=>ifB (true) (ob (M.aB (aE 1 c) h) λaj h=>ob (stN 1 aj ai h) λak h=>ifB (true) (ob (M.aB (bin prog .add 3 i (.int .i64 1)) h) λal h=>k .normal [a,b,c,d,e,f,g,al,j,l,m,n,o,p,q,r,s,t,u,v,w,x,y,z,A,B,C,D,i,g,aa,i,al,ab,ac,b,i,ad,ae,af,i,ag,ah,ai,aj,zo,zn,zm,zl,zk,zj,zi,zh,zg,zf,ze,zd,zc,zb,za,yz,yy,yx,yw,yv,yu,yt,ys,yr,yq,yp,yo,yn,ym,yl,yk,yj,yi,yh,yg,yf,ye,yd] h))))) (k (.exit 0) [a,b,c,d,e,f,g,i,j,l,m,n,o,p,q,r,s,t,u,v,w,x,y,z,A,B,C,D,i,g,aa,H,I,J,zz,zy,zx,zw,zv,zu,zt,zs,zr,zq,zp,zo,zn,zm,zl,zk,zj,zi,zh,zg,zf,ze,zd,zc,zb,za,yz,yy,yx,yw,yv,yu,yt,ys,yr,yq,yp,yo,yn,ym,yl,yk,yj,yi,yh,yg,yf,ye,yd] h):=by kernel_rfl
theorem aFT:bX prog O L 83 [N,P] h=ob (cL 40 (Value.cells N).toList .fix h) λaa h=>ob (cL 40 [(.int .i64 0),(.slice none 0 0),(.int .i64 0),(.int .i64 0),(.int .i64 0),(.int .i64 0),(.int .i64 0),(.int .i64 0),(.slice none 0 0),(.int .u16 0),(.slice none 0 0)] .fix h) λab h=>ob (O (.func 160) [P] h) λac h=>ob (M.aB (un prog .not ac) h) λad h=>ob (gd ad false (M.cB P) h) λae h=>ob (gd ad false (M.aB (bJ ae)) h) λaf h=>ob (gd ad false (M.aB (bin prog .eql 3 af (.int .i64 0))) h) λag h=>ob (M.aB (cJ ad (.bool true) ag) h) λah h=>aJ ah (ob (M.aB (bld prog 40 []) h) λai h=>ob (stN 11 ab ai h) λaj h=>ob (ldN 11 ab h) λw10 _=>some (aG [w10,(.int .i64 120)],h)) (ob (M.aB (bJ P) h) λak h=>ob (M.aB (bin prog .add 3 ak (.int .i64 1)) h) λal h=>ob (M.aB (aE 0 aa) h) λam h=>ob (stN 1 am al h) λan h=>ob (M.aB (aE 1 aa) h) λao h=>ob (stN 1 ao (.slice none 0 0) h) λap h=>L (aI prog O L J2) (J6 O L) [N,P,aa,undef,ab,(.int .i64 0),al,(.int .i64 1),undef,undef,undef,undef,undef,P,ac,ad,ad,ae,af,ag,ah,undef,P,ak,al,al,am,ao,undef,undef,undef,undef,undef,undef,undef,undef,undef,undef,undef,undef,undef,undef,undef,undef,undef,undef,undef,undef,undef,undef,undef,undef,undef,undef,undef,undef,undef,undef,undef,undef,undef,undef,undef,undef,undef,undef,undef,undef,undef,undef,undef,undef,undef,undef,undef,undef,undef,undef,undef,undef,undef,undef,undef] h):=by kernel_rfl
def J9:Code:=bU [1,1,0,1,0,0] (b9 prog 84)
def Kb:KV:=(dO 0 (eC prog O L (bU [1,1,1] (b9 prog 84)) (eG prog Tryz.f84)))
def Ka (O:aC)(L:LV) (a b c d e f g i j l m n o p q r s t u v w x y z A B C D E F G H I:Value) (h:aA):OV:=ob (M.aB (bJ d) h) λaa h=>ob (M.aB (bin prog .eql 3 aa (.int .i64 0)) h) λab h=>aJ ab (ob (dL 3 1 1 [(.int .i64 0)] [(0,(.int .i64 0))] h) λac h=>ob (app 3 1 8 d ac h) λad h=>some (aG [ad],h)) (some (aG [d],h))
theorem Tu:Kb O L (.exit 0) [a,b,c,d,e,f,g,i,j,l,m,n,o,p,q,r,s,t,u,v,w,x,y,z,A,B,C,D,E,F,G,H,I] h=Ka O L a b c d e f g i j l m n o p q r s t u v w x y z A B C D E F G H I h:=by kernel_rfl
theorem Tt:aI prog O L J9 k [a,b,c,d,e,f,g,i,j,l,m,n,o,p,q,r,s,t,u,v,w,x,y,z,A,B,C,D,E,F,G,H,I] h=ob (M.aB (bJ a) h) λaa h=>ob (M.aB (bin prog .lss 3 e aa) h) λab h=>ob (gd ab true (M.cB e) h) λac h=>ob (gd ab true (M.aB (bin prog .lss 3 ac (.int .i64 5))) h) λad h=>ob (M.aB (cJ ab ad (.bool false)) h) λae h=>aJ ae (ob (M.aB (aQ 1 a e) h) λaf h=>ob (ld1 af h) λag h=>ob (dI prog 5 3 ag h) λah h=>ob (M.aB (bin prog .add 3 e (.int .i64 1)) h) λai h=>ob (M.aB (bin prog .rem 3 ah ai) h) λaj h=>ob (dL 3 1 1 [(.int .i64 0)] [(0,aj)] h) λak h=>ob (app 3 1 8 d ak h) λal h=>ob (M.aB (bin prog .add 3 e (.int .i64 1)) h) λam h=>k .normal [a,b,c,al,am,e,a,aa,ab,ab,ac,ad,ae,e,am,d,a,e,af,ag,ah,e,ai,aj,ak,al,C,D,E,F,G,H,I] h) (k (.exit 0) [a,b,c,d,e,e,a,aa,ab,ab,ac,ad,ae,p,q,r,s,t,u,v,w,x,y,z,A,B,C,D,E,F,G,H,I] h):=by kernel_rfl
theorem aFU:bX prog O L 84 [N] h=L (aI prog O L J9) (Kb O L) [N,undef,(.slice none 0 0),(.slice none 0 0),(.int .i64 0),undef,undef,undef,undef,undef,undef,undef,undef,undef,undef,undef,undef,undef,undef,undef,undef,undef,undef,undef,undef,undef,undef,undef,undef,undef,undef,undef,undef] h:=by kernel_rfl
def Ke:Code:=bU [1,1,1,1,1,0,1,0,0] (b9 prog 85)
def C9:KV:=(dO 4 (eC prog O L (bU [1,1,1,1,1,1] (b9 prog 85)) (eG prog Tryz.f85)))
theorem aFX:C9 O L (.exit 4) [a,b,c,d,e,f,g,i,j,l,m,n,o,p,q,r,s,t,u,v,w,x,y,z,A,B,C,D,E,F,G,H,I,J,zz,zy,zx,zw,zv,zu,zt,zs,zr,zq,zp,zo,zn,zm,zl,zk,zj,zi,zh,zg,zf,ze,zd,zc,zb,za,yz,yy,yx,yw,yv,yu,yt,ys,yr,yq,yp] h=some (aG [(.int .u16 0)],h):=by kernel_rfl
theorem aF1:C9 O L .ret [a,b,c,d,e,f,g,i,j,l,m,n,o,p,q,r,s,t,u,v,w,x,y,z,A,B,C,D,E,F,G,H,I,J,zz,zy,zx,zw,zv,zu,zt,zs,zr,zq,zp,zo,zn,zm,zl,zk,zj,zi,zh,zg,zf,ze,zd,zc,zb,za,yz,yy,yx,yw,yv,yu,yt,ys,yr,yq,yp] h=some (aG [c],h):=by kernel_rfl
theorem Tx:aI prog O L Ke k [a,b,c,d,e,f,g,i,j,l,m,n,o,p,q,r,s,t,u,v,w,x,y,z,A,B,C,D,E,F,G,H,I,J,zz,zy,zx,zw,zv,zu,zt,zs,zr,zq,zp,zo,zn,zm,zl,zk,zj,zi,zh,zg,zf,ze,zd,zc,zb,za,yz,yy,yx,yw,yv,yu,yt,ys,yr,yq,yp] h=ob (M.aB (bin prog .lss 3 zf zg) h) λaa h=>aJ aa (ob (M.aB (aK j) h) λab h=>ob (M.aB (aE 0 ab) h) λac h=>ob (ld1 ac h) λad h=>ob (M.aB (aQ 1 ad zf) h) λae h=>ob (ld1 ae h) λaf h=>ob (M.aB (bin prog .eql 3 af (.int .i64 0)) h) λag h=>ob (gd ag true (M.cB j) h) λah h=>ob (gd ag true (M.cB zf) h) λai h=>ob (gd ag true (O (.func 165) [ah,ai]) h) λaj h=>ob (M.aB (cJ ag aj (.bool false)) h) λak h=>aJ ak (k .ret [a,b,(.int .u16 140),d,e,f,g,i,j,zf,m,n,o,p,q,r,s,t,u,v,w,x,y,z,A,B,C,D,E,F,G,H,I,J,zz,zy,zx,zw,zv,zu,zt,zs,zr,zq,zp,zo,zn,zm,zl,zk,zj,zi,zh,zg,zf,aa,zf,j,ab,ac,ad,zf,ae,af,ag,ag,ah,ai,aj,ak,yp] h) (ob (M.aB (bin prog .add 3 zf (.int .i64 1)) h) λal h=>k .normal [a,b,c,d,e,f,g,i,j,zf,m,n,o,p,q,r,s,t,u,v,w,x,y,z,A,B,C,D,E,F,G,H,I,J,zz,zy,zx,zw,zv,zu,zt,zs,zr,zq,zp,zo,zn,zm,zl,zk,zj,zi,zh,zg,al,aa,zf,j,ab,ac,ad,zf,ae,af,ag,ag,ah,ai,aj,ak,al] h)) (k (.exit 4) [a,b,c,d,e,f,g,i,j,l,m,n,o,p,q,r,s,t,u,v,w,x,y,z,A,B,C,D,E,F,G,H,I,J,zz,zy,zx,zw,zv,zu,zt,zs,zr,zq,zp,zo,zn,zm,zl,zk,zj,zi,zh,zg,zf,aa,zd,zc,zb,za,yz,yy,yx,yw,yv,yu,yt,ys,yr,yq,yp] h):=by kernel_rfl
def Kd:Code:=bU [1,1,0,1,0,0,1,1,0,0,1,1,0,0] (b9 prog 85)
def C8:KV:=(dO 2 (dO 1 (eC prog O L (bU [1,1,0,1,0,0,1,1,1] (b9 prog 85)) k)))
theorem aFW:C8 O L k (.exit 2) [a,b,c,d,e,f,g,i,j,l,m,n,o,p,q,r,s,t,u,v,w,x,y,z,A,B,C,D,E,F,G,H,I,J,zz,zy,zx,zw,zv,zu,zt,zs,zr,zq,zp,zo,zn,zm,zl,zk,zj,zi,zh,zg,zf,ze,zd,zc,zb,za,yz,yy,yx,yw,yv,yu,yt,ys,yr,yq,yp] h=ob (M.aB (bin prog .add 3 t (.int .i64 1)) h) λaa h=>k .normal [a,b,c,d,e,f,g,i,j,l,m,n,o,p,q,r,s,aa,u,v,w,x,y,z,A,B,C,D,E,F,G,H,I,J,zz,aa,zx,zw,zv,zu,zt,zs,zr,zq,zp,zo,zn,zm,zl,zk,zj,zi,zh,zg,zf,ze,zd,zc,zb,za,yz,yy,yx,yw,yv,yu,yt,ys,yr,yq,yp] h:=by kernel_rfl
theorem aF0:C8 O L k .ret [a,b,c,d,e,f,g,i,j,l,m,n,o,p,q,r,s,t,u,v,w,x,y,z,A,B,C,D,E,F,G,H,I,J,zz,zy,zx,zw,zv,zu,zt,zs,zr,zq,zp,zo,zn,zm,zl,zk,zj,zi,zh,zg,zf,ze,zd,zc,zb,za,yz,yy,yx,yw,yv,yu,yt,ys,yr,yq,yp] h=k .ret [a,b,c,d,e,f,g,i,j,l,m,n,o,p,q,r,s,t,u,v,w,x,y,z,A,B,C,D,E,F,G,H,I,J,zz,zy,zx,zw,zv,zu,zt,zs,zr,zq,zp,zo,zn,zm,zl,zk,zj,zi,zh,zg,zf,ze,zd,zc,zb,za,yz,yy,yx,yw,yv,yu,yt,ys,yr,yq,yp] h:=by kernel_rfl
theorem Tw:aI prog O L Kd k [a,b,c,d,e,f,g,i,j,l,m,n,o,p,q,r,s,t,u,v,w,x,y,z,A,B,C,D,E,F,G,H,I,J,zz,zy,zx,zw,zv,zu,zt,zs,zr,zq,zp,zo,zn,zm,zl,zk,zj,zi,zh,zg,zf,ze,zd,zc,zb,za,yz,yy,yx,yw,yv,yu,yt,ys,yr,yq,yp] h=ob (M.aB (bin prog .lss 3 y x) h) λaa h=>aJ aa (ob (ldN 11 b h) λab h=>ob (O (.func 163) [ab,e,y] h) λac h=>ob (M.aB (ext 0 ac) h) λad h=>ob (M.aB (ext 1 ac) h) λae h=>ob (M.aB (un prog .not ae) h) λaf h=>aJ af (k .ret [a,b,(.int .u16 140),d,e,y,ad,ae,j,l,m,n,o,p,q,r,s,t,u,v,w,x,y,aa,y,ac,ab,e,y,ac,ad,ae,ae,af,zz,zy,zx,zw,zv,zu,zt,zs,zr,zq,zp,zo,zn,zm,zl,zk,zj,zi,zh,zg,zf,ze,zd,zc,zb,za,yz,yy,yx,yw,yv,yu,yt,ys,yr,yq,yp] h) (ob (M.aB (bin prog .add 3 y (.int .i64 1)) h) λag h=>k .normal [a,b,c,d,e,y,ad,ae,j,l,m,n,o,p,q,r,s,t,u,v,w,x,ag,aa,y,ac,ab,e,y,ac,ad,ae,ae,af,ag,zy,zx,zw,zv,zu,zt,zs,zr,zq,zp,zo,zn,zm,zl,zk,zj,zi,zh,zg,zf,ze,zd,zc,zb,za,yz,yy,yx,yw,yv,yu,yt,ys,yr,yq,yp] h)) (k (.exit 2) [a,b,c,d,e,f,g,i,j,l,m,n,o,p,q,r,s,t,u,v,w,x,y,aa,A,B,C,D,E,F,G,H,I,J,zz,zy,zx,zw,zv,zu,zt,zs,zr,zq,zp,zo,zn,zm,zl,zk,zj,zi,zh,zg,zf,ze,zd,zc,zb,za,yz,yy,yx,yw,yv,yu,yt,ys,yr,yq,yp] h):=by kernel_rfl
def Kc:Code:=bU [1,1,0,1,0,0] (b9 prog 85)
def C7:KV:=(dO 0 (eC prog O L (bU [1,1,1] (b9 prog 85)) (eG prog Tryz.f85)))
def Kf (O:aC)(L:LV) (a b c d e f g i j l m n o p q r s t u v w x y z A B C D E F G H I J zz zy zx zw zv zu zt zs zr zq zp zo zn zm zl zk zj zi zh zg zf ze zd zc zb za yz yy yx yw yv yu yt ys yr yq yp:Value) (h:aA):OV:=ob (ldN 11 b h) λaa h=>ob (O (.func 164) [aa] h) λab h=>ob (M.aB (bld prog 262 [(1,ab)]) h) λac h=>ob (cL 262 (Value.cells ac).toList .fix h) λad h=>ob (M.aB (aK ad) h) λae h=>ob (M.aB (aE 1 ae) h) λaf h=>ob (ld1 af h) λag h=>ob (M.aB (bJ ag) h) λah h=>ob (kF 3 1 8 [(.int .i64 0)] ah ah h) λai h=>ob (M.aB (aK ad) h) λaj h=>ob (M.aB (aE 0 aj) h) λak h=>ob (stN 1 ak ai h) λal h=>ob (M.aB (aK ad) h) λam h=>ob (M.aB (aE 0 am) h) λan h=>ob (ld1 an h) λao h=>ob (M.aB (bJ ao) h) λap h=>L (aI prog O L Ke) (C9 O L) [a,b,c,d,e,f,g,i,ad,l,m,n,o,p,q,r,s,t,u,v,w,x,y,z,A,B,C,D,E,F,G,H,I,J,zz,zy,aa,ab,ac,ad,ad,ad,ae,af,ag,ah,ai,aj,ak,ad,am,an,ao,ap,(.int .i64 0),ze,zd,zc,zb,za,yz,yy,yx,yw,yv,yu,yt,ys,yr,yq,yp] h
theorem aFV:C7 O L (.exit 0) [a,b,c,d,e,f,g,i,j,l,m,n,o,p,q,r,s,t,u,v,w,x,y,z,A,B,C,D,E,F,G,H,I,J,zz,zy,zx,zw,zv,zu,zt,zs,zr,zq,zp,zo,zn,zm,zl,zk,zj,zi,zh,zg,zf,ze,zd,zc,zb,za,yz,yy,yx,yw,yv,yu,yt,ys,yr,yq,yp] h=Kf O L a b c d e f g i j l m n o p q r s t u v w x y z A B C D E F G H I J zz zy zx zw zv zu zt zs zr zq zp zo zn zm zl zk zj zi zh zg zf ze zd zc zb za yz yy yx yw yv yu yt ys yr yq yp h:=by kernel_rfl
theorem aFZ:C7 O L .ret [a,b,c,d,e,f,g,i,j,l,m,n,o,p,q,r,s,t,u,v,w,x,y,z,A,B,C,D,E,F,G,H,I,J,zz,zy,zx,zw,zv,zu,zt,zs,zr,zq,zp,zo,zn,zm,zl,zk,zj,zi,zh,zg,zf,ze,zd,zc,zb,za,yz,yy,yx,yw,yv,yu,yt,ys,yr,yq,yp] h=some (aG [c],h):=by kernel_rfl
theorem Tv:aI prog O L Kc k [a,b,c,d,e,f,g,i,j,l,m,n,o,p,q,r,s,t,u,v,w,x,y,z,A,B,C,D,E,F,G,H,I,J,zz,zy,zx,zw,zv,zu,zt,zs,zr,zq,zp,zo,zn,zm,zl,zk,zj,zi,zh,zg,zf,ze,zd,zc,zb,za,yz,yy,yx,yw,yv,yu,yt,ys,yr,yq,yp] h=ob (M.aB (bin prog .lss 3 t s) h) λaa h=>aJ aa (ob (M.aB (aE 0 b) h) λab h=>ob (ld1 ab h) λac h=>L (aI prog O L Kd) (C8 O L k) [a,b,c,d,t,f,g,i,j,l,m,n,o,p,q,r,s,t,aa,t,ab,ac,(.int .i64 0),z,A,B,C,D,E,F,G,H,I,J,zz,zy,zx,zw,zv,zu,zt,zs,zr,zq,zp,zo,zn,zm,zl,zk,zj,zi,zh,zg,zf,ze,zd,zc,zb,za,yz,yy,yx,yw,yv,yu,yt,ys,yr,yq,yp] h) (k (.exit 0) [a,b,c,d,e,f,g,i,j,l,m,n,o,p,q,r,s,t,aa,v,w,x,y,z,A,B,C,D,E,F,G,H,I,J,zz,zy,zx,zw,zv,zu,zt,zs,zr,zq,zp,zo,zn,zm,zl,zk,zj,zi,zh,zg,zf,ze,zd,zc,zb,za,yz,yy,yx,yw,yv,yu,yt,ys,yr,yq,yp] h):=by kernel_rfl
theorem aFY:bX prog O L 85 [N] h=ob (cL 40 (Value.cells N).toList .fix h) λaa h=>ob (ldN 11 aa h) λab h=>ob (O (.func 162) [ab] h) λac h=>ob (M.aB (bin prog .neq 60 ac (.int .u16 0)) h) λad h=>aJ ad (some (aG [ac],h)) (ob (M.aB (aE 0 aa) h) λae h=>ob (ld1 ae h) λaf h=>L (aI prog O L Kc) (C7 O L) [N,aa,(.int .u16 0),ac,undef,undef,undef,undef,undef,undef,ab,ac,ac,ad,undef,ae,af,(.int .i64 0),undef,undef,undef,undef,undef,undef,undef,undef,undef,undef,undef,undef,undef,undef,undef,undef,undef,undef,undef,undef,undef,undef,undef,undef,undef,undef,undef,undef,undef,undef,undef,undef,undef,undef,undef,undef,undef,undef,undef,undef,undef,undef,undef,undef,undef,undef,undef,undef,undef,undef,undef,undef,undef] h):=by kernel_rfl
def Jp:Code:=bU [1,0,1,0,0] (b9 prog 160)
def C2:KV:=(dO 0 (eC prog O L (bU [1,1] (b9 prog 160)) (eG prog Tryz.f160)))
theorem aFA:C2 O L (.exit 0) [a,b,c,d,e,f,g,i,j,l,m,n,o,p,q,r,s,t,u,v,w,x,y,z,A,B] h=ob (M.aB (bJ a) h) λaa h=>ob (M.aB (bin prog .leq 3 aa (.int .i64 5)) h) λab h=>some (aG [ab],h):=by kernel_rfl
theorem Th:C2 O L .ret [a,b,c,d,e,f,g,i,j,l,m,n,o,p,q,r,s,t,u,v,w,x,y,z,A,B] h=some (aG [c],h):=by kernel_rfl
theorem Tg:aI prog O L Jp k [a,b,c,d,e,f,g,i,j,l,m,n,o,p,q,r,s,t,u,v,w,x,y,z,A,B] h=ob (M.aB (bJ a) h) λaa h=>ob (M.aB (bin prog .lss 3 d aa) h) λab h=>aJ ab (ob (M.aB (aQ 1 a d) h) λac h=>ob (ld1 ac h) λad h=>ob (M.aB (bin prog .lss 3 ad (.int .i64 0)) h) λae h=>ob (gd ae false (M.cB a) h) λaf h=>ob (gd ae false (M.cB d) h) λag h=>ob (gd ae false (M.aB (aQ 1 af ag)) h) λah h=>ob (gd ae false (ld1 ah) h) λai h=>ob (gd ae false (M.cB d) h) λaj h=>ob (gd ae false (M.aB (bin prog .gtr 3 ai aj)) h) λak h=>ob (M.aB (cJ ae (.bool true) ak) h) λal h=>aJ al (k .ret [a,b,(.bool false),d,d,a,aa,ab,j,l,a,d,ac,ad,ae,ae,af,ag,ah,ai,aj,ak,al,z,A,B] h) (ob (M.aB (bin prog .add 3 d (.int .i64 1)) h) λam h=>k .normal [a,b,c,am,d,a,aa,ab,d,am,a,d,ac,ad,ae,ae,af,ag,ah,ai,aj,ak,al,z,A,B] h)) (k (.exit 0) [a,b,c,d,d,a,aa,ab,j,l,m,n,o,p,q,r,s,t,u,v,w,x,y,z,A,B] h):=by kernel_rfl
theorem aFB:bX prog O L 160 [N] h=L (aI prog O L Jp) (C2 O L) [N,undef,(.bool false),(.int .i64 0),undef,undef,undef,undef,undef,undef,undef,undef,undef,undef,undef,undef,undef,undef,undef,undef,undef,undef,undef,undef,undef,undef] h:=by kernel_rfl
def Jr:Code:=bU [1,1,1,1,1,1,1,0,1,0,0] (b9 prog 161)
def Jv:KV:=(dO 2 (eC prog O L (bU [1,1,1,1,1,1,1,1] (b9 prog 161)) (eG prog Tryz.f161)))
theorem aFD:Jv O L (.exit 2) [a,b,c,d,e,f,g,i,j,l,m,n,o,p,q,r,s,t,u,v,w,x,y,z,A,B,C,D,E,F,G,H,I,J,zz,zy,zx,zw,zv,zu,zt,zs,zr,zq,zp,zo,zn,zm,zl,zk,zj,zi,zh,zg,zf,ze,zd,zc,zb,za,yz,yy,yx,yw,yv,yu,yt,ys,yr,yq,yp,yo,yn,ym,yl,yk,yj,yi,yh,yg,yf,ye,yd,yc,yb,ya,xz,xy,xx,xw,xv] h=some (aG [l],h):=by kernel_rfl
theorem Ti:aI prog O L Jr k [a,b,c,d,e,f,g,i,j,l,m,n,o,p,q,r,s,t,u,v,w,x,y,z,A,B,C,D,E,F,G,H,I,J,zz,zy,zx,zw,zv,zu,zt,zs,zr,zq,zp,zo,zn,zm,zl,zk,zj,zi,zh,zg,zf,ze,zd,zc,zb,za,yz,yy,yx,yw,yv,yu,yt,ys,yr,yq,yp,yo,yn,ym,yl,yk,yj,yi,yh,yg,yf,ye,yd,yc,yb,ya,xz,xy,xx,xw,xv] h=ob (M.aB (bin prog .geq 3 m (.int .i64 0)) h) λaa h=>aJ aa (ob (M.aB (aQ 1 j m) h) λab h=>ob (ld1 ab h) λac h=>ob (dL 3 1 1 [(.int .i64 0)] [(0,ac)] h) λad h=>ob (app 3 1 8 l ad h) λae h=>ob (M.aB (bin prog .sub 3 m (.int .i64 1)) h) λaf h=>k .normal [a,b,c,d,e,f,g,i,j,ae,af,n,o,p,q,r,s,t,u,v,w,x,y,z,A,B,C,D,E,F,G,H,I,J,zz,zy,zx,zw,zv,zu,zt,zs,zr,zq,zp,zo,zn,zm,zl,zk,zj,zi,zh,zg,zf,ze,zd,zc,zb,za,yz,yy,yx,yw,yv,yu,yt,ys,yr,yq,yp,yo,yn,ym,yl,yk,yj,yi,yh,m,aa,m,af,l,j,m,ab,ac,ad,ae,xv] h) (k (.exit 2) [a,b,c,d,e,f,g,i,j,l,m,n,o,p,q,r,s,t,u,v,w,x,y,z,A,B,C,D,E,F,G,H,I,J,zz,zy,zx,zw,zv,zu,zt,zs,zr,zq,zp,zo,zn,zm,zl,zk,zj,zi,zh,zg,zf,ze,zd,zc,zb,za,yz,yy,yx,yw,yv,yu,yt,ys,yr,yq,yp,yo,yn,ym,yl,yk,yj,yi,yh,m,aa,ye,yd,yc,yb,ya,xz,xy,xx,xw,xv] h):=by kernel_rfl
def Jq:Code:=bU [1,1,1,1,0,0,0] (b9 prog 161)
def Ju:KV:=(dO 0 (eC prog O L (bU [1,1,1,1,1] (b9 prog 161)) (eG prog Tryz.f161)))
def Js (O:aC)(L:LV) (a b c d e f g i j l m n o p q r s t u v w x y z A B C D E F G H I J zz zy zx zw zv zu zt zs zr zq zp zo zn zm zl zk zj zi zh zg zf ze zd zc zb za yz yy yx yw yv yu yt ys yr yq yp yo yn ym yl yk yj yi yh yg yf ye yd yc yb ya xz xy xx xw xv:Value) (h:aA):OV:=ob (app 3 1 8 (.slice none 0 0) i h) λaa h=>ob (M.aB (bJ j) h) λab h=>ob (M.aB (bin prog .sub 3 ab (.int .i64 2)) h) λac h=>L (aI prog O L Jr) (Jv O L) [a,b,c,d,e,f,g,i,j,aa,ac,n,o,p,q,r,s,t,u,v,w,x,y,z,A,B,C,D,E,F,G,H,I,J,zz,zy,zx,zw,zv,zu,zt,zs,zr,zq,zp,zo,zn,zm,zl,zk,zj,zi,zh,zg,zf,ze,zd,zc,zb,za,yz,yy,yx,yw,yv,yu,yt,ys,yr,yq,yp,yo,yn,(.slice none 0 0),i,aa,j,ab,ac,yg,yf,ye,yd,yc,yb,ya,xz,xy,xx,xw,xv] h
theorem Jt:Ju O L (.exit 0) [a,b,c,d,e,f,g,i,j,l,m,n,o,p,q,r,s,t,u,v,w,x,y,z,A,B,C,D,E,F,G,H,I,J,zz,zy,zx,zw,zv,zu,zt,zs,zr,zq,zp,zo,zn,zm,zl,zk,zj,zi,zh,zg,zf,ze,zd,zc,zb,za,yz,yy,yx,yw,yv,yu,yt,ys,yr,yq,yp,yo,yn,ym,yl,yk,yj,yi,yh,yg,yf,ye,yd,yc,yb,ya,xz,xy,xx,xw,xv] h=Js O L a b c d e f g i j l m n o p q r s t u v w x y z A B C D E F G H I J zz zy zx zw zv zu zt zs zr zq zp zo zn zm zl zk zj zi zh zg zf ze zd zc zb za yz yy yx yw yv yu yt ys yr yq yp yo yn ym yl yk yj yi yh yg yf ye yd yc yb ya xz xy xx xw xv h:=by kernel_rfl
theorem aFC:aI prog O L Jq k [a,b,c,d,e,f,g,i,j,l,m,n,o,p,q,r,s,t,u,v,w,x,y,z,A,B,C,D,E,F,G,H,I,J,zz,zy,zx,zw,zv,zu,zt,zs,zr,zq,zp,zo,zn,zm,zl,zk,zj,zi,zh,zg,zf,ze,zd,zc,zb,za,yz,yy,yx,yw,yv,yu,yt,ys,yr,yq,yp,yo,yn,ym,yl,yk,yj,yi,yh,yg,yf,ye,yd,yc,yb,ya,xz,xy,xx,xw,xv] h=ob (M.aB (bJ i) h) λaa h=>ob (M.aB (bin prog .gtr 3 aa (.int .i64 1)) h) λab h=>ob (gd ab true (M.cB j) h) λac h=>ob (gd ab true (M.aB (bJ ac)) h) λad h=>ob (gd ab true (M.aB (bin prog .gtr 3 ad (.int .i64 1))) h) λae h=>ob (M.aB (cJ ab ae (.bool false)) h) λaf h=>ob (gd af true (M.cB i) h) λag h=>ob (gd af true (M.cB i) h) λah h=>ob (gd af true (M.aB (bJ ah)) h) λai h=>ob (gd af true (M.aB (bin prog .sub 3 ai (.int .i64 2))) h) λaj h=>ob (gd af true (M.aB (aQ 1 ag aj)) h) λak h=>ob (gd af true (ld1 ak) h) λal h=>ifB (true) (ob (gd af true (M.cB j) h) λam h=>ob (gd af true (M.cB j) h) λan h=>ob (gd af true (M.aB (bJ an)) h) λao h=>ob (gd af true (M.aB (bin prog .sub 3 ao (.int .i64 2))) h) λap h=>ob (gd af true (M.aB (aQ 1 am ap)) h) λaq h=>ob (gd af true (ld1 aq) h) λar h=>ifB (true) (ob (gd af true (M.aB (bin prog .eql 3 al ar)) h) λau h=>ob (M.aB (cJ af au (.bool false)) h) λav h=>aJ av (ob (M.aB (bJ i) h) λaw h=>ob (M.aB (bin prog .sub 3 aw (.int .i64 1)) h) λax h=>ob (slc prog 1 i none (some ax) none h) λay h=>ob (M.aB (bJ j) h) λaz h=>ob (M.aB (bin prog .sub 3 az (.int .i64 1)) h) λba h=>ob (slc prog 1 j none (some ba) none h) λbb h=>k .normal [a,b,c,d,e,f,g,ay,bb,l,m,n,o,p,q,r,s,t,u,v,w,x,y,z,A,B,C,D,E,F,G,H,I,J,zz,zy,zx,zw,zv,zu,i,aa,ab,ab,ac,ad,ae,af,af,ag,ah,ai,aj,ak,al,am,an,ao,ap,aq,ar,au,av,i,i,aw,ax,ay,j,j,az,ba,bb,ym,yl,yk,yj,yi,yh,yg,yf,ye,yd,yc,yb,ya,xz,xy,xx,xw,xv] h) (k (.exit 0) [a,b,c,d,e,f,g,i,j,l,m,n,o,p,q,r,s,t,u,v,w,x,y,z,A,B,C,D,E,F,G,H,I,J,zz,zy,zx,zw,zv,zu,i,aa,ab,ab,ac,ad,ae,af,af,ag,ah,ai,aj,ak,al,am,an,ao,ap,aq,ar,au,av,yw,yv,yu,yt,ys,yr,yq,yp,yo,yn,ym,yl,yk,yj,yi,yh,yg,yf,ye,yd,yc,yb,ya,xz,xy,xx,xw,xv] h))):=by kernel_rfl
theorem aFE:bX prog O L 161 [N,P,Q] h=ob (O (.func 160) [N] h) λaa h=>ob (M.aB (un prog .not aa) h) λab h=>ob (gd ab false (M.cB P) h) λac h=>ob (gd ab false (M.aB (bin prog .lss 3 ac (.int .i64 0))) h) λad h=>ob (M.aB (cJ ab (.bool true) ad) h) λae h=>ob (gd ae false (M.cB P) h) λaf h=>ob (gd ae false (M.cB N) h) λag h=>ob (gd ae false (M.aB (bJ ag)) h) λah h=>ob (gd ae false (M.aB (bin prog .gtr 3 af ah)) h) λai h=>ob (M.aB (cJ ae (.bool true) ai) h) λaj h=>ob (gd aj false (M.cB Q) h) λak h=>ob (gd aj false (M.aB (bin prog .lss 3 ak (.int .i64 0))) h) λal h=>ob (M.aB (cJ aj (.bool true) al) h) λam h=>ob (gd am false (M.cB Q) h) λan h=>ob (gd am false (M.cB N) h) λao h=>ob (gd am false (M.aB (bJ ao)) h) λap h=>ob (gd am false (M.aB (bin prog .gtr 3 an ap)) h) λaq h=>ob (M.aB (cJ am (.bool true) aq) h) λar h=>aJ ar (some (aG [(.slice none 0 0)],h)) (ob (O (.func 223) [N,P] h) λau h=>ob (O (.func 223) [N,Q] h) λav h=>L (aI prog O L Jq) (Ju O L) [N,P,Q,undef,undef,undef,(.slice none 0 0),au,av,undef,undef,N,aa,ab,ab,ac,ad,ae,ae,af,ag,ah,ai,aj,aj,ak,al,am,am,an,ao,ap,aq,ar,N,P,au,N,Q,av,undef,undef,undef,undef,undef,undef,undef,undef,undef,undef,undef,undef,undef,undef,undef,undef,undef,undef,undef,undef,undef,undef,undef,undef,undef,undef,undef,undef,undef,undef,undef,undef,undef,undef,undef,undef,undef,undef,undef,undef,undef,undef,undef,undef,undef,undef,undef,undef,undef,undef,undef] h):=by kernel_rfl
def Jw:Code:=bU [1,1,0,0,0] (b9 prog 163)
def C3:KV:=(dO 0 (eC prog O L (bU [1,1,1] (b9 prog 163)) (eG prog Tryz.f163)))
theorem aFG:C3 O L (.exit 0) [a,b,c,d,e,f,g,i,j,l,m,n,o,p,q,r,s,t,u,v,w,x,y,z,A,B,C,D,E,F,G,H,I,J,zz,zy,zx,zw,zv,zu,zt,zs] h=some (aG [j,(.bool true)],h):=by kernel_rfl
theorem Tj:C3 O L .ret [a,b,c,d,e,f,g,i,j,l,m,n,o,p,q,r,s,t,u,v,w,x,y,z,A,B,C,D,E,F,G,H,I,J,zz,zy,zx,zw,zv,zu,zt,zs] h=some (aG [g,i],h):=by kernel_rfl
theorem aFF:aI prog O L Jw k [a,b,c,d,e,f,g,i,j,l,m,n,o,p,q,r,s,t,u,v,w,x,y,z,A,B,C,D,E,F,G,H,I,J,zz,zy,zx,zw,zv,zu,zt,zs] h=ob (M.aB (bin prog .neq 3 b c) h) λaa h=>aJ aa (ob (M.aB (aE 10 d) h) λab h=>ob (ld1 ab h) λac h=>ob (M.aB (aQ 1 ac b) h) λad h=>ob (ld1 ad h) λae h=>ob (M.aB (aQ 1 ae c) h) λaf h=>ob (ld1 af h) λag h=>ob (M.aB (bJ j) h) λah h=>ob (M.aB (aE 0 d) h) λai h=>ob (ld1 ai h) λaj h=>ob (M.aB (bin prog .eql 3 ah aj) h) λak h=>ob (gd ak false (ldN 11 d) h) λal h=>ob (gd ak false (M.cB b) h) λam h=>ob (gd ak false (O (.func 88) [al,am]) h) λan h=>ob (gd ak false (M.cB ag) h) λao h=>ob (gd ak false (O (.func 228) [an,ao]) h) λap h=>ob (gd ak false (M.aB (un prog .not ap)) h) λaq h=>ob (M.aB (cJ ak (.bool true) aq) h) λar h=>aJ ar (k .ret [a,b,c,d,e,f,(.slice none 0 0),(.bool false),j,ag,m,n,b,c,aa,ab,ac,b,ad,ae,c,af,ag,j,ah,ai,aj,ak,ak,al,am,an,ao,ap,aq,ar,zx,zw,zv,zu,zt,zs] h) (ob (dL 3 1 1 [(.int .i64 0)] [(0,ag)] h) λau h=>ob (app 3 1 8 j au h) λav h=>k .normal [a,ag,c,d,e,f,g,i,av,ag,m,n,b,c,aa,ab,ac,b,ad,ae,c,af,ag,j,ah,ai,aj,ak,ak,al,am,an,ao,ap,aq,ar,j,ag,au,av,ag,zs] h)) (k (.exit 0) [a,b,c,d,e,f,g,i,j,l,m,n,b,c,aa,r,s,t,u,v,w,x,y,z,A,B,C,D,E,F,G,H,I,J,zz,zy,zx,zw,zv,zu,zt,zs] h):=by kernel_rfl
theorem aFH:bX prog O L 163 [N,P,Q] h=ob (cL 40 (Value.cells N).toList .fix h) λaa h=>ob (dL 3 1 1 [(.int .i64 0)] [(0,P)] h) λab h=>L (aI prog O L Jw) (C3 O L) [N,P,Q,aa,undef,undef,(.slice none 0 0),(.bool false),ab,undef,P,ab,undef,undef,undef,undef,undef,undef,undef,undef,undef,undef,undef,undef,undef,undef,undef,undef,undef,undef,undef,undef,undef,undef,undef,undef,undef,undef,undef,undef,undef,undef] h:=by kernel_rfl
def Jy:Code:=bU [1,1,1,1,0,1,0,0] (b9 prog 164)
def Jz:KV:=(dO 0 (eC prog O L (bU [1,1,1,1,1] (b9 prog 164)) (eG prog Tryz.f164)))
theorem aFI:Jz O L (.exit 0) [a,b,c,d,e,f,g,i,j,l,m,n,o,p,q,r,s,t,u,v,w,x,y,z,A,B,C,D,E,F,G] h=some (aG [e],h):=by kernel_rfl
theorem Tk:aI prog O L Jy k [a,b,c,d,e,f,g,i,j,l,m,n,o,p,q,r,s,t,u,v,w,x,y,z,A,B,C,D,E,F,G] h=ob (M.aB (bin prog .lss 3 t s) h) λaa h=>aJ aa (ob (M.aB (aQ 2 r t) h) λab h=>ob (ldN 2 ab h) λac h=>ob (cL 117 [(.int .i64 0),(.int .i64 0)] .fix h) λad h=>ob (stN 2 ad ac h) λae h=>ob (ldN 11 b h) λaf h=>ob (ldN 2 ad h) λag h=>ob (O (.func 229) [af,ag,d] h) λah h=>ob (M.aB (aQ 1 e t) h) λai h=>ob (stN 1 ai ah h) λaj h=>ob (M.aB (bin prog .add 3 t (.int .i64 1)) h) λak h=>k .normal [a,b,c,d,e,t,ad,i,j,l,m,n,o,p,q,r,s,ak,aa,t,ab,ac,e,t,af,ag,d,ah,ai,ak,G] h) (k (.exit 0) [a,b,c,d,e,f,g,i,j,l,m,n,o,p,q,r,s,t,aa,v,w,x,y,z,A,B,C,D,E,F,G] h):=by kernel_rfl
theorem aFJ:bX prog O L 164 [N] h=ob (cL 40 (Value.cells N).toList .fix h) λaa h=>ob (ldN 11 aa h) λab h=>ob (O (.func 162) [ab] h) λac h=>ob (M.aB (bin prog .neq 60 ac (.int .u16 0)) h) λad h=>aJ ad (some (aG [(.slice none 0 0)],h)) (ob (ldN 11 aa h) λae h=>ob (O (.func 139) [ae] h) λaf h=>ob (M.aB (bJ af) h) λag h=>ob (kF 37 1 24 [(.slice none 0 0)] ag ag h) λah h=>ob (M.aB (bJ af) h) λai h=>L (aI prog O L Jy) (Jz O L) [N,aa,(.slice none 0 0),af,ah,undef,undef,ab,ac,ad,ae,af,af,ag,ah,af,ai,(.int .i64 0),undef,undef,undef,undef,undef,undef,undef,undef,undef,undef,undef,undef,undef] h):=by kernel_rfl
def C4:Code:=bU [1,0,1,1,0,1,0,0] (b9 prog 165)
def zT:KV:=(dO 0 (eC prog O L (bU [1,0,1,1,1] (b9 prog 165)) (eG prog Tryz.f165)))
theorem aFK:zT O L (.exit 0) [a,b,c,d,e,f,g,i,j,l,m,n,o,p,q,r,s,t,u,v,w,x,y,z,A,B,C,D,E,F,G,H,I,J,zz,zy,zx,zw,zv,zu,zt,zs,zr,zq,zp,zo,zn,zm,zl,zk,zj,zi,zh,zg] h=ob (M.aB (aK a) h) λaa h=>ob (M.aB (aE 0 aa) h) λab h=>ob (ld1 ab h) λac h=>ob (M.aB (aQ 1 ac b) h) λad h=>ob (stN 1 ad (.int .i64 2) h) λae h=>some (aG [(.bool false)],h):=by kernel_rfl
theorem Tm:zT O L .ret [a,b,c,d,e,f,g,i,j,l,m,n,o,p,q,r,s,t,u,v,w,x,y,z,A,B,C,D,E,F,G,H,I,J,zz,zy,zx,zw,zv,zu,zt,zs,zr,zq,zp,zo,zn,zm,zl,zk,zj,zi,zh,zg] h=some (aG [e],h):=by kernel_rfl
theorem Tl:aI prog O L C4 k [a,b,c,d,e,f,g,i,j,l,m,n,o,p,q,r,s,t,u,v,w,x,y,z,A,B,C,D,E,F,G,H,I,J,zz,zy,zx,zw,zv,zu,zt,zs,zr,zq,zp,zo,zn,zm,zl,zk,zj,zi,zh,zg] h=ob (M.aB (bin prog .lss 3 x w) h) λaa h=>aJ aa (ob (M.aB (aQ 1 v x) h) λab h=>ob (ld1 ab h) λac h=>ob (M.aB (aK a) h) λad h=>ob (M.aB (aE 0 ad) h) λae h=>ob (ld1 ae h) λaf h=>ob (M.aB (aQ 1 af ac) h) λag h=>ob (ld1 ag h) λah h=>ob (M.aB (bin prog .eql 3 ah (.int .i64 1)) h) λai h=>aJ ai (k .ret [a,b,c,d,(.bool true),f,ac,i,j,l,m,n,o,p,q,r,s,t,u,v,w,x,aa,ab,ac,ai,a,ad,ae,af,ac,ag,ah,ai,zz,zy,zx,zw,zv,zu,zt,zs,zr,zq,zp,zo,zn,zm,zl,zk,zj,zi,zh,zg] h) (ob (M.aB (aK a) h) λaj h=>ob (M.aB (aE 0 aj) h) λak h=>ob (ld1 ak h) λal h=>ob (M.aB (aQ 1 al ac) h) λam h=>ob (ld1 am h) λan h=>ob (M.aB (bin prog .eql 3 an (.int .i64 2)) h) λao h=>aJ ao (ob (M.aB (bin prog .add 3 x (.int .i64 1)) h) λap h=>k .normal [a,b,c,d,e,f,ac,i,j,l,m,n,o,p,q,r,s,t,u,v,w,ap,aa,ab,ac,ai,a,ad,ae,af,ac,ag,ah,ai,ao,a,aj,ak,al,ac,am,an,ao,zq,zp,zo,zn,ap,zl,zk,zj,zi,zh,zg] h) (ob (O (.func 165) [a,ac] h) λaq h=>aJ aq (k .ret [a,b,c,d,(.bool true),f,ac,i,j,l,m,n,o,p,q,r,s,t,u,v,w,x,aa,ab,ac,ai,a,ad,ae,af,ac,ag,ah,ai,ao,a,aj,ak,al,ac,am,an,ao,aq,a,ac,aq,zm,zl,zk,zj,zi,zh,zg] h) (ob (M.aB (bin prog .add 3 x (.int .i64 1)) h) λar h=>k .normal [a,b,c,d,e,f,ac,i,j,l,m,n,o,p,q,r,s,t,u,v,w,ar,aa,ab,ac,ai,a,ad,ae,af,ac,ag,ah,ai,ao,a,aj,ak,al,ac,am,an,ao,aq,a,ac,aq,ar,zl,zk,zj,zi,zh,zg] h)))) (k (.exit 0) [a,b,c,d,e,f,g,i,j,l,m,n,o,p,q,r,s,t,u,v,w,x,aa,z,A,B,C,D,E,F,G,H,I,J,zz,zy,zx,zw,zv,zu,zt,zs,zr,zq,zp,zo,zn,zm,zl,zk,zj,zi,zh,zg] h):=by kernel_rfl
theorem aFL:bX prog O L 165 [N,P] h=ob (M.aB (aK N) h) λaa h=>ob (M.aB (aE 0 aa) h) λab h=>ob (ld1 ab h) λac h=>ob (M.aB (aQ 1 ac P) h) λad h=>ob (stN 1 ad (.int .i64 1) h) λae h=>ob (M.aB (aK N) h) λaf h=>ob (M.aB (aE 1 af) h) λag h=>ob (ld1 ag h) λah h=>ob (M.aB (aQ 1 ah P) h) λai h=>ob (ld1 ai h) λaj h=>ob (M.aB (bJ aj) h) λak h=>L (aI prog O L C4) (zT O L) [N,P,undef,undef,(.bool false),undef,undef,N,aa,ab,ac,P,ad,N,af,ag,ah,P,ai,aj,ak,(.int .i64 0),undef,undef,undef,undef,undef,undef,undef,undef,undef,undef,undef,undef,undef,undef,undef,undef,undef,undef,undef,undef,undef,undef,undef,undef,undef,undef,undef,undef,undef,undef,undef,undef] h:=by kernel_rfl
def J0:Code:=bU [1,1,0,0,0] (b9 prog 223)
def J1:KV:=(dO 0 (eC prog O L (bU [1,1,1] (b9 prog 223)) (eG prog Tryz.f223)))
theorem To:J1 O L (.exit 0) [a,b,c,d,e,f,g,i,j,l,m,n,o,p,q,r,s,t,u,v] h=some (aG [f],h):=by kernel_rfl
theorem Tn:aI prog O L J0 k [a,b,c,d,e,f,g,i,j,l,m,n,o,p,q,r,s,t,u,v] h=ob (M.aB (bin prog .gtr 3 b (.int .i64 0)) h) λaa h=>aJ aa (ob (M.aB (bin prog .sub 3 b (.int .i64 1)) h) λab h=>ob (M.aB (aQ 1 a ab) h) λac h=>ob (ld1 ac h) λad h=>ob (dL 3 1 1 [(.int .i64 0)] [(0,ad)] h) λae h=>ob (app 3 1 8 f ae h) λaf h=>k .normal [a,ad,c,d,e,af,g,i,b,aa,a,b,ab,ac,ad,f,ad,ae,af,v] h) (k (.exit 0) [a,b,c,d,e,f,g,i,b,aa,m,n,o,p,q,r,s,t,u,v] h):=by kernel_rfl
theorem aFM:bX prog O L 223 [N,P] h=ob (dL 3 1 1 [(.int .i64 0)] [(0,P)] h) λaa h=>L (aI prog O L J0) (J1 O L) [N,P,undef,undef,(.slice none 0 0),aa,P,aa,undef,undef,undef,undef,undef,undef,undef,undef,undef,undef,undef,undef] h:=by kernel_rfl
def C5:Code:=bU [1,1,0,1,0,0] (b9 prog 229)
def C6:KV:=(dO 0 (eC prog O L (bU [1,1,1] (b9 prog 229)) (eG prog Tryz.f229)))
theorem aFN:C6 O L (.exit 0) [a,b,c,d,e,f,g,i,j,l,m,n,o,p,q,r,s,t,u,v,w,x,y,z,A,B,C,D,E,F,G,H,I,J,zz,zy,zx,zw,zv,zu,zt,zs,zr,zq,zp,zo,zn,zm,zl,zk,zj,zi,zh,zg,zf,ze,zd,zc,zb,za,yz,yy,yx,yw] h=ob (O (.func 169) [i] h) λaa h=>ob (O (.func 170) [i] h) λab h=>some (aG [ab],h):=by kernel_rfl
theorem Tp:aI prog O L C5 k [a,b,c,d,e,f,g,i,j,l,m,n,o,p,q,r,s,t,u,v,w,x,y,z,A,B,C,D,E,F,G,H,I,J,zz,zy,zx,zw,zv,zu,zt,zs,zr,zq,zp,zo,zn,zm,zl,zk,zj,zi,zh,zg,zf,ze,zd,zc,zb,za,yz,yy,yx,yw] h=ob (M.aB (bin prog .lss 3 o n) h) λaa h=>aJ aa (ob (M.aB (aE 0 e) h) λab h=>ob (ld1 ab h) λac h=>ifB (true) (ob (M.aB (bin prog .eql 3 o ac) h) λad h=>ob (gd ad false (M.cB o) h) λae h=>ob (gd ad false (M.aB (aE 1 e)) h) λaf h=>ob (gd ad false (ld1 af) h) λag h=>ifB (true) (ob (gd ad false (M.aB (bin prog .eql 3 ae ag)) h) λah h=>ob (M.aB (cJ ad (.bool true) ah) h) λai h=>ob (gd ai false (M.aB (aE 10 d)) h) λaj h=>ob (gd ai false (ld1 aj) h) λak h=>ifB (true) (ob (gd ai false (M.aB (aE 0 e)) h) λal h=>ob (gd ai false (ld1 al) h) λam h=>ifB (true) (ob (gd ai false (M.aB (aQ 1 ak am)) h) λan h=>ob (gd ai false (ld1 an) h) λao h=>ifB (true) (ob (gd ai false (M.cB o) h) λap h=>ob (gd ai false (M.aB (aQ 1 ao ap)) h) λaq h=>ob (gd ai false (ld1 aq) h) λar h=>ifB (true) (ob (gd ai false (M.aB (aE 1 e)) h) λau h=>ob (gd ai false (ld1 au) h) λav h=>ifB (true) (ob (gd ai false (M.aB (bin prog .neq 3 ar av)) h) λaw h=>ob (M.aB (cJ ai (.bool true) aw) h) λax h=>aJ ax (ob (M.aB (bin prog .add 3 o (.int .i64 1)) h) λay h=>k .normal [a,b,c,d,e,f,g,i,o,l,m,n,ay,aa,o,o,ab,ac,ad,ad,ae,af,ag,ah,ai,ai,aj,ak,al,am,an,ao,ap,aq,ar,au,av,aw,ax,zu,zt,zs,zr,zq,zp,zo,zn,zm,zl,zk,zj,zi,zh,zg,zf,ze,zd,zc,zb,ay,yz,yy,yx,yw] h) (ob (M.aB (aE 1 e) h) λaz h=>ob (ld1 az h) λba h=>ifB (true) (ob (M.aB (aE 10 d) h) λbb h=>ob (ld1 bb h) λbc h=>ifB (true) (ob (M.aB (aE 1 e) h) λbd h=>ob (ld1 bd h) λbe h=>ifB (true) (ob (M.aB (aQ 1 bc be) h) λbf h=>ob (ld1 bf h) λbg h=>ifB (true) (ob (M.aB (aQ 1 bg o) h) λbh h=>ob (ld1 bh h) λbi h=>ifB (true) (ob (M.aB (bld prog 117 [(0,ba),(1,bi)]) h) λbj h=>ob (O (.func 259) [c,bj] h) λbk h=>ifB (true) (ob (M.aB (bin prog .geq 3 bk (.int .i64 0)) h) λbl h=>aJ bl (ob (dL 3 1 1 [(.int .i64 0)] [(0,bk)] h) λbm h=>ob (app 3 1 8 i bm h) λbn h=>ob (M.aB (bin prog .add 3 o (.int .i64 1)) h) λbo h=>k .normal [a,b,c,d,e,f,g,bn,o,bk,m,n,bo,aa,o,o,ab,ac,ad,ad,ae,af,ag,ah,ai,ai,aj,ak,al,am,an,ao,ap,aq,ar,au,av,aw,ax,c,az,ba,bb,bc,bd,be,bf,bg,o,bh,bi,bj,bk,bk,bl,i,bk,bm,bn,bo,yz,yy,yx,yw] h) (ob (M.aB (bin prog .add 3 o (.int .i64 1)) h) λbp h=>k .normal [a,b,c,d,e,f,g,i,o,bk,m,n,bp,aa,o,o,ab,ac,ad,ad,ae,af,ag,ah,ai,ai,aj,ak,al,am,an,ao,ap,aq,ar,au,av,aw,ax,c,az,ba,bb,bc,bd,be,bf,bg,o,bh,bi,bj,bk,bk,bl,ze,zd,zc,zb,bp,yz,yy,yx,yw] h)))))))))))))))) (k (.exit 0) [a,b,c,d,e,f,g,i,j,l,m,n,o,aa,q,r,s,t,u,v,w,x,y,z,A,B,C,D,E,F,G,H,I,J,zz,zy,zx,zw,zv,zu,zt,zs,zr,zq,zp,zo,zn,zm,zl,zk,zj,zi,zh,zg,zf,ze,zd,zc,zb,za,yz,yy,yx,yw] h):=by kernel_rfl
theorem aFO:bX prog O L 229 [N,P,Q] h=ob (cL 40 (Value.cells N).toList .fix h) λaa h=>ob (cL 117 (Value.cells P).toList .fix h) λab h=>ob (M.aB (aE 0 aa) h) λac h=>ob (ld1 ac h) λad h=>L (aI prog O L C5) (C6 O L) [N,P,Q,aa,ab,undef,(.slice none 0 0),(.slice none 0 0),undef,undef,ac,ad,(.int .i64 0),undef,undef,undef,undef,undef,undef,undef,undef,undef,undef,undef,undef,undef,undef,undef,undef,undef,undef,undef,undef,undef,undef,undef,undef,undef,undef,undef,undef,undef,undef,undef,undef,undef,undef,undef,undef,undef,undef,undef,undef,undef,undef,undef,undef,undef,undef,undef,undef,undef,undef,undef] h:=by kernel_rfl
end Go.Proofs.YtmimdleeihjdoaaGreatDoor
end
namespace Go.Proofs.YtmimdleeihjdoaaGreatDoor
open Go.Proofs.Tryz
open Go.Abs
def nx (p:PlanD)(v w:Int):Int:=(p.next.getD v.toNat []).getD w.toNat 0
def vV (p:PlanD)(w:Int):Nat->List Int->Int->Option (List Int)
 |0,_,_=>none
 |q+1,l,v=>if v=w then some l else if((l.length:Int)=p.nodes∨(nM p.edges v).contains (nx p v w)=false) then none else vV p w q (l++[nx p v w]) (nx p v w)
def oQ (p:PlanD)(v w:Int):Option (List Int):=vV p w p.nodes.toNat [v] v
def uG (p:PlanD)(v w:Int):List Int:=if lF p=true/\0<=v/\v<p.nodes/\0<=w/\w<p.nodes then(oQ p v w).getD [] else []
structure OkP (p:PlanD)(n:Nat):Prop where
 hn:p.nodes=(n:Int)
 h2:2<=n
 h6:n<=6
 ve:VE n p.edges
 e15:p.edges.length<=15
 nl:p.next.length=n
 rl: ∀r∈p.next,r.length=n
theorem Db {p:PlanD}(h:lF p=true): ∃n,OkP p n:=by
 unfold lF uB vT uD wi at h;simp only[aMH,decide_eq_true_eq,Bool.not_eq_true'] at h;obtain⟨⟨⟨h1,h2⟩,_⟩,⟨h3,h4⟩,_,_,h5,h6⟩:=h;have hn:p.nodes=((p.nodes.toNat:Nat):Int):=by omega
 refine⟨p.nodes.toNat,hn,by omega,by omega,?_,by omega,by omega,λr hr=> ?_⟩
 ·rw[<-hn];exact(Ta _ _).mp h3
 ·rw[List.any_eq_false] at h6
  have:=h6 r hr;simp only[decide_eq_true_eq,ne_eq,Decidable.not_not] at this;omega
theorem aF2 {E:List Ed}{v x:Int}:(bes E v).contains x=(nM E v).contains x:=by
 rw[Bool.eq_iff_iff,List.contains_iff_mem,List.contains_iff_mem,Je]
section
variable {H : aA} {m : Nat} {p : PlanD} {ev wv nv : Value}
theorem aF4 (xs:List Int)(w:Int):decide (0<=Jd xs w)=xs.contains w:=by
 unfold Jd;rw[Cq,zQ xs (λx=>x==w) _ (λi x hx=>by rw[hx];rfl)]
 rw[Bool.eq_iff_iff,List.any_eq_true,List.contains_iff_mem];constructor
 ·rintro ⟨x,h1,h2⟩
  have:x=w:=by simpa using h2
  exact this▸h1
 ·exact λh=>⟨w,h,by simp⟩
theorem aF3 {v:Value}{xs:List Int}(hx:Is H v xs)(w:Int)(hn:xs.length+20<m)(hm:m<=72057594037927936):lvl prog bY m (.func 228) [v,.int .i64 w] H=some (.bool (xs.contains w),H):=by
 have g:=aE7 hx w (m:=m-1) (by omega) (by omega)
 refine cX (fR rfl rfl) (by omega) ?_
 rw[aD9];simp -implicitDefEqProofs only[gsR,g,aF4]
theorem Kg {n:Nat}(hk:OkP p n)(hp:PV H p ev wv nv){v w:Int}(hv:0<=v/\v<n)(hw:0<=w/\w<n): ∃a u a2,aQ 1 nv (.int .i64 v)=some a/\ld1 a H=some (u,H)/\aQ 1 u (.int .i64 w)=some a2/\ld1 a2 H=some (.int .i64 (nx p v w),H):=by
 have ev':v=((v.toNat:Nat):Int):=by omega
 have ew':w=((w.toNat:Nat):Int):=by omega
 have h1:=hk.nl;obtain⟨r,hr⟩: ∃r,p.next[v.toNat]? =some r:=⟨_,aMB (by omega)⟩
 have h2:=hk.rl r (aMJ hr);obtain⟨x,hx⟩: ∃x,r[w.toNat]? =some x:=⟨_,aMB (by omega)⟩
 obtain⟨a,u,g1,g2,g3⟩:=hp.n.Cp hr .i64;obtain⟨b,o,g4,_,g6⟩:=g3.iQ gQ hx .i64;rw[<-ev'] at g1;rw[<-ew'] at g4;have e:nx p v w=x:=by
  unfold nx;simp only[aMD,hr,hx,aM2]
 rw[e]
 exact⟨a,u,_,g1,g2,g4,(g6 H rfl).2.1 0 _ rfl⟩
def Ty (H0:aA)(o:Option (List Int))(H':aA)(u:Value):Prop:=Ext H0 H'/\ ∃lv,u= .tuple #[lv,.bool o.isSome]/\Iw H' lv (o.getD [])/\New H0 lv
theorem aF6 {n:Nat}(hk:OkP p n){H0:aA}{a:Nat}{w:Int}(hw:0<=w/\w<n)(hp:PV H0 p ev wv nv)(hb:H0[a]? =some (plB p ev wv nv))(hm:200<m)(hm2:m<=72057594037927936):
  ∀(q k:Nat)(H1:aA)(u:Value)(l:List Int)(v:Int),q+l.length=n+1->l.length<=n->q<k->0<=v/\v<n->Ext H0 H1->Iw H1 u l->New H0 u-> ∀(x0 x4 x5 x6 x7 x9 bI cA aP aN aL aM aR aS aO bC bH bV bG bE aT aU aV aW aX aY aZ bA bB bK bL bM bN bO bP bQ bR bS:Value),
  ∃H' r,aH k (aI prog (lvl prog bY m) (aH m) Jw) (C3 (lvl prog bY m) (aH m)) [x0,(.int .i64 v),(.int .i64 w),(.pointer (some ⟨a,0,none⟩)),x4,x5,x6,x7,u,x9,bI,cA,aP,aN,aL,aM,aR,aS,aO,bC,bH,bV,bG,bE,aT,aU,aV,aW,aX,aY,aZ,bA,bB,bK,bL,bM,bN,bO,bP,bQ,bR,bS] H1=some (r,H')/\Ty H0 (vV p w q l v) H' r:=by
 intro q;have h6:=hk.h6;have h15:=hk.e15;induction q with
 |zero=>intro k H1 u l v h1 h2;omega
 |succ q ih=>
  intro k H1 u l v hql hln hk2 hv he hu hnew;intros;obtain⟨k,rfl⟩: ∃n,k=n+1:=⟨k-1,by omega⟩
  rw[dS,aFF];unfold vV;by_cases hvw:v=w
  ·have d:(v !=w)=false:=by simp[hvw]
   rw[if_pos hvw];simp -implicitDefEqProofs only[gsR,d];rw[aFG]
   exact⟨H1,_,rfl,he,u,rfl,hu,hnew⟩
  ·have d:(v !=w)=true:=by simp[hvw]
   rw[if_neg hvw];have b1:=fC hb he;have p1:=hp.ext he;have l10:=eE b1 10 _ rfl;have l0:=eE b1 0 _ rfl;rw[hk.hn] at l0;obtain⟨a1,u1,a2,g1,g2,g3,g4⟩:=Kg hk p1 hv hw;have hlen:=hu.xJ;obtain⟨x,hx⟩: ∃x,x=nx p v w:=⟨_,rfl⟩;rw[<-hx] at g4⊢;by_cases hl:l.length=n
   ·have dl:((l.length:Int)==(n:Int))=true:=by simp[hl]
    rw[if_pos (.inl (by rw[hk.hn];omega))]
    simp -implicitDefEqProofs only[gsR,d,l10,g1,g2,g3,g4,hlen,l0,dl];rw[Tj]
    exact⟨H1,_,rfl,he,.slice none 0 0,rfl,Rw.lD,New.nB _⟩
   ·have dl:((l.length:Int)==(n:Int))=false:=by simp;omega
    have l11:=kD b1;obtain⟨H2,ub,g5,x2,q2,_⟩:=I9 p1 (m:=m) (by omega) (by omega) v
    have hbl:=S1 p.edges v;have g6:=aF3 q2.rs x (m:=m) (by omega) (by omega)
    rw[aF2] at g6;cases hc:(nM p.edges v).contains x with
    |false=>
     rw[hc] at g6;rw[if_pos (.inr rfl)];simp -implicitDefEqProofs only[gsR,d,l10,g1,g2,g3,g4,hlen,l0,dl,l11,g5,g6];rw[Tj]
     exact⟨H2,_,rfl,he.tr x2,.slice none 0 0,rfl,Rw.lD,New.nB _⟩
    |true=>
     rw[hc] at g6;rw[if_neg (by rw[hk.hn];rintro (h|h);omega;cases h)]
     have hxin:=Cz hk.ve (Je _ _ _ |>.mpr (List.contains_iff_mem.mp hc));have hu2:Iw H2 u l:=hu.fP λb hb=>x2.2 b (hu.iT hb) id
     obtain⟨u2,H3,t1,t2,t3,t4⟩:=hu2.q8 (by':=8) gQ oO (by decide) x hnew (he.tr x2) (jI (n:=1000000) (by decide) (by omega))
     simp -implicitDefEqProofs only[gsR,d,l10,g1,g2,g3,g4,hlen,l0,dl,l11,g5,g6,oB,t1];exact ih k H3 u2 (l++[x]) x (by simp;omega) (by simp;omega) (by omega) ⟨hxin.1,hxin.2.1⟩ t4 t2 t3 ..
theorem aF5 {n:Nat}(hk:OkP p n)(hp:PV H p ev wv nv){v w:Int}(hv:0<=v/\v<n)(hw:0<=w/\w<n)(hm:300<m)(hm2:m<=72057594037927936):
  ∃H' r,lvl prog bY m (.func 163) [plV p ev wv nv,.int .i64 v,.int .i64 w] H=some (r,H')/\Ty H (oQ p v w) H' r:=by
 obtain⟨H0,hH0⟩: ∃H0,H0=H++[plB p ev wv nv]:=⟨_,rfl⟩;have x0:Ext H H0:=by rw[hH0];exact Fr.app _ _ _
 have b0:H0[H.length]? =some (plB p ev wv nv):=by rw[hH0];exact fQ _ _
 have h6:=hk.h6;have h2:=hk.h2;have one:Iw (H0++[.cells (inC v) 3 .row]) (.slice (some ⟨H0.length,0,none⟩) 1 1) [v]:=⟨rfl,.inr ⟨_,1,[],rfl,by simp,rfl,by simp⟩⟩
 have hnew:New H0 (.slice (some ⟨H0.length,0,none⟩) 1 1):=λb ⟨_,_,_,hh⟩=>by cases hh;exact aME _
 have x1:Ext H0 (H0++[Blk.cells (inC v) 3 .row]):=Fr.app _ _ _;refine iK (fR rfl rfl) (by omega) ?_
 rw[aFH];simp -implicitDefEqProofs only[gsR,kL,<-hH0,oB];have hq:p.nodes.toNat=n:=by rw[hk.hn];rfl
 unfold oQ;rw[hq];have:=aF6 hk hw (hp.ext x0) b0 (m:=m-1) (by omega) (by omega) n (m-1) _ _ [v] v (by simp) (by simp;omega) (by omega) hv x1 one hnew
 refine Exists.imp (λH' h=>Exists.imp (λr h=>⟨h.1,x0.tr h.2.1,?_⟩) h) (this ..)
 obtain⟨lv,e1,e2,e3⟩:=h.2.2
 exact⟨lv,e1,e2,λb hb=>aMP x0.1 (e3 b hb)⟩
end
def Dd (p:PlanD)(a b:Ed)(w:Nat):Bool:=a.2==b.1&&((w:Int)!=a.2&&((w:Int)!=a.1&&(nx p a.1 w==a.2&&nx p a.2 w==b.2)))
def wt (p:PlanD)(n:Nat)(a b:Ed):Bool:=(List.range n).any (Dd p a b)
def nD (p:PlanD)(n:Nat)(hs:List Ed)(a:Ed):List Int:=((List.range hs.length).filter λk=>wt p n a (hs.getD k (0,0))).map (λk:Nat=>(k:Int))
def lL (p:PlanD):List (List Int):=if lF p=true then(kM p).map (nD p p.nodes.toNat (kM p)) else []
def pQ (hs:List Ed)(y:Ed):Int:=fst (λj=>hs[j]? ==some y) hs.length 0
def mH (p:PlanD)(hs:List Ed)(h:Ed)(w:Nat):List Int:=
 if(w:Int)=h.1∨(w:Int)=h.2∨nx p h.1 w≠h.2 then [] else if 0<=pQ hs (h.2,nx p h.2 w) then [pQ hs (h.2,nx p h.2 w)] else []
def Dc (p:PlanD)(n:Nat)(hs:List Ed)(h:Ed):List Int:=(List.range n).flatMap (mH p hs h)
theorem T1 (p:Nat->Bool): ∀q i,0<=fst p q i->p (fst p q i).toNat=true
 |0,i=>by simp[fst]
 |q+1,i=>by
  unfold fst;split
  ·rename_i h
   intro _;simpa using h
  ·exact T1 p q (i+1)
theorem T8 {hs:List Ed}(hn:hs.Nodup)(y:Ed)(k:Nat):pQ hs y=k↔hs[k]? =some y:=by
 have key:0<=pQ hs y->hs[(pQ hs y).toNat]? =some y:=λh=>by
  unfold pQ at h⊢;have:=T1 _ _ _ h;simpa using this
 constructor
 ·intro h
  have:=key (by omega)
  rw[h] at this;simpa using this
 ·intro h
  have hk:=(aMz.mp h).1;have h0:0<=pQ hs y:=(I7 _ _ _).mpr ⟨k,by omega,by omega,by rw[h];simp⟩
  have h1:=key h0;have hk1:=(aMz.mp h1).1;have:=(List.getElem_inj (h₀:=hk1) (h₁:=hk) hn).mp (by
   rw[(aMz.mp h1).2,(aMz.mp h).2])
  omega
theorem aF9 (p:PlanD)(hs:List Ed)(h:Ed)(w:Nat):(mH p hs h w).length<=1:=by
 unfold mH;split
 ·simp
 ·split<;>simp
theorem Ki (p:PlanD)(hs:List Ed)(h:Ed): ∀i,((List.range i).flatMap (mH p hs h)).length<=i
 |0=>by simp
 |i+1=>by
  have:=Ki p hs h i;have:=aF9 p hs h i;rw[aM8,List.flatMap_append];simp only[aML,List.flatMap_cons,List.flatMap_nil,List.append_nil];omega
theorem Ua {p:PlanD}{n:Nat}{hs:List Ed}{a:Ed}{z:Int}:z∈nD p n hs a↔ ∃k b,z=(k:Nat)/\hs[k]? =some b/\wt p n a b=true:=by
 unfold nD;simp only[aNc,List.mem_filter,aNd];constructor
 ·rintro ⟨k,⟨h1,h2⟩,rfl⟩
  exact⟨k,hs[k],rfl,aMB h1,by rwa [aMD,aMB h1,aM2] at h2⟩
 ·rintro ⟨k,b,rfl,h1,h2⟩
  refine⟨k,⟨(aMz.mp h1).1,?_⟩,rfl⟩;rwa [aMD,h1,aM2]
theorem aGj (p:PlanD)(n:Nat)(hs:List Ed)(a:Ed):(nD p n hs a).Pairwise (· < ·):=by
 unfold nD;rw[List.pairwise_map]
 exact(List.Pairwise.filter _ List.pairwise_lt_range).imp λh=>by omega
theorem aGi (z:Int)(l:List Int):z∈srt l↔z∈l:=(zC l).mem_iff
theorem aGa {p:PlanD}{n:Nat}{hs:List Ed}(hn:hs.Nodup)(a:Ed):dd (srt (Dc p n hs a))=nD p n hs a:=by
 refine S3 _ _ (Ja _ (B4 _)) (aGj p n hs a) λz=> ?_
 rw[Cu,aGi,Ua];unfold Dc wt;simp only[List.mem_flatMap,aNd,List.any_eq_true];constructor
 ·rintro ⟨w,hw,hz⟩
  unfold mH at hz
  split at hz
  ·simp at hz
  ·rename_i hc
   split at hz
   ·rename_i h0
    simp only[List.mem_singleton] at hz;have e:pQ hs (a.2,nx p a.2 w)=((pQ hs (a.2,nx p a.2 w)).toNat:Nat):=by omega
    refine⟨_,_,by rw[hz];exact e,(T8 hn _ _).mp e,w,hw,?_⟩
    unfold Dd;simp only[aMH,bne_iff_ne,beq_iff_eq];refine⟨trivial,?_,?_,?_,trivial⟩<;>omega
   ·simp at hz
 ·rintro ⟨k,b,rfl,hk,w,hw,hz⟩
  unfold Dd at hz;simp only[aMH,bne_iff_ne,beq_iff_eq] at hz;obtain⟨h1,h2,h3,h4,h5⟩:=hz;refine⟨w,hw,?_⟩;unfold mH;rw[if_neg (by omega)]
  have:(a.2,nx p a.2 w)=b:=by rw[h5,h1]
  rw[this,(T8 hn b k).mpr hk,if_pos (by omega)]
  simp
theorem T6 {p:PlanD}{n:Nat}(hk:OkP p n):(kM p).Nodup/\kM p=(List.range n).flatMap (oP p.edges):=by
 have hN:lW p=n:=by have:=hk.h6;unfold lW;rw[hk.hn];omega
 have hho:kM p=(List.range n).flatMap (oP p.edges):=by unfold kM;rw[hN]
 refine⟨?_,hho⟩;rw[hho]
 exact(aFx hk.ve hk.h6).imp λh hh=>by subst hh;omega
theorem aGd {p:PlanD}{n:Nat}(hk:OkP p n){h:Ed}(hh:h∈kM p):0<=h.1/\h.1<n/\0<=h.2/\h.2<n:=by
 rw[(T6 hk).2] at hh;have:=Cz hk.ve ((aFw hk.ve hk.h6).mp hh);omega
section
variable {H : aA} {m : Nat} {p : PlanD} {ev wv nv : Value}
def hpB (h:Ed):Blk:= .cells (edC h) 117 .fix
theorem T7 (h:Ed):Blk.cells (edV h).cells.toList 117 .fix=hpB h:=rfl
theorem aGg {b:Nat}{h:Ed}(hb:H[b]? =some (hpB h)):ld1 (.pointer (some ⟨b,0,none⟩)) H=some (.int .i64 h.1,H):=y6 hb rfl
theorem aGh {b:Nat}{h:Ed}(hb:H[b]? =some (hpB h)):ld1 (.pointer (some ⟨b,1,none⟩)) H=some (.int .i64 h.2,H):=y6 hb rfl
theorem T9 {b:Nat}{h:Ed}(hb:H[b]? =some (hpB h)):ldN 2 (.pointer (some ⟨b,0,none⟩)) H=some (edV h,H):=by
 rw[qZ,hb];unfold hpB;rw[rS _ _ _ _ _ (by simp[edC])]
 rfl
theorem T0 (a b:Ed):bin prog .eql 117 (edV a) (edV b)=some (.bool (a==b)):=by
 have k:rH prog 117=some [true,true]:=by kernel_rfl
 obtain⟨a1,a2⟩:=a;obtain⟨b1,b2⟩:=b;simp[bin,edV,dP,oL,k,eqT,edC];rfl
theorem aGf {v:Value}{xs:List Ed}{a:Nat}{y:Ed}(hx:Hs H v xs)(ha:H[a]? =some (hpB y))(hn:xs.length<=72057594037927936): ∀(q i k:Nat),xs.length-i=q->i<=xs.length->q<k-> ∀(x1 x2 x4 x5 x6 x9 bI cA aP aN aL aM aR aS aO:Value),
  aH k (aI prog (lvl prog bY m) (aH m) Il) (Cn (lvl prog bY m) (aH m)) [v,x1,x2,(.pointer (some ⟨a,0,none⟩)),x4,x5,x6,(.int .i64 xs.length),(.int .i64 (i:Nat)),x9,bI,cA,aP,aN,aL,aM,aR,aS,aO] H=some (.int .i64 (fst (λj=>xs[j]? ==some y) q i),H):=by
 intro q;have la:=T9 ha;induction q with
 |zero=>
  intro i k hr hi hk;intros;obtain⟨k,rfl⟩: ∃n,k=n+1:=⟨k-1,by omega⟩
  obtain rfl:i=xs.length:=by omega
  have e:decide ((xs.length:Int)<xs.length)=false:=by simp
  rw[dS,R9];simp -implicitDefEqProofs only[gsR,e];rw[aEh];rfl
 |succ q ih=>
  intro i k hr hi hk;intros;obtain⟨k,rfl⟩: ∃n,k=n+1:=⟨k-1,by omega⟩
  have e:decide ((i:Int)<xs.length)=true:=by simp;omega
  have e3:IntKind.i64.wrap ((i:Int)+1)=((i+1:Nat):Int):=by rw[dJ (by omega) (by omega)];omega
  have hxi:xs[i]? =some xs[i]:=aMB (by omega)
  obtain⟨b,o,g1,g2,g3⟩:=hx.iQ sY hxi .i64;have l1:ldN 2 (.pointer (some ⟨b,o,none⟩)) H=some (edV xs[i],H):=(g3 H rfl).1;rw[dS,R9];unfold fst;by_cases h:y=xs[i]
  ·have d:(y==xs[i])=true:=by rw[h];simp
   have d2:(xs[i]? ==some y)=true:=by rw[hxi,h];simp
   simp -implicitDefEqProofs only[gsR,e,la,g1,l1,T0,d];rw[aEj,if_pos d2];rfl
  ·have d:(y==xs[i])=false:=by simpa using h
   have d2: ¬(xs[i]? ==some y)=true:=by rw[hxi];simpa using λhh=>h hh.symm
   simp -implicitDefEqProofs only[gsR,e,la,g1,l1,T0,d,cH,e3];rw[if_neg d2];exact ih (i+1) k (by omega) (by omega) (by omega) ..
theorem aGe {v:Value}{xs:List Ed}(hx:Hs H v xs)(y:Ed)(hn:xs.length+10<m)(hm:m<=72057594037927936): ∃H',lvl prog bY m (.func 259) [v,edV y] H=some (.int .i64 (pQ xs y),H')/\Ext H H':=by
 have x2:Ext H (H++[hpB y]):=Fr.app _ _ _;have hlen:=hx.jQ;refine⟨H++[hpB y],cX (fR rfl rfl) (by omega) ?_,x2⟩
 rw[aEi];simp -implicitDefEqProofs only[gsR,T7,hlen];exact aGf (hx.ext x2) (fQ H _) (by omega) xs.length 0 (m-1) (by omega) (by omega) (by omega) ..
theorem aGc {n:Nat}(hk:OkP p n){H0:aA}{a hb:Nat}{h:Ed}{u:Value}{hs:List Ed}(hh:0<=h.1/\h.1<n/\0<=h.2/\h.2<n)(hp:PV H0 p ev wv nv)(hb0:H0[a]? =some (plB p ev wv nv))(hhb:H0[hb]? =some (hpB h))(hu:Hs H0 u hs)(hsl:hs.length<=100)(hm:300<m)(hm2:m<=72057594037927936):
  ∀(q i k:Nat)(H1:aA)(acc:Value),n-i=q->i<=n->q<k->Ext H0 H1->Iw H1 acc ((List.range i).flatMap (mH p hs h))->New H0 acc-> ∀(x0 x1 x5 x6 x8 x9 bI aN aL aM aR aS aO bC bH bV bG bE aT aU aV aW aX aY aZ bA bB bK bL bM bN bO bP bQ bR bS bT cC cD cE cI cP cR cS cM cN cO cQ cV cT cU cY dD dG dE dH dQ dR:Value),
  ∃H' r,aH k (aI prog (lvl prog bY m) (aH m) C5) (C6 (lvl prog bY m) (aH m)) [x0,x1,u,(.pointer (some ⟨a,0,none⟩)),(.pointer (some ⟨hb,0,none⟩)),x5,x6,acc,x8,x9,bI,(.int .i64 n),(.int .i64 (i:Nat)),aN,aL,aM,aR,aS,aO,bC,bH,bV,bG,bE,aT,aU,aV,aW,aX,aY,aZ,bA,bB,bK,bL,bM,bN,bO,bP,bQ,bR,bS,bT,cC,cD,cE,cI,cP,cR,cS,cM,cN,cO,cQ,cV,cT,cU,cY,dD,dG,dE,dH,dQ,dR] H1=some (r,H')/\Ext H0 H'/\Iw H' r (dd (srt (Dc p n hs h)))/\New H0 r:=by
 intro q;have h6:=hk.h6;induction q with
 |zero=>
  intro i k H1 acc hr hi hk2 he ha hnew;intros;obtain⟨k,rfl⟩: ∃n,k=n+1:=⟨k-1,by omega⟩
  obtain rfl:i=n:=by omega
  have e:decide ((i:Int)<(i:Int))=false:=by simp
  have hal:=Ki p hs h i;obtain⟨H2,g1,g2,g3⟩:=Q6 ha (by omega) hnew he
  have g1':=Sj m (by omega) [acc] H1
  rw[g1] at g1';have hsl:=qD ((List.range i).flatMap (mH p hs h));obtain⟨H3,r,q1,q2,q3,q4⟩:=Sv (m:=m) g2 hnew g3 (by omega) (by omega)
  refine⟨H3,r,?_,q2,q3,q4⟩;rw[dS,Tp];simp -implicitDefEqProofs only[gsR,e];rw[aFN];simp -implicitDefEqProofs only[gsR,g1',q1]
 |succ q ih=>
  intro i k H1 acc hr hi hk2 he ha hnew;intros;obtain⟨k,rfl⟩: ∃n,k=n+1:=⟨k-1,by omega⟩
  have e:decide ((i:Int)<(n:Int))=true:=decide_eq_true (by omega)
  have e3:IntKind.i64.wrap ((i:Int)+1)=((i+1:Nat):Int):=by rw[dJ (by omega) (by omega)];omega
  have hb1:=fC hhb he;have h0:=aGg hb1;have h1:=aGh hb1;have bp:=fC hb0 he;have l10:=eE bp 10 _ rfl;have p1:=hp.ext he;have hran:(List.range (i+1)).flatMap (mH p hs h)=(List.range i).flatMap (mH p hs h)++mH p hs h i:=by
   rw[aM8,List.flatMap_append];simp
  have hal:=Ki p hs h i;have skip:mH p hs h i=[]-> ∀(x0 x1 x5 x6 x8 x9 bI aN aL aM aR aS aO bC bH bV bG bE aT aU aV aW aX aY aZ bA bB bK bL bM bN bO bP bQ bR bS bT cC cD cE cI cP cR cS cM cN cO cQ cV cT cU cY dD dG dE dH dQ dR:Value),∃H' r,aH k (aI prog (lvl prog bY m) (aH m) C5) (C6 (lvl prog bY m) (aH m)) [x0,x1,u,(.pointer (some ⟨a,0,none⟩)),(.pointer (some ⟨hb,0,none⟩)),x5,x6,acc,x8,x9,bI,(.int .i64 n),(.int .i64 (i+1:Nat)),aN,aL,aM,aR,aS,aO,bC,bH,bV,bG,bE,aT,aU,aV,aW,aX,aY,aZ,bA,bB,bK,bL,bM,bN,bO,bP,bQ,bR,bS,bT,cC,cD,cE,cI,cP,cR,cS,cM,cN,cO,cQ,cV,cT,cU,cY,dD,dG,dE,dH,dQ,dR] H1=some (r,H')/\Ext H0 H'/\Iw H' r (dd (srt (Dc p n hs h)))/\New H0 r:=by
   intro h0;exact ih (i+1) k H1 acc (by omega) (by omega) (by omega) he (by rw[hran,h0,List.append_nil];exact ha) hnew
  rw[dS,Tp];cases c1:((i:Int)==h.1) with
  |true=>
   simp -implicitDefEqProofs only[gsR,e,h0,c1,cH,e3];exact skip (by unfold mH;rw[if_pos (.inl (by simpa using c1))]) ..
  |false=>
   cases c2:((i:Int)==h.2) with
   |true=>
    simp -implicitDefEqProofs only[gsR,e,h0,h1,c1,c2,cH,e3];exact skip (by unfold mH;rw[if_pos (.inr (.inl (by simpa using c2)))]) ..
   |false=>
    obtain⟨a1,u1,a2,g1,g2,g3,g4⟩:=Kg hk p1 (v:=h.1) (w:=i) (by omega) (by omega)
    cases c3:(nx p h.1 i !=h.2) with
    |true=>
     simp -implicitDefEqProofs only[gsR,e,h0,h1,c1,c2,l10,g1,g2,g3,g4,c3,cH,e3];exact skip (by unfold mH;rw[if_pos (.inr (.inr (by simpa using c3)))]) ..
    |false=>
     obtain⟨a3,u3,a4,k1,k2,k3,k4⟩:=Kg hk p1 (v:=h.2) (w:=i) (by omega) (by omega)
     have bh:bld prog 117 [(0,.int .i64 h.2),(1,.int .i64 (nx p h.2 i))]=some (edV (h.2,nx p h.2 i)):=S0 _ _;obtain⟨H2,x1,x2⟩:=aGe (hu.ext he) (h.2,nx p h.2 i) (m:=m) (by omega) (by omega)
     have hnot: ¬((i:Int)=h.1∨(i:Int)=h.2∨nx p h.1 i≠h.2):=by
      have c1': ¬(i:Int)=h.1:=by simpa using c1
      have c2': ¬(i:Int)=h.2:=by simpa using c2
      have c3':nx p h.1 i=h.2:=by simpa using c3
      rintro (hx|hx|hx)
      ·exact c1' hx
      ·exact c2' hx
      ·exact hx c3'
     have ha2:Iw H2 acc ((List.range i).flatMap (mH p hs h)):=ha.fP λb hb=>x2.2 b (ha.iT hb) id
     cases c4:decide (0<=pQ hs (h.2,nx p h.2 i)) with
     |true=>
      obtain⟨acc2,H3,t1,t2,t3,t4⟩:=ha2.q8 (by':=8) gQ oO (by decide) (pQ hs (h.2,nx p h.2 i)) hnew (he.tr x2) (jI (n:=1000000) (by decide) (by omega))
      simp -implicitDefEqProofs only[gsR,e,h0,h1,c1,c2,l10,g1,g2,g3,g4,c3,k1,k2,k3,k4,bh,x1,c4,oB,t1,cH,e3];refine ih (i+1) k H3 acc2 (by omega) (by omega) (by omega) t4 ?_ t3 ..
      have:mH p hs h i=[pQ hs (h.2,nx p h.2 i)]:=by unfold mH;rw[if_neg hnot,if_pos (of_decide_eq_true c4)]
      rw[hran,this];exact t2
     |false=>
      simp -implicitDefEqProofs only[gsR,e,h0,h1,c1,c2,l10,g1,g2,g3,g4,c3,k1,k2,k3,k4,bh,x1,c4,cH,e3];refine ih (i+1) k H2 acc (by omega) (by omega) (by omega) (he.tr x2) ?_ hnew ..
      have:mH p hs h i=[]:=by unfold mH;rw[if_neg hnot,if_neg (of_decide_eq_false c4)]
      rw[hran,this,List.append_nil];exact ha2
theorem aGb {n:Nat}(hk:OkP p n){h:Ed}{u:Value}{hs:List Ed}(hh:0<=h.1/\h.1<n/\0<=h.2/\h.2<n)(hp:PV H p ev wv nv)(hu:Hs H u hs)(hsl:hs.length<=100)(hnd:hs.Nodup)(hm:400<m)(hm2:m<=72057594037927936):
  ∃H' r,lvl prog bY m (.func 229) [plV p ev wv nv,edV h,u] H=some (r,H')/\Ext H H'/\Iw H' r (nD p n hs h)/\New H r:=by
 obtain⟨H0,hH0⟩: ∃H0,H0=H++[plB p ev wv nv]:=⟨_,rfl⟩;have x0:Ext H H0:=by rw[hH0];exact Fr.app _ _ _
 have b0:H0[H.length]? =some (plB p ev wv nv):=by rw[hH0];exact fQ _ _
 obtain⟨H1,hH1⟩: ∃H1,H1=H0++[hpB h]:=⟨_,rfl⟩;have x1:Ext H0 H1:=by rw[hH1];exact Fr.app _ _ _
 have b1:H1[H0.length]? =some (hpB h):=by rw[hH1];exact fQ _ _
 have l0:=eE (fC b0 x1) 0 _ rfl;rw[hk.hn] at l0;have x01:=x0.tr x1;have h6:=hk.h6;refine iK (fR rfl rfl) (by omega) ?_
 rw[aFO];simp -implicitDefEqProofs only[gsR,kL,<-hH0,T7,<-hH1,l0];rw[<-aGa hnd];exact Exists.imp (λH' h=>Exists.imp (λr h=>⟨h.1,x01.tr h.2.1,h.2.2.1,λb hb=>aMP x01.1 (h.2.2.2 b hb)⟩) h) (aGc hk hh (hp.ext x01) (fC b0 x1) b1 (hu.ext x01) hsl (m:=m-1) (by omega) (by omega) n 0 (m-1) H1 (.slice none 0 0) (by omega) (by omega) (by omega) (Fr.mZ _ _) Rw.lD (New.nB _) ..)
structure WR (H:aA)(us:List SV)(xss:List (List Int)):Prop where
 len:us.length=xss.length
 row: ∀(j:Nat)(s:SV)(xs:List Int),us[j]? =some s->xss[j]? =some xs->Iw H s.1 xs
theorem WR.zU {us:List SV}{xss:List (List Int)}{H':aA}(h:WR H us xss)(hk: ∀(b:Nat)(cs:List Value),H[b]? =some (.cells cs 3 .row)->H'[b]? =H[b]?):WR H' us xss:=
 ⟨h.len,λj s xs h1 h2=>(h.row j s xs h1 h2).fP λb hb=>by
  obtain⟨cs,hc⟩:=(h.row j s xs h1 h2).blk hb;exact hk b cs hc⟩
theorem WR.Tz {us:List SV}{xss:List (List Int)}{s:SV}{xs:List Int}(h:WR H us xss)(hs:Iw H s.1 xs):WR H (us++[s]) (xss++[xs]):=by
 refine⟨by simp[h.len],λj s' xs' h1 h2=> ?_⟩
 by_cases hj:j<us.length
 ·rw[aMC hj] at h1
  rw[aMC (by have:=h.len;omega)] at h2
  exact h.row j s' xs' h1 h2
 ·have hj2:j=us.length:=by
   have:=(aMz.mp h1).1;simp at this;omega
  subst hj2;simp at h1;rw[h.len] at h2;simp at h2;subst h1 h2;exact hs
theorem WR.Kh {us:List SV}{xss:List (List Int)}{v:Value}(h:WR H us xss)(hv:Rs sC 37 H v us):Rows H v xss:=by
 refine⟨us.map (·.1),?_,by simp[h.len],λj u xs h1 h2=> ?_⟩
 ·rcases hv with⟨h1,h2⟩|⟨b,o,cap,h1,h2,h3⟩
  ·exact .inl ⟨h1,by rw[h2];rfl⟩
  ·refine .inr ⟨b,o,cap,by rw[aMN];exact h1,by rw[aMN];exact h2,λhne=> ?_⟩
   rw[<-Jh];exact h3 λhh=>hne (by rw[hh];rfl)
 ·rw[aMM] at h1
  obtain⟨s,hs,rfl⟩:=aM5.mp h1
  exact(h.row j s xs hs h2).rs
def pR {u:Value}{xs:List Int}(h:Iw H u xs):SV:=⟨u,Rs.sv h.rs⟩
def Kj:SV:=⟨.slice none 0 0,rfl,rfl⟩
theorem aF8 {n:Nat}(hk:OkP p n){H0:aA}{a ob:Nat}{u:Value}{hs:List Ed}(hin: ∀h∈hs,0<=h.1/\h.1<n/\0<=h.2/\h.2<n)(hsl:hs.length<=100)(hnd:hs.Nodup)(hm:500<m)(hm2:m<=72057594037927936)(hp:PV H0 p ev wv nv)(hb0:H0[a]? =some (plB p ev wv nv))(hu:Hs H0 u hs)(hob:H0.length=ob):
  ∀(q i k:Nat)(H1:aA)(us:List SV),hs.length-i=q->i<=hs.length->q<k->Ext H0 H1->OwS sC 37 H1 (.slice (some ⟨ob,0,none⟩) hs.length hs.length) ob us->us.length=hs.length->WR H1 (us.take i) ((hs.take i).map (nD p n hs))-> ∀(x0 x2 x5 x6 x7 x8 x9 bI cA aP aN aL aO bC bH bV bG bE aT aU aV aW aX aY aZ:Value),
  ∃H' r,aH k (aI prog (lvl prog bY m) (aH m) Jy) (Jz (lvl prog bY m) (aH m)) [x0,(.pointer (some ⟨a,0,none⟩)),x2,u,(.slice (some ⟨ob,0,none⟩) hs.length hs.length),x5,x6,x7,x8,x9,bI,cA,aP,aN,aL,u,(.int .i64 hs.length),(.int .i64 (i:Nat)),aO,bC,bH,bV,bG,bE,aT,aU,aV,aW,aX,aY,aZ] H1=some (r,H')/\Ext H0 H'/\Rows H' r (hs.map (nD p n hs)):=by
 intro q;induction q with
 |zero=>
  intro i k H1 us hr hi hk2 he ho hul hwr;intros;obtain⟨k,rfl⟩: ∃n,k=n+1:=⟨k-1,by omega⟩
  obtain rfl:i=hs.length:=by omega
  have e:decide ((hs.length:Int)<(hs.length:Int))=false:=by simp
  rw[dS,Tk];simp -implicitDefEqProofs only[gsR,e];rw[aFI];rw[List.take_of_length_le (aME _),List.take_of_length_le (by omega)] at hwr
  refine⟨H1,.slice (some ⟨ob,0,none⟩) hs.length hs.length,rfl,he,hwr.Kh (.inr ⟨ob,0,hs.length,by rw[hul],by omega,λ_=>⟨37,.row,[],[],rfl,λ_=>rfl,?_⟩⟩)⟩
  rw[ho.blk];simp
 |succ q ih=>
  intro i k H1 us hr hi hk2 he ho hul hwr;intros;obtain⟨k,rfl⟩: ∃n,k=n+1:=⟨k-1,by omega⟩
  have e:decide ((i:Int)<(hs.length:Int))=true:=decide_eq_true (by omega)
  have e3:IntKind.i64.wrap ((i:Int)+1)=((i+1:Nat):Int):=by rw[dJ (by omega) (by omega)];omega
  obtain⟨h,hh⟩: ∃h,hs[i]? =some h:=⟨_,aMB (by omega)⟩
  obtain⟨b,o,g1,_,g3⟩:=(hu.ext he).iQ sY hh .i64;have g4:ldN 2 (.pointer (some ⟨b,o,none⟩)) H1=some (edV h,H1):=(g3 H1 rfl).1;obtain⟨H2,hH2⟩: ∃H2,H2=H1++[hpB h]:=⟨_,rfl⟩;have x2:Ext H1 H2:=by rw[hH2];exact Fr.app _ _ _
  have b2:H2[H1.length]? =some (hpB h):=by rw[hH2];exact fQ _ _
  have st:stN 2 (.pointer (some ⟨H1.length,0,none⟩)) (edV h) (H1++[.cells [.int .i64 0,.int .i64 0] 117 .fix])=some (undef,H2):=by
   rw[mE 2 _ _ _ rfl,fQ,nK _ _ _ _ _ _ (by decide) (by show 0+2<=2;omega) rfl,hH2]
   simp[eD,edV,edC,Value.cells,hpB]
  have l11:=kD (fC hb0 (he.tr x2));have l2:=T9 b2;obtain⟨H3,r,g5,x3,g6,g7⟩:=aGb hk (hin h (aMJ hh)) (hp.ext (he.tr x2)) (hu.ext (he.tr x2)) hsl hnd (m:=m) (by omega) (by omega)
  have aN:Ext H1 H3:=x2.tr x3;have ho3:OwS sC 37 H3 (.slice (some ⟨ob,0,none⟩) hs.length hs.length) ob us:=⟨ho.val,by rw[aN.2 ob (aMz.mp ho.blk).1 id];exact ho.blk⟩
  have ga:=ho3.aBG 1 i .i64 (by omega)
  obtain⟨s1,s2⟩:=ho3.st (sz:=1) Jg Jf (i:=i) (by omega) (pR g6)
  have st2:stN 1 (.pointer (some ⟨ob,i*1,none⟩)) r H3=some (undef,H3.set ob (.cells ((us.set i (pR g6)).map sC).flatten 37 .row)):=by
   have hcl:r.cells.toList=sC (pR g6):=by
    have:=(pR g6).2.2;show r.cells.toList=[r]
    rw[show r.cells= #[r] from this]
   rw[mE 1 _ _ _ (by rw[hcl];rfl),hcl]
   exact s1
  rw[dS,Tk];simp -implicitDefEqProofs only[gsR,e,g1,g4,st,l11,l2,g5,ga,st2,cH,e3];obtain⟨H4,hH4⟩: ∃H4,H4=H3.set ob (.cells ((us.set i (pR g6)).map sC).flatten 37 .row):=⟨_,rfl⟩;rw[<-hH4] at s2⊢;have x04:Ext H0 H4:=by rw[hH4];exact s5 (he.tr aN) (by omega)
  have kp: ∀(b:Nat)(cs:List Value),H3[b]? =some (.cells cs 3 .row)->H4[b]? =H3[b]? :=λb cs hb=>by
   rw[hH4];refine aMA λhh=> ?_
   subst hh;rw[ho3.blk] at hb;simp at hb
  have w3:WR H3 (us.take i) ((hs.take i).map (nD p n hs)):=hwr.zU λb cs hb=>by rw[aN.2 b (aMz.mp hb).1 id]
  have w4:=(w3.Tz (s:=pR g6) g6).zU kp;refine ih (i+1) k H4 (us.set i (pR g6)) (by omega) (by omega) (by omega) x04 s2 (by simp[hul]) ?_ ..
  have e1:(us.set i (pR g6)).take (i+1)=us.take i++[pR g6]:=by
   rw[List.take_add_one,aMF (by omega),List.take_set_of_le (aME _)]
   rfl
  have e2:(hs.take (i+1)).map (nD p n hs)=(hs.take i).map (nD p n hs)++[nD p n hs h]:=by
   rw[List.take_add_one,hh,List.map_append];rfl
  rw[e1,e2];exact w4
theorem aF7 (hp:PV H p ev wv nv)(hm:17592186045200<m)(hm2:m<=72057594037927936):
  ∃H' r,lvl prog bY m (.func 164) [plV p ev wv nv] H=some (r,H')/\Ext H H'/\Rows H' r (lL p):=by
 obtain⟨H0,hH0⟩: ∃H0,H0=H++[plB p ev wv nv]:=⟨_,rfl⟩;have x0:Ext H H0:=by rw[hH0];exact Fr.app _ _ _
 have b0:H0[H.length]? =some (plB p ev wv nv):=by rw[hH0];exact fQ _ _
 have p0:=hp.ext x0;have l11:=kD b0;obtain⟨H1,g1,x1⟩:=Ss p0 (m:=m-1) (by omega) (by omega)
 have b1:=fC b0 x1;have p1:=p0.ext x1;have l12:=kD b1;refine iK (fR rfl rfl) (by omega) ?_
 rw[aFJ];cases hc:lF p with
 |false=>
  rw[hc] at g1;have en:(uC false !=0)=true:=rfl;have e:lL p=[]:=by unfold lL;rw[if_neg (by simp[hc])]
  simp -implicitDefEqProofs only[gsR,kL,<-hH0,l11,g1,en]
  exact⟨H1,_,rfl,x0.tr x1,by rw[e];exact⟨[],.inl ⟨rfl,rfl⟩,rfl,λi u xs h=>by simp at h⟩⟩
 |true=>
  rw[hc] at g1;have en:(uC true !=0)=false:=rfl;obtain⟨n,hk⟩:=Db hc;have h15:=hk.e15;obtain⟨H2,u,g2,x2,q2,_⟩:=aE4 p1 (m:=m-1) (by omega) (by omega)
  have hlen:=q2.xJ;have hhl:=Jc p;have mk:=vJ (H:=H2) 37 1 24 [.slice none 0 0] .i64 .i64 ((kM p).length:Int) (by omega) (by omega) (by omega) rfl
  simp only[aM1] at mk;have e:lL p=(kM p).map (nD p n (kM p)):=by unfold lL;rw[if_pos hc,hk.hn];rfl
  have hfl:(List.replicate (kM p).length [Value.slice none 0 0]).flatten=((List.replicate (kM p).length Kj).map sC).flatten:=by rw[List.map_replicate];rfl
  simp -implicitDefEqProofs only[gsR,kL,<-hH0,l11,g1,en,l12,g2,hlen,mk];rw[e,hfl];have hx:Ext H2 (H2++[Blk.cells ((List.replicate (kM p).length Kj).map sC).flatten 37 .row]):=Fr.app _ _ _;exact Exists.imp (λH' h=>Exists.imp (λr h=>⟨h.1,((x0.tr x1).tr x2).tr h.2.1,h.2.2⟩) h) (aF8 hk (λh hh=>aGd hk hh) (by omega) (T6 hk).1 (m:=m-1) (by omega) (by omega) (p1.ext x2) (fC b1 x2) q2.rs rfl (kM p).length 0 (m-1) _ (List.replicate (kM p).length Kj) (by omega) (by omega) (by omega) hx ⟨by simp,fQ _ _⟩ (by simp) ⟨by simp,λj s xs h=>by simp at h⟩ ..)
end
end Go.Proofs.YtmimdleeihjdoaaGreatDoor
namespace Go.Abs
def Eg (g:List (List Int))(i k:Nat):Prop:= ∃r,g[i]? =some r/\(k:Int)∈r
inductive Rch (g:List (List Int)):Nat->Nat->Prop
 |one {i k:Nat}:Eg g i k->Rch g i k
 |step {i j k:Nat}:Rch g i j->Eg g j k->Rch g i k
def Cyc (g:List (List Int)):Prop:= ∃i,Rch g i i
def Inn (g:List (List Int)):Prop:= ∀r∈g,∀z∈r,0<=z/\z<(g.length:Int)
def Dn (g:List (List Int))(C:List Int):Prop:= ∀u:Nat,C[u]? =some 2->(∀k:Nat,Eg g u k->C[k]? =some 2)/\ ¬Rch g u u
theorem Dn.aGl {g:List (List Int)}{D:List Int}(h:Dn g D){i:Nat}{r:List Int}(hi:D[i]? =some 1)(hr:g[i]? =some r)(hall: ∀k:Nat,(k:Int)∈r->D[k]? =some 2):Dn g (D.set i 2):=by
 have hl:=(aMz.mp hi).1;have up: ∀k:Nat,D[k]? =some 2->(D.set i 2)[k]? =some 2:=λk hk=>by
  rw[List.getElem?_set];split
  ·rename_i h
   subst h;simp[hl]
  ·exact hk
 intro u hu;by_cases hui:u=i
 ·subst hui
  refine⟨λk ⟨r',h1,h2⟩=> ?_,λhc=> ?_⟩
  ·rw[hr] at h1
   cases h1;exact up k (hall k h2)
  ·have key: ∀k:Nat,Rch g u k->D[k]? =some 2:=by
    intro k hk;induction hk with
    |one e=>
     obtain⟨r',h1,h2⟩:=e;rw[hr] at h1;cases h1;exact hall _ h2
    |step _ e ih=>exact(h _ ih).1 _ e
   have:=key u hc;rw[hi] at this;cases this
 ·rw[aMA (Ne.symm hui)] at hu
  exact⟨λk hk=>up k ((h u hu).1 k hk),(h u hu).2⟩
def zW (s r:List Int):List Int:=r.foldl (λs k=>s.set k.toNat 1) s
def mP (g:List (List Int))(a:Nat)(s:List Int)(i:Nat):List Int:=if i≠a/\s.getD i 0=0 then s else zW s (g.getD i [])
def sE (g:List (List Int))(a:Nat)(s:List Int):List Int:=(List.range g.length).foldl (mP g a) s
def jJ (g:List (List Int))(a:Nat):Nat->List Int
 |0=>List.replicate g.length 0
 |n+1=>sE g a (jJ g a n)
def sD (g:List (List Int)):Bool:=(List.range g.length).any λi=>(jJ g i g.length).getD i 0==1
def Le (s s':List Int):Prop:=s.length=s'.length/\ ∀k:Nat,s[k]? =some 1->s'[k]? =some 1
def Bin (s:List Int):Prop:= ∀x∈s,x=0∨x=1
theorem Le.Kk (s:List Int):Le s s:=⟨rfl,λ_ h=>h⟩
theorem Le.Ub {a b c:List Int}(h:Le a b)(h':Le b c):Le a c:=⟨h.1.trans h'.1,λk hk=>h'.2 k (h.2 k hk)⟩
theorem aGq (s:List Int)(k:Nat):Le s (s.set k 1):=⟨by simp,λj hj=>by
 rw[List.getElem?_set];split
 ·rename_i h
  subst h;simp[(aMz.mp hj).1]
 ·exact hj⟩
theorem Bin.aGk {s:List Int}(h:Bin s)(k:Nat):Bin (s.set k 1):=λx hx=>by
 rcases List.mem_or_eq_of_mem_set hx with h1|h1
 ·exact h x h1
 ·exact .inr h1
theorem Kl: ∀(r s:List Int),Le s (zW s r)
 |[],s=>Le.Kk s
 |k::r,s=>(aGq s k.toNat).Ub (Kl r (s.set k.toNat 1))
theorem Uf: ∀(r s:List Int),Bin s->Bin (zW s r)
 |[],s,h=>h
 |k::r,s,h=>Uf r _ (h.aGk _)
theorem Ug: ∀(r s:List Int)(k:Nat),(k:Int)∈r->k<s.length->(zW s r)[k]? =some 1
 |[],s,k,h,_=>by cases h
 |z::r,s,k,h,hk=>by
  rcases aMS.mp h with h|h
  ·subst h
   refine(Kl r (s.set (k:Int).toNat 1)).2 k ?_;simp[hk]
  ·exact Ug r _ k h (by simpa using hk)
theorem Km: ∀(r s:List Int)(k:Nat),(∀z∈r,0<=z)->(zW s r)[k]? =some 1->s[k]? =some 1∨(k:Int)∈r
 |[],s,k,_,h=> .inl h
 |z::r,s,k,hz,h=>by
  rcases Km r _ k (λy hy=>hz y (by simp[hy])) h with h1|h1
  ·rw[List.getElem?_set] at h1
   split at h1
   ·rename_i hh
    have:=hz z (by simp)
    exact .inr (by rw[aMS];left;omega)
   ·exact .inl h1
  ·exact .inr (by simp[h1])
theorem Dg (g:List (List Int))(a:Nat)(s:List Int)(i:Nat):Le s (mP g a s i):=by
 unfold mP;split
 ·exact Le.Kk s
 ·exact Kl _ _
theorem Ko (g:List (List Int))(a:Nat): ∀(l:List Nat)(s:List Int),Le s (l.foldl (mP g a) s)
 |[],s=>Le.Kk s
 |i::l,s=>(Dg g a s i).Ub (Ko g a l _)
theorem zY (g:List (List Int))(a:Nat): ∀(l:List Nat)(s:List Int),Bin s->Bin (l.foldl (mP g a) s)
 |[],s,h=>h
 |i::l,s,h=>zY g a l _ (by
  unfold mP;split
  ·exact h
  ·exact Uf _ _ h)
theorem Kn (g:List (List Int))(a:Nat)(s:List Int):Le s (sE g a s):=Ko g a _ s
theorem Uk (g:List (List Int))(a:Nat)(s:List Int)(h:Bin s):Bin (sE g a s):=zY g a _ s h
def zV (g:List (List Int))(a:Nat)(s:List Int):Prop:= ∀k:Nat,s[k]? =some 1->Rch g a k
theorem Uc {s:List Int}(h:Bin s){i:Nat}(hi: ¬s.getD i 0=0):s[i]? =some 1:=by
 rw[aMD] at hi;cases hs:s[i]? with
 |none=>rw[hs] at hi;simp at hi
 |some x=>
  rw[hs] at hi;simp at hi;rcases h x (aMJ hs) with h|h
  ·exact absurd h hi
  ·rw[h]
theorem aGr {g:List (List Int)}{a:Nat}{s:List Int}{i:Nat}(hg:Inn g)(hb:Bin s)(h:zV g a s):zV g a (mP g a s i):=by
 unfold mP;split
 ·exact h
 ·rename_i hc
  intro k hk;have hz: ∀z∈g.getD i [],0<=z:=λz hz=>by
   rw[aMD] at hz;cases hg':g[i]? with
   |none=>rw[hg'] at hz;simp at hz
   |some r=>rw[hg'] at hz;exact(hg r (aMJ hg') z hz).1
  rcases Km _ _ k hz hk with h1|h1
  ·exact h k h1
  ·rw[aMD] at h1
   cases hg':g[i]? with
   |none=>rw[hg'] at h1;simp at h1
   |some r=>
    rw[hg'] at h1;have e:Eg g i k:=⟨r,hg',h1⟩;by_cases hia:i=a
    ·rw[<-hia];exact .one e
    ·have: ¬s.getD i 0=0:=λhh=>hc ⟨hia,hh⟩
     exact .step (h i (Uc hb this)) e
theorem Ul {g:List (List Int)}{a:Nat}(hg:Inn g): ∀(l:List Nat)(s:List Int),Bin s->zV g a s->zV g a (l.foldl (mP g a) s)
 |[],s,_,h=>h
 |i::l,s,hb,h=>Ul hg l _ (zY g a [i] s hb) (aGr hg hb h)
def o6 (s:List Int):Nat:=s.countP (· ==1)
theorem zX: ∀(s s':List Int),Le s s'->o6 s<=o6 s'
 |[],[],_=>aME _
 |[],_::_,h=>absurd h.1 (by simp)
 |_::_,[],h=>absurd h.1 (by simp)
 |x::s,y::s',h=>by
  have ih:=zX s s' ⟨by simpa using h.1,λk hk=>by have:=h.2 (k+1) (by simpa using hk);simpa using this⟩
  have h0:=h.2 0;simp only[List.getElem?_cons_zero,aM0] at h0;unfold o6 at*;simp only[List.countP_cons];by_cases hx:x=1
  ·rw[hx,h0 hx];simp;exact ih
  ·have:(x==1)=false:=by simp[hx]
   rw[this];simp only[Bool.false_eq_true,if_false];omega
theorem De: ∀(s s':List Int),Le s s'->Bin s->Bin s'->o6 s'<=o6 s->s=s'
 |[],[],_,_,_,_=>rfl
 |[],_::_,h,_,_,_=>absurd h.1 (by simp)
 |_::_,[],h,_,_,_=>absurd h.1 (by simp)
 |x::s,y::s',h,hb,hb',hc=>by
  have hle:Le s s':=⟨by simpa using h.1,λk hk=>by have:=h.2 (k+1) (by simpa using hk);simpa using this⟩
  have h1:=zX s s' hle;have h0:=h.2 0;simp only[List.getElem?_cons_zero,aM0] at h0;have bx:=hb x (by simp)
  have by':=hb' y (by simp)
  unfold o6 at*;simp only[List.countP_cons] at hc;have e:x=y:=by
   rcases bx with bx|bx
   ·rcases by' with by'|by'
    ·rw[bx,by']
    ·rw[bx,by'] at hc
     simp at hc;omega
   ·rw[bx,h0 bx]
  subst e;rw[De s s' hle (λz hz=>hb z (by simp[hz])) (λz hz=>hb' z (by simp[hz])) (by unfold o6;omega)]
theorem aGp (s:List Int):o6 s<=s.length:=List.countP_le_length
theorem aGo (s:List Int)(h:o6 s=s.length): ∀k:Nat,k<s.length->s[k]? =some 1:=by
 intro k hk;have:=(List.countP_eq_length.mp h) s[k] (List.getElem_mem hk);rw[aMB hk];simpa using this
def Clo (g:List (List Int))(a:Nat)(s:List Int):Prop:= ∀i k:Nat,(i=a∨s[i]? =some 1)->Eg g i k->s[k]? =some 1
theorem Ue {g:List (List Int)}{a:Nat}: ∀(l:List Nat)(s:List Int),Bin s->l.foldl (mP g a) s=s-> ∀i∈l,mP g a s i=s
 |[],s,_,_,i,h=>by cases h
 |j::l,s,hb,h,i,hi=>by
  have h1:Le s (mP g a s j):=Dg g a s j;have h2:Le (mP g a s j) s:=by
   have:=Ko g a l (mP g a s j);rw[List.foldl_cons] at h;rw[h] at this;exact this
  have e:mP g a s j=s:=(De _ _ h1 hb (zY g a [j] s hb) (zX _ _ h2)).symm;rcases aMS.mp hi with rfl|hi
  ·exact e
  ·rw[List.foldl_cons,e] at h
   exact Ue l s hb h i hi
theorem aGm {g:List (List Int)}{a:Nat}{s:List Int}(hg:Inn g)(hl:s.length=g.length)(hb:Bin s)(h:sE g a s=s):Clo g a s:=by
 rintro i k hi ⟨r,hr,hk⟩
 have hil:=(aMz.mp hr).1;have:=Ue _ s hb h i (aNd.mpr hil);unfold mP at this;have hc: ¬(i≠a/\s.getD i 0=0):=by
  rintro ⟨h1,h2⟩
  rcases hi with hi|hi
  ·exact h1 hi
  ·rw[aMD,hi] at h2
   simp at h2
 rw[if_neg hc] at this;have hkl:=(hg r (aMJ hr) k hk).2;have h1:=Ug (g.getD i []) s k (by rw[aMD,hr];exact hk) (by omega)
 rw[this] at h1;exact h1
theorem aGn {g:List (List Int)}{a:Nat}{s:List Int}(hg:Inn g)(hl:s.length=g.length)(h:o6 s=s.length):Clo g a s:=by
 rintro i k _ ⟨r,hr,hk⟩
 have hkl:=(hg r (aMJ hr) k hk).2;exact aGo s h k (by omega)
theorem Df (g:List (List Int))(a:Nat): ∀n,(jJ g a n).length=g.length
 |0=>by simp[jJ]
 |n+1=>by
  have:=(Kn g a (jJ g a n)).1;rw[Df g a n] at this;exact this.symm
theorem uH (g:List (List Int))(a:Nat): ∀n,Bin (jJ g a n)
 |0=>λx hx=> .inl (by simp[jJ] at hx;exact hx.2)
 |n+1=>Uk g a _ (uH g a n)
theorem Uj {g:List (List Int)}(a:Nat)(hg:Inn g): ∀n,zV g a (jJ g a n)
 |0=>λk hk=>by
  simp only[jJ,aNg] at hk
  split at hk<;>simp at hk
 |n+1=>Ul hg _ _ (uH g a n) (Uj a hg n)
theorem Uh {g:List (List Int)}(a:Nat)(hg:Inn g): ∀n,Clo g a (jJ g a n)∨n<=o6 (jJ g a n)
 |0=> .inr (Nat.zero_le _)
 |n+1=>by
  rcases Uh a hg n with h|h
  ·left
   have e: ∀l:List Nat,l.foldl (mP g a) (jJ g a n)=jJ g a n:=by
    intro l;induction l with
    |nil=>rfl
    |cons i l ih=>
     rw[List.foldl_cons];have:mP g a (jJ g a n) i=jJ g a n:=by
      refine(De _ _ (Dg g a _ i) (uH g a n) (zY g a [i] _ (uH g a n)) ?_).symm;refine zX _ _ ⟨(Dg g a _ i).1.symm,λk hk=> ?_⟩
      unfold mP at hk
      split at hk
      ·exact hk
      ·rename_i hc
       have hz: ∀z∈g.getD i [],0<=z:=λz hz=>by
        rw[aMD] at hz;cases hg':g[i]? with
        |none=>rw[hg'] at hz;simp at hz
        |some r=>rw[hg'] at hz;exact(hg r (aMJ hg') z hz).1
       rcases Km _ _ k hz hk with h1|h1
       ·exact h1
       ·rw[aMD] at h1
        cases hg':g[i]? with
        |none=>rw[hg'] at h1;simp at h1
        |some r=>
         rw[hg'] at h1;refine h i k ?_ ⟨r,hg',h1⟩;by_cases hia:i=a
         ·exact .inl hia
         ·exact .inr (Uc (uH g a n) λhh=>hc ⟨hia,hh⟩)
     rw[this];exact ih
   show Clo g a (sE g a (jJ g a n))
   unfold sE;rw[e];exact h
  ·by_cases hx:sE g a (jJ g a n)=jJ g a n
   ·left
    show Clo g a (sE g a (jJ g a n))
    rw[hx];exact aGm hg (Df g a n) (uH g a n) hx
   ·right
    show n+1<=o6 (sE g a (jJ g a n))
    have h1:=zX _ _ (Kn g a (jJ g a n));by_cases h2:o6 (sE g a (jJ g a n))<=o6 (jJ g a n)
    ·exact absurd (De _ _ (Kn g a _) (uH g a n) (Uk g a _ (uH g a n)) h2).symm hx
    ·omega
theorem Ui {g:List (List Int)}(hg:Inn g)(a k:Nat):(jJ g a g.length)[k]? =some 1↔Rch g a k:=by
 constructor
 ·exact Uj a hg g.length k
 ·have hc:Clo g a (jJ g a g.length):=by
   rcases Uh a hg g.length with h|h
   ·exact h
   ·refine aGn hg (Df g a _) ?_
    have:=aGp (jJ g a g.length);rw[Df] at*;omega
  intro hr;induction hr with
  |one e=>exact hc _ _ (.inl rfl) e
  |step _ e ih=>exact hc _ _ (.inr ih) e
theorem Ud {g:List (List Int)}(hg:Inn g):sD g=true↔Cyc g:=by
 unfold sD;rw[List.any_eq_true];constructor
 ·rintro ⟨i,hi,h⟩
  refine⟨i,(Ui hg i i).mp ?_⟩;rw[aMD] at h;cases hh:(jJ g i g.length)[i]? with
  |none=>rw[hh] at h;simp at h
  |some x=>rw[hh] at h;simp at h;rw[h]
 ·rintro ⟨i,h⟩
  have hil:i<g.length:=by
   cases h with
   |one e=>obtain⟨r,h1,_⟩:=e;exact(aMz.mp h1).1
   |step h1 e=>
    obtain⟨r,h2,h3⟩:=e;have:=(hg r (aMJ h2) i h3).2;omega
  refine⟨i,aNd.mpr hil,?_⟩;rw[aMD,(Ui hg i i).mpr h];rfl
end Go.Abs
namespace Go.Proofs.YtmimdleeihjdoaaGreatDoor
open Go.Proofs.Tryz
open Go.Abs
section
variable {H : aA} {m : Nat} {p : PlanD} {ev wv nv : Value}
theorem aGs (p:PlanD):Inn (lL p):=by
 unfold lL;split
 ·intro r hr z hz
  obtain⟨h,hh,rfl⟩:=aNc.mp hr;rw[aMN];obtain⟨k,b,rfl,h1,_⟩:=Ua.mp hz;have:=(aMz.mp h1).1;omega
 ·intro r hr;cases hr
theorem aGt (p:PlanD):(lL p).length<=36:=by
 unfold lL;split
 ·rw[aMN];exact Jc p
 ·simp
theorem aGu (p:PlanD): ∀r∈lL p,r.length<=36:=by
 unfold lL;split
 ·intro r hr
  obtain⟨h,hh,rfl⟩:=aNc.mp hr;unfold nD;rw[aMN];have:=Jc p;exact aMP (List.length_filter_le _ _) (by rw[aM3];exact this)
 ·intro r hr;cases hr
end
section
variable {H : aA} {m : Nat} {p : PlanD} {ev wv nv : Value}
def atV (ab n:Nat):Value:= .slice (some ⟨ab,0,none⟩) n n
def mkB (ab n:Nat)(wv:Value):Blk:= .cells [atV ab n,wv] 262 .fix
theorem zZ {mb ab n:Nat}(h:H[mb]? =some (mkB ab n wv)):ld1 (.pointer (some ⟨mb,0,none⟩)) H=some (atV ab n,H):=y6 h rfl
theorem aGB {mb ab n:Nat}(h:H[mb]? =some (mkB ab n wv)):ld1 (.pointer (some ⟨mb,1,none⟩)) H=some (wv,H):=y6 h rfl
theorem Dh {ab n k:Nat}(h:k<n):aQ 1 (atV ab n) (.int .i64 (k:Nat))=some (.pointer (some ⟨ab,k,none⟩)):=by
 have:=ia (c:=ab) (o:=0) (cap:=n) h;rw[aMU] at this;exact this
def Col (C:List Int):Prop:= ∀x∈C,x=0∨x=1∨x=2
theorem Col.aGz {C:List Int}(h:Col C)(i:Nat){y:Int}(hy:y=0∨y=1∨y=2):Col (C.set i y):=λx hx=>by
 rcases List.mem_or_eq_of_mem_set hx with h1|h1
 ·exact h x h1
 ·rw[h1];exact hy
structure Srch (g:List (List Int))(Hw:aA)(mb ab:Nat)(wv:Value)(H:aA)(C:List Int):Prop where
 ext:Ext Hw H
 mrk:H[mb]? =some (mkB ab g.length wv)
 row:H[ab]? =some (oC C [])
 len:C.length=g.length
 col:Col C
theorem Srch.st {g:List (List Int)}{Hw:aA}{mb ab:Nat}{C:List Int}(h:Srch g Hw mb ab wv H C)(hne:mb≠ab)(hab:Hw.length<=ab){i:Nat}(hi:i<g.length)(y:Int)(hy:y=0∨y=1∨y=2):
  ∃H',stN 1 (.pointer (some ⟨ab,i,none⟩)) (.int .i64 y) H=some (undef,H')/\Srch g Hw mb ab wv H' (C.set i y):=
 ⟨_,Sz y h.row (by have:=h.len;omega),s5 h.ext hab,by rw[aMA (Ne.symm hne)];exact h.mrk,aMF (aMz.mp h.row).1,by simp[h.len],h.col.aGz i hy⟩
structure Dne (g:List (List Int))(C C':List Int)(i:Nat):Prop where
 i2:C'[i]? =some 2
 dn:Dn g C'
 gr: ∀u:Nat,C'[u]? =some 1↔C[u]? =some 1
 bl: ∀u:Nat,C[u]? =some 2->C'[u]? =some 2
def Kp (g:List (List Int))(Hw:aA)(mb ab:Nat)(wv:Value)(m q:Nat):Prop:=
 ∀(H:aA)(C:List Int)(i:Nat),Srch g Hw mb ab wv H C->C[i]? =some 0->Dn g C->(∀u:Nat,C[u]? =some 1->Rch g u i)->(∃L:List Nat,L.length=q/\ ∀u:Nat,C[u]? =some 0->u∈L)->
  ∃H' b C',lvl prog bY m (.func 165) [.pointer (some ⟨mb,0,none⟩),.int .i64 (i:Nat)] H=some (.bool b,H')/\Srch g Hw mb ab wv H' C'/\(b=true->Cyc g)/\(b=false->Dne g C C' i)
theorem aGD {g:List (List Int)}{Hw:aA}{mb ab:Nat}{q':Nat}(hrd:Kp g Hw mb ab wv m q')(hinn:Inn g)(hne:mb≠ab)(hab:Hw.length<=ab){C:List Int}{i:Nat}{r:List Int}{rv:Value}(hr:g[i]? =some r)(hrl:r.length<=100)(hrv:Is Hw rv r)(hgr: ∀u:Nat,C[u]? =some 1->Rch g u i)(hci:C[i]? =some 0){L:List Nat}(hL:L.length=q'):
  ∀(q j k:Nat)(H:aA)(D:List Int),r.length-j=q->j<=r.length->q<k->Srch g Hw mb ab wv H D->D[i]? =some 1->Dn g D->(∀u:Nat,D[u]? =some 1↔(u=i∨C[u]? =some 1))->(∀u:Nat,C[u]? =some 2->D[u]? =some 2)->(∀z∈r.take j,D[z.toNat]? =some 2)->(∀u:Nat,D[u]? =some 0->u∈L)-> ∀(x2 x3 x4 x5 x6 x7 x8 x9 bI cA aP aN aL aM aR aS aO bG bE aT aU aV aW aX aY aZ bA bB bK bL bM bN bO bP bQ bR bS bT cC cD cE cI cP cR cS cM cN cO cQ:Value),
  ∃H' b C',aH k (aI prog (lvl prog bY m) (aH m) C4) (zT (lvl prog bY m) (aH m)) [(.pointer (some ⟨mb,0,none⟩)),(.int .i64 (i:Nat)),x2,x3,x4,x5,x6,x7,x8,x9,bI,cA,aP,aN,aL,aM,aR,aS,aO,rv,(.int .i64 r.length),(.int .i64 (j:Nat)),bG,bE,aT,aU,aV,aW,aX,aY,aZ,bA,bB,bK,bL,bM,bN,bO,bP,bQ,bR,bS,bT,cC,cD,cE,cI,cP,cR,cS,cM,cN,cO,cQ] H=some (.bool b,H')/\Srch g Hw mb ab wv H' C'/\(b=true->Cyc g)/\(b=false->Dne g C C' i):=by
 intro q;have hil:=(aMz.mp hr).1;induction q with
 |zero=>
  intro j k H D hq hj hk hs hi1 hdn hgray hbl htake hwh;intros;obtain⟨k,rfl⟩: ∃n,k=n+1:=⟨k-1,by omega⟩
  obtain rfl:r.length=j:=by omega
  have e:decide ((r.length:Int)<(r.length:Int))=false:=by simp
  rw[List.take_of_length_le (aME _)] at htake;have l0:=zZ hs.mrk;have a0:=Dh (ab:=ab) hil;obtain⟨H',st,hs'⟩:=hs.st hne hab hil 2 (.inr (.inr rfl));have fin:=hdn.aGl hi1 hr (λk hk=>by have:=htake k hk;simpa using this)
  refine⟨H',false,D.set i 2,?_,hs',λh=>(by cases h),λ_=>⟨?_,fin,λu=> ?_,λu hu=> ?_⟩⟩
  ·rw[dS,Tl]
   simp -implicitDefEqProofs only[gsR,e];rw[aFK];simp -implicitDefEqProofs only[gsR,l0,a0,st]
  ·exact aMF (by have:=hs.len;omega)
  ·by_cases hui:u=i
   ·subst hui
    rw[aMF (by have:=hs.len;omega),hci]
    simp
   ·rw[aMA (Ne.symm hui),hgray u]
    simp[hui]
  ·have:=hbl u hu
   by_cases hui:u=i
   ·subst hui
    rw[hi1] at this;cases this
   ·rw[aMA (Ne.symm hui)]
    exact this
 |succ q ih=>
  intro j k H D hq hj hk hs hi1 hdn hgray hbl htake hwh;intros;obtain⟨k,rfl⟩: ∃n,k=n+1:=⟨k-1,by omega⟩
  have e:decide ((j:Int)<(r.length:Int))=true:=decide_eq_true (by omega)
  have e3:IntKind.i64.wrap ((j:Int)+1)=((j+1:Nat):Int):=by rw[dJ (by omega) (by omega)];omega
  obtain⟨z,hz⟩: ∃z,r[j]? =some z:=⟨_,aMB (by omega)⟩
  have hzin:=hinn r (aMJ hr) z (aMJ hz);obtain⟨b,o,g1,_,g3⟩:=(hrv.ext hs.ext).iQ gQ hz .i64;have g4:ld1 (.pointer (some ⟨b,o,none⟩)) H=some (.int .i64 z,H):=(g3 H rfl).2.1 0 _ rfl;obtain⟨t,rfl⟩: ∃t:Nat,z=t:=⟨z.toNat,by omega⟩
  have htl:t<g.length:=by omega
  have edge:Eg g i t:=⟨r,hr,aMJ hz⟩;have l0:=zZ hs.mrk;have a0:=Dh (ab:=ab) htl;obtain⟨x,hx⟩: ∃x,D[t]? =some x:=⟨_,aMB (by have:=hs.len;omega)⟩
  have lx:=xP hs.row hx;have grs: ∀u:Nat,D[u]? =some 1->Rch g u t:=λu hu=>by
   rcases(hgray u).mp hu with h|h
   ·rw[h];exact .one edge
   ·exact .step (hgr u h) edge
  have htk:r.take (j+1)=r.take j++[(t:Int)]:=by rw[List.take_add_one,hz];rfl
  have next: ∀(H2:aA)(D2:List Int),Srch g Hw mb ab wv H2 D2->D2[i]? =some 1->Dn g D2->(∀u:Nat,D2[u]? =some 1↔(u=i∨C[u]? =some 1))->(∀u:Nat,C[u]? =some 2->D2[u]? =some 2)->(∀z∈r.take j,D2[z.toNat]? =some 2)->D2[t]? =some 2->(∀u:Nat,D2[u]? =some 0->u∈L)-> ∀(x2 x3 x4 x5 x6 x7 x8 x9 bI cA aP aN aL aM aR aS aO bG bE aT aU aV aW aX aY aZ bA bB bK bL bM bN bO bP bQ bR bS bT cC cD cE cI cP cR cS cM cN cO cQ:Value),
    ∃H' b C',aH k (aI prog (lvl prog bY m) (aH m) C4) (zT (lvl prog bY m) (aH m)) [(.pointer (some ⟨mb,0,none⟩)),(.int .i64 (i:Nat)),x2,x3,x4,x5,x6,x7,x8,x9,bI,cA,aP,aN,aL,aM,aR,aS,aO,rv,(.int .i64 r.length),(.int .i64 (j+1:Nat)),bG,bE,aT,aU,aV,aW,aX,aY,aZ,bA,bB,bK,bL,bM,bN,bO,bP,bQ,bR,bS,bT,cC,cD,cE,cI,cP,cR,cS,cM,cN,cO,cQ] H2=some (.bool b,H')/\Srch g Hw mb ab wv H' C'/\(b=true->Cyc g)/\(b=false->Dne g C C' i):=by
   intro H2 D2 h1 h2 h3 h4 h5 h6 h7 h8;refine ih (j+1) k H2 D2 (by omega) (by omega) (by omega) h1 h2 h3 h4 h5 (λz hz=> ?_) h8
   rw[htk,List.mem_append] at hz;rcases hz with hz|hz
   ·exact h6 z hz
   ·have:z=(t:Int):=by simpa using hz
    rw[this];simpa using h7
  rw[dS,Tl];rcases hs.col x (aMJ hx) with rfl|rfl|rfl
  ·have d1:((0:Int)==1)=false:=rfl
   have d2:((0:Int)==2)=false:=rfl;obtain⟨H2,bb,D2,c1,hs2,hcyc,hdne⟩:=hrd H D t hs hx hdn grs ⟨L,hL,hwh⟩;cases bb with
   |true=>
    refine⟨H2,true,D2,?_,hs2,λ_=>hcyc rfl,λh=>(by cases h)⟩
    simp -implicitDefEqProofs only[gsR,e,g1,g4,l0,a0,lx,d1,d2,c1];rw[Tm];rfl
   |false=>
    have hd:=hdne rfl;simp -implicitDefEqProofs only[gsR,e,g1,g4,l0,a0,lx,d1,d2,c1,cH,e3];refine next H2 D2 hs2 ((hd.gr i).mpr hi1) hd.dn (λu=>by rw[hd.gr u];exact hgray u) (λu hu=>hd.bl u (hbl u hu)) (λz hz=>hd.bl _ (htake z hz)) hd.i2 (λu hu=>hwh u ?_) ..
    have hul:u<g.length:=by have:=(aMz.mp hu).1;have:=hs2.len;omega
    obtain⟨y,hy⟩: ∃y,D[u]? =some y:=⟨_,aMB (by have:=hs.len;omega)⟩
    rcases hs.col y (aMJ hy) with rfl|rfl|rfl
    ·exact hy
    ·have:=(hd.gr u).mpr hy
     rw[hu] at this;cases this
    ·have:=hd.bl u hy
     rw[hu] at this;cases this
  ·have d1:((1:Int)==1)=true:=rfl
   refine⟨H,true,D,?_,hs,λ_=>⟨t,grs t hx⟩,λh=>(by cases h)⟩
   simp -implicitDefEqProofs only[gsR,e,g1,g4,l0,a0,lx,d1];rw[Tm];rfl
  ·have d1:((2:Int)==1)=false:=rfl
   have d2:((2:Int)==2)=true:=rfl;simp -implicitDefEqProofs only[gsR,e,g1,g4,l0,a0,lx,d1,d2,cH,e3];exact next H D hs hi1 hdn hgray hbl htake hx hwh ..
theorem aGC {g:List (List Int)}{Hw:aA}{mb ab:Nat}(hg:Rows Hw wv g)(hinn:Inn g)(hrl: ∀r∈g,r.length<=100)(hne:mb≠ab)(hab:Hw.length<=ab): ∀(q m:Nat),200+q<m->Kp g Hw mb ab wv m q:=by
 intro q;induction q with
 |zero=>
  intro m hm H C i hs hi hdn hgr ⟨L,hL,hw⟩;have:=hw i hi;rw[aMR.mp hL] at this;cases this
 |succ q ih=>
  intro m hm H C i hs hi hdn hgr ⟨L,hL,hw⟩;have hil:i<g.length:=by have:=(aMz.mp hi).1;have:=hs.len;omega
  have l0:=zZ hs.mrk;have a0:=Dh (ab:=ab) hil;obtain⟨H1,st,hs1⟩:=hs.st hne hab hil 1 (.inr (.inl rfl));have l1:=aGB hs1.mrk;obtain⟨r,hr⟩: ∃r,g[i]? =some r:=⟨_,aMB hil⟩;obtain⟨a1,rv,g1,g2,g3⟩:=hg.Cp hr .i64;have g2':=aFz hs1.ext g2;have hlen:=g3.jQ;have hr100:=hrl r (aMJ hr);have hcl:C.length=g.length:=hs.len;have other: ∀u:Nat,u≠i->(C.set i 1)[u]? =C[u]? :=λu hu=>aMA (Ne.symm hu)
  have self:(C.set i 1)[i]? =some 1:=aMF (by omega)
  obtain⟨m,rfl⟩: ∃n,m=n+1:=⟨m-1,by omega⟩
  rw[Py (fR rfl rfl),aFL];simp -implicitDefEqProofs only[gsR,l0,a0,st,l1,g1,g2',hlen];have hiL:=hw i hi;refine aGD (ih m (by omega)) hinn hne hab hr hr100 g3 hgr hi (L:=L.erase i) (by rw[List.length_erase_of_mem hiL];omega) r.length 0 m H1 (C.set i 1) (by omega) (by omega) (by omega) hs1 self ?_ (λu=> ?_) (λu hu=> ?_) (λz hz=>by simp at hz) (λu hu=> ?_) ..
  ·intro u hu
   have hui:u≠i:=λhh=>by rw[hh,self] at hu;cases hu
   rw[other u hui] at hu;refine⟨λk hk=> ?_,(hdn u hu).2⟩
   have:=(hdn u hu).1 k hk;have hki:k≠i:=λhh=>by rw[hh,hi] at this;cases this
   rw[other k hki];exact this
  ·by_cases hui:u=i
   ·rw[hui,self];simp
   ·rw[other u hui];simp[hui]
  ·have hui:u≠i:=λhh=>by rw[hh,hi] at hu;cases hu
   rw[other u hui];exact hu
  ·have hui:u≠i:=λhh=>by rw[hh,self] at hu;cases hu
   rw[other u hui] at hu
   exact(List.mem_erase_of_ne hui).mpr (hw u hu)
def sF (p:PlanD)(n:Nat):Bool:=(List.range n).all λv=>(List.range n).all λw=>(oQ p v w).isSome
def Kq (p:PlanD):Bool:=lF p&&(sF p p.nodes.toNat&& !sD (lL p))
def lX (p:PlanD):Int:=if lF p=true then(if Kq p=true then 0 else 140) else 120
theorem aGy {g:List (List Int)}{Hw:aA}{mb ab:Nat}(hrd:Kp g Hw mb ab wv m g.length)(hgl:g.length<=100)(hinn:Inn g):
  ∀(q i k:Nat)(H:aA)(C:List Int),g.length-i=q->i<=g.length->q<k->Srch g Hw mb ab wv H C->Dn g C->(∀u:Nat,C[u]? ≠some 1)->(∀u:Nat,u<i->C[u]? =some 2)-> ∀(x0 x1 x2 x3 x4 x5 x6 x7 x9 bI cA aP aN aL aM aR aS aO bC bH bV bG bE aT aU aV aW aX aY aZ bA bB bK bL bM bN bO bP bQ bR bS bT cC cD cE cI cP cR cS cM cN cO cT cU cY dD dG dE dH dQ dR dU dV dW dX dY dZ eA:Value),
  ∃H',aH k (aI prog (lvl prog bY m) (aH m) Ke) (C9 (lvl prog bY m) (aH m)) [x0,x1,x2,x3,x4,x5,x6,x7,(.pointer (some ⟨mb,0,none⟩)),x9,bI,cA,aP,aN,aL,aM,aR,aS,aO,bC,bH,bV,bG,bE,aT,aU,aV,aW,aX,aY,aZ,bA,bB,bK,bL,bM,bN,bO,bP,bQ,bR,bS,bT,cC,cD,cE,cI,cP,cR,cS,cM,cN,cO,(.int .i64 g.length),(.int .i64 (i:Nat)),cT,cU,cY,dD,dG,dE,dH,dQ,dR,dU,dV,dW,dX,dY,dZ,eA] H=some (.int .u16 (if sD g=true then 140 else 0),H')/\Ext Hw H':=by
 intro q;induction q with
 |zero=>
  intro i k H C hq hi hk hs hdn hgr hbl;intros;obtain⟨k,rfl⟩: ∃n,k=n+1:=⟨k-1,by omega⟩
  obtain rfl:g.length=i:=by omega
  have e:decide ((g.length:Int)<(g.length:Int))=false:=by simp
  have hno: ¬sD g=true:=by
   rw[Ud hinn];rintro ⟨i,hc⟩
   have hil:i<g.length:=by
    cases hc with
    |one e=>obtain⟨r,h1,_⟩:=e;exact(aMz.mp h1).1
    |step h1 e=>
     obtain⟨r,h2,h3⟩:=e;have:=(hinn r (aMJ h2) i h3).2;omega
   exact(hdn i (hbl i hil)).2 hc
  rw[if_neg hno,dS,Tx];simp -implicitDefEqProofs only[gsR,e];rw[aFX]
  exact⟨H,rfl,hs.ext⟩
 |succ q ih=>
  intro i k H C hq hi hk hs hdn hgr hbl;intros;obtain⟨k,rfl⟩: ∃n,k=n+1:=⟨k-1,by omega⟩
  have hil:i<g.length:=by omega
  have e:decide ((i:Int)<(g.length:Int))=true:=decide_eq_true (by omega)
  have e3:IntKind.i64.wrap ((i:Int)+1)=((i+1:Nat):Int):=by rw[dJ (by omega) (by omega)];omega
  have l0:=zZ hs.mrk;have a0:=Dh (ab:=ab) hil;obtain⟨x,hx⟩: ∃x,C[i]? =some x:=⟨_,aMB (by have:=hs.len;omega)⟩
  have lx:=xP hs.row hx;rw[dS,Tx];rcases hs.col x (aMJ hx) with rfl|rfl|rfl
  ·have d1:((0:Int)==0)=true:=rfl
   obtain⟨H2,bb,D2,c1,hs2,hcyc,hdne⟩:=hrd H C i hs hx hdn (λu hu=>absurd hu (hgr u)) ⟨List.range g.length,by simp,λu hu=>aNd.mpr (by have:=(aMz.mp hu).1;have:=hs.len;omega)⟩
   cases bb with
   |true=>
    have hyes:sD g=true:=(Ud hinn).mpr (hcyc rfl);rw[if_pos hyes];simp -implicitDefEqProofs only[gsR,e,l0,a0,lx,d1,c1];rw[aF1]
    exact⟨H2,rfl,hs2.ext⟩
   |false=>
    have hd:=hdne rfl;simp -implicitDefEqProofs only[gsR,e,l0,a0,lx,d1,c1,cH,e3];refine ih (i+1) k H2 D2 (by omega) (by omega) (by omega) hs2 hd.dn (λu hu=>hgr u ((hd.gr u).mp hu)) (λu hu=> ?_) ..
    by_cases hui:u=i
    ·rw[hui];exact hd.i2
    ·exact hd.bl u (hbl u (by omega))
  ·exact absurd hx (hgr i)
  ·have d1:((2:Int)==0)=false:=rfl
   simp -implicitDefEqProofs only[gsR,e,l0,a0,lx,d1,cH,e3];refine ih (i+1) k H C (by omega) (by omega) (by omega) hs hdn hgr (λu hu=> ?_) ..
   by_cases hui:u=i
   ·rw[hui];exact hx
   ·exact hbl u (by omega)
theorem aGx {n:Nat}(hk:OkP p n){H0:aA}{a v:Nat}(hv:v<n){K:Ex->K (Value×aA)}{Q:aA->Value->Prop}(hp:PV H0 p ev wv nv)(hb:H0[a]? =some (plB p ev wv nv))(hm:400<m)(hm2:m<=72057594037927936):
  ∀(q i k:Nat)(H1:aA),n-i=q->i<=n->q<k->Ext H0 H1->
  (∀H',Ext H0 H'->((List.range' i q).all λw=>(oQ p v w).isSome)=true-> ∀(x0 x2 x3 x4 x5 x6 x7 x8 x9 bI cA aP aN aL aM aO bC bH bV bG bE aT aU aV aW aX aY aZ bA bB bK bL bM bN bO bP bQ bR bS bT cC cD cE cI cP cR cS cM cN cO cQ cV cT cU cY dD dG dE dH dQ dR dU dV dW dX dY dZ eA:Value),∃H2 r,K .normal [x0,(.pointer (some ⟨a,0,none⟩)),x2,x3,x4,x5,x6,x7,x8,x9,bI,cA,aP,aN,aL,aM,(.int .i64 n),(.int .i64 (v+1:Nat)),aO,bC,bH,bV,bG,bE,aT,aU,aV,aW,aX,aY,aZ,bA,bB,bK,bL,bM,bN,bO,bP,bQ,bR,bS,bT,cC,cD,cE,cI,cP,cR,cS,cM,cN,cO,cQ,cV,cT,cU,cY,dD,dG,dE,dH,dQ,dR,dU,dV,dW,dX,dY,dZ,eA] H'=some (r,H2)/\Q H2 r)->
  (∀H',Ext H0 H'->((List.range' i q).all λw=>(oQ p v w).isSome)=false-> ∀(x0 x1 x3 x4 x5 x6 x7 x8 x9 bI cA aP aN aL aM aR aS aO bC bH bV bG bE aT aU aV aW aX aY aZ bA bB bK bL bM bN bO bP bQ bR bS bT cC cD cE cI cP cR cS cM cN cO cQ cV cT cU cY dD dG dE dH dQ dR dU dV dW dX dY dZ eA:Value),∃H2 r,K .ret [x0,x1,(.int .u16 140),x3,x4,x5,x6,x7,x8,x9,bI,cA,aP,aN,aL,aM,aR,aS,aO,bC,bH,bV,bG,bE,aT,aU,aV,aW,aX,aY,aZ,bA,bB,bK,bL,bM,bN,bO,bP,bQ,bR,bS,bT,cC,cD,cE,cI,cP,cR,cS,cM,cN,cO,cQ,cV,cT,cU,cY,dD,dG,dE,dH,dQ,dR,dU,dV,dW,dX,dY,dZ,eA] H'=some (r,H2)/\Q H2 r)-> ∀(x0 x2 x3 x5 x6 x7 x8 x9 bI cA aP aN aL aM aO bC bH bE aT aU aV aW aX aY aZ bA bB bK bL bM bN bO bP bQ bR bS bT cC cD cE cI cP cR cS cM cN cO cQ cV cT cU cY dD dG dE dH dQ dR dU dV dW dX dY dZ eA:Value),
  ∃H' r,aH k (aI prog (lvl prog bY m) (aH m) Kd) (C8 (lvl prog bY m) (aH m) K) [x0,(.pointer (some ⟨a,0,none⟩)),x2,x3,(.int .i64 (v:Nat)),x5,x6,x7,x8,x9,bI,cA,aP,aN,aL,aM,(.int .i64 n),(.int .i64 (v:Nat)),aO,bC,bH,(.int .i64 n),(.int .i64 (i:Nat)),bE,aT,aU,aV,aW,aX,aY,aZ,bA,bB,bK,bL,bM,bN,bO,bP,bQ,bR,bS,bT,cC,cD,cE,cI,cP,cR,cS,cM,cN,cO,cQ,cV,cT,cU,cY,dD,dG,dE,dH,dQ,dR,dU,dV,dW,dX,dY,dZ,eA] H1=some (r,H')/\Q H' r:=by
 intro q;have h6:=hk.h6;induction q with
 |zero=>
  intro i k H1 hr hi hk2 he hK hR;intros;obtain⟨k,rfl⟩: ∃n,k=n+1:=⟨k-1,by omega⟩
  have e:decide ((i:Int)<(n:Int))=false:=decide_eq_false (by omega)
  have e3:IntKind.i64.wrap ((v:Int)+1)=((v+1:Nat):Int):=by rw[dJ (by omega) (by omega)];omega
  rw[dS,Tw];simp -implicitDefEqProofs only[gsR,e];rw[aFW];simp -implicitDefEqProofs only[gsR,cH,e3];exact hK H1 he rfl ..
 |succ q ih=>
  intro i k H1 hr hi hk2 he hK hR;intros;obtain⟨k,rfl⟩: ∃n,k=n+1:=⟨k-1,by omega⟩
  have e:decide ((i:Int)<(n:Int))=true:=decide_eq_true (by omega)
  have e3:IntKind.i64.wrap ((i:Int)+1)=((i+1:Nat):Int):=by rw[dJ (by omega) (by omega)];omega
  have l11:=kD (fC hb he);obtain⟨H2,r,g1,x2,lv,rfl,_,_⟩:=aF5 hk (hp.ext he) (v:=v) (w:=i) (by omega) (by omega) (m:=m) (by omega) (by omega)
  rw[dS,Tw];rw[List.range'_succ,List.all_cons] at hK hR;cases c:(oQ p v i).isSome with
  |true=>
   rw[c] at g1 hK hR;simp -implicitDefEqProofs only[gsR,e,l11,g1,cH,e3];exact ih (i+1) k H2 (by omega) (by omega) (by omega) (he.tr x2) (λH' h1 h2=>hK H' h1 (by simpa using h2)) (λH' h1 h2=>hR H' h1 (by simpa using h2)) ..
  |false=>
   rw[c] at g1 hR;simp -implicitDefEqProofs only[gsR,e,l11,g1];rw[aF0];exact hR H2 (he.tr x2) rfl ..
theorem aGE (n:Nat):Blk.cells (List.replicate n [Value.int .i64 0]).flatten 3 .row=oC (List.replicate n 0) []:=by
 unfold oC
 congr 1
 rw[List.append_nil,List.map_replicate];induction n with
 |zero=>rfl
 |succ n ih=>rw[List.replicate_succ,List.replicate_succ,aM9,ih];rfl
theorem aGA {v:Value}{us:List Value}(h:Rs vC 37 H v us):bld prog 262 [(1,v)]=some (.agg #[.slice none 0 0,v])/\Blk.cells (Value.agg #[.slice none 0 0,v]).cells.toList 262 .fix= .cells [.slice none 0 0,v] 262 .fix:=by
 rcases h with⟨rfl,_⟩|⟨b,o,cap,rfl,_⟩
 ·exact⟨by kernel_rfl,rfl⟩
 ·have: ∀b o n c:Nat,bld prog 262 [(1,.slice (some ⟨b,o,none⟩) n c)]=some (.agg #[.slice none 0 0,.slice (some ⟨b,o,none⟩) n c]):=λb o n c=>by kernel_rfl
  exact⟨this _ _ _ _,rfl⟩
theorem aGv {n:Nat}(hk:OkP p n){H0:aA}{a:Nat}(hp:PV H0 p ev wv nv)(hb:H0[a]? =some (plB p ev wv nv))(hm:17592186045300<m)(hm2:m<=72057594037927936)(x0 x2 x3 x4 x5 x6 x7 x8 x9 bI cA aP aN aL aM aR aS aO bC bH bV bG bE aT aU aV aW aX aY aZ bA bB bK bL bM bN bO bP bQ bR bS bT cC cD cE cI cP cR cS cM cN cO cQ cV cT cU cY dD dG dE dH dQ dR dU dV dW dX dY dZ eA:Value):
  ∃H',Kf (lvl prog bY m) (aH m) x0 (.pointer (some ⟨a,0,none⟩)) x2 x3 x4 x5 x6 x7 x8 x9 bI cA aP aN aL aM aR aS aO bC bH bV bG bE aT aU aV aW aX aY aZ bA bB bK bL bM bN bO bP bQ bR bS bT cC cD cE cI cP cR cS cM cN cO cQ cV cT cU cY dD dG dE dH dQ dR dU dV dW dX dY dZ eA H0=some (.int .u16 (if sD (lL p)=true then 140 else 0),H')/\Ext H0 H':=by
 have l11:=kD hb;obtain⟨H1,wvv,g1,x1,hg⟩:=aF7 hp (m:=m) (by omega) (by omega)
 have hgl:=aGt p;obtain⟨us,hus,hul,_⟩:=id hg;obtain⟨bm,bc⟩:=aGA hus;obtain⟨g,hgg⟩: ∃g,g=lL p:=⟨_,rfl⟩;have hinn:=aGs p;have hrow:=aGu p;rw[<-hgg] at hg hgl hinn hrow⊢;obtain⟨H2,hH2⟩: ∃H2,H2=H1++[Blk.cells [.slice none 0 0,wvv] 262 .fix]:=⟨_,rfl⟩;have x2:Ext H1 H2:=by rw[hH2];exact Fr.app _ _ _
 have b2:H2[H1.length]? =some (.cells [.slice none 0 0,wvv] 262 .fix):=by rw[hH2];exact fQ _ _
 have l2:ld1 (.pointer (some ⟨H1.length,1,none⟩)) H2=some (wvv,H2):=y6 b2 rfl;have hlen:=hg.So;have mk:=vJ (H:=H2) 3 1 8 [.int .i64 0] .i64 .i64 (g.length:Int) (by omega) (by omega) (by omega) rfl
 simp only[aM1] at mk;rw[aGE] at mk;obtain⟨H3,hH3⟩: ∃H3,H3=H2++[oC (List.replicate g.length 0) []]:=⟨_,rfl⟩;rw[<-hH3] at mk;have x3:Ext H2 H3:=by rw[hH3];exact Fr.app _ _ _
 have b3:=fC b2 x3;have st:stN 1 (.pointer (some ⟨H1.length,0,none⟩)) (.slice (some ⟨H2.length,0,none⟩) g.length g.length) H3=some (undef,H3.set H1.length (mkB H2.length g.length wvv)):=by
  rw[mE 1 _ _ _ rfl,b3,nK _ _ _ _ _ _ (by decide) (by show 0+1<=2;omega) rfl]
  rfl
 obtain⟨H4,hH4⟩: ∃H4,H4=H3.set H1.length (mkB H2.length g.length wvv):=⟨_,rfl⟩;rw[<-hH4] at st;have h12:H2.length=H1.length+1:=by rw[hH2];simp
 have hs:Srch g H1 H1.length H2.length wvv H4 (List.replicate g.length 0):=by
  refine⟨?_,?_,?_,by simp,λx hx=> .inl (by simp at hx;exact hx.2)⟩
  ·rw[hH4];exact s5 (x2.tr x3) (aME _)
  ·rw[hH4];exact aMF (aMz.mp b3).1
  ·rw[hH4,aMA (by omega),hH3];exact fQ _ _
 have l4:=zZ hs.mrk;have hlen4:bJ (atV H2.length g.length)=some (.int .i64 g.length):=rfl;have hrd:=aGC hg hinn (λr hr=>by have:=hrow r hr;omega) (show H1.length≠H2.length by omega) (show H1.length<=H2.length by omega) g.length m (by omega)
 unfold Kf;simp -implicitDefEqProofs only[gsR,l11,g1,bm,bc,<-hH2,l2,hlen,mk,st,l4,hlen4];exact Exists.imp (λH' h=>⟨h.1,x1.tr h.2⟩) (aGy hrd (by omega) hinn g.length 0 m H4 (List.replicate g.length 0) (by omega) (by omega) (by omega) hs (λu hu=>by simp[aNg] at hu) (λu hu=>by simp[aNg] at hu) (λu hu=>absurd hu (by omega)) ..)
theorem aGw {n:Nat}(hk:OkP p n){H0:aA}{a:Nat}{Q:aA->Value->Prop}(hp:PV H0 p ev wv nv)(hb:H0[a]? =some (plB p ev wv nv))(hm:17592186045300<m)(hm2:m<=72057594037927936)(hQ: ∀H',Ext H0 H'->Q H' (.int .u16 (if sF p n=true/\sD (lL p)=false then 0 else 140))):
  ∀(q i k:Nat)(H1:aA),n-i=q->i<=n->q<k->Ext H0 H1->(∀v,v<i->((List.range n).all λw=>(oQ p v w).isSome)=true)-> ∀(x0 x2 x3 x4 x5 x6 x7 x8 x9 bI cA aP aN aL aM aO bC bH bV bG bE aT aU aV aW aX aY aZ bA bB bK bL bM bN bO bP bQ bR bS bT cC cD cE cI cP cR cS cM cN cO cQ cV cT cU cY dD dG dE dH dQ dR dU dV dW dX dY dZ eA:Value),
  ∃H' r,aH k (aI prog (lvl prog bY m) (aH m) Kc) (C7 (lvl prog bY m) (aH m)) [x0,(.pointer (some ⟨a,0,none⟩)),x2,x3,x4,x5,x6,x7,x8,x9,bI,cA,aP,aN,aL,aM,(.int .i64 n),(.int .i64 (i:Nat)),aO,bC,bH,bV,bG,bE,aT,aU,aV,aW,aX,aY,aZ,bA,bB,bK,bL,bM,bN,bO,bP,bQ,bR,bS,bT,cC,cD,cE,cI,cP,cR,cS,cM,cN,cO,cQ,cV,cT,cU,cY,dD,dG,dE,dH,dQ,dR,dU,dV,dW,dX,dY,dZ,eA] H1=some (r,H')/\Q H' r:=by
 intro q;have h6:=hk.h6;induction q with
 |zero=>
  intro i k H1 hr hi hk2 he hpre;intros;obtain⟨k,rfl⟩: ∃n,k=n+1:=⟨k-1,by omega⟩
  have e:decide ((i:Int)<(n:Int))=false:=decide_eq_false (by omega)
  have hall:sF p n=true:=by
   unfold sF;rw[aNe];intro v hv;exact hpre v (by have:=aNd.mp hv;omega)
  rw[dS,Tv];simp -implicitDefEqProofs only[gsR,e];rw[aFV];refine Exists.imp (λH' h=>⟨_,h.1,?_⟩) (aGv hk (hp.ext he) (fC hb he) hm hm2 ..)
  have:=hQ H' (he.tr h.2);rw[hall] at this;cases hc:sD (lL p) with
  |true=>rw[hc] at this;simpa using this
  |false=>rw[hc] at this;simpa using this
 |succ q ih=>
  intro i k H1 hr hi hk2 he hpre;intros;obtain⟨k,rfl⟩: ∃n,k=n+1:=⟨k-1,by omega⟩
  have e:decide ((i:Int)<(n:Int))=true:=decide_eq_true (by omega)
  have b1:=fC hb he;have l0:=eE b1 0 _ rfl;rw[hk.hn] at l0;have hrr: ∀v:Nat,((List.range' 0 n).all λw=>(oQ p v w).isSome)=((List.range n).all λw=>(oQ p v w).isSome):=λv=>by rw[List.range_eq_range']
  rw[dS,Tv];simp -implicitDefEqProofs only[gsR,e,l0];refine aGx hk (v:=i) (by omega) (hp.ext he) b1 (Q:=Q) (by omega) hm2 n 0 m H1 (by omega) (by omega) (by omega) (Fr.mZ _ _) (λH' hx hall=> ?_) (λH' hx hall=> ?_) ..
  ·rw[hrr] at hall
   intros;simp -implicitDefEqProofs only[gsR];refine ih (i+1) k H' (by omega) (by omega) (by omega) (he.tr hx) (λv hv=> ?_) ..
   by_cases hvi:v=i
   ·rw[hvi];exact hall
   ·exact hpre v (by omega)
  ·rw[hrr] at hall
   intros;simp -implicitDefEqProofs only[gsR];rw[aFZ];refine⟨H',_,rfl,?_⟩;have hno:sF p n=false:=by
    rw[<-Bool.not_eq_true];unfold sF;rw[aNe];intro hh;rw[hh i (aNd.mpr (by omega))] at hall
    cases hall
   have:=hQ H' (he.tr hx);rw[hno] at this;simpa using this
theorem Um (hp:PV H p ev wv nv)(hm:17592186045400<m)(hm2:m<=72057594037927936):
  ∃H',lvl prog bY m (.func 85) [plV p ev wv nv] H=some (.int .u16 (lX p),H')/\Ext H H':=by
 obtain⟨H0,hH0⟩: ∃H0,H0=H++[plB p ev wv nv]:=⟨_,rfl⟩;have x0:Ext H H0:=by rw[hH0];exact Fr.app _ _ _
 have b0:H0[H.length]? =some (plB p ev wv nv):=by rw[hH0];exact fQ _ _
 have p0:=hp.ext x0;have l11:=kD b0;obtain⟨H1,g1,x1⟩:=Ss p0 (m:=m-1) (by omega) (by omega)
 have b1:=fC b0 x1;have p1:=p0.ext x1;have main: ∃H' r,lvl prog bY m (.func 85) [plV p ev wv nv] H=some (r,H')/\(r= .int .u16 (lX p)/\Ext H H'):=by
  refine iK (Q:=λH' r=>r= .int .u16 (lX p)/\Ext H H') (fR rfl rfl) (by omega) ?_
  rw[aFY];cases hc:lF p with
  |false=>
   rw[hc] at g1;have en:(uC false !=0)=true:=rfl;have e:lX p=uC false:=by unfold lX;rw[if_neg (by simp[hc])];rfl
   simp -implicitDefEqProofs only[gsR,kL,<-hH0,l11,g1,en]
   exact⟨H1,_,rfl,by rw[e],x0.tr x1⟩
  |true=>
   rw[hc] at g1;have en:(uC true !=0)=false:=rfl;obtain⟨n,hk⟩:=Db hc;have h6:=hk.h6;have l0:=eE b1 0 _ rfl;rw[hk.hn] at l0;simp -implicitDefEqProofs only[gsR,kL,<-hH0,l11,g1,en,l0];refine aGw hk (Q:=λH' r=>r= .int .u16 (lX p)/\Ext H H') p1 b1 (m:=m-1) (by omega) (by omega) (λH' hx=>⟨?_,(x0.tr x1).tr hx⟩) n 0 (m-1) H1 (by omega) (by omega) (by omega) (Fr.mZ _ _) (λv hv=>absurd hv (by omega)) ..
   congr 1
   unfold lX Kq;have hq:p.nodes.toNat=n:=by rw[hk.hn];rfl
   rw[if_pos hc,hc,hq];cases sD (lL p)<;>cases sF p n<;>simp
 obtain⟨H',r,h1,rfl,h2⟩:=main
 exact⟨H',h1,h2⟩
end
theorem Di {a:Int}(h:(Lit.int .u8 a).wf=true): ∃n:Nat,a=n/\n<256:=by
 have:=aBS h
 exact⟨a.toNat,by omega,by omega⟩
def Aa (r:List Value):Nat:=match r with
 |[.int _ i]=>i.toNat
 |_=>0
theorem Us.aGF {G:aA}{n:Nat}{u:Value}(h:Rp prog G n 22 [u]): ∃next,Us G u next/\(∀x∈next,x<256)/\next.length<=72057594037927936:=by
 obtain⟨m,u',b,rows,h1,h2,h3,h4,h5⟩:=h.aBO (e:=5) (by kernel_rfl)
 cases h1;have hc:prog.cellsOf 5=1:=by kernel_rfl
 have hb:prog.bytesOf 5=1:=by kernel_rfl
 rw[hc] at h2;rw[hb] at h3;have hr: ∀r∈rows,u8C (Aa r)=r/\Aa r<256:=λr hr=>by
  obtain⟨i,hi,hw⟩:=(h5 r hr).2.y8 (k:= .u8) (by kernel_rfl)
  obtain⟨k,rfl,hk⟩:=Di hw;subst hi
  exact⟨rfl,by simpa[Aa] using hk⟩
 have hm:(rows.map Aa).map u8C=rows:=by
  rw[List.map_map]
  conv=>rhs;rw[<-List.map_id rows]
  exact List.map_congr_left λr hr'=>(hr r hr').1
 refine⟨rows.map Aa,?_,λx hx=> ?_,?_⟩
 ·rw[<-hm] at h2
  rcases h4 with rfl|⟨c,rfl⟩
  ·have h0:rows=[]:=by
    have:=h2.len;have hl:bJ (Value.slice none 0 0)=some (.int .i64 0):=rfl;rw[hl,hm] at this;simp at this;exact aMR.mp (by omega)
   subst h0;exact .inl ⟨rfl,rfl⟩
  ·exact h2.rs Jj (c:=c) (.inr (by rw[aMN]))
 ·obtain⟨r,hr1,rfl⟩:=aNc.mp hx
  exact(hr r hr1).2
 ·have:reachBytes=140737488351232:=rfl
  rw[aMN];omega
section
variable {H H0 : aA} {m : Nat} {p : PlanD} {ev wv nv : Value}
def tab (n:Nat)(F:Nat->Nat->Int):List (List Int):=(List.range n).map λv=>(List.range n).map (F v)
theorem aGG (n:Nat)(F:Nat->Nat->Int):(tab n F).length=n:=by simp[tab]
variable {a : Nat}
end
def cpP (n:Nat)(E:List Ed)(N:List (List Int)):PlanD:=⟨n,E,1,1,1,1,1,1,[1],0,N⟩
theorem Uo {p:PlanD}{n:Nat}{E:List Ed}{N:List (List Int)}(h1:p.nodes=(n:Int))(h2:p.edges=E)(h3:p.next=N)(w:Int): ∀(q:Nat)(l:List Int)(v:Int),vV p w q l v=vV (cpP n E N) w q l v
 |0,_,_=>rfl
 |q+1,l,v=>by
  have e:nx p v w=nx (cpP n E N) v w:=by unfold nx cpP;rw[h3]
  unfold vV;rw[e,h1,h2,Uo h1 h2 h3 w q];rfl
theorem aGH {p:PlanD}{n:Nat}{E:List Ed}{N:List (List Int)}(h:lF p=true)(hc:lF (cpP n E N)=true)(h1:p.nodes=(n:Int))(h2:p.edges=E)(h3:p.next=N):
  (∀v w,oQ p v w=oQ (cpP n E N) v w)/\(∀v w,uG p v w=uG (cpP n E N) v w)/\lL p=lL (cpP n E N)/\lX p=lX (cpP n E N):=by
 have a1: ∀v w,oQ p v w=oQ (cpP n E N) v w:=λv w=>by
  unfold oQ;rw[Uo h1 h2 h3,h1];rfl
 have a2: ∀v w,uG p v w=uG (cpP n E N) v w:=λv w=>by
  unfold uG;rw[a1,h,hc,h1];rfl
 have e: ∀v w,nx p v w=nx (cpP n E N) v w:=λv w=>by unfold nx cpP;rw[h3]
 have e2: ∀a b,wt p n a b=wt (cpP n E N) n a b:=λa b=>by
  unfold wt
  congr 1
  funext w
  unfold Dd;rw[e,e]
 have e3:kM p=kM (cpP n E N):=by
  unfold kM lW;rw[h1,h2];rfl
 have a3:lL p=lL (cpP n E N):=by
  unfold lL;rw[h,hc,e3,h1];simp only[if_true];refine List.map_congr_left λa _=> ?_
  show nD p n _ a=nD (cpP n E N) n _ a
  unfold nD;simp only[e2]
 refine⟨a1,a2,a3,?_⟩;unfold lX Kq;rw[a3,h,hc,h1];have: ∀m,sF p m=sF (cpP n E N) m:=λm=>by
  unfold sF;simp only[a1]
 rw[this];rfl
section
variable {H : aA} {m : Nat} {p : PlanD} {ev wv nv : Value}
end
end Go.Proofs.YtmimdleeihjdoaaGreatDoor
