/-
  PARTS OF THIS CLAIM'S PROOF, laid together by a program of mine.
-/
import Derived.Test.YtmimdleeihjdoaaGreatDoorProg
import Derived.Ground.NamesProg
import Derived.Shelf.Sort.Plain
import Derived.Shelf.Slices.In.SortNone
import Derived.Test.YtmimdleeihjdoaaGreatDoorAbsM2
import Derived.Test.YtmimdleeihjdoaaGreatDoorAbsM1
import Derived.Calls
import Derived.LoopN
import Derived.Orders
import Derived.Laws.Sem
import Derived.Laws.Tables
import Derived.Laws.Cells
import Derived.Laws.StructEq
import Derived.Laws.Append
import Derived.Laws.MakeOwn
import Derived.Laws.Slices
import Derived.Lib.UnsafeStr
import Derived.Laws.BytesString
import Derived.Laws.BytesArg
import Derived.Laws.Pointers
import Derived.Lib.SliceRun
import Derived.Laws.Cover3
import Derived.MapKept
import Derived.WideKeyRuns
import Derived.Scope
import Derived.ProofKit
import Derived.RowKit
import Derived.RowKit3
import Derived.ChangeSame
import Derived.OpenShut
import Derived.Deep.Slices
import Derived.SizedLaws
import Derived.Test.YtmimdleeihjdoaaGreatDoorAbsM3
import Derived.KernelRfl
import Derived.Sort.Grow
import Derived.RangeFuncNested
import Derived.RangeFuncBound
import Derived.RangeFuncCalls
import Derived.RangeFuncLeaves
import Derived.Shelf.Abstract
import Derived.Shelf.RegionOpen
import Derived.WalkKit
import Derived.OwnWalkIn
import Derived.TacticsInMore
import Derived.LoopNIn
import Derived.LoopIn
import Derived.Lib.TrailingZeros
import Derived.Tactics
import Derived.Tactics2
set_option linter.unusedVariables false
set_option linter.unusedSimpArgs false
set_option linter.unusedSectionVars false
namespace Go.Proofs.YtmimdleeihjdoaaGreatDoor
open Go.Proofs.Tryz
open Go.Shelf
def Tryz.aFB:Go.Shelf.Ren:=⟨λ|189=>169|125=>232|257=>231|128=>269|129=>270|294=>260|295=>261|296=>262|297=>263|298=>264|299=>265|216=>266|300=>267|301=>268|328=>278|329=>279|330=>280|331=>281|332=>282|215=>283|343=>284|n=>n,λ|28=>37|3=>3|46=>187|0=>0|51=>29|53=>83|4=>4|183=>355|182=>354|131=>334|5=>5|9=>9|218=>369|222=>372|228=>375|229=>376|n=>n,λ|n=>n⟩
theorem Tryz.Ur:Go.Proofs.Lays.n189 prog Tryz.aFB:={
 mixed:=by kernel_rfl
 f125:=Tryz.func232.trans (congrArg some (by kernel_rfl))
 f128:=Tryz.func269.trans (congrArg some (by kernel_rfl))
 f129:=Tryz.func270.trans (congrArg some (by kernel_rfl))
 f189:=Tryz.func169.trans (congrArg some (by kernel_rfl))
 f215:=Tryz.func283.trans (congrArg some (by kernel_rfl))
 f216:=Tryz.func266.trans (congrArg some (by kernel_rfl))
 f257:=Tryz.func231.trans (congrArg some (by kernel_rfl))
 f294:=Tryz.func260.trans (congrArg some (by kernel_rfl))
 f295:=Tryz.func261.trans (congrArg some (by kernel_rfl))
 f296:=Tryz.func262.trans (congrArg some (by kernel_rfl))
 f297:=Tryz.func263.trans (congrArg some (by kernel_rfl))
 f298:=Tryz.func264.trans (congrArg some (by kernel_rfl))
 f299:=Tryz.func265.trans (congrArg some (by kernel_rfl))
 f300:=Tryz.func267.trans (congrArg some (by kernel_rfl))
 f301:=Tryz.func268.trans (congrArg some (by kernel_rfl))
 f328:=Tryz.func278.trans (congrArg some (by kernel_rfl))
 f329:=Tryz.func279.trans (congrArg some (by kernel_rfl))
 f330:=Tryz.func280.trans (congrArg some (by kernel_rfl))
 f331:=Tryz.func281.trans (congrArg some (by kernel_rfl))
 f332:=Tryz.func282.trans (congrArg some (by kernel_rfl))
 f343:=Tryz.func284.trans (congrArg some (by kernel_rfl))
 t0:=Tryz.underlying0
 a0:=Tryz.isAgg0
 z0:=Tryz.sizeOf0
 v0:=Tryz.zeroValue0
 t3:=Tryz.underlying3
 a3:=Tryz.isAgg3
 z3:=Tryz.sizeOf3
 v3:=Tryz.zeroValue3
 t4:=Tryz.underlying4
 a4:=Tryz.isAgg4
 z4:=Tryz.sizeOf4
 v4:=Tryz.zeroValue4
 t5:=Tryz.underlying5
 a5:=Tryz.isAgg5
 z5:=Tryz.sizeOf5
 v5:=Tryz.zeroValue5
 t9:=Tryz.underlying9
 a9:=Tryz.isAgg9
 z9:=Tryz.sizeOf9
 v9:=Tryz.zeroValue9
 t28:=Tryz.underlying37
 a28:=Tryz.isAgg37
 z28:=Tryz.sizeOf37
 v28:=Tryz.zeroValue37
 t46:=Tryz.underlying187
 a46:=Tryz.isAgg187
 z46:=Tryz.sizeOf187
 v46:=Tryz.zeroValue187
 t51:=Tryz.underlying29
 a51:=Tryz.isAgg29
 z51:=Tryz.sizeOf29
 v51:=Tryz.zeroValue29
 t53:=Tryz.underlying83
 a53:=Tryz.isAgg83
 z53:=Tryz.sizeOf83
 v53:=Tryz.zeroValue83
 t131:=Tryz.underlying334
 a131:=Tryz.isAgg334
 z131:=Tryz.sizeOf334
 v131:=Tryz.zeroValue334
 t182:=Tryz.underlying354
 a182:=Tryz.isAgg354
 z182:=Tryz.sizeOf354
 v182:=Tryz.zeroValue354
 t183:=Tryz.underlying355
 a183:=Tryz.isAgg355
 z183:=Tryz.sizeOf355
 v183:=Tryz.zeroValue355
 t218:=Tryz.underlying369
 a218:=Tryz.isAgg369
 z218:=Tryz.sizeOf369
 v218:=Tryz.zeroValue369
 t222:=Tryz.underlying372
 a222:=Tryz.isAgg372
 z222:=Tryz.sizeOf372
 v222:=Tryz.zeroValue372
 t228:=Tryz.underlying375
 a228:=Tryz.isAgg375
 z228:=Tryz.sizeOf375
 v228:=Tryz.zeroValue375
 t229:=Tryz.underlying376
 a229:=Tryz.isAgg376
 z229:=Tryz.sizeOf376
 v229:=Tryz.zeroValue376}
end Go.Proofs.YtmimdleeihjdoaaGreatDoor
namespace Go.Abs
theorem gsR:type_of%(And.intro @r_opt (And.intro @r_ret (And.intro @ob_some (And.intro @ifB_true (And.intro @iteV_true (And.intro @iteV_false (And.intro @r_gdt (And.intro @r_gdt2 (And.intro @r_gdtf (And.intro @r_gdtf2 (And.intro @r_gdff (And.intro @r_gdff2 (And.intro @r_gdft (And.intro @r_gdft2 (And.intro @r_gdu (And.intro @r_gdu2 (And.intro @pick_t (And.intro @pick_f (And.intro @ext_0 (And.intro @ext_1 (And.intro @x_newB (And.intro @r_nil (And.intro @r_fAddr (And.intro @Nat.zero_add (And.intro @b_lss (And.intro @b_leq (And.intro @b_gtr (And.intro @b_geq (And.intro @b_eql (And.intro @b_neq (And.intro @u_not (And.intro @Bool.not_true (And.intro @Bool.not_false (And.intro @oneOf_one (And.intro @oneOf_two (And.intro @again_normal (And.intro @again_exit (And.intro @again_ret @Bool.and_true)))))))))))))))))))))))))))))))))))))):=And.intro @r_opt (And.intro @r_ret (And.intro @ob_some (And.intro @ifB_true (And.intro @iteV_true (And.intro @iteV_false (And.intro @r_gdt (And.intro @r_gdt2 (And.intro @r_gdtf (And.intro @r_gdtf2 (And.intro @r_gdff (And.intro @r_gdff2 (And.intro @r_gdft (And.intro @r_gdft2 (And.intro @r_gdu (And.intro @r_gdu2 (And.intro @pick_t (And.intro @pick_f (And.intro @ext_0 (And.intro @ext_1 (And.intro @x_newB (And.intro @r_nil (And.intro @r_fAddr (And.intro @Nat.zero_add (And.intro @b_lss (And.intro @b_leq (And.intro @b_gtr (And.intro @b_geq (And.intro @b_eql (And.intro @b_neq (And.intro @u_not (And.intro @Bool.not_true (And.intro @Bool.not_false (And.intro @oneOf_one (And.intro @oneOf_two (And.intro @again_normal (And.intro @again_exit (And.intro @again_ret @Bool.and_true)))))))))))))))))))))))))))))))))))))
end Go.Abs
set_option maxRecDepth 100000
namespace Go.Proofs.YtmimdleeihjdoaaGreatDoor
open Go.Proofs.Tryz
open Go.Abs
theorem aFD:SortOk prog 169:=⟨enters_of Tryz.func169 (by kernel_rfl) rfl,Any.slices_Sort_int_none Tryz.Ur,Any.slices_Sort_int Tryz.Ur⟩
theorem Kj:prog.follows .mixedOrders=true:=by kernel_rfl
theorem aFC:PrimsOk prog (sH []):=aCQ Kj λg hg=>by simp at hg
theorem aFE:PrimsOk prog (p8 [] 169):=aDn aFC aFD
abbrev pkN:iM:=p9 182 sT (p9 180 (tN 23) (p8 [] 169))
abbrev cD:iM:=pkN
theorem rR:FrP pkN:=Ts aEs (Ts (aEt _) (aEd _ _))
theorem iC {k:FuncId}(h:((k==182)||(k==180))=false)(h2:(k==169)=false):pkN (.func k)=none:=by
 rw[Bool.or_eq_false_iff] at h;rw[pkN,A8 h.1,A8 h.2];exact aDm h2 rfl
theorem cJ {k:FuncId}(h:((k==182)||(k==180)||(k==169))=false):pkN (.func k)=none:=by
 rw[Bool.or_eq_false_iff] at h;exact iC h.1 h.2
theorem Ut (n:Nat)(hn:0<n)(args:List Value)(H:aC):lvl prog cD n (.func 169) args H=qS args H:=
 Je (((A8 rfl).trans (A8 rfl)).trans aDo) hn args H
theorem Kk (n:Nat)(hn:0<n)(args:List Value)(H:aC):lvl prog pkN n (.func 182) args H=sT args H:=Je Tw hn args H
theorem aFF (n:Nat)(hn:0<n)(args:List Value)(H:aC):lvl prog pkN n (.func 180) args H=tN 23 args H:=Je ((A8 rfl).trans Tw) hn args H
end Go.Proofs.YtmimdleeihjdoaaGreatDoor
namespace Go.Proofs.YtmimdleeihjdoaaGreatDoor
open Go.Proofs.Tryz
open Go Go.RowKit Go.Abs
theorem aFJ:Hf prog=some 0:=by kernel_rfl
theorem aFK:vR=Lib.deBruijn32tab.map Int.ofNat:=by decide+kernel
theorem Uv {w:World}(h:Ag prog w):TabC w:=by
 obtain⟨cs,e,r,h1,h2⟩:=h 0 aFJ;intro j hj;unfold World.cell?;rw[h1];show cs[j]? =_
 rw[<-Array.getElem?_toList,h2,aFK,List.map_map,aOj];have hl:Lib.deBruijn32tab.length=32:=by decide+kernel
 rw[aN8 (by omega),aOa,aN8 (by omega)]
 rfl
theorem aFG {args:List Value}{H H':aC}{v:Value}(h:sT args H=some (v,H')):H'=H:=by
 unfold sT at h
 split at h
 ·split at h
  ·cases h
   rfl
  ·cases h
 ·cases h
theorem aFL {t:TypeId}{args:List Value}{H H':aC}{v:Value}(h:tN t args H=some (v,H')):H.length<=H'.length:=by
 unfold tN at h
 split at h
 ·split at h
  ·split at h
   ·split at h
    ·split at h
     ·cases h
      simp
     ·cases h
    ·cases h
   ·cases h
  ·cases h
 ·cases h
theorem aFH {args:List Value}{H H':aC}{v:Value}(h:sT args H=some (v,H')){ρ:Ren}{w:World}{args':List Value}(hr:Rel prog ρ (dF H) w)(ha:Vrs ρ args args'):
  vV prog (.func 182) args'.toArray w (Post prog ρ H w v H'):=by
 have he:(callFunc 182 args'.toArray).run prog w= .ok (.enter 182 args'.toArray) w:=enters_of Tryz.func182 (by kernel_rfl) rfl _ _
 refine⟨he,?_⟩;unfold sT at h
 split at h
 ·rename_i m fr n
  split at h
  ·rename_i hm
   cases h;obtain⟨hl,h1⟩:=ha
   match args',hl with
   |[a',b',c'],_=>
    obtain rfl:=(h1 0 _ a' rfl rfl).kY rfl
    obtain rfl:=(h1 1 _ b' rfl rfl).kY rfl
    obtain rfl:=(h1 2 _ c' rfl rfl).kY rfl
    exact(aEA m fr n hm.1 hm.2 w (Uv hr.G9)).mono λe w' ⟨h2,hB⟩=>⟨_,h2,ρ,.oP rfl,Step.Rh hr hB.size (λc hc=>hB.block c hc) hB.os hB.tape hB.output⟩
  ·cases h
 ·cases h
theorem aFI (rows:List Nat)(n:Nat):(kD (λk=>dB (λi=>(rows.getD i 0).testBit k) rows.length) n).toList=(jY rows n).map λz:Nat=>Value.int .u16 (z:Int):=by
 unfold kD jY;rw[List.map_map];rfl
theorem aFM {args:List Value}{H H':aC}{v:Value}(h:tN 23 args H=some (v,H')){ρ:Ren}{w:World}{args':List Value}(hr:Rel prog ρ (dF H) w)(ha:Vrs ρ args args')
  (hfree: ∀b,H.length<=b->b<H'.length->ρ b=none):vV prog (.func 180) args'.toArray w (Post prog ρ H w v H'):=by
 have he:(callFunc 180 args'.toArray).run prog w= .ok (.enter 180 args'.toArray) w:=enters_of Tryz.func180 (by kernel_rfl) rfl _ _
 refine⟨he,?_⟩;unfold tN at h
 split at h
 ·rename_i b o len cap n
  try dsimp only at h
  split at h
  ·rename_i hc
   try dsimp only at h
   split at h
   ·rename_i cs e k hb
    try dsimp only at h
    split at h
    ·rename_i hlen
     try dsimp only at h
     split at h
     ·rename_i rows hrows
      cases h;obtain⟨hl,h1⟩:=ha
      match args',hl with
      |[a',b'],_=>
       obtain rfl:=(h1 1 _ b' rfl rfl).kY rfl
       have hv:=h1 0 _ a' rfl rfl;cases hv with
       |same hls=>simp[fL] at hls
       |slice0=>omega
       | @slice _ _ _ _ cap' pl hpl hn hcc hroom=>
        obtain⟨ccs,ce,lo,hi,ho,hcv,_,_,_⟩:=hr.blk b pl _ hpl hb;obtain⟨hz,h16⟩:=Tv _ _ hrows;have hzl:rows.length=len:=by
         have:=congrArg List.length hz;simp at this;omega
        obtain⟨n',rfl⟩: ∃n':Nat,n=n':=⟨n.toNat,by omega⟩
        have hin: ∀i,i<len->w.cell? ⟨pl.c,pl.base+o+i,none⟩=some (.int .u16 (rows.getD i 0:Nat)):=by
         intro i hi;have hzi:rows[i]? =some rows[i]:=aN8 (by omega)
         have h2:cs[o+i]? =some (.int .u16 (rows[i]:Nat)):=by
          have:=congrArg (·[i]?) hz
          simp only[List.getElem?_take,List.getElem?_drop,aOj,hzi,if_pos hi,Option.map_some] at this;exact this
         obtain⟨v',h3,h4⟩:=hcv (o+i) _ h2;have h5:=h4.kY rfl;subst h5;rw[Aj ho,aOa,hzi,Nat.add_assoc];exact h3
        have hcall:=(callsIn_wide (n:=6)).1 (aEU pl.c (pl.base+o) len cap' n' (by omega) (by omega) (by omega) (by omega) (by omega) w (Uv hr.G9) rows hzl h16 (hr.lt b pl hpl) hin)
        refine hcall.mono λe w' ⟨h2,hB,hrow⟩=>⟨_,h2,ρ.upd H.length ⟨w.heap.size,0,some (1,n')⟩,?_,?_⟩
        ·have:=Vr.slice (ρ:=ρ.upd H.length ⟨w.heap.size,0,some (1,n')⟩) (o:=0) (n:=n') (cap:=n') (cap':=n') (Ren.oQ _ _ _) (aOb _) (aOb _) (by
          intro e' T hT;simp only[aOy,Prod.mk.injEq] at hT;obtain⟨rfl,rfl⟩:=hT;simp)
         simpa using this
        ·have hlt:w.heap.size<w'.heap.size:=(aOw.mp hrow).1
         have hcell:prog.cellsOf 23=1:=by kernel_rfl
         refine Step.Hi hr (hfree _ (aOb _) (by simp)) (aOb _) hB.size hlt (λc hc=>hB.block c hc) ?_ (by simp) hB.os hB.tape hB.output
         refine⟨_,_,0,0,hrow,λi v hi=> ?_,λ_ off _=>by omega,λ_=> ?_,λhk=>absurd rfl hk⟩
         ·refine⟨v,?_,?_⟩
          ·rw[<-hi,aOz,<-aFI,<-hzl,Array.getElem?_toList]
           simp
          ·rw[aOj] at hi
           cases hx:(jY rows (n':Int).toNat)[i]? with
           |none=>rw[hx] at hi;cases hi
           |some z=>
            rw[hx] at hi;cases hi;exact .oP rfl
         ·show some (1,n')=some (prog.cellsOf 23,_)
          rw[hcell,T7]
     ·cases h
    ·cases h
   ·cases h
  ·cases h
 ·cases h
theorem Uw {P:Program}{g:FuncId}{p:List Value->aC->Option (Value×aC)}{pr:iM}(h:PrimsOk P pr)(hm: ∀args H v H',p args H=some (v,H')->H.length<=H'.length)
  (hs: ∀args H v H',p args H=some (v,H')-> ∀ρ w args',Rel P ρ (dF H) w->Vrs ρ args args'->(∀b,H.length<=b->b<H'.length->ρ b=none)->vV P (.func g) args'.toArray w (Post P ρ H w v H')):PrimsOk P (p9 g p pr):=by
 constructor
 ·intro f q hf args H v H' hp
  cases f with
  |func k=>
   by_cases hk:k=g
   ·simp only[p9,if_pos hk] at hf
    cases hf;exact hm _ _ _ _ hp
   ·simp only[p9,if_neg hk] at hf
    exact h.mono _ _ hf _ _ _ _ hp
  |_=>cases hf
 ·intro f q hf args H v H' hp ρ w args' hr ha hfree
  cases f with
  |func k=>
   by_cases hk:k=g
   ·simp only[p9,if_pos hk] at hf
    cases hf;subst hk;exact hs _ _ _ _ hp _ _ _ hr ha hfree
   ·simp only[p9,if_neg hk] at hf
    exact h.sound _ _ hf _ _ _ _ hp _ _ _ hr ha hfree
  |_=>cases hf
theorem Uu:PrimsOk prog pkN:=
 Uw (Uw aFE (λ_ _ _ _ h=>aFL h) λ_ _ _ _ h _ _ _ hr ha hf=>aFM h hr ha hf) (λ_ _ _ _ h=>by rw[aFG h];exact aOb _) λ_ _ _ _ h _ _ _ hr ha _=>aFH h hr ha
end Go.Proofs.YtmimdleeihjdoaaGreatDoor
namespace Go.Proofs.YtmimdleeihjdoaaGreatDoor
open Go.Proofs.Tryz
open Go.Abs
theorem szI:prog.cellsOf 3=1:=by kernel_rfl
theorem aFV:prog.cellsOf 67=2:=by kernel_rfl
abbrev Ed:=Int×Int
def edC (e:Ed):List Value:=[.int .i64 e.1,.int .i64 e.2]
theorem sU (e:Ed):(edC e).length=2:=rfl
theorem Kl (e:Ed):dR (edC e)=true:=rfl
def edV (e:Ed):Value:= .agg ⟨edC e⟩
abbrev Is (H:aC)(v:Value)(xs:List Int):=Rs inC 3 H v xs
abbrev Iw (H:aC)(v:Value)(xs:List Int):=Rw inC 3 1 H v xs
abbrev Es (H:aC)(v:Value)(xs:List Ed):=Rs edC 67 H v xs
abbrev Ew (H:aC)(v:Value)(xs:List Ed):=Rw edC 67 2 H v xs
def vC (u:Value):List Value:=[u]
theorem aFW (u:Value):(vC u).length=1:=rfl
def Rows (H:aC)(v:Value)(xss:List (List Int)):Prop:= ∃us,Rs vC 37 H v us/\us.length=xss.length/\ ∀(i:Nat)(u:Value)(xs:List Int),us[i]? =some u->xss[i]? =some xs->Is H u xs
theorem Rows.ext {H H':aC}{v:Value}{xss:List (List Int)}(h:Rows H v xss)(he:Ext H H'):Rows H' v xss:=by
 obtain⟨us,h1,h2,h3⟩:=h
 exact⟨us,h1.ext he,h2,λi u xs hu hx=>(h3 i u xs hu hx).ext he⟩
theorem Rows.Ux {H:aC}{v:Value}{xss:List (List Int)}(h:Rows H v xss):bX v=some (.int .i64 xss.length):=by
 obtain⟨us,h1,h2,h3⟩:=h;rw[h1.kC,h2]
theorem Rows.D6 {H:aC}{v:Value}{xss:List (List Int)}(h:Rows H v xss){i:Nat}{xs:List Int}(hx:xss[i]? =some xs)(k:IntKind): ∃p u,bH 1 v (.int k i)=some p/\ld1 p H=some (u,H)/\Is H u xs:=by
 obtain⟨us,h1,h2,h3⟩:=h;have hi:=(aN6.mp hx).1;have hu:us[i]? =some us[i]:=aN8 (by omega)
 obtain⟨b,o,g1,g2,g3⟩:=h1.iS aFW hu k;have:=(g3 H rfl).2.1 0 us[i] rfl
 exact⟨_,_,g1,this,h3 i _ _ hu hx⟩
structure PlanD where
 nodes:Int
 edges:List Ed
 lanes:Int
 room:Int
 queue:Int
 rounds:Int
 every:Int
 bag:Int
 weights:List Int
 start:Int
 next:List (List Int)
def plC (p:PlanD)(ev wv nv:Value):List Value:=[.int .i64 p.nodes,ev,.int .i64 p.lanes,.int .i64 p.room,.int .i64 p.queue,.int .i64 p.rounds,.int .i64 p.every,.int .i64 p.bag,wv,.int .u16 p.start,nv]
def plV (p:PlanD)(ev wv nv:Value):Value:= .agg ⟨plC p ev wv nv⟩
def plB (p:PlanD)(ev wv nv:Value):Blk:= .cells (plC p ev wv nv) 40 .fix
structure PV (H:aC)(p:PlanD)(ev wv nv:Value):Prop where
 e:Es H ev p.edges
 w:Is H wv p.weights
 n:Rows H nv p.next
 be:p.edges.length<=17592186043000
 bw:p.weights.length<=17592186044500
 bn:p.next.length<=17592186043000
theorem PV.ext {H H':aC}{p:PlanD}{ev wv nv:Value}(h:PV H p ev wv nv)(he:Ext H H'):PV H' p ev wv nv:=⟨h.e.ext he,h.w.ext he,h.n.ext he,h.be,h.bw,h.bn⟩
theorem lG (p:PlanD)(ev wv nv:Value):Blk.cells (plV p ev wv nv).cells.toList 40 .fix=plB p ev wv nv:=rfl
theorem eG {H:aC}{b:Nat}{p:PlanD}{ev wv nv:Value}(h:H[b]? =some (plB p ev wv nv))(j:Nat)(v:Value)(hv:(plC p ev wv nv)[j]? =some v):ld1 (.pointer (some ⟨b,j,none⟩)) H=some (v,H):=by
 rw[kO,h];unfold plB;rw[tI,hv,wB]
theorem kP {H:aC}{b:Nat}{p:PlanD}{ev wv nv:Value}(h:H[b]? =some (plB p ev wv nv)):ldN 11 (.pointer (some ⟨b,0,none⟩)) H=some (plV p ev wv nv,H):=by
 rw[rO,h];unfold plB;rw[sI _ _ _ _ _ (by simp[plC])]
 rfl
theorem hP (H:aC)(x:Blk):(H++[x])[H.length]? =some x:=by simp
theorem fN {H H':aC}{b:Nat}{x:Blk}(h:H[b]? =some x)(he:Ext H H'):H'[b]? =some x:=by
 rw[he.2 b (aN6.mp h).1 id,h]
def wi (x lo hi:Int):Bool:=decide (lo<=x)&&decide (x<=hi)
def uU (p:PlanD):Bool:=wi p.nodes 2 6&&(wi p.lanes 1 3&&(wi p.room 1 8&&(wi p.queue 1 8&&(wi p.rounds 1 4&&(wi p.every 1 8&&wi p.bag 1 64)))))
section
variable {H : aC} {m : Nat} {p : PlanD} {ev wv nv : Value}
theorem U0 (hm:0<m)(x lo hi:Int)(H:aC):lvl prog cD m (.func 216) [.int .i64 x,.int .i64 lo,.int .i64 hi] H=some (.bool (wi x lo hi),H):=by
 refine dA (iC rfl rfl) hm ?_;rw[aE6];unfold wi;by_cases h:lo<=x
 ·simp -implicitDefEqProofs only[gsR,h,decide_true,aOu]
 ·simp -implicitDefEqProofs only[gsR,h,decide_false,Bool.false_and]
theorem aFU (hm:1<m)(p:PlanD)(ev wv nv:Value):lvl prog cD m (.func 225) [plV p ev wv nv] H=some (.bool (uU p),H++[plB p ev wv nv]):=by
 refine dA (iC rfl rfl) (by omega) ?_
 have w:=λx lo hi H=>U0 (m:=m-1) (by omega) x lo hi H
 have hb:=hP H (plB p ev wv nv);have l0:=eG hb 0 _ rfl;have l2:=eG hb 2 _ rfl;have l3:=eG hb 3 _ rfl;have l4:=eG hb 4 _ rfl;have l5:=eG hb 5 _ rfl;have l6:=eG hb 6 _ rfl;have l7:=eG hb 7 _ rfl;rw[aFb];unfold uU;cases c1:wi p.nodes 2 6 with
 |false=>simp -implicitDefEqProofs only[gsR,lG,w,l0,l2,l3,l4,l5,l6,c1,Bool.false_and,aOu]
 |true=>
   cases c2:wi p.lanes 1 3 with
   |false=>simp -implicitDefEqProofs only[gsR,lG,w,l0,l2,l3,l4,l5,l6,c1,c2,Bool.false_and,aOu]
   |true=>
     cases c3:wi p.room 1 8 with
     |false=>simp -implicitDefEqProofs only[gsR,lG,w,l0,l2,l3,l4,l5,l6,c1,c2,c3,Bool.false_and,aOu]
     |true=>
       cases c4:wi p.queue 1 8 with
       |false=>simp -implicitDefEqProofs only[gsR,lG,w,l0,l2,l3,l4,l5,l6,c1,c2,c3,c4,Bool.false_and,aOu]
       |true=>
         cases c5:wi p.rounds 1 4 with
         |false=>simp -implicitDefEqProofs only[gsR,lG,w,l0,l2,l3,l4,l5,l6,c1,c2,c3,c4,c5,Bool.false_and,aOu]
         |true=>
           cases c6:wi p.every 1 8 with
           |false=>simp -implicitDefEqProofs only[gsR,lG,w,l0,l2,l3,l4,l5,l6,c1,c2,c3,c4,c5,c6,Bool.false_and,aOu]
           |true=>
             simp -implicitDefEqProofs only[gsR,lG,w,l0,l2,l3,l4,l5,l6,l7,c1,c2,c3,c4,c5,c6,aOu]
def fst (p:Nat->Bool):Nat->Nat->Int
 |0,_=> -1
 |q+1,i=>if p i=true then i else fst p q (i+1)
theorem Km (p:Nat->Bool): ∀q i,(0<=fst p q i)↔ ∃j,i<=j/\j<i+q/\p j=true
 |0,i=>by simp[fst];omega
 |q+1,i=>by
  unfold fst;by_cases h:p i=true
  ·rw[if_pos h]
   exact⟨λ_=>⟨i,by omega,by omega,h⟩,λ_=>by omega⟩
  ·rw[if_neg h,Km p q (i+1)]
   constructor
   ·rintro ⟨j,h1,h2,h3⟩
    exact⟨j,by omega,by omega,h3⟩
   ·rintro ⟨j,h1,h2,h3⟩
    have:j≠i:=λhh=>h (hh▸h3)
    exact⟨j,by omega,by omega,h3⟩
theorem D7 (p:Nat->Bool)(n:Nat):decide (0<=fst p n 0)=(List.range n).any p:=by
 rw[Bool.eq_iff_iff,decide_eq_true_iff,Km,List.any_eq_true];constructor
 ·rintro ⟨j,h1,h2,h3⟩
  exact⟨j,aOL.mpr (by omega),h3⟩
 ·rintro ⟨j,h1,h2⟩
  exact⟨j,by omega,by have:=aOL.mp h1;omega,h2⟩
theorem Bc {α:Type}(xs:List α)(q:α->Bool)(p:Nat->Bool)(h: ∀i x,xs[i]? =some x->p i=q x):(List.range xs.length).any p=xs.any q:=by
 rw[Bool.eq_iff_iff,List.any_eq_true,List.any_eq_true];constructor
 ·rintro ⟨i,h1,h2⟩
  have hi:=aOL.mp h1;have hx:xs[i]? =some xs[i]:=aN8 hi
  exact⟨xs[i],List.getElem_mem hi,by rw[<-h i _ hx];exact h2⟩
 ·rintro ⟨x,h1,h2⟩
  obtain⟨i,hi⟩:=List.getElem?_of_mem h1
  exact⟨i,aOL.mpr (aN6.mp hi).1,by rw[h i x hi];exact h2⟩
theorem aFR {v fv:Value}{n:Nat}(p:Nat->Bool)(hd: ∀i,i<n-> ∃a u,bH 1 v (.int .i64 (i:Nat))=some a/\ld1 a H=some (u,H)/\n9 (lvl prog cD m) fv [u] H=some (.bool (p i),H))(hn:n<=72057594037927936): ∀(q i k:Nat),n-i=q->i<=n->q<k-> ∀(x2 x3 x4 x5 x6 x9 bK bM aR aN aM aP aZ bG aQ:Value),
  aI k (aK prog (lvl prog cD m) (aI m) J1) (Dz (lvl prog cD m) (aI m)) [v,fv,x2,x3,x4,x5,x6,(.int .i64 n),(.int .i64 (i:Nat)),x9,bK,bM,aR,aN,aM,aP,aZ,bG,aQ] H=some (.int .i64 (fst p q i),H):=by
 intro q;induction q with
 |zero=>
  intro i k hr hi hk;intros;obtain⟨k,rfl⟩:=aB k (by omega)
  obtain rfl:i=n:=by omega
  have e:decide ((i:Int)<i)=false:=by simp
  rw[eD,Uf];simp -implicitDefEqProofs only[gsR,e];rw[aFg];rfl
 |succ q ih=>
  intro i k hr hi hk;intros;obtain⟨k,rfl⟩:=aB k (by omega)
  have e:decide ((i:Int)<n)=true:=by simp;omega
  have e3:=aA (i:=i) (by omega)
  obtain⟨a,u,g1,g2,g3⟩:=hd i (by omega)
  rw[eD,Uf];unfold fst;cases h:p i with
  |true=>
   rw[h] at g3;simp -implicitDefEqProofs only[gsR,e,g1,g2,g3,if_true];rw[aFi];rfl
  |false=>
   rw[h] at g3;simp -implicitDefEqProofs only[gsR,e,g1,g2,g3,cI,e3,Bool.false_eq_true,if_false];exact ih (i+1) k (by omega) (by omega) (by omega) ..
theorem Uy {v fv:Value}{n:Nat}(p:Nat->Bool)(hl:bX v=some (.int .i64 n))(hn:n+10<m)(hm:m<=72057594037927936)(hd: ∀i,i<n-> ∃a u,bH 1 v (.int .i64 (i:Nat))=some a/\ld1 a H=some (u,H)/\n9 (lvl prog cD (m-1-1)) fv [u] H=some (.bool (p i),H)):
  lvl prog cD m (.func 167) [v,fv] H=some (.bool ((List.range n).any p),H):=by
 have g:lvl prog cD (m-1) (.func 230) [v,fv] H=some (.int .i64 (fst p n 0),H):=by
  refine dA (iC rfl rfl) (by omega) ?_
  rw[aFh];simp -implicitDefEqProofs only[gsR,hl];exact aFR p hd (by omega) n 0 (m-1-1) (by omega) (by omega) (by omega) ..
 refine dA (iC rfl rfl) (by omega) ?_
 rw[aE0];simp -implicitDefEqProofs only[gsR,g,D7]
theorem aFS {v fv:Value}{n:Nat}(p:Nat->Bool)(hd: ∀i,i<n-> ∃a u,bH 1 v (.int .i64 (i:Nat))=some a/\ld1 a H=some (u,H)/\n9 (lvl prog cD m) fv [u] H=some (.bool (p i),H))(hn:n<=72057594037927936): ∀(q i k:Nat),n-i=q->i<=n->q<k-> ∀(x2 x3 x4 x5 x6 x9 bK bM aR aN aM aP aZ bG aQ:Value),
  aI k (aK prog (lvl prog cD m) (aI m) J2) (D0 (lvl prog cD m) (aI m)) [v,fv,x2,x3,x4,x5,x6,(.int .i64 n),(.int .i64 (i:Nat)),x9,bK,bM,aR,aN,aM,aP,aZ,bG,aQ] H=some (.int .i64 (fst p q i),H):=by
 intro q;induction q with
 |zero=>
  intro i k hr hi hk;intros;obtain⟨k,rfl⟩:=aB k (by omega)
  obtain rfl:i=n:=by omega
  have e:decide ((i:Int)<i)=false:=by simp
  rw[eD,Ug];simp -implicitDefEqProofs only[gsR,e];rw[aFk];rfl
 |succ q ih=>
  intro i k hr hi hk;intros;obtain⟨k,rfl⟩:=aB k (by omega)
  have e:decide ((i:Int)<n)=true:=by simp;omega
  have e3:=aA (i:=i) (by omega)
  obtain⟨a,u,g1,g2,g3⟩:=hd i (by omega)
  rw[eD,Ug];unfold fst;cases h:p i with
  |true=>
   rw[h] at g3;simp -implicitDefEqProofs only[gsR,e,g1,g2,g3,if_true];rw[aFm];rfl
  |false=>
   rw[h] at g3;simp -implicitDefEqProofs only[gsR,e,g1,g2,g3,cI,e3,Bool.false_eq_true,if_false];exact ih (i+1) k (by omega) (by omega) (by omega) ..
theorem aFN {v fv:Value}{n:Nat}(p:Nat->Bool)(hl:bX v=some (.int .i64 n))(hn:n+10<m)(hm:m<=72057594037927936)(hd: ∀i,i<n-> ∃a u,bH 1 v (.int .i64 (i:Nat))=some a/\ld1 a H=some (u,H)/\n9 (lvl prog cD (m-1-1)) fv [u] H=some (.bool (p i),H)):
  lvl prog cD m (.func 227) [v,fv] H=some (.bool ((List.range n).any p),H):=by
 have g:lvl prog cD (m-1) (.func 258) [v,fv] H=some (.int .i64 (fst p n 0),H):=by
  refine dA (iC rfl rfl) (by omega) ?_
  rw[aFl];simp -implicitDefEqProofs only[gsR,hl];exact aFS p hd (by omega) n 0 (m-1-1) (by omega) (by omega) (by omega) ..
 refine dA (iC rfl rfl) (by omega) ?_
 rw[aFe];simp -implicitDefEqProofs only[gsR,g,D7]
theorem Uz (a b:Ed):bin prog .eql 67 (edV a) (edV b)=some (.bool (a==b)):=by
 have k:r8 prog 67=some [true,true]:=by kernel_rfl
 obtain⟨a1,a2⟩:=a;obtain⟨b1,b2⟩:=b;simp[bin,edV,dU,oN,k,eqT,edC];rfl
theorem aFT {v:Value}{xs:List Ed}{a:Nat}{y:Ed}(hx:Es H v xs)(ha:H[a]? =some (.cells (edC y) 67 .fix))(hn:xs.length<=72057594037927936): ∀(q i k:Nat),xs.length-i=q->i<=xs.length->q<k-> ∀(x1 x2 x4 x5 x6 x9 bK bM aR aN aM aP aZ bG aQ:Value),
  aI k (aK prog (lvl prog cD m) (aI m) J4) (D5 (lvl prog cD m) (aI m)) [v,x1,x2,(.pointer (some ⟨a,0,none⟩)),x4,x5,x6,(.int .i64 xs.length),(.int .i64 (i:Nat)),x9,bK,bM,aR,aN,aM,aP,aZ,bG,aQ] H=some (.int .i64 (fst (λj=>xs[j]? ==some y) q i),H):=by
 intro q;have la:ldN 2 (.pointer (some ⟨a,0,none⟩)) H=some (edV y,H):=by
  rw[rO,ha,sI _ _ _ _ _ (by simp[edC])]
  rfl
 induction q with
 |zero=>
  intro i k hr hi hk;intros;obtain⟨k,rfl⟩:=aB k (by omega)
  obtain rfl:i=xs.length:=by omega
  have e:decide ((xs.length:Int)<xs.length)=false:=by simp
  rw[eD,Ui];simp -implicitDefEqProofs only[gsR,e];rw[aFq];rfl
 |succ q ih=>
  intro i k hr hi hk;intros;obtain⟨k,rfl⟩:=aB k (by omega)
  have e:decide ((i:Int)<xs.length)=true:=by simp;omega
  have e3:=aA (i:=i) (by omega)
  have hxi:xs[i]? =some xs[i]:=aN8 (by omega)
  obtain⟨b,o,g1,g2,g3⟩:=hx.iS sU hxi .i64;have l1:ldN 2 (.pointer (some ⟨b,o,none⟩)) H=some (edV xs[i],H):=(g3 H rfl).1;rw[eD,Ui];unfold fst;by_cases h:y=xs[i]
  ·have d:(y==xs[i])=true:=by rw[h];simp
   have d2:(xs[i]? ==some y)=true:=by rw[hxi,h];simp
   simp -implicitDefEqProofs only[gsR,e,la,g1,l1,Uz,d];rw[aFs,if_pos d2];rfl
  ·have d:(y==xs[i])=false:=by simpa using h
   have d2: ¬(xs[i]? ==some y)=true:=by rw[hxi];simpa using λhh=>h hh.symm
   simp -implicitDefEqProofs only[gsR,e,la,g1,l1,Uz,d,cI,e3];rw[if_neg d2];exact ih (i+1) k (by omega) (by omega) (by omega) ..
theorem aFQ {v:Value}{xs:List Ed}(hx:Es H v xs)(y:Ed)(hn:xs.length+10<m)(hm:m<=72057594037927936): ∃H',lvl prog cD m (.func 257) [v,edV y] H=some (.bool (xs.any λx=>x==y),H')/\Ext H H':=by
 have c:Blk.cells (edV y).cells.toList 67 .fix= .cells (edC y) 67 .fix:=rfl;have b0:=hP H (.cells (edC y) 67 .fix);have l0:ldN 2 (.pointer (some ⟨H.length,0,none⟩)) (H++[.cells (edC y) 67 .fix])=some (edV y,H++[.cells (edC y) 67 .fix]):=by
  rw[rO,b0,sI _ _ _ _ _ (by simp[edC])]
  rfl
 obtain⟨H1,hH1⟩: ∃H1,H1=H++[Blk.cells (edC y) 67 .fix]:=⟨_,rfl⟩;have x1:Ext H H1:=by rw[hH1];exact Fr.app _ _ _
 have x2:Ext H (H1++[.cells (edC y) 67 .fix]):=x1.tr (Fr.app _ _ _);have hx2:=hx.ext x2;have hlen:=hx.kC;have g:lvl prog cD (m-1) (.func 277) [v,edV y] H1=some (.int .i64 (fst (λj=>xs[j]? ==some y) xs.length 0),H1++[.cells (edC y) 67 .fix]):=by
  refine dA (iC rfl rfl) (by omega) ?_
  rw[aFr];simp -implicitDefEqProofs only[gsR,c,hlen];exact aFT hx2 (hP H1 _) (by omega) xs.length 0 (m-1-1) (by omega) (by omega) (by omega) ..
 refine⟨_,dA (iC rfl rfl) (by omega) ?_,x2⟩
 rw[aFj];have hb:decide (0<=fst (λj=>xs[j]? ==some y) xs.length 0)=xs.any λx=>x==y:=by
  rw[D7];exact Bc xs _ _ λi x h=>by rw[h];rfl
 rw[<-hH1] at l0;simp -implicitDefEqProofs only[gsR,c,<-hH1,l0,g,hb]
def tO (n:Int):List Ed->List Ed->Bool
 |_,[]=>true
 |old,e::r=>(!(decide (e.1<0)||(decide (e.2<=e.1)||(decide (n<=e.2)||old.any λx=>x==e))))&&tO n (old++[e]) r
def wN (p:PlanD):Bool:=tO p.nodes [] p.edges&&decide ((p.edges.length:Int)<=15)
theorem aFP {a:Nat}(hx:Es H ev p.edges)(hn:p.edges.length+20<m)(hm:m<=72057594037927936): ∀(q i k:Nat)(H':aC),p.edges.length-i=q->i<=p.edges.length->q<k->Ext H H'->H'[a]? =some (plB p ev wv nv)-> ∀(x0 x3 x4 x5 x9 bK bM aR aN aM aP aZ bG aQ bC bJ bL bI bE aS aT aU aV aW aX aY bA bB bN bO bP bQ bR bS bT bU bV bY:Value),
  ∃H2,aI k (aK prog (lvl prog cD m) (aI m) J0) (Dx (lvl prog cD m) (aI m)) [x0,(.pointer (some ⟨a,0,none⟩)),(.bool false),x3,x4,x5,ev,(.int .i64 p.edges.length),(.int .i64 (i:Nat)),x9,bK,bM,aR,aN,aM,aP,aZ,bG,aQ,bC,bJ,bL,bI,bE,aS,aT,aU,aV,aW,aX,aY,bA,bB,bN,bO,bP,bQ,bR,bS,bT,bU,bV,bY] H'=some (.bool (tO p.nodes (p.edges.take i) (p.edges.drop i)&&decide ((p.edges.length:Int)<=15)),H2)/\Ext H H2:=by
 intro q;induction q with
 |zero=>
  intro i k H' hr hi hk he ha;intros;obtain⟨k,rfl⟩:=aB k (by omega)
  obtain rfl:i=p.edges.length:=by omega
  have e:decide ((p.edges.length:Int)<p.edges.length)=false:=by simp
  have l1:=eG ha 1 _ rfl;have hlen:=hx.kC;refine⟨H',?_,he⟩;rw[eD,Ue];simp -implicitDefEqProofs only[gsR,e];rw[aFc];rw[List.drop_length,tO,aOu];simp -implicitDefEqProofs only[gsR,l1,hlen]
 |succ q ih=>
  intro i k H' hr hi hk he ha;intros;obtain⟨k,rfl⟩:=aB k (by omega)
  have e:decide ((i:Int)<p.edges.length)=true:=by simp;omega
  have e3:=aA (i:=i) (by omega)
  have hxi:p.edges[i]? =some p.edges[i]:=aN8 (by omega)
  obtain⟨b,o,g1,g2,g3⟩:=(hx.ext he).iS sU hxi .i64;obtain⟨y,hy⟩: ∃y,y=p.edges[i]:=⟨_,rfl⟩;have l1:ldN 2 (.pointer (some ⟨b,o,none⟩)) H'=some (edV y,H'):=by rw[hy];exact(g3 H' rfl).1
  have hdrop:p.edges.drop i=y::p.edges.drop (i+1):=by rw[hy];exact List.drop_eq_getElem_cons (by omega)
  have htake:p.edges.take i++[y]=p.edges.take (i+1):=by rw[List.take_add_one,hxi,hy];rfl
  have z:Blk.cells [Value.int .i64 0,.int .i64 0] 67 .fix= .cells (edC (0,0)) 67 .fix:=rfl;have st:stN 2 (.pointer (some ⟨H'.length,0,none⟩)) (edV y) (H'++[.cells (edC (0,0)) 67 .fix])=some (undef,H'++[.cells (edC y) 67 .fix]):=by
   rw[mX 2 _ _ _ rfl,hP,oA _ _ _ _ _ _ (by decide) (by simp[edC,edV,Value.cells]) rfl]
   simp[edC,edV,Value.cells,eH]
  obtain⟨H1,hH1⟩: ∃H1,H1=H'++[Blk.cells (edC y) 67 .fix]:=⟨_,rfl⟩;rw[<-hH1] at st;have x1:Ext H' H1:=by rw[hH1];exact Fr.app _ _ _
  have hb1:H1[H'.length]? =some (.cells (edC y) 67 .fix):=by rw[hH1];exact hP _ _
  have la:ld1 (.pointer (some ⟨H'.length,0,none⟩)) H1=some (.int .i64 y.1,H1):=by rw[kO,hb1];rfl
  have lb:ld1 (.pointer (some ⟨H'.length,1,none⟩)) H1=some (.int .i64 y.2,H1):=by rw[kO,hb1];rfl
  have lab:ldN 2 (.pointer (some ⟨H'.length,0,none⟩)) H1=some (edV y,H1):=by
   rw[rO,hb1,sI _ _ _ _ _ (by simp[edC])]
   rfl
  have ha1:=fN ha x1;have p0:=eG ha1 0 _ rfl;have p1:=eG ha1 1 _ rfl;obtain⟨v',s1,s2,s3⟩:=((hx.ext he).ext x1).Dm (P:=prog) sU aFV (λh=>by have:=congrArg List.length h;simp only[List.length_nil] at this;omega) (lo:=none) rfl (nT p.edges.length .i64 i) (Nat.zero_le _) (by omega)
  rw[List.drop_zero] at s2;obtain⟨H2,t1,t2⟩:=aFQ s2 y (m:=m) (by rw[List.length_take];omega) hm
  rw[eD,Ue,hdrop,tO,htake];by_cases c1:y.1<0
  ·refine⟨H1,?_,he.tr x1⟩
   simp -implicitDefEqProofs only[gsR,e,g1,l1,z,st,la,lb,c1,decide_true,Bool.true_or,Bool.false_and];rw[Dy];rfl
  ·by_cases c2:y.2<=y.1
   ·refine⟨H1,?_,he.tr x1⟩
    simp -implicitDefEqProofs only[gsR,e,g1,l1,z,st,la,lb,c1,c2,decide_true,decide_false,Bool.false_or,Bool.true_or,Bool.false_and];rw[Dy];rfl
   ·by_cases c3:p.nodes<=y.2
    ·refine⟨H1,?_,he.tr x1⟩
     simp -implicitDefEqProofs only[gsR,e,g1,l1,z,st,la,lb,p0,c1,c2,c3,decide_true,decide_false,Bool.false_or,Bool.true_or,Bool.false_and];rw[Dy];rfl
    ·cases c4:(p.edges.take i).any λx=>x==y with
     |true=>
      rw[c4] at t1;refine⟨H2,?_,(he.tr x1).tr t2⟩;simp -implicitDefEqProofs only[gsR,e,g1,l1,z,st,la,lb,lab,p0,p1,s1,t1,c1,c2,c3,decide_true,decide_false,Bool.false_or,Bool.false_and];rw[Dy];rfl
     |false=>
      rw[c4] at t1;simp -implicitDefEqProofs only[gsR,e,g1,l1,z,st,la,lb,lab,p0,p1,s1,t1,c1,c2,c3,decide_false,Bool.false_or,aOu,cI,e3];exact ih (i+1) k H2 (by omega) (by omega) (by omega) ((he.tr x1).tr t2) (fN ha1 t2) ..
theorem aFO (hp:PV H p ev wv nv)(hn:p.edges.length+20<m-1)(hm:m<=72057594037927936): ∃H',lvl prog cD m (.func 226) [plV p ev wv nv] H=some (.bool (wN p),H')/\Ext H H':=by
 refine k8 (iC rfl rfl) (by omega) ?_
 have hb:=hP H (plB p ev wv nv);have l1:=eG hb 1 _ rfl;have hlen:=hp.e.kC;rw[aFd];simp -implicitDefEqProofs only[gsR,lG,l1,hlen];exact aFP hp.e (m:=m-1) hn (by omega) p.edges.length 0 (m-1) _ (by omega) (by omega) (by omega) (Fr.app _ _ _) hb ..
end
def qV (n:Int):Bool:=decide (n<1)||decide (5<n)
def wOk (ws:List Int):Bool:= !(decide ((ws.length:Int)=0)||(decide ((3:Int)<ws.length)||ws.any qV))
def uW (p:PlanD):Bool:= !(p.next.any λr=>decide ((r.length:Int)≠p.nodes))
def lP (p:PlanD):Bool:=uU p&&(wN p&&(decide ((p.weights.length:Int)=p.lanes)&&(wOk p.weights&&(decide ((p.next.length:Int)=p.nodes)&&uW p))))
def uV (b:Bool):Int:=if b=true then 0 else 120
section
variable {H : aC} {m : Nat} {p : PlanD} {ev wv nv : Value}
theorem U2 (hm:0<m)(n:Int)(H:aC):lvl prog cD m (.func 166) [.int .i64 n] H=some (.bool (qV n),H):=by
 refine dA (iC rfl rfl) hm ?_;rw[aEZ];unfold qV;by_cases h:n<1
 ·simp -implicitDefEqProofs only[gsR,h,decide_true,Bool.true_or]
 ·simp -implicitDefEqProofs only[gsR,h,decide_false,Bool.false_or]
theorem aFX (b o n c:Nat):bin prog .eql 37 (.slice (some ⟨b,o,none⟩) n c) (.slice none 0 0)=some (.bool false):=by
 have h1:prog.underlying 37=some (.slice 3):=by kernel_rfl
 simp[bin,dU,oN,mJ,eqV,h1]
theorem D8 {v:Value}{xs:List Int}(hx:Is H v xs)(hne:xs≠[])(hl:xs.length<=1000)(hm:0<m): ∃H' u,lvl prog cD m (.func 168) [v] H=some (u,H')/\Ext H H'/\Iw H' u xs/\New H u:=by
 have hv: ∃b o c,v= .slice (some ⟨b,o,none⟩) xs.length c:=by
  rcases hx with⟨_,h⟩|⟨b,o,cap,h,_⟩
  ·exact absurd h hne
  ·exact⟨b,o,cap,h⟩
 have b0:dJ 3 1 0 [.int .i64 0] [] H=some (.slice (some ⟨H.length,0,none⟩) 0 0,H++[.cells [] 3 .row]):=rfl;have h0:Iw (H++[.cells [] 3 .row]) (.slice (some ⟨H.length,0,none⟩) 0 0) []:=⟨rfl,.inr ⟨H.length,0,[],rfl,aOb _,rfl,by simp⟩⟩
 obtain⟨u,H',g1,g2,g3,g4⟩:=h0.tL iQ o7 (by decide) (by':=8) (H0:=H) (hx.ext (Fr.app _ _ _)) (λb ⟨_,_,_,h⟩=>by cases h;exact aOb _) (Fr.app _ _ _) (kH (n:=1000) (by decide) (by simp;omega))
 refine iP (iC rfl rfl) (by omega) ⟨H',u,?_,g4,g2,g3⟩
 obtain⟨b,o,c,rfl⟩:=hv;rw[aE1];simp -implicitDefEqProofs only[gsR,aFX,b0,g1]
theorem ePW (a:Addr):bin prog .eql 163 (.pointer (some a)) (.pointer none)=some (.bool false):=Db 163 266 (by kernel_rfl) a
theorem Kn:bin prog .eql 163 (.pointer none) (.pointer none)=some (.bool true):=Ru 163 266 (by kernel_rfl)
theorem aFY {v:Value}{ws:List Int}(hw:Is H v ws)(hl:ws.length<=17592186044500)(hm:ws.length+100<m)(hm2:m<=72057594037927936): ∃H' u,lvl prog cD m (.func 87) [v] H=some (u,H')/\Ext H H'/\bin prog .eql 163 u (.pointer none)=some (.bool (!wOk ws)):=by
 have hlen:=hw.kC;have hcf:lvl prog cD (m-1) (.func 167) [v,.func (.func 166) #[] #[]] H=some (.bool (ws.any qV),H):=by
  have:=Uy (H:=H) (m:=m-1) (v:=v) (fv:= .func (.func 166) #[] #[]) (n:=ws.length) (λi=>(ws[i]?.map qV).getD false) hlen (by omega) (by omega) (λi hi=>by
   have hx:ws[i]? =some ws[i]:=aN8 hi;obtain⟨b,o,g1,g2,g3⟩:=hw.iS iQ hx .i64;have l1:=(g3 H rfl).2.1 0 _ rfl;refine⟨_,_,g1,l1,?_⟩;have:=U2 (m:=m-1-1-1) (by omega) ws[i] H
   rw[hx];exact this)
  rw[this,Bc ws qV _ λi x h=>by rw[h];rfl]
 by_cases c1:(ws.length:Int)=0
 ·have e1:((ws.length:Int)==0)=true:=by simpa using c1
  have hno:wOk ws=false:=by unfold wOk;simp only[c1,decide_true,Bool.true_or,Bool.not_true]
  refine iP (iC rfl rfl) (by omega) ⟨H,.pointer none,?_,Fr.nF _ _,by rw[hno];exact Kn⟩
  rw[Bb];simp -implicitDefEqProofs only[gsR,hlen,e1]
 ·have e1:((ws.length:Int)==0)=false:=by simpa using c1
  by_cases c2:(3:Int)<ws.length
  ·have hno:wOk ws=false:=by unfold wOk;simp only[c2,decide_true,Bool.true_or,Bool.or_true,Bool.not_true]
   refine iP (iC rfl rfl) (by omega) ⟨H,.pointer none,?_,Fr.nF _ _,by rw[hno];exact Kn⟩
   rw[Bb];simp -implicitDefEqProofs only[gsR,hlen,e1,c2,decide_true]
  ·cases c3:ws.any qV with
   |true=>
    have hno:wOk ws=false:=by unfold wOk;simp only[c3,Bool.or_true,Bool.not_true]
    rw[c3] at hcf;refine iP (iC rfl rfl) (by omega) ⟨H,.pointer none,?_,Fr.nF _ _,by rw[hno];exact Kn⟩
    rw[Bb];simp -implicitDefEqProofs only[gsR,hlen,e1,c2,decide_false,hcf]
   |false=>
    have hyes:wOk ws=true:=by unfold wOk;simp only[c1,c2,c3,decide_false,Bool.or_false,Bool.not_false]
    rw[c3] at hcf;obtain⟨H1,u1,g1,g2,g3,g4⟩:=D8 (m:=m-1) hw (λh=>c1 (by rw[h];rfl)) (by omega) (by omega)
    obtain⟨H2,u2,q1,q2,q3,q4⟩:=D8 (m:=m-1) (hw.ext g2) (λh=>c1 (by rw[h];rfl)) (by omega) (by omega)
    have hb:bld prog 266 [(0,u1),(1,u2)]=some (.agg #[u1,u2,.int .i64 0]):=by
     rcases g3 with⟨_,⟨rfl,_⟩|⟨_,_,_,rfl,_⟩⟩<;>rcases q3 with⟨_,⟨rfl,_⟩|⟨_,_,_,rfl,_⟩⟩<;>rfl
    refine iP (iC rfl rfl) (by omega) ⟨H2++[.cells (Value.agg #[u1,u2,.int .i64 0]).cells.toList 266 .fix],.pointer (some ⟨H2.length,0,none⟩),?_,(g2.tr q2).tr (Fr.app _ _ _),by rw[hyes];exact ePW _⟩
    rw[Bb];simp -implicitDefEqProofs only[gsR,hlen,e1,c2,decide_false,hcf,g1,q1,hb]
theorem U1 (hp:PV H p ev wv nv)(hm:17592186045000<m)(hm2:m<=72057594037927936): ∃H',lvl prog cD m (.func 162) [plV p ev wv nv] H=some (.int .u16 (uV (lP p)),H')/\Ext H H':=by
 have h1:=hp.be;have h2:=hp.bw;have h3:=hp.bn;obtain⟨H0,hH0⟩: ∃H0,H0=H++[plB p ev wv nv]:=⟨_,rfl⟩;have x0:Ext H H0:=by rw[hH0];exact Fr.app _ _ _
 have b0:H0[H.length]? =some (plB p ev wv nv):=by rw[hH0];exact hP _ _
 have l11:=kP b0;have g1:=aFU (H:=H0) (m:=m-1) (by omega) p ev wv nv
 obtain⟨H1,hH1⟩: ∃H1,H1=H0++[plB p ev wv nv]:=⟨_,rfl⟩;have x1:Ext H0 H1:=by rw[hH1];exact Fr.app _ _ _
 rw[<-hH1] at g1;have b1:=fN b0 x1;have l11':=kP b1;obtain⟨H2,g2,x2⟩:=aFO (m:=m-1) (hp.ext (x0.tr x1)) (by omega) (by omega)
 have b2:=fN b1 x2;have w2:=eG b2 8 _ rfl;have la2:=eG b2 2 _ rfl;have p2:=hp.ext ((x0.tr x1).tr x2);have wl:=p2.w.kC;obtain⟨H3,u3,g3,x3,g4⟩:=aFY p2.w (m:=m-1) (by omega) (by omega) (by omega)
 have b3:=fN b2 x3;have n3:=eG b3 10 _ rfl;have no3:=eG b3 0 _ rfl;have p3:=p2.ext x3;have nl:=p3.n.Ux;have hcf:lvl prog cD (m-1) (.func 227) [nv,.func (.func 224) #[] #[.pointer (some ⟨H.length,0,none⟩)]] H3=some (.bool (p.next.any λr=>decide ((r.length:Int)≠p.nodes)),H3):=by
  have:=aFN (H:=H3) (m:=m-1) (v:=nv) (fv:= .func (.func 224) #[] #[.pointer (some ⟨H.length,0,none⟩)]) (n:=p.next.length) (λi=>(p.next[i]?.map λr=>decide ((r.length:Int)≠p.nodes)).getD false) nl (by omega) (by omega) (λi hi=>by
   have hx:p.next[i]? =some p.next[i]:=aN8 hi;obtain⟨a,u,q1,q2,q3⟩:=p3.n.D6 hx .i64;refine⟨a,u,q1,q2,?_⟩;have hlen:=q3.kC;have:lvl prog cD (m-1-1-1+0) (.func 224) [u,.pointer (some ⟨H.length,0,none⟩)] H3=some (.bool (decide ((p.next[i].length:Int)≠p.nodes)),H3):=by
    refine dA (iC rfl rfl) (by omega) ?_
    rw[aFa];have e:(((p.next[i].length:Nat):Int)!=p.nodes)=decide ((p.next[i].length:Int)≠p.nodes):=by
     rw[Bool.eq_iff_iff];simp
    simp -implicitDefEqProofs only[gsR,hlen,no3,e]
   rw[hx];exact this)
  rw[this,Bc p.next (λr=>decide ((r.length:Int)≠p.nodes)) _ λi x h=>by rw[h];rfl]
 have hn1:((p.weights.length:Int)!=p.lanes)= !decide ((p.weights.length:Int)=p.lanes):=by rw[Bool.eq_iff_iff];simp
 have hn2:((p.next.length:Int)!=p.nodes)= !decide ((p.next.length:Int)=p.nodes):=by rw[Bool.eq_iff_iff];simp
 have hr:(p.next.any λr=>decide ((r.length:Int)≠p.nodes))= !uW p:=by unfold uW;rw[Bool.not_not]
 rw[hr] at hcf;have hz:uV false=120:=rfl;have hz1:uV true=0:=rfl;refine k8 (iC rfl rfl) (by omega) ?_
 rw[aEY];unfold lP;cases c1:uU p with
 |false=>exact⟨H1,by simp -implicitDefEqProofs only[gsR,lG,<-hH0,l11,g1,c1,hz,hz1,Bool.false_and,aOu],x0.tr x1⟩
 |true=>
   cases c2:wN p with
   |false=>exact⟨H2,by simp -implicitDefEqProofs only[gsR,lG,<-hH0,l11,g1,l11',g2,c1,c2,hz,hz1,Bool.false_and,aOu],(x0.tr x1).tr x2⟩
   |true=>
     cases c3:decide ((p.weights.length:Int)=p.lanes) with
     |false=>exact⟨H2,by simp -implicitDefEqProofs only[gsR,lG,<-hH0,l11,g1,l11',g2,w2,wl,la2,hn1,c1,c2,c3,hz,hz1,Bool.false_and,aOu],(x0.tr x1).tr x2⟩
     |true=>
       cases c4:wOk p.weights with
       |false=>exact⟨H3,by simp -implicitDefEqProofs only[gsR,lG,<-hH0,l11,g1,l11',g2,w2,wl,la2,hn1,g3,g4,c1,c2,c3,c4,hz,hz1,Bool.false_and,aOu],((x0.tr x1).tr x2).tr x3⟩
       |true=>
         cases c5:decide ((p.next.length:Int)=p.nodes) with
         |false=>exact⟨H3,by simp -implicitDefEqProofs only[gsR,lG,<-hH0,l11,g1,l11',g2,w2,wl,la2,hn1,g3,g4,n3,nl,no3,hn2,c1,c2,c3,c4,c5,hz,hz1,Bool.false_and,aOu],((x0.tr x1).tr x2).tr x3⟩
         |true=>
           cases c6:uW p with
           |false=>exact⟨H3,by simp -implicitDefEqProofs only[gsR,lG,<-hH0,l11,g1,l11',g2,w2,wl,la2,hn1,g3,g4,n3,nl,no3,hn2,hcf,c1,c2,c3,c4,c5,c6,hz,hz1,Bool.false_and,aOu],((x0.tr x1).tr x2).tr x3⟩
           |true=>
             exact⟨H3,by simp -implicitDefEqProofs only[gsR,lG,<-hH0,l11,g1,l11',g2,w2,wl,la2,hn1,g3,g4,n3,nl,no3,hn2,hcf,c1,c2,c3,c4,c5,c6,hz,hz1,Bool.false_and,aOu],((x0.tr x1).tr x2).tr x3⟩
end
def dd:List Int->List Int
 |[]=>[]
 |[x]=>[x]
 |x::y::r=>if x=y then dd (y::r) else x::dd (y::r)
theorem U6: ∀(l:List Int)(a b:Int),dd (l++[a,b])=if a=b then dd (l++[a]) else dd (l++[a])++[b]
 |[],a,b=>by
  by_cases h:a=b<;>simp[dd,h]
 |[x],a,b=>by
  by_cases h:a=b<;>by_cases h2:x=a<;>simp[dd,h,h2]<;>simp_all
 |x::y::l,a,b=>by
  have ih:=U6 (y::l) a b;simp only[List.cons_append] at ih⊢;simp only[dd];by_cases h2:x=y
  ·rw[if_pos h2,if_pos h2,ih]
  ·rw[if_neg h2,if_neg h2,ih]
   by_cases h:a=b
   ·rw[if_pos h,if_pos h]
   ·rw[if_neg h,if_neg h]
    rfl
theorem U7 {zs:List Int}{j:Nat}{a b:Int}(h0:0<j)(ha:zs[j-1]? =some a)(hb:zs[j]? =some b):dd (zs.take (j+1))=if b=a then dd (zs.take j) else dd (zs.take j)++[b]:=by
 have e1:zs.take j=zs.take (j-1)++[a]:=by
  have:=List.take_add_one (l:=zs) (i:=j-1);rw[ha,show j-1+1=j by omega] at this
  simpa using this
 have e2:zs.take (j+1)=zs.take (j-1)++[a,b]:=by
  rw[List.take_add_one,hb,e1];simp
 rw[e2,U6,<-e1];by_cases h:a=b
 ·rw[if_pos h,if_pos h.symm]
 ·rw[if_neg h,if_neg (Ne.symm h)]
theorem U5: ∀l:List Int,(dd l).length<=l.length
 |[]=>aOb _
 |[x]=>aOb _
 |x::y::r=>by
  have:=U5 (y::r);unfold dd;split
  ·simp only[aOt] at *; omega
  ·simp only[aOt] at *; omega
section
variable {H : aC} {m c cap : Nat} {ys rest : List Value}
theorem ia {o n i:Nat}(h:i<n):bH 1 (.slice (some ⟨c,o,none⟩) n cap) (.int .i64 (i:Nat))=some (.pointer (some ⟨c,o+i,none⟩)):=by
 rw[p7 _ _ _ _ _ _ _ (by omega) (by omega)]
 simp
def oU (ys:List Int)(rest:List Value):Blk:= .cells (ys.map (Value.int .i64)++rest) 3 .row
theorem yM {ys:List Int}{i:Nat}{y:Int}(hc:H[c]? =some (oU ys rest))(hi:ys[i]? =some y):ld1 (.pointer (some ⟨c,i,none⟩)) H=some (.int .i64 y,H):=by
 have:=(aN6.mp hi).1;rw[kO,hc];unfold oU;rw[tI,aN9 (by rw[aOk];exact this),aOj,hi]
 rfl
theorem U8 {ys:List Int}{i:Nat}(y:Int)(hc:H[c]? =some (oU ys rest))(hi:i<ys.length):stN 1 (.pointer (some ⟨c,i,none⟩)) (.int .i64 y) H=some (undef,H.set c (oU (ys.set i y) rest)):=by
 rw[mX 1 _ _ _ rfl,hc];unfold oU;have e:(Value.int .i64 y).cells.toList=[.int .i64 y]:=rfl;rw[e,oA _ _ _ _ _ _ (by decide) (by simp;omega) rfl]
 congr 3
 simp only[eH];rw[List.set_append_left _ _ (by rw[aOk];exact hi),<-List.map_set]
theorem aF1 {zs ys:List Int}{k:Nat}(hc:H[c]? =some (oU ys rest))(hy:ys.length=zs.length)(hk:k<zs.length)(hcap:zs.length<=cap)(hrest:rest.length=cap-zs.length)(hd:ys.take k=dd zs):
  ∃w H',slc prog 1 (.slice (some ⟨c,0,none⟩) zs.length cap) (some (.int .i64 (k:Nat))) none none H=some (w,H)/\clr 1 [.int .i64 0] w H=some (.tuple #[],H')/\
   slc prog 1 (.slice (some ⟨c,0,none⟩) zs.length cap) none (some (.int .i64 (k:Nat))) none H'=some (.slice (some ⟨c,0,none⟩) k cap,H')/\Iw H' (.slice (some ⟨c,0,none⟩) k cap) (dd zs)/\H'.length=H.length/\ ∀b,b≠c->H'[b]? =H[b]? :=by
 have hlt:=(aN6.mp hc).1;have g1:=tK (P:=prog) (H:=H) (o:=0) (sz:=1) (len:=zs.length) (cap:=cap) (lo:=some (.int .i64 (k:Nat))) (hi:=none) (mx:=none) (h:=zs.length) (m:=cap) (l:=k) hc (λ_=>szI) (nT 0 .i64 k) rfl rfl (by omega) (by omega) (aOb _)
 rw[aOs,Nat.mul_one] at g1;obtain⟨H',hH'⟩: ∃H',H'=H.set c (oU (ys.take k) ((List.replicate (zs.length-k) [Value.int .i64 0]).flatten++rest)):=⟨_,rfl⟩;have hc':H'[c]? =some (oU (ys.take k) ((List.replicate (zs.length-k) [Value.int .i64 0]).flatten++rest)):=by rw[hH'];exact aOc hlt
 have hyk:(ys.take k).length=k:=by rw[List.length_take];omega
 have g2:clr 1 [.int .i64 0] (.slice (some ⟨c,k,none⟩) (zs.length-k) (cap-k)) H=some (.tuple #[],H'):=by
  unfold clr;simp only;rw[if_neg (by omega),hc]
  unfold oU;simp only;rw[if_pos ⟨by decide,by simp;omega,rfl,rfl⟩,hH']
  congr 3
  unfold oU
  congr 1
  have hsplit:ys.map (Value.int .i64)=(ys.take k).map (Value.int .i64)++(ys.drop k).map (Value.int .i64):=by rw[<-List.map_append,List.take_append_drop]
  have hl:((List.replicate (zs.length-k) [Value.int .i64 0]).flatten).length=zs.length-k:=by simp
  rw[hsplit];have:=uQ ((List.replicate (zs.length-k) [Value.int .i64 0]).flatten) ((ys.drop k).map (Value.int .i64)) ((ys.take k).map (Value.int .i64)) rest (by rw[hl,aOk,List.length_drop];omega)
  rw[aOk,hyk] at this;rw[this,aOd]
 have g3:=tK (P:=prog) (H:=H') (o:=0) (sz:=1) (len:=zs.length) (cap:=cap) (lo:=none) (hi:=some (.int .i64 (k:Nat))) (mx:=none) (h:=k) (m:=cap) (l:=0) hc' (λ_=>szI) rfl (nT _ .i64 k) rfl (by omega) (by omega) (aOb _)
 rw[Nat.zero_mul,aOs,Nat.sub_zero,Nat.sub_zero] at g3;refine⟨_,H',g1,g2,g3,?_,by rw[hH'];simp,λb hb=>by rw[hH'];exact aN7 (Ne.symm hb)⟩
 have hdl:(dd zs).length=k:=by rw[<-hd,hyk]
 refine⟨by rw[tM,aOk,Nat.mul_one],.inr ⟨c,cap,(List.replicate (zs.length-k) [Value.int .i64 0]).flatten++rest,by rw[hdl],by omega,?_,by rw[tM,hc',hd];rfl⟩⟩
 simp[hdl];omega
def U3 (H0:aC)(c cap:Nat)(zs:List Int)(v:Value)(H':aC):Prop:=Iw H' v (dd zs)/\(∀b,cK v b->b=c)/\H'.length=H0.length/\ ∀b,b≠c->H'[b]? =H0[b]?
theorem aF3 {zs:List Int}{rest:List Value}{k0 kk:Nat}{H0:aC}{Q:aC->Value->Prop}(hQ: ∀H' v,U3 H0 c cap zs v H'->Q H' v)(hcap:zs.length<=cap)(hrest:rest.length=cap-zs.length)(hn:zs.length<=72057594037927936)(h1:1<=k0):
  ∀(q j t k:Nat)(H:aC)(ys:List Int),zs.length-j=q->j<=zs.length->q<k->k0<j->t<j->H[c]? =some (oU ys rest)->ys.length=zs.length->ys.take t=dd (zs.take j)->ys.drop t=zs.drop t->H.length=H0.length->(∀b,b≠c->H[b]? =H0[b]?)-> ∀(x1 x2 x6 x7 x8 x9 bK bM aR aN aM aP aZ bG aQ bC bJ bL bI bE aS aT aU aV aW aX aY bA bB bN bO bP bQ bR bS bT bU bV bY cE cG cH cL cQ cU cV cM cN cO cR cY cW cX cZ dD dH dE:Value),
  ∃H' v,aI k (aK prog (lvl prog cD m) (aI m) Jw) (Jy (lvl prog cD m) (aI m) (Ap kk (aK prog (lvl prog cD m) (aI m) Dv) (Ba (lvl prog cD m) (aI m)))) [(.slice (some ⟨c,0,none⟩) zs.length cap),x1,x2,(.int .i64 (t:Nat)),(.slice (some ⟨c,k0,none⟩) (zs.length-k0) (cap-k0)),(.int .i64 (j-k0:Nat)),x6,x7,x8,x9,bK,bM,aR,aN,aM,aP,aZ,bG,aQ,bC,bJ,bL,bI,bE,aS,aT,aU,aV,aW,aX,aY,bA,bB,bN,bO,bP,bQ,bR,bS,bT,bU,bV,bY,cE,cG,cH,cL,cQ,cU,cV,cM,cN,cO,cR,cY,cW,cX,cZ,dD,dH,dE] H=some (v,H')/\Q H' v:=by
 intro q;induction q with
 |zero=>
  intro j t k H ys hr hj hk hkj htj hc hy hd hdr hl hf;intros;obtain⟨k,rfl⟩:=aB k (by omega)
  obtain rfl:j=zs.length:=by omega
  rw[List.take_of_length_le (aOb _)] at hd;obtain⟨w,H',g1,g2,g3,g4,g5,g6⟩:=aF1 hc hy htj hcap hrest hd;have e:decide (((zs.length-k0:Nat):Int)<(zs.length-k0:Nat))=false:=by simp
  refine⟨H',.slice (some ⟨c,0,none⟩) t cap,?_,hQ _ _ ⟨g4,λb ⟨_,_,_,h⟩=>by cases h;rfl,by omega,λb hb=>by rw[g6 b hb,hf b hb]⟩⟩
  rw[eD,Uc];simp -implicitDefEqProofs only[gsR,uM,e];rw[aE3];simp -implicitDefEqProofs only[gsR,g1,g2,g3];rw[aE5];rfl
 |succ q ih=>
  intro j t k H ys hr hj hk hkj htj hc hy hd hdr hl hf;intros;obtain⟨k,rfl⟩:=aB k (by omega)
  have e:decide (((j-k0:Nat):Int)<(zs.length-k0:Nat))=true:=by simp;omega
  have e3:IntKind.i64.wrap (((j-k0:Nat):Int)+1)=((j+1-k0:Nat):Int):=by rw[dM (by omega) (by omega)];omega
  have e4:IntKind.i64.wrap (((j-k0:Nat):Int)-1)=((j-1-k0:Nat):Int):=by rw[dM (by omega) (by omega)];omega
  have e5:=aA (i:=t) (by omega)
  have get: ∀i,t<=i->ys[i]? =zs[i]? :=λi hi=>by
   have:=congrArg (·[i-t]?) hdr
   simp only[List.getElem?_drop] at this;rwa [show t+(i-t)=i by omega] at this
  have ga:ys[j-1]? =some (zs[j-1]'(by omega)):=by rw[get _ (by omega)];exact aN8 (by omega)
  have gb:ys[j]? =some (zs[j]'(by omega)):=by rw[get _ (by omega)];exact aN8 (by omega)
  have i1:bH 1 (.slice (some ⟨c,k0,none⟩) (zs.length-k0) (cap-k0)) (.int .i64 (j-k0:Nat))=some (.pointer (some ⟨c,j,none⟩)):=by rw[ia (by omega),show k0+(j-k0)=j by omega]
  have i2:bH 1 (.slice (some ⟨c,k0,none⟩) (zs.length-k0) (cap-k0)) (.int .i64 (j-1-k0:Nat))=some (.pointer (some ⟨c,j-1,none⟩)):=by rw[ia (by omega),show k0+(j-1-k0)=j-1 by omega]
  have i3:bH 1 (.slice (some ⟨c,0,none⟩) zs.length cap) (.int .i64 (t:Nat))=some (.pointer (some ⟨c,t,none⟩)):=by rw[ia (by omega),aOs]
  have l1:=yM hc gb;have l2:=yM hc ga;have s1:=U8 (i:=t) (zs[j]'(by omega)) hc (by omega)
  have hdt:=U7 (zs:=zs) (j:=j) (by omega) (aN8 (show j-1<zs.length by omega)) (aN8 (show j<zs.length by omega))
  rw[eD,Uc];by_cases hx:zs[j]'(by omega)=zs[j-1]'(by omega)
  ·have d:((zs[j]'(by omega))!=(zs[j-1]'(by omega)))=false:=by simp[hx]
   rw[if_pos hx] at hdt;simp -implicitDefEqProofs only[gsR,uM,e,i1,l1,iF,e4,i2,l2,d,cI,e3];exact ih (j+1) t k H ys (by omega) (by omega) (by omega) (by omega) (by omega) hc hy (by rw[hdt];exact hd) hdr hl hf ..
  ·have d:((zs[j]'(by omega))!=(zs[j-1]'(by omega)))=true:=by simp[hx]
   rw[if_neg hx] at hdt;simp -implicitDefEqProofs only[gsR,uM,e,i1,l1,iF,e4,i2,l2,d,i3,s1,cI,e3,e5];refine ih (j+1) (t+1) k _ (ys.set t (zs[j]'(by omega))) (by omega) (by omega) (by omega) (by omega) (by omega) (aOc (aN6.mp hc).1) (by rw[List.length_set];exact hy) ?_ ?_ (by rw[List.length_set];exact hl) (λb hb=>by rw[aN7 (Ne.symm hb)];exact hf b hb) ..
   ·rw[hdt,<-hd,List.take_add_one,aOc (by omega),List.take_set_of_le (aOb _)]
    rfl
   ·rw[List.drop_set_of_lt (by omega),<-aOP (i:=1),hdr,aOP]
theorem aF2 {zs:List Int}{rest:List Value}{Q:aC->Value->Prop}(hQ: ∀H' v,U3 H c cap zs v H'->Q H' v)(hcap:zs.length<=cap)(hrest:rest.length=cap-zs.length)(hn:zs.length+10<m)(hm:m<=72057594037927936)(hc:H[c]? =some (oU zs rest)):
  ∀(q j k:Nat),zs.length-j=q->1<=j->j<=zs.length->q<k->dd (zs.take j)=zs.take j-> ∀(x1 x2 x4 x5 x6 x7 x8 x9 bK bM aR aN aM aP aZ bG aQ bC bJ bL bI bE aS aT aU aV aW aX aY bA bB bN bO bP bQ bR bS bT bU bV bY cE cG cH cL cQ cU cV cM cN cO cR cY cW cX cZ dD dH dE:Value),
  ∃H' v,aI k (aK prog (lvl prog cD m) (aI m) Dv) (Ba (lvl prog cD m) (aI m)) [(.slice (some ⟨c,0,none⟩) zs.length cap),x1,x2,(.int .i64 (j:Nat)),x4,x5,x6,x7,x8,x9,bK,bM,aR,aN,aM,aP,aZ,bG,aQ,bC,bJ,bL,bI,bE,aS,aT,aU,aV,aW,aX,aY,bA,bB,bN,bO,bP,bQ,bR,bS,bT,bU,bV,bY,cE,cG,cH,cL,cQ,cU,cV,cM,cN,cO,cR,cY,cW,cX,cZ,dD,dH,dE] H=some (v,H')/\Q H' v:=by
 intro q;induction q with
 |zero=>
  intro j k hr h1 hj hk hd;intros;obtain⟨k,rfl⟩:=aB k (by omega)
  obtain rfl:j=zs.length:=by omega
  rw[List.take_of_length_le (aOb _)] at hd;have e:decide ((zs.length:Int)<zs.length)=false:=by simp
  refine⟨H,.slice (some ⟨c,0,none⟩) zs.length cap,?_,hQ _ _ ⟨?_,λb ⟨_,_,_,h⟩=>by cases h;rfl,rfl,λb hb=>rfl⟩⟩
  ·rw[eD,Ub]
   simp -implicitDefEqProofs only[gsR,uM,e];rw[aE2];rfl
  ·rw[hd]
   exact⟨by rw[tM,aOk,Nat.mul_one],.inr ⟨c,cap,rest,rfl,hcap,by rw[hrest,Nat.mul_one],by rw[tM,hc];rfl⟩⟩
 |succ q ih=>
  intro j k hr h1 hj hk hd;intros;obtain⟨k,rfl⟩:=aB k (by omega)
  have e:decide ((j:Int)<zs.length)=true:=by simp;omega
  have e3:=aA (i:=j) (by omega)
  have e4:IntKind.i64.wrap ((j:Int)-1)=((j-1:Nat):Int):=by rw[dM (by omega) (by omega)];omega
  have i1:bH 1 (.slice (some ⟨c,0,none⟩) zs.length cap) (.int .i64 (j:Nat))=some (.pointer (some ⟨c,j,none⟩)):=by rw[ia (by omega),aOs]
  have i2:bH 1 (.slice (some ⟨c,0,none⟩) zs.length cap) (.int .i64 (j-1:Nat))=some (.pointer (some ⟨c,j-1,none⟩)):=by rw[ia (by omega),aOs]
  have ga:zs[j-1]? =some (zs[j-1]'(by omega)):=aN8 (by omega)
  have gb:zs[j]? =some (zs[j]'(by omega)):=aN8 (by omega)
  have l1:=yM hc gb;have l2:=yM hc ga;have hdt:=U7 (zs:=zs) (j:=j) (by omega) ga gb
  rw[eD,Ub];by_cases hx:zs[j]'(by omega)=zs[j-1]'(by omega)
  ·have d:((zs[j]'(by omega))==(zs[j-1]'(by omega)))=true:=by simp[hx]
   have g1:=tK (P:=prog) (H:=H) (o:=0) (sz:=1) (len:=zs.length) (cap:=cap) (lo:=some (.int .i64 (j:Nat))) (hi:=none) (mx:=none) (h:=zs.length) (m:=cap) (l:=j) hc (λ_=>szI) (nT 0 .i64 j) rfl rfl (by omega) (by omega) (aOb _)
   rw[aOs,Nat.mul_one] at g1;rw[if_pos hx] at hdt;have e1:(1:Int)=((j+1-j:Nat):Int):=by omega
   simp -implicitDefEqProofs only[gsR,uM,e,i1,l1,iF,e4,i2,l2,d,g1];have:=aF3 (m:=m) (kk:=k) (H0:=H) (cap:=cap) (c:=c) (k0:=j) hQ hcap hrest (by omega) h1 (zs.length-(j+1)) (j+1) j m H zs rfl (by omega) (by omega) (by omega) (by omega) hc rfl (by rw[hdt,hd]) rfl rfl (λ_ _=>rfl)
   rw[<-e1] at this;exact this ..
  ·have d:((zs[j]'(by omega))==(zs[j-1]'(by omega)))=false:=by simp[hx]
   rw[if_neg hx] at hdt;simp -implicitDefEqProofs only[gsR,uM,e,i1,l1,iF,e4,i2,l2,d,cI,e3];exact ih (j+1) k (by omega) (by omega) (by omega) (by omega) (by rw[hdt,hd,List.take_add_one,gb];rfl) ..
theorem U4 {v:Value}{zs:List Int}{H0:aC}(hv:Iw H v zs)(hnew:New H0 v)(he:Ext H0 H)(hn:zs.length+20<m)(hm:m<=72057594037927936): ∃H' u,lvl prog cD m (.func 170) [v] H=some (u,H')/\Ext H0 H'/\Iw H' u (dd zs)/\New H0 u:=by
 have hlen:=hv.yG;refine iP (iC rfl rfl) (by omega) ?_
 rw[aE4];by_cases h2:zs.length<2
 ·have e:decide ((zs.length:Int)<2)=true:=by simp;omega
  have hd:dd zs=zs:=by
   match zs,h2 with
   |[],_=>rfl
   |[x],_=>rfl
   |x::y::r,h=>exact absurd h (by simp only[aOt];omega)
  refine⟨H,v,?_,he,by rw[hd];exact hv,hnew⟩
  simp -implicitDefEqProofs only[gsR,hlen,e]
 ·have e:decide ((zs.length:Int)<2)=false:=by simp;omega
  obtain⟨hcs,⟨rfl,h0⟩|⟨c,cap,rest,rfl,h1,h2',h3⟩⟩:=hv
  ·omega
  ·rw[tM] at h3
   rw[Nat.mul_one] at h2';have hcl:=hnew c ⟨_,_,_,rfl⟩;simp -implicitDefEqProofs only[gsR,hlen,e];have hd1:dd (zs.take 1)=zs.take 1:=by
    match zs with
    |[]=>rfl
    |x::r=>rfl
   refine aF2 (λH' u hC=> ?_) h1 h2' (by omega) (by omega) h3 (zs.length-1) 1 (m-1) rfl (aOb _) (by omega) (by omega) hd1 ..
   obtain⟨g2,g3,g4,g5⟩:=hC;refine⟨⟨by rw[g4];exact he.1,λb hb _=> ?_⟩,g2,λb hb=>by rw[g3 b hb];exact hcl⟩
   rw[g5 b (by omega),he.2 b hb id]
end
def qA (v:Int)(e:Ed):List Int:=if e.1=e.2 then [] else if e.1=v then [e.2] else if e.2=v then [e.1] else []
def oC (es:List Ed)(v:Int):List Int:=es.flatMap (qA v)
def bes (es:List Ed)(v:Int):List Int:=dd (srt (oC es v))
theorem D9 (v:Int): ∀es:List Ed,(oC es v).length<=es.length
 |[]=>aOb _
 |e::es=>by
  have:=D9 v es;unfold oC at*;rw[List.flatMap_cons,aOi];have h1:(qA v e).length<=1:=by
   unfold qA;split
   ·simp
   ·split
    ·simp
    ·split<;>simp
  simp only[aOt];omega
theorem aF0 {es:List Ed}{i:Nat}{e:Ed}(v:Int)(h:es[i]? =some e):oC (es.take (i+1)) v=oC (es.take i) v++qA v e:=by
 unfold oC;rw[List.take_add_one,h];simp
theorem oT (H:aC)(k:Int):dJ 3 1 1 [.int .i64 0] [(0,.int .i64 k)] H=some (.slice (some ⟨H.length,0,none⟩) 1 1,H++[.cells (inC k) 3 .row]):=rfl
theorem zEd:Blk.cells [Value.int .i64 0,.int .i64 0] 67 .fix= .cells (edC (0,0)) 67 .fix:=rfl
def edB (y:Ed):Blk:= .cells (edC y) 67 .fix
theorem aF6 (y:Ed)(H:aC):stN 2 (.pointer (some ⟨H.length,0,none⟩)) (edV y) (H++[.cells (edC (0,0)) 67 .fix])=some (undef,H++[edB y]):=by
 rw[mX 2 _ _ _ rfl,hP,oA _ _ _ _ _ _ (by decide) (by simp[edC,edV,Value.cells]) rfl]
 simp[edC,edV,Value.cells,eH,edB]
theorem aF4 {H:aC}{b:Nat}{y:Ed}(h:H[b]? =some (edB y)):ld1 (.pointer (some ⟨b,0,none⟩)) H=some (.int .i64 y.1,H):=by rw[kO,h];rfl
theorem aF5 {H:aC}{b:Nat}{y:Ed}(h:H[b]? =some (edB y)):ld1 (.pointer (some ⟨b,1,none⟩)) H=some (.int .i64 y.2,H):=by rw[kO,h];rfl
section
variable {H : aC} {m : Nat} {p : PlanD} {ev wv nv : Value}
theorem aFZ {v:Int}{Q:aC->Value->Prop}(hQ: ∀H' u,Ext H H'->Iw H' u (bes p.edges v)->New H u->Q H' u)(hx:Es H ev p.edges)(hL:p.edges.length<=17592186043000)(hn:p.edges.length+30<m)(hm:m<=72057594037927936): ∀(q i k:Nat)(H1:aC)(acc:Value),p.edges.length-i=q->i<=p.edges.length->q<k->Ext H H1->Iw H1 acc (oC (p.edges.take i) v)->New H acc-> ∀(x0 x2 x3 x4 x6 x7 x8 aR aN aM aP aZ bG aQ bC bJ bL bI bE aS aT aU aV aW aX aY bA bB bN bO bP bQ bR bS bT bU bV bY cE cG cH:Value),
  ∃H' u,aI k (aK prog (lvl prog cD m) (aI m) Kh) (Ki (lvl prog cD m) (aI m)) [x0,(.int .i64 v),x2,x3,x4,acc,x6,x7,x8,ev,(.int .i64 p.edges.length),(.int .i64 (i:Nat)),aR,aN,aM,aP,aZ,bG,aQ,bC,bJ,bL,bI,bE,aS,aT,aU,aV,aW,aX,aY,bA,bB,bN,bO,bP,bQ,bR,bS,bT,bU,bV,bY,cE,cG,cH] H1=some (u,H')/\Q H' u:=by
 intro q;induction q with
 |zero=>
  intro i k H1 acc hr hi hk he ha hnew;intros;obtain⟨k,rfl⟩:=aB k (by omega)
  obtain rfl:i=p.edges.length:=by omega
  have e:decide ((p.edges.length:Int)<p.edges.length)=false:=by simp
  rw[List.take_of_length_le (aOb _)] at ha;have hcl:=D9 v p.edges;obtain⟨H2,g1,g2,g3⟩:=Ti ha (by omega) hnew he
  have g1':=Ut m (by omega) [acc] H1
  rw[g1] at g1';have hsl:=qT (oC p.edges v);obtain⟨H3,u,q1,q2,q3,q4⟩:=U4 (m:=m) g2 hnew g3 (by omega) (by omega)
  refine⟨H3,u,?_,hQ _ _ q2 q3 q4⟩;rw[eD,Uq];simp -implicitDefEqProofs only[gsR,e];rw[aFz];simp -implicitDefEqProofs only[gsR,g1',q1]
 |succ q ih=>
  intro i k H1 acc hr hi hk he ha hnew;intros;obtain⟨k,rfl⟩:=aB k (by omega)
  have e:decide ((i:Int)<p.edges.length)=true:=by simp;omega
  have e3:=aA (i:=i) (by omega)
  have hxi:p.edges[i]? =some p.edges[i]:=aN8 (by omega)
  obtain⟨b,o,g1,g2,g3⟩:=(hx.ext he).iS sU hxi .i64;obtain⟨y,hy⟩: ∃y,y=p.edges[i]:=⟨_,rfl⟩;have l1:ldN 2 (.pointer (some ⟨b,o,none⟩)) H1=some (edV y,H1):=by rw[hy];exact(g3 H1 rfl).1
  rw[<-hy] at hxi;have hct:=aF0 v hxi;have hcl:=D9 v (p.edges.take i);rw[List.length_take] at hcl;have st:=aF6 y H1;obtain⟨H2,hH2⟩: ∃H2,H2=H1++[edB y]:=⟨_,rfl⟩;rw[<-hH2] at st;have x1:Ext H1 H2:=by rw[hH2];exact Fr.app _ _ _
  have hb:H2[H1.length]? =some (edB y):=by rw[hH2];exact hP _ _
  have la:=aF4 hb;have lb:=aF5 hb;have ha2:Iw H2 acc (oC (p.edges.take i) v):=by rw[hH2];exact ha.sP _
  rw[eD,Uq];by_cases c1:y.1=y.2
  ·have d1:(y.1==y.2)=true:=by simpa using c1
   have hc0:qA v y=[]:=if_pos c1;rw[hc0,List.append_nil] at hct;simp -implicitDefEqProofs only[gsR,e,g1,l1,zEd,st,la,lb,d1,cI,e3];exact ih (i+1) k H2 acc (by omega) (by omega) (by omega) (he.tr x1) (by rw[hct];exact ha2) hnew ..
  ·have d1:(y.1==y.2)=false:=by simpa using c1
   by_cases c2:y.1=v
   ·have d2:(y.1==v)=true:=by simpa using c2
    have hc0:qA v y=[y.2]:=by unfold qA;rw[if_neg c1,if_pos c2]
    rw[hc0] at hct;obtain⟨u,H3,t1,t2,t3,t4⟩:=ha2.rP (by':=8) iQ o7 (by decide) y.2 hnew (he.tr x1) (kH (n:=17592186044100) (by decide) (by omega))
    simp -implicitDefEqProofs only[gsR,e,g1,l1,zEd,st,la,lb,d1,d2,oT,t1,cI,e3];exact ih (i+1) k H3 u (by omega) (by omega) (by omega) t4 (by rw[hct];exact t2) t3 ..
   ·have d2:(y.1==v)=false:=by simpa using c2
    by_cases c3:y.2=v
    ·have d3:(y.2==v)=true:=by simpa using c3
     have hc0:qA v y=[y.1]:=by unfold qA;rw[if_neg c1,if_neg c2,if_pos c3]
     rw[hc0] at hct;obtain⟨u,H3,t1,t2,t3,t4⟩:=ha2.rP (by':=8) iQ o7 (by decide) y.1 hnew (he.tr x1) (kH (n:=17592186044100) (by decide) (by omega))
     simp -implicitDefEqProofs only[gsR,e,g1,l1,zEd,st,la,lb,d1,d2,d3,oT,t1,cI,e3];exact ih (i+1) k H3 u (by omega) (by omega) (by omega) t4 (by rw[hct];exact t2) t3 ..
    ·have d3:(y.2==v)=false:=by simpa using c3
     have hc0:qA v y=[]:=by unfold qA;rw[if_neg c1,if_neg c2,if_neg c3]
     rw[hc0,List.append_nil] at hct;simp -implicitDefEqProofs only[gsR,e,g1,l1,zEd,st,la,lb,d1,d2,d3,cI,e3];exact ih (i+1) k H2 acc (by omega) (by omega) (by omega) (he.tr x1) (by rw[hct];exact ha2) hnew ..
theorem Ko (hp:PV H p ev wv nv)(hn:p.edges.length+40<m)(hm:m<=72057594037927936)(v:Int): ∃H' u,lvl prog cD m (.func 88) [plV p ev wv nv,.int .i64 v] H=some (u,H')/\Ext H H'/\Iw H' u (bes p.edges v)/\New H u:=by
 refine iP (iC rfl rfl) (by omega) ?_
 have hb:=hP H (plB p ev wv nv);have l1:=eG hb 1 _ rfl;have hlen:=hp.e.kC;rw[aFA];simp -implicitDefEqProofs only[gsR,lG,l1,hlen];exact aFZ (λH' u h1 h2 h3=>⟨h1,h2,h3⟩) hp.e hp.be (m:=m-1) (by omega) (by omega) p.edges.length 0 (m-1) _ _ (by omega) (by omega) (by omega) (Fr.app _ _ _) (Rw.lE (el:=inC)) (New.nG _) ..
end
def Ks (xs:List Int)(w:Int):Int:=fst (λj=>xs[j]? ==some w) xs.length 0
def o8 (es:List Ed)(v:Nat):List Ed:=((bes es v).filter λw=>wi w 0 5).map λw=>((v:Int),w)
def mO (p:PlanD):Nat:=(min (max p.nodes 0) 6).toNat
def lH (p:PlanD):List Ed:=(List.range (mO p)).flatMap (o8 p.edges)
abbrev Hs (H:aC)(v:Value)(xs:List Ed):=Rs edC 117 H v xs
abbrev Hw (H:aC)(v:Value)(xs:List Ed):=Rw edC 117 2 H v xs
theorem Eb (z:Int): ∀l,z∈dd l↔z∈l
 |[]=>Iff.rfl
 |[x]=>Iff.rfl
 |x::y::r=>by
  have ih:=Eb z (y::r);unfold dd;split
  ·rename_i h
   subst h;rw[ih];simp
  ·simp only[aOq] at ih⊢
   rw[ih]
theorem Kp: ∀l:List Int,l.Pairwise (· <= ·)->(dd l).Pairwise (· < ·)
 |[],_=>List.Pairwise.nil
 |[x],_=>by simp[dd]
 |x::y::r,h=>by
  obtain⟨h1,h2⟩:=List.pairwise_cons.mp h;have ih:=Kp (y::r) h2;unfold dd;split
  ·exact ih
  ·rename_i hne
   refine List.pairwise_cons.mpr ⟨λz hz=> ?_,ih⟩
   have hz':=(Eb z _).mp hz;have h3:=h1 y (by simp)
   have h4:y<=z:=by
    rcases aOq.mp hz' with rfl|hz'
    ·exact Int.le_refl _
    ·exact(List.pairwise_cons.mp h2).1 z hz'
   omega
theorem Ea (es:List Ed)(v:Int):(bes es v).Pairwise (· < ·):=Kp _ (Di _)
theorem Ec: ∀(l:List Int)(lo hi:Int),l.Pairwise (· < ·)->(∀x∈l,lo<=x/\x<=hi)->lo<=hi+1->(l.length:Int)<=hi+1-lo
 |[],lo,hi,_,_,h=>by simp;omega
 |x::r,lo,hi,hp,hb,h=>by
  obtain⟨h1,h2⟩:=List.pairwise_cons.mp hp;have hx:=hb x (by simp)
  have:=Ec r (x+1) hi h2 (λy hy=>⟨by have:=h1 y hy;omega,(hb y (by simp[hy])).2⟩) (by omega)
  simp only[aOt];omega
theorem Vb (l:List Int)(h:l.Pairwise (· < ·)):(l.filter λw=>wi w 0 5).length<=6:=by
 have:=Ec (l.filter λw=>wi w 0 5) 0 5 (h.sublist (List.filter_sublist)) (λx hx=>by
  have:=(List.mem_filter.mp hx).2;unfold wi at this;simpa using this) (by omega)
 omega
section
variable {H : aC} {m : Nat} {p : PlanD} {ev wv nv : Value}
theorem aGd {v:Value}{xs:List Int}{w:Int}(hx:Is H v xs)(hn:xs.length<=72057594037927936): ∀(q i k:Nat),xs.length-i=q->i<=xs.length->q<k-> ∀(x2 x3 x4 x5 x6 x9 bK bM aR aN aM aP aZ bG aQ:Value),
  aI k (aK prog (lvl prog cD m) (aI m) Jz) (Dw (lvl prog cD m) (aI m)) [v,(.int .i64 w),x2,x3,x4,x5,x6,(.int .i64 xs.length),(.int .i64 (i:Nat)),x9,bK,bM,aR,aN,aM,aP,aZ,bG,aQ] H=some (.int .i64 (fst (λj=>xs[j]? ==some w) q i),H):=by
 intro q;induction q with
 |zero=>
  intro i k hr hi hk;intros;obtain⟨k,rfl⟩:=aB k (by omega)
  obtain rfl:xs.length=i:=by omega
  have e:decide (((xs.length:Nat):Int)<(xs.length:Nat))=false:=by simp
  rw[eD,Ud];simp -implicitDefEqProofs only[gsR,e];rw[aE7];rfl
 |succ q ih=>
  intro i k hr hi hk;intros;obtain⟨k,rfl⟩:=aB k (by omega)
  have e:decide ((i:Int)<(xs.length:Nat))=true:=aOQ (by omega)
  have e3:=aA (i:=i) (by omega)
  have hxi:xs[i]? =some xs[i]:=aN8 (by omega)
  obtain⟨b,o,g1,g2,g3⟩:=hx.iS iQ hxi .i64;have l1:ld1 (.pointer (some ⟨b,o,none⟩)) H=some (.int .i64 xs[i],H):=(g3 H rfl).2.1 0 _ rfl;rw[eD,Ud];unfold fst;by_cases h:w=xs[i]
  ·have d:(w==xs[i])=true:=by rw[h];simp
   have d2:(xs[i]? ==some w)=true:=by rw[hxi,h];simp
   simp -implicitDefEqProofs only[gsR,e,g1,l1,d];rw[aE9,if_pos d2];rfl
  ·have d:(w==xs[i])=false:=by simpa using h
   have d2: ¬(xs[i]? ==some w)=true:=by rw[hxi];simpa using λhh=>h hh.symm
   simp -implicitDefEqProofs only[gsR,e,g1,l1,d,cI,e3];rw[if_neg d2];exact ih (i+1) k (by omega) (by omega) (by omega) ..
theorem aGc {v:Value}{xs:List Int}(hx:Is H v xs)(w:Int)(hn:xs.length+10<m)(hm:m<=72057594037927936):lvl prog cD m (.func 221) [v,.int .i64 w] H=some (.int .i64 (Ks xs w),H):=by
 have hlen:=hx.kC;refine dA (iC rfl rfl) (by omega) ?_
 rw[aE8];simp -implicitDefEqProofs only[gsR,hlen];exact aGd hx (by omega) xs.length 0 (m-1) (by omega) (by omega) (by omega) ..
theorem Va (es:List Ed)(v:Int):(bes es v).length<=es.length:=by
 have h1:=U5 (srt (oC es v));have h2:=qT (oC es v);have h3:=D9 v es;unfold bes;omega
theorem U9 (a b:Int):bld prog 117 [(0,.int .i64 a),(1,.int .i64 b)]=some (edV (a,b)):=rfl
theorem aF7 (H:aC)(y:Ed):dJ 117 2 1 [.int .i64 0,.int .i64 0] [(0,edV y)] H=some (.slice (some ⟨H.length,0,none⟩) 1 1,H++[.cells (edC y) 117 .row]):=rfl
theorem aGb {H0:aC}{a:Nat}{v:Nat}{ws:List Int}{hs:List Ed}{Q:aC->Value->Prop}{K:Ex->K (Value×aC)}{bn:Int}{u:Value}(hs1:hs.length+(ws.filter λw=>wi w 0 5).length<=1000)(hws:ws.length<=72057594037927936)(hm:0<m)
  (hK: ∀(H':aC)(acc:Value),Ext H0 H'->Hw H' acc (hs++(ws.filter λw=>wi w 0 5).map λw=>((v:Int),w))->New H0 acc-> ∀(x0 x2 x4 x5 x6 x7 x8 x9 aR aN aM aP aZ bG aQ bC bJ bL bI bE aS aT aU aV aW aX aY bA bB:Value),∃H2 u2,K .normal [x0,(.pointer (some ⟨a,0,none⟩)),x2,acc,x4,x5,x6,x7,x8,x9,(.int .i64 bn),(.int .i64 (IntKind.i64.wrap ((v:Int)+1))),aR,aN,aM,aP,aZ,bG,aQ,bC,bJ,bL,bI,bE,aS,aT,aU,aV,aW,aX,aY,bA,bB] H'=some (u2,H2)/\Q H2 u2): ∀(q i k:Nat)(H1:aC)(acc:Value),ws.length-i=q->i<=ws.length->q<k->Ext H0 H1->Is H1 u ws->Apart H1 u acc->Hw H1 acc (hs++((ws.take i).filter λw=>wi w 0 5).map λw=>((v:Int),w))->New H0 acc-> ∀(x0 x2 x5 x6 x7 x8 x9 aR aN aM aP bC bJ bL bI bE aS aT aU aV aW aX aY bA bB:Value),
  ∃H' u2,aI k (aK prog (lvl prog cD m) (aI m) Jt) (Jv (lvl prog cD m) (aI m) K) [x0,(.pointer (some ⟨a,0,none⟩)),x2,acc,(.int .i64 (v:Nat)),x5,x6,x7,x8,x9,(.int .i64 bn),(.int .i64 (v:Nat)),aR,aN,aM,aP,u,(.int .i64 ws.length),(.int .i64 (i:Nat)),bC,bJ,bL,bI,bE,aS,aT,aU,aV,aW,aX,aY,bA,bB] H1=some (u2,H')/\Q H' u2:=by
 intro q;induction q with
 |zero=>
  intro i k H1 acc hr hi hk he hu hap ha hnew;intros;obtain⟨k,rfl⟩:=aB k (by omega)
  obtain rfl:ws.length=i:=by omega
  have e:decide (((ws.length:Nat):Int)<(ws.length:Nat))=false:=by simp
  rw[List.take_of_length_le (aOb _)] at ha;rw[eD,Ua];simp -implicitDefEqProofs only[gsR,e];rw[aEW];simp -implicitDefEqProofs only[gsR,cI];exact hK H1 acc he ha hnew ..
 |succ q ih=>
  intro i k H1 acc hr hi hk he hu hap ha hnew;intros;obtain⟨k,rfl⟩:=aB k (by omega)
  have e:decide ((i:Int)<(ws.length:Nat))=true:=aOQ (by omega)
  have e3:=aA (i:=i) (by omega)
  have hxi:ws[i]? =some ws[i]:=aN8 (by omega)
  obtain⟨b,o,g1,g2,g3⟩:=hu.iS iQ hxi .i64;have l1:ld1 (.pointer (some ⟨b,o,none⟩)) H1=some (.int .i64 ws[i],H1):=(g3 H1 rfl).2.1 0 _ rfl;have htake:ws.take (i+1)=ws.take i++[ws[i]]:=by rw[List.take_add_one,hxi];rfl
  have w1:=U0 (m:=m) hm ws[i] 0 5 H1;have hfl:((ws.take i).filter λw=>wi w 0 5).length<=(ws.filter λw=>wi w 0 5).length:=(List.Sublist.filter _ (List.take_sublist i ws)).length_le
  rw[eD,Ua];cases c:wi ws[i] 0 5 with
  |true=>
   rw[c] at w1;obtain⟨acc2,H2,t1,t2,t3,t4,t5,t6⟩:=ha.Th (by':=16) sU Kl (by decide) ((v:Int),ws[i]) hnew he (kH (n:=1000000) (by decide) (by simp only[aOi,aOk];omega))
   simp -implicitDefEqProofs only[gsR,e,g1,l1,w1,U9,aF7,t1,cI,e3];refine ih (i+1) k H2 acc2 (by omega) (by omega) (by omega) t4 (hu.aD6 hap t5) (hap.up t5 t6) ?_ t3 ..
   ·rw[htake,List.filter_append,List.map_append,<-aOd]
    have:([ws[i]].filter λw=>wi w 0 5)=[ws[i]]:=by rw[List.filter_cons,if_pos c];rfl
    rw[this];exact t2
  |false=>
   rw[c] at w1;simp -implicitDefEqProofs only[gsR,e,g1,l1,w1,cI,e3];refine ih (i+1) k H1 acc (by omega) (by omega) (by omega) he hu hap ?_ hnew ..
   have:([ws[i]].filter λw=>wi w 0 5)=[]:=by rw[List.filter_cons,if_neg (by rw[c];decide)];rfl
   rw[htake,List.filter_append,this,List.append_nil];exact ha
theorem aF8 (es:List Ed)(v:Nat):(o8 es v).length<=6:=by
 have h2:=Vb _ (Ea es v);unfold o8;rw[aOk];omega
theorem Kq (es:List Ed): ∀i,((List.range i).flatMap (o8 es)).length<=i*6
 |0=>by simp
 |i+1=>by
  have:=Kq es i;have:=aF8 es i;rw[aOG,List.flatMap_append,aOi,Nat.succ_mul];simp only[List.flatMap_cons,List.flatMap_nil,List.append_nil];omega
theorem Kr (p:PlanD):(lH p).length<=36:=by
 have:=Kq p.edges (mO p);have h6:mO p<=6:=by unfold mO;omega
 unfold lH;omega
theorem aGf (a b:Int):lV prog false [.int .i64 a,.int .i64 b]=some (.int .i64 (min a b)):=by
 simp[lV,dU,iL,pur,Builtin.min_,Builtin.min2,pure,bind,Sem.bind]
 split<;>omega
theorem aGe (a b:Int):lV prog true [.int .i64 a,.int .i64 b]=some (.int .i64 (max a b)):=by
 simp[lV,dU,iL,pur,Builtin.max_,Builtin.max2,pure,bind,Sem.bind]
 split<;>omega
theorem aGa {H0:aC}{a:Nat}(hp:PV H0 p ev wv nv)(hn:p.edges.length+60<m)(hm:m<=72057594037927936): ∀(q i k:Nat)(H1:aC)(acc:Value),(mO p)-i=q->i<=(mO p)->q<k->Ext H0 H1->H0[a]? =some (plB p ev wv nv)->Hw H1 acc ((List.range i).flatMap (o8 p.edges))->New H0 acc-> ∀(x0 x2 x4 x5 x6 x7 x8 x9 aR aN aM aP aZ bG aQ bC bJ bL bI bE aS aT aU aV aW aX aY bA bB:Value),
  ∃H' u2,aI k (aK prog (lvl prog cD m) (aI m) Js) (Ju (lvl prog cD m) (aI m)) [x0,(.pointer (some ⟨a,0,none⟩)),x2,acc,x4,x5,x6,x7,x8,x9,(.int .i64 (mO p)),(.int .i64 (i:Nat)),aR,aN,aM,aP,aZ,bG,aQ,bC,bJ,bL,bI,bE,aS,aT,aU,aV,aW,aX,aY,bA,bB] H1=some (u2,H')/\Ext H0 H'/\Hw H' u2 (lH p)/\New H0 u2:=by
 intro q;have h6:mO p<=6:=by unfold mO;omega
 induction q with
 |zero=>
  intro i k H1 acc hr hi hk he hb0 ha hnew;intros;obtain⟨k,rfl⟩:=aB k (by omega)
  obtain rfl:(mO p)=i:=by omega
  have e:decide ((((mO p):Nat):Int)<((mO p):Nat))=false:=by simp
  refine⟨H1,acc,?_,he,ha,hnew⟩;rw[eD,T9];simp -implicitDefEqProofs only[gsR,e];rw[aEV];rfl
 |succ q ih=>
  intro i k H1 acc hr hi hk he hb0 ha hnew;intros;obtain⟨k,rfl⟩:=aB k (by omega)
  have e:decide ((i:Int)<((mO p):Nat))=true:=aOQ (by omega)
  have e3:=aA (i:=i) (by omega)
  have hb:=fN hb0 he;have l11:=kP hb;obtain⟨H2,u,g1,g2,g3,g4⟩:=Ko (hp.ext he) (m:=m) (by omega) (by omega) (i:Int)
  have hlen:=g3.yG;have hble:=Va p.edges (i:Int);have hol:=Kq p.edges i;have hff:=Vb _ (Ea p.edges (i:Int));have hL:=hp.be;have hap:Apart H2 u acc:=λb hb=>⟨g3.iO hb,λhc=>by have:=g4 b hb;have:=ha.iO hc;omega⟩
  have ha2:Hw H2 acc ((List.range i).flatMap (o8 p.edges)):=ha.gF λb hb=>g2.2 b (ha.iO hb) id
  rw[eD,T9];simp -implicitDefEqProofs only[gsR,e,l11,g1,hlen];refine aGb (H0:=H0) (a:=a) (v:=i) (ws:=bes p.edges (i:Int)) (hs:=(List.range i).flatMap (o8 p.edges)) (Q:=λH' u2=>Ext H0 H'/\Hw H' u2 (lH p)/\New H0 u2) (by omega) (by omega) (by omega) ?_ (bes p.edges (i:Int)).length 0 m H2 acc (by omega) (by omega) (by omega) (he.tr g2) g3.rs hap (by simpa using ha2) hnew ..
  intro H3 acc3 k1 k2 k3;intros;rw[again_normal,e3];refine ih (i+1) k H3 acc3 (by omega) (by omega) (by omega) k1 hb0 ?_ k3 ..
  rw[aOG,List.flatMap_append];simpa[o8] using k2
theorem aF9 (hp:PV H p ev wv nv)(hn:p.edges.length+70<m)(hm:m<=72057594037927936): ∃H' u,lvl prog cD m (.func 139) [plV p ev wv nv] H=some (u,H')/\Ext H H'/\Hw H' u (lH p)/\New H u:=by
 have hL:=hp.be;obtain⟨H0,hH0⟩: ∃H0,H0=H++[plB p ev wv nv]:=⟨_,rfl⟩;have x0:Ext H H0:=by rw[hH0];exact Fr.app _ _ _
 have b0:H0[H.length]? =some (plB p ev wv nv):=by rw[hH0];exact hP _ _
 have l0:=eG b0 0 _ rfl;have h6:mO p<=6:=by unfold mO;omega
 have e1:lV prog true [.int .i64 p.nodes,.int .i64 0]=some (.int .i64 (max p.nodes 0)):=aGe p.nodes 0;have e2:lV prog false [.int .i64 (max p.nodes 0),.int .i64 6]=some (.int .i64 (mO p)):=by
  rw[aGf]
  congr 2
  unfold mO;omega
 obtain⟨H',u,g1,g2,g3,g4⟩: ∃H' u,lvl prog cD m (.func 139) [plV p ev wv nv] H=some (u,H')/\Ext H0 H'/\Hw H' u (lH p)/\New H0 u:=by
  refine iP (iC rfl rfl) (by omega) ?_
  rw[aEX];simp -implicitDefEqProofs only[gsR,lG,<-hH0,l0,e1,e2];exact aGa (hp.ext x0) (m:=m-1) (by omega) (by omega) (mO p) 0 (m-1) H0 _ (by omega) (by omega) (by omega) (Fr.nF _ _) b0 (Rw.lE (el:=edC)) (New.nG _) ..
 exact⟨H',u,g1,x0.tr g2,g3,λb hb=>aOm x0.1 (g4 b hb)⟩
end
theorem Vc: ∀(l l':List Int),l.Pairwise (· < ·)->l'.Pairwise (· < ·)->(∀z,z∈l↔z∈l')->l=l'
 |[],[],_,_,_=>rfl
 |[],y::r,_,_,h=>absurd ((h y).mpr (by simp)) (by simp)
 |x::l,[],_,_,h=>absurd ((h x).mp (by simp)) (by simp)
 |x::l,y::r,h1,h2,h=>by
  obtain⟨a1,a2⟩:=List.pairwise_cons.mp h1;obtain⟨b1,b2⟩:=List.pairwise_cons.mp h2;have hxy:x=y:=by
   have h3:=(h x).mp (by simp)
   have h4:=(h y).mpr (by simp)
   rcases aOq.mp h3 with h3|h3
   ·exact h3
   ·rcases aOq.mp h4 with h4|h4
    ·exact h4.symm
    ·have:=b1 x h3
     have:=a1 y h4;omega
  subst hxy;rw[Vc l r a2 b2 λz=> ?_]
  constructor
  ·intro hz
   rcases aOq.mp ((h z).mp (by simp[hz])) with h3|h3
   ·have:=a1 z hz
    omega
   ·exact h3
  ·intro hz
   rcases aOq.mp ((h z).mpr (by simp[hz])) with h3|h3
   ·have:=b1 z hz
    omega
   ·exact h3
theorem Kt (es:List Ed)(v z:Int):z∈bes es v↔z∈oC es v:=by
 unfold bes;rw[Eb,(Av _).mem_iff]
section
variable {H : aC} {m : Nat} {p : PlanD} {ev wv nv : Value}
end
def mkN (nodes:Nat):Nat:=2+nodes%5
def mkW (more:Nat)(i:Nat):Int:=((1+(i+more)%5:Nat):Int)
def prs (n:Nat):List (Nat×Nat):=(List.range n).flatMap λb=>(List.range b).map λa=>(a,b)
def oD:Nat->List (Nat×Nat)->List Ed
 |_,[]=>[]
 |bit,(a,b)::r=>if bit%2=1 then((a:Int),(b:Int))::oD (bit/2) r else oD (bit/2) r
def nxt (n:Nat)(next:List Nat)(k w:Nat):Nat:=match next[k]? with
 |some x=>if x%4=0 then(x/4)%n else w
 |none=>w
def uX (n:Nat)(next:List Nat)(v:Nat):List Int:=(List.range n).map λw=>((nxt n next (v*n+w) w:Nat):Int)
def mkP (nodes room more joined:Nat)(next:List Nat):PlanD where
 nodes:=mkN nodes
 edges:=oD joined (prs (mkN nodes))
 lanes:=((1+more%3:Nat):Int)
 room:=((1+room%8:Nat):Int)
 queue:=((1+room/8%8:Nat):Int)
 rounds:=((1+more/3%4:Nat):Int)
 every:=((1+more/12%8:Nat):Int)
 bag:=64
 weights:=(List.range (1+more%3)).map (mkW more)
 start:=joined
 next:=(List.range (mkN nodes)).map (uX (mkN nodes) next)
def u8C (n:Nat):List Value:=[.int .u8 n]
theorem Ky (n:Nat):(u8C n).length=1:=rfl
abbrev Us (H:aC)(v:Value)(xs:List Nat):=Rs u8C 5 H v xs
theorem cvU (H:aC)(n:Nat)(h:n<256):cS prog 5 3 (.int .u8 n) H=some (.int .i64 n,H):=by
 have h1:prog.underlying 5=some (.int .u8):=by kernel_rfl
 have h2:prog.underlying 3=some (.int .i64):=by kernel_rfl
 rw[eZ _ _ h1 h2,dM (by omega) (by omega)]
theorem wO (a b:Nat)(c:Int)(hc:c=b)(hb:0<b):bin prog .rem 5 (.int .u8 a) (.int .u8 c)=some (.int .u8 (a%b:Nat)):=by rw[hc,C8 _ _ _ _ (by omega),Int.tmod_eq_emod_of_nonneg (by omega)];congr 2
theorem rS (a b:Nat)(c:Int)(hc:c=b)(hb:0<b):bin prog .rem 3 (.int .i64 a) (.int .i64 c)=some (.int .i64 (a%b:Nat)):=by rw[hc,C8 _ _ _ _ (by omega),Int.tmod_eq_emod_of_nonneg (by omega)];congr 2
theorem aGs (a b:Nat)(c:Int)(hc:c=b)(hb:0<b):bin prog .rem 23 (.int .u16 a) (.int .u16 c)=some (.int .u16 (a%b:Nat)):=by rw[hc,C8 _ _ _ _ (by omega),Int.tmod_eq_emod_of_nonneg (by omega)];congr 2
theorem aGu {n:Nat}(h:n<256):IntKind.u8.wrap (n:Int)=n:=by simp[IntKind.wrap,IntKind.bits,IntKind.signed];omega
theorem aGt {n:Nat}(h:n<65536):IntKind.u16.wrap (n:Int)=n:=by simp[IntKind.wrap,IntKind.bits,IntKind.signed];omega
theorem Ei (a b:Nat)(c:Int)(hc:c=b)(hb:0<b)(ha:a<256):bin prog .quo 5 (.int .u8 a) (.int .u8 c)=some (.int .u8 (a/b:Nat)):=by
 rw[hc,I1 _ _ _ _ (by omega),Int.tdiv_eq_ediv_of_nonneg (by omega)]
 have h2:((a:Int)/(b:Int))=((a/b:Nat):Int):=by simp
 rw[h2,aGu (Nat.lt_of_le_of_lt (Nat.div_le_self a b) ha)]
theorem aGr (a b:Nat)(c:Int)(hc:c=b)(hb:0<b)(ha:a<65536):bin prog .quo 23 (.int .u16 a) (.int .u16 c)=some (.int .u16 (a/b:Nat)):=by
 rw[hc,I1 _ _ _ _ (by omega),Int.tdiv_eq_ediv_of_nonneg (by omega)]
 have h2:((a:Int)/(b:Int))=((a/b:Nat):Int):=by simp
 rw[h2,aGt (Nat.lt_of_le_of_lt (Nat.div_le_self a b) ha)]
def Ee (b:Nat)(e:TypeId)(H H':aC):Prop:= ∀(c:Nat)(y:Blk),c≠b->(∀cs,y≠ .cells cs e .row)->H[c]? =some y->H'[c]? =some y
section
variable {H : aC} {m : Nat} {p : PlanD} {ev wv nv : Value}
theorem Bd {α:Type}{el:α->List Value}{e:TypeId}{sz by':Nat}(hsz: ∀x,(el x).length=sz)(hall: ∀x,dR (el x)=true)(h0:0<sz){H0:aC}{v:Value}{xs:List α}{b j:Nat}{cs:List Value}(x:α)
  (hb:H[b]? =some (.cells cs 40 .fix))(hj:j<cs.length)(hv:Rw el e sz H v xs)(hn:New H0 v)(hbn:H0.length<=b)(he:Ext H0 H)(hr:jQ (xs.length+1) by'=true):
  ∃v' H1 H',app e sz by' v (.slice (some ⟨H.length,0,none⟩) 1 1) (H++[.cells (el x) e .row])=some (v',H1)/\stN 1 (.pointer (some ⟨b,j,none⟩)) v' H1=some (undef,H')/\
   Rw el e sz H' v' (xs++[x])/\New H0 v'/\Ext H0 H'/\H'[b]? =some (.cells (cs.set j v') 40 .fix)/\Ee b e H H':=by
 obtain⟨v',H1,g1,g2,g3,g4,g5,g6⟩:=hv.Th hsz hall h0 (by':=by') x hn he hr;have hbl:=(aN6.mp hb).1;have hnh: ¬cK v b:=λhh=>by
  obtain⟨c',hc'⟩:=hv.blk hh;rw[hb] at hc';simp at hc'
 have hb1:H1[b]? =some (.cells cs 40 .fix):=by rw[g5.2 b hbl hnh,hb]
 obtain⟨s1,s2⟩:=g2.yH;have hb1l:=(aN6.mp hb1).1;refine⟨v',H1,H1.set b (.cells (cs.set j v') 40 .fix),g1,?_,g2.gF λc hc=> ?_,g3,⟨by rw[List.length_set];exact g4.1,λc hc _=> ?_⟩,aOc hb1l,λc y hcb hA hy=> ?_⟩
 ·rw[mX 1 _ _ _ (by rw[s1];rfl),hb1,s1,oA _ _ _ _ _ _ (by decide) (by simp;omega) s2]
  rfl
 ·refine aN7 λhh=> ?_
  subst hh;obtain⟨c',hc'⟩:=g2.blk hc;rw[hb1] at hc';simp at hc'
 ·rw[aN7 (by omega),g4.2 c hc id]
 ·have hch: ¬cK v c:=λhh=>by
   obtain⟨c',hc'⟩:=hv.blk hh;rw[hy] at hc';cases hc';exact hA _ rfl
  rw[aN7 (Ne.symm hcb),g5.2 c (aN6.mp hy).1 hch,hy]
theorem Rw.yN {α:Type}{el:α->List Value}{e e':TypeId}{sz b:Nat}{H':aC}{v:Value}{xs:List α}{cs:List Value}(h:Rw el e' sz H v xs)(hk:Ee b e H H')(hb:H[b]? =some (.cells cs 40 .fix))(hne:e'≠e):Rw el e' sz H' v xs:=h.gF λc hc=>by
 obtain⟨cs',hx⟩:=h.blk hc;have hcb:c≠b:=λhh=>by
  subst hh;rw[hb] at hx;simp at hx
 rw[hx];exact hk c _ hcb (λcs'' hh=>by cases hh;exact hne rfl) hx
theorem bEd (a b:Int):bld prog 67 [(0,.int .i64 a),(1,.int .i64 b)]=some (edV (a,b)):=rfl
theorem aGi (H:aC)(y:Ed):dJ 67 2 1 [.int .i64 0,.int .i64 0] [(0,edV y)] H=some (.slice (some ⟨H.length,0,none⟩) 1 1,H++[.cells (edC y) 67 .row]):=rfl
theorem aGo {H0:aC}{b rb n v joined:Nat}{a4:Value}{next:List Nat}{zs:List Value}{Q:aC->Value->Prop}{K:Ex->K (Value×aC)}(hn6:n<=6)(hv6:v<n)(hnx:Us H0 a4 next)(hu8: ∀x∈next,x<256)(hnl:next.length<=72057594037927936)(hpn:p.nodes=(n:Int))(hbr:H0[rb]? =some (.cells zs 40 .fix))(hb:H0[b]? =some (plB p ev wv nv))
  (hK: ∀(H':aC)(u:Value),Ext H0 H'->Iw H' u (uX n next v)->New H0 u-> ∀(x0 x1 x2 x5 x6 x7 x8 x9 aR aN aM aP bC bJ bL bI bE aS aT aU aV aW aX aY bA bB bN bO bP bQ bR bS bT bU bV bY cE cG cH cL cQ cU cV cM cN cO cR cY cW cX cZ dD dH dE dI dP dQ dV dW dX dY dZ eA eC eJ eK eM eN eO eP eQ eS eT eU eV eW fC fD fE fF fG fH fI fJ fS fT fU fV fW fX fY fZ gA gB gC gD gE gG gH gI gJ gK gL gM gN gO gP gQ gR gS gT gU gV gW gX gY gZ jB jC jD jE jH jI jJ jK jL jM jO mE mF mG mH:Value),∃H2 u2,Kb (lvl prog cD m) (aI m) K x0 x1 x2 (.int .u16 joined) a4 x5 x6 x7 x8 x9 (.pointer (some ⟨rb,0,none⟩)) (.pointer (some ⟨b,0,none⟩)) aR aN aM aP (.int .i64 ((v+1)*n:Nat)) (.int .i64 (v:Nat)) u bC bJ bL bI bE aS aT aU aV aW aX aY bA bB bN bO bP bQ bR bS bT bU bV bY cE cG cH cL cQ cU cV cM cN cO cR cY cW cX cZ dD dH dE dI dP dQ dV dW dX dY dZ eA eC eJ eK eM eN eO eP eQ eS eT eU eV eW fC fD fE fF fG fH fI fJ fS fT fU fV fW fX fY fZ gA gB gC gD gE gG gH gI gJ gK gL gM gN gO gP gQ gR gS gT gU gV gW gX gY gZ jB jC jD jE jH jI jJ jK jL jM jO mE mF mG mH H'=some (u2,H2)/\Q H2 u2): ∀(q i k:Nat)(H1:aC)(acc:Value),n-i=q->i<=n->q<k->Ext H0 H1->Iw H1 acc ((List.range i).map λw=>((nxt n next (v*n+w) w:Nat):Int))->New H0 acc-> ∀(x0 x1 x2 x5 x6 x7 x8 x9 aR aN aM aP bJ bL bI bE aS aT aU aV aW aX aY bA bB bN bO bP bQ bR bS bT bU bV bY cE cG cH cL cQ cU cV cM cN cO cR cY cW cX cZ dD dH dE dI dP dQ dV dW dX dY dZ eA eC eJ eK eM eN eO eP eQ eS eT eU eV eW fC fD fE fF fG fH fI fJ fS fT fU fV fW fX fY fZ gA gB gC gD gE gG gH gI gJ gK gL gM gN gO gP gQ gR gS gT gU gV gW gX gY gZ jB jC jD jE jH jI jJ jK jL jM jO mE mF mG mH:Value),
  ∃H2 u2,aI k (aK prog (lvl prog cD m) (aI m) J9) (Kg (lvl prog cD m) (aI m) K) [x0,x1,x2,(.int .u16 joined),a4,x5,x6,x7,x8,x9,(.pointer (some ⟨rb,0,none⟩)),(.pointer (some ⟨b,0,none⟩)),aR,aN,aM,aP,(.int .i64 (v*n+i:Nat)),(.int .i64 (v:Nat)),acc,(.int .i64 (i:Nat)),bJ,bL,bI,bE,aS,aT,aU,aV,aW,aX,aY,bA,bB,bN,bO,bP,bQ,bR,bS,bT,bU,bV,bY,cE,cG,cH,cL,cQ,cU,cV,cM,cN,cO,cR,cY,cW,cX,cZ,dD,dH,dE,dI,dP,dQ,dV,dW,dX,dY,dZ,eA,eC,eJ,eK,eM,eN,eO,eP,eQ,eS,eT,eU,eV,eW,fC,fD,fE,fF,fG,fH,fI,fJ,fS,fT,fU,fV,fW,fX,fY,fZ,gA,gB,gC,gD,gE,gG,gH,gI,gJ,gK,gL,gM,gN,gO,gP,gQ,gR,gS,gT,gU,gV,gW,gX,gY,gZ,jB,jC,jD,jE,jH,jI,jJ,jK,jL,jM,jO,mE,mF,mG,mH] H1=some (u2,H2)/\Q H2 u2:=by
 intro q;induction q with
 |zero=>
  intro i k H1 acc hr hi hk he ha hnew;intros;obtain⟨k,rfl⟩:=aB k (by omega)
  obtain rfl:n=i:=by omega
  have e:decide (((n:Nat):Int)<(n:Nat))=false:=by simp
  have l0:=eG (fN hb he) 0 _ rfl;rw[hpn] at l0;rw[eD,Uo];simp -implicitDefEqProofs only[gsR,l0,e];rw[aFx];have hk:v*n+n=(v+1)*n:=by rw[Nat.succ_mul]
  rw[hk];exact hK H1 acc he ha hnew ..
 |succ q ih=>
  intro i k H1 acc hr hi hk he ha hnew;intros;obtain⟨k,rfl⟩:=aB k (by omega)
  have e:decide ((i:Int)<(n:Nat))=true:=aOQ (by omega)
  have e3:=aA (i:=i) (by omega)
  have l0:=eG (fN hb he) 0 _ rfl;rw[hpn] at l0;have hlen:=(hnx.ext he).kC;have hvn:v*n+i<42:=by
   have:v*n<=5*n:=Nat.mul_le_mul_right _ (by omega)
   omega
  have e4:IntKind.i64.wrap (((v*n+i:Nat):Int)+1)=((v*n+(i+1):Nat):Int):=by rw[dM (by omega) (by omega)];omega
  have hrange:(List.range (i+1)).map (λw=>((nxt n next (v*n+w) w:Nat):Int))=(List.range i).map (λw=>((nxt n next (v*n+w) w:Nat):Int))++[((nxt n next (v*n+i) i:Nat):Int)]:=by rw[aOG,List.map_append];rfl
  obtain⟨acc2,H2,t1,t2,t3,t4⟩:=ha.rP (by':=8) iQ o7 (by decide) ((nxt n next (v*n+i) i:Nat):Int) hnew he (kH (n:=1000) (by decide) (by simp;omega))
  rw[<-hrange] at t2;rw[eD,Uo];by_cases c:v*n+i<next.length
  ·have d:decide (((v*n+i:Nat):Int)<next.length)=true:=aOQ (by omega)
   have hx:next[v*n+i]? =some next[v*n+i]:=aN8 c
   obtain⟨bb,oo,g1,g2,g3⟩:=(hnx.ext he).iS Ky hx .i64;have l1:ld1 (.pointer (some ⟨bb,oo,none⟩)) H1=some (.int .u8 (next[v*n+i]:Nat),H1):=(g3 H1 rfl).2.1 0 _ rfl
   have hx8:=hu8 _ (List.getElem_mem c);have r4:=wO next[v*n+i] 4 4 rfl (by omega)
   by_cases c4:next[v*n+i]%4=0
   ·have d4:(((next[v*n+i]%4:Nat):Int)==0)=true:=by rw[c4];rfl
    have q4:=Ei next[v*n+i] 4 4 rfl (by omega) hx8
    have hcv:=λH=>cvU H (next[v*n+i]/4) (by omega)
    have rn:=rS (next[v*n+i]/4) n n rfl (by omega)
    have hval:nxt n next (v*n+i) i=next[v*n+i]/4%n:=by unfold nxt;rw[hx];simp only;rw[if_pos c4]
    rw[hval] at t1;simp -implicitDefEqProofs only[gsR,l0,e,hlen,d,g1,l1,r4,d4,q4,hcv,rn,oT,t1,cI,e4,e3];exact ih (i+1) k H2 acc2 (by omega) (by omega) (by omega) t4 t2 t3 ..
   ·have d4:(((next[v*n+i]%4:Nat):Int)==0)=false:=by simpa using λh=>c4 (by omega)
    have hval:nxt n next (v*n+i) i=i:=by unfold nxt;rw[hx];simp only;rw[if_neg c4]
    rw[hval] at t1;simp -implicitDefEqProofs only[gsR,l0,e,hlen,d,g1,l1,r4,d4,oT,t1,cI,e4,e3];exact ih (i+1) k H2 acc2 (by omega) (by omega) (by omega) t4 t2 t3 ..
  ·have d:decide (((v*n+i:Nat):Int)<next.length)=false:=aOR (by omega)
   have hval:nxt n next (v*n+i) i=i:=by unfold nxt;rw[aOh (by omega)]
   rw[hval] at t1;simp -implicitDefEqProofs only[gsR,l0,e,hlen,d,oT,t1,cI,e4,e3];exact ih (i+1) k H2 acc2 (by omega) (by omega) (by omega) t4 t2 t3 ..
def SV:={u:Value // dR [u]=true/\u.cells= #[u]}
def sC (u:SV):List Value:=[u.1]
theorem Kv (u:SV):(sC u).length=1:=rfl
theorem Ku (u:SV):dR (sC u)=true:=u.2.1
theorem Kw: ∀us:List SV,(us.map sC)=(us.map (·.1)).map vC
 |[]=>rfl
 |u::us=>by rw[aOC,aOC,aOC,Kw us];rfl
structure RowsI (H:aC)(v:Value)(xss:List (List Int))(us:List SV):Prop where
 row:Rw sC 37 1 H v us
 len:us.length=xss.length
 el: ∀(j:Nat)(u:SV)(xs:List Int),us[j]? =some u->xss[j]? =some xs->Iw H u.1 xs
 ap: ∀(j j':Nat)(u u':SV),j<j'->us[j]? =some u->us[j']? =some u'-> ∀b,cK u.1 b->cK u'.1 b->False
def RowsW (H:aC)(v:Value)(xss:List (List Int)):Prop:= ∃us,RowsI H v xss us
theorem RowsI.Vd {H':aC}{v:Value}{xss:List (List Int)}{us:List SV}(h:RowsI H v xss us)(h1: ∀b,cK v b->H'[b]? =H[b]?)(h2: ∀u∈us,∀b,cK u.1 b->H'[b]? =H[b]?):RowsI H' v xss us:=
 ⟨h.row.gF h1,h.len,λj u xs hu hx=>(h.el j u xs hu hx).gF λb hb=>h2 u (aOg hu) b hb,h.ap⟩
theorem RowsI.Ve {v:Value}{xss:List (List Int)}{us:List SV}(h:RowsI H v xss us){u:SV}(hu:u∈us){b:Nat}(hb:cK u.1 b):b<H.length:=by
 obtain⟨j,hj⟩:=List.getElem?_of_mem hu;have:=(aN6.mp hj).1
 exact(h.el j u _ hj (aN8 (by rw[<-h.len];exact this))).iO hb
theorem RowsI.blk {v:Value}{xss:List (List Int)}{us:List SV}(h:RowsI H v xss us){u:SV}(hu:u∈us){b:Nat}(hb:cK u.1 b): ∃cs,H[b]? =some (.cells cs 3 .row):=by
 obtain⟨j,hj⟩:=List.getElem?_of_mem hu;have:=(aN6.mp hj).1
 exact(h.el j u _ hj (aN8 (by rw[<-h.len];exact this))).blk hb
theorem RowsW.aGh {v:Value}{xss:List (List Int)}(h:RowsW H v xss):Rows H v xss:=by
 obtain⟨us,hi⟩:=h;refine⟨us.map (·.1),?_,by rw[aOk,hi.len],λj u xs hu hx=> ?_⟩
 ·have:=hi.row.rs
  unfold Rs at this⊢;rw[aOk,<-Kw];rcases this with⟨h1,h2⟩|⟨b,o,cap,h1,h2,h3⟩
  ·exact .inl ⟨h1,by rw[h2];rfl⟩
  ·exact .inr ⟨b,o,cap,h1,h2,λhne=>h3 λhh=>hne (by rw[hh];rfl)⟩
 ·rw[aOj] at hu
  cases hj:us[j]? with
  |none=>rw[hj] at hu;cases hu
  |some u'=>
   rw[hj] at hu;cases hu
   exact(hi.el j u' xs hj hx).rs
def RowsA (H0 H:aC)(v:Value)(xss:List (List Int))(wv:Value):Prop:= ∃us,RowsI H v xss us/\ ∀u∈us,∀b,cK u.1 b-> ¬cK wv b/\H0.length<=b
theorem RowsA.rw {H0:aC}{v wv:Value}{xss:List (List Int)}(h:RowsA H0 H v xss wv):RowsW H v xss:=let⟨us,hi,_⟩:=h;⟨us,hi⟩
structure MS (H0 H1:aC)(pb rb:Nat)(zs:List Value)(p:PlanD)(ev wv nv:Value)(E:List Ed)(W:List Int):Prop where
 ext:Ext H0 H1
 hb:H1[pb]? =some (plB p ev wv nv)
 hr:H1[rb]? =some (.cells zs 40 .fix)
 e:Ew H1 ev E
 en:New H0 ev
 w:Iw H1 wv W
 wn:New H0 wv
 ne:rb≠pb
 lp:H0.length<=pb
 lr:H0.length<=rb
 zl:zs.length=11
theorem MS.aGg {H0 H1 H2:aC}{pb rb:Nat}{zs:List Value}{E:List Ed}{W:List Int}(h:MS H0 H1 pb rb zs p ev wv nv E W)(he:Ext H1 H2):MS H0 H2 pb rb zs p ev wv nv E W:=
 ⟨h.ext.tr he,fN h.hb he,fN h.hr he,h.e.gF λb hb=>he.2 b (h.e.iO hb) id,h.en,h.w.gF λb hb=>he.2 b (h.w.iO hb) id,h.wn,h.ne,h.lp,h.lr,h.zl⟩
theorem aGn {H0 H1:aC}{pb rb:Nat}{zs:List Value}{E:List Ed}{W:List Int}{N:List (List Int)}(h:MS H0 H1 pb rb zs p ev wv nv E W)(hn:RowsA H0 H1 nv N wv){Q:aC->Value->Prop}(hQ: ∀H2,Ext H0 H2->Ew H2 ev E->Iw H2 wv W->RowsA H0 H2 nv N wv->Q H2 (plV p ev wv nv))(x0 x1 x2 x3 x4 x5 x6 x7 x8 x9 aR aN aM aP aZ bG aQ bC bJ bL bI bE aS aT aU aV aW aX aY bA bB bN bO bP bQ bR bS bT bU bV bY cE cG cH cL cQ cU cV cM cN cO cR cY cW cX cZ dD dH dE dI dP dQ dV dW dX dY dZ eA eC eJ eK eM eN eO eP eQ eS eT eU eV eW fC fD fE fF fG fH fI fJ fS fT fU fV fW fX fY fZ gA gB gC gD gE gG gH gI gJ gK gL gM gN gO gP gQ gR gS gT gU gV gW gX gY gZ jB jC jD jE jH jI jJ jK jL jM jO mE mF mG mH:Value):
  ∃H2 u2,Ka (lvl prog cD m) (aI m) x0 x1 x2 x3 x4 x5 x6 x7 x8 x9 (.pointer (some ⟨rb,0,none⟩)) (.pointer (some ⟨pb,0,none⟩)) aR aN aM aP aZ bG aQ bC bJ bL bI bE aS aT aU aV aW aX aY bA bB bN bO bP bQ bR bS bT bU bV bY cE cG cH cL cQ cU cV cM cN cO cR cY cW cX cZ dD dH dE dI dP dQ dV dW dX dY dZ eA eC eJ eK eM eN eO eP eQ eS eT eU eV eW fC fD fE fF fG fH fI fJ fS fT fU fV fW fX fY fZ gA gB gC gD gE gG gH gI gJ gK gL gM gN gO gP gQ gR gS gT gU gV gW gX gY gZ jB jC jD jE jH jI jJ jK jL jM jO mE mF mG mH H1=some (u2,H2)/\Q H2 u2:=by
 have l11:=kP h.hb;have hrl:=(aN6.mp h.hr).1;obtain⟨a1,a2⟩:=Rw.yH h.e;obtain⟨b1,b2⟩:=Rw.yH h.w;obtain⟨us,hi,hap⟩:=hn;obtain⟨c1,c2⟩:=Rw.yH hi.row;have hall:dR (plC p ev wv nv)=true:=by
  have e1: ∀(v:Value)(vs:List Value),dR [v]=true->dR (v::vs)=dR vs:=λv vs h=>by
   simp only[dR,List.all_cons,List.all_nil,Bool.and_true] at h⊢;rw[h,aOu]
  simp only[plC,R1,e1 _ _ a2,e1 _ _ b2,e1 _ _ c2,R2]
 have st:stN 11 (.pointer (some ⟨rb,0,none⟩)) (plV p ev wv nv) H1=some (undef,H1.set rb (plB p ev wv nv)):=by
  have e1:(plV p ev wv nv).cells.toList=plC p ev wv nv:=rfl;rw[mX 11 _ _ _ rfl,h.hr,e1,oA _ _ _ _ _ _ (by decide) (by rw[h.zl];simp[plC]) hall]
  have hs:eH zs 0 (plC p ev wv nv)=plC p ev wv nv:=by
   match zs,h.zl with
   |[z1,z2,z3,z4,z5,z6,z7,z8,z9,z10,z11],_=>rfl
  rw[hs];rfl
 have hb2:(H1.set rb (plB p ev wv nv))[rb]? =some (plB p ev wv nv):=aOc hrl;have l2:=kP hb2;have kp: ∀(b:Nat)(cs:List Value)(e:TypeId),H1[b]? =some (.cells cs e .row)->(H1.set rb (plB p ev wv nv))[b]? =H1[b]? :=λb cs e hb=>by
  refine aN7 λhh=> ?_
  subst hh;rw[h.hr] at hb;simp at hb
 refine⟨H1.set rb (plB p ev wv nv),plV p ev wv nv,?_,hQ _ ⟨by rw[List.length_set];exact h.ext.1,λb hb _=> ?_⟩ (h.e.gF λb hb=> ?_) (h.w.gF λb hb=> ?_) ⟨us,hi.Vd (λb hb=> ?_) (λu hu b hb=> ?_),hap⟩⟩
 ·unfold Ka
  simp -implicitDefEqProofs only[gsR,l11,st,l2]
 ·rw[aN7 (by have:=h.lr;omega),h.ext.2 b hb id]
 ·obtain⟨cs,hc⟩:=h.e.blk hb
  exact kp b cs _ hc
 ·obtain⟨cs,hc⟩:=h.w.blk hb
  exact kp b cs _ hc
 ·obtain⟨cs,hc⟩:=hi.row.blk hb
  exact kp b cs _ hc
 ·obtain⟨cs,hc⟩:=hi.blk hu hb
  exact kp b cs _ hc
def Made (H0:aC)(p:PlanD)(H2:aC)(u:Value):Prop:= ∃ev wv nv,u=plV p ev wv nv/\Ext H0 H2/\Ew H2 ev p.edges/\Iw H2 wv p.weights/\RowsA H0 H2 nv p.next wv
theorem aGp {H0:aC}{pb rb n joined:Nat}{a4:Value}{next:List Nat}{zs:List Value}(hn6:n<=6)(hnx:Us H0 a4 next)(hu8: ∀x∈next,x<256)(hnl:next.length<=72057594037927936)(hpn:p.nodes=(n:Int))(hm:50<m)(hpx:p.next=(List.range n).map (uX n next)): ∀(q i k:Nat)(H1:aC)(nv1:Value),n-i=q->i<=n->q<k->MS H0 H1 pb rb zs p ev wv nv1 p.edges p.weights->RowsA H0 H1 nv1 ((List.range i).map (uX n next)) wv->New H0 nv1-> ∀(x0 x1 x2 x5 x6 x7 x8 x9 aR aN aM aP aQ bC bJ bL bI bE aS aT aU aV aW aX aY bA bB bN bO bP bQ bR bS bT bU bV bY cE cG cH cL cQ cU cV cM cN cO cR cY cW cX cZ dD dH dE dI dP dQ dV dW dX dY dZ eA eC eJ eK eM eN eO eP eQ eS eT eU eV eW fC fD fE fF fG fH fI fJ fS fT fU fV fW fX fY fZ gA gB gC gD gE gG gH gI gJ gK gL gM gN gO gP gQ gR gS gT gU gV gW gX gY gZ jB jC jD jE jH jI jJ jK jL jM jO mE mF mG mH:Value),
  ∃H2 u2,aI k (aK prog (lvl prog cD m) (aI m) J8) (Kf (lvl prog cD m) (aI m)) [x0,x1,x2,(.int .u16 joined),a4,x5,x6,x7,x8,x9,(.pointer (some ⟨rb,0,none⟩)),(.pointer (some ⟨pb,0,none⟩)),aR,aN,aM,aP,(.int .i64 (i*n:Nat)),(.int .i64 (i:Nat)),aQ,bC,bJ,bL,bI,bE,aS,aT,aU,aV,aW,aX,aY,bA,bB,bN,bO,bP,bQ,bR,bS,bT,bU,bV,bY,cE,cG,cH,cL,cQ,cU,cV,cM,cN,cO,cR,cY,cW,cX,cZ,dD,dH,dE,dI,dP,dQ,dV,dW,dX,dY,dZ,eA,eC,eJ,eK,eM,eN,eO,eP,eQ,eS,eT,eU,eV,eW,fC,fD,fE,fF,fG,fH,fI,fJ,fS,fT,fU,fV,fW,fX,fY,fZ,gA,gB,gC,gD,gE,gG,gH,gI,gJ,gK,gL,gM,gN,gO,gP,gQ,gR,gS,gT,gU,gV,gW,gX,gY,gZ,jB,jC,jD,jE,jH,jI,jJ,jK,jL,jM,jO,mE,mF,mG,mH] H1=some (u2,H2)/\Made H0 p H2 u2:=by
 intro q;induction q with
 |zero=>
  intro i k H1 nv1 hr hi hk hM hR hnew;intros;obtain⟨k,rfl⟩:=aB k (by omega)
  obtain rfl:n=i:=by omega
  have e:decide (((n:Nat):Int)<(n:Nat))=false:=by simp
  have l0:=eG hM.hb 0 _ rfl;rw[hpn] at l0;rw[eD,Um];simp -implicitDefEqProofs only[gsR,l0,e];rw[aFw];exact aGn hM hR (λH2 g2 g3 g4 g5=>⟨ev,wv,nv1,rfl,g2,g3,g4,by rw[hpx];exact g5⟩) ..
 |succ q ih=>
  intro i k H1 nv1 hr hi hk hM hR hnew;intros;obtain⟨k,rfl⟩:=aB k (by omega)
  have e:decide ((i:Int)<(n:Nat))=true:=aOQ (by omega)
  have e3:=aA (i:=i) (by omega)
  have l0:=eG hM.hb 0 _ rfl;rw[hpn] at l0;rw[eD,Um];simp -implicitDefEqProofs only[gsR,l0,e];have hz0:i*n=i*n+0:=rfl;rw[hz0];refine aGo (H0:=H1) (b:=pb) (rb:=rb) (v:=i) (zs:=zs) (next:=next) (Q:=Made H0 p) hn6 (by omega) (hnx.ext hM.ext) hu8 hnl hpn hM.hr hM.hb ?_ n 0 m H1 (.slice none 0 0) (by omega) (by omega) (by omega) (Fr.nF _ _) (Rw.lE (el:=inC)) (New.nG _) ..
  intro H2 u x2 hu hun;intros;have hM2:=hM.aGg x2;obtain⟨us,hi1,hap⟩:=hR;have hi:RowsI H2 nv1 ((List.range i).map (uX n next)) us:=hi1.Vd (λb hb=>x2.2 b (hi1.row.iO hb) id) λu hu b hb=>x2.2 b (hi1.Ve hu hb) id
  have l10:=eG hM2.hb 10 _ rfl;obtain⟨s1,s2⟩:=Rw.yH hu;have s3:u.cells= #[u]:=Array.toList_inj.mp s1;obtain⟨su,rfl⟩: ∃su:SV,su.1=u:=⟨⟨u,s2,s3⟩,rfl⟩;have hb1:=aDZ 37 (.slice none 0 0) su.1 s2 s3 H2;obtain⟨nv2,H3,H4,g1,g2,g3,g4,g5,g6,g7⟩:=Bd (by':=24) Kv Ku (by decide) (j:=10) (H0:=H0) su hM2.hb (by simp[plC]) hi.row hnew hM.lp hM2.ext (kH (n:=1000) (by decide) (by have:=hi.len;rw[aOk,aOB] at this;omega))
  have g1':app 37 1 24 nv1 (.slice (some ⟨H2.length,0,none⟩) 1 1) (H2++[.cells [su.1] 37 .row])=some (nv2,H3):=g1;have hb4:H4[pb]? =some (plB p ev wv nv2):=g6;have e5:IntKind.i64.wrap ((i:Int)+1)=((i+1:Nat):Int):=e3;unfold Kb;simp -implicitDefEqProofs only[gsR,l10,hb1,g1',g2,cI,e5];have kI: ∀(w:Value)(xs:List Int),Iw H2 w xs->Iw H4 w xs:=λw xs hw=>Rw.yN hw g7 hM2.hb (by decide)
  refine ih (i+1) k H4 nv2 (by omega) (by omega) (by omega) ⟨g5,hb4,g7 _ _ hM.ne (λcs hh=>by cases hh) hM2.hr,Rw.yN hM2.e g7 hM2.hb (by decide),hM.en,kI _ _ hM2.w,hM.wn,hM.ne,hM.lp,hM.lr,hM.zl⟩ ⟨us++[su],⟨g3,?_,?_,?_⟩,?_⟩ g4 ..
  ·rw[aOi,hi.len]
   simp
  ·intro j w xs hw hxs
   rw[aOG,List.map_append] at hxs;by_cases hj:j<us.length
   ·rw[aN9 hj] at hw
    rw[aN9 (by rw[<-hi.len];exact hj)] at hxs
    exact kI _ _ (hi.el j w xs hw hxs)
   ·rw[aOr (by omega)] at hw
    rw[aOr (by rw[<-hi.len];omega),<-hi.len] at hxs
    by_cases h0:j-us.length=0
    ·rw[h0] at hw hxs
     cases hw;cases hxs;exact kI _ _ hu
    ·rw[aOh (by simp;omega)] at hw
     cases hw
  ·intro j j' w w' hjj hw hw' bb hb1' hb2'
   by_cases hj':j'<us.length
   ·rw[aN9 hj'] at hw'
    rw[aN9 (by omega)] at hw
    exact hi.ap j j' w w' hjj hw hw' bb hb1' hb2'
   ·rw[aOr (by omega)] at hw'
    by_cases h0:j'-us.length=0
    ·rw[h0] at hw'
     cases hw';rw[aN9 (by omega)] at hw
     have h1:=hi1.Ve (aOg hw) hb1';have h2:=hun bb hb2';omega
    ·rw[aOh (by simp;omega)] at hw'
     cases hw'
  ·intro w hw bb hb1'
   rcases List.mem_append.mp hw with hw|hw
   ·exact hap w hw bb hb1'
   ·have:w=su:=by simpa using hw
    subst this;have h1:=hun bb hb1';have h3:=hM.ext.1
    exact⟨λhb2'=>by have h2:=hM.w.iO hb2';omega,by omega⟩
theorem Vg (a b:Nat): ∀(L:List (Nat×Nat))(bit:Nat),oD bit (L++[(a,b)])=oD bit L++(if bit/2 ^ L.length%2=1 then [((a:Int),(b:Int))] else [])
 |[],bit=>by
  simp only[List.nil_append,oD,List.length_nil,Nat.pow_zero,Nat.div_one]
 |(c,d)::L,bit=>by
  have ih:=Vg a b L (bit/2);have hp:bit/2/2 ^ L.length=bit/2 ^ (L.length+1):=by rw[Nat.div_div_eq_div_mul,Nat.pow_succ,Nat.mul_comm]
  rw[hp] at ih;simp only[List.cons_append,oD,aOt,ih];by_cases h:bit%2=1
  ·rw[if_pos h,if_pos h];rfl
  ·rw[if_neg h,if_neg h]
theorem Kx: ∀(L:List (Nat×Nat))(bit:Nat),(oD bit L).length<=L.length
 |[],_=>aOb _
 |(c,d)::L,bit=>by
  have ih:=Kx L (bit/2);unfold oD;split
  ·simp only[aOt];omega
  ·simp only[aOt];omega
theorem Eh (n:Nat):prs (n+1)=prs n++(List.range n).map λa=>(a,n):=by
 unfold prs;rw[aOG,List.flatMap_append];simp
theorem Vf: ∀n,(prs n).length<=n*n
 |0=>by simp[prs]
 |n+1=>by
  have:=Vf n;rw[Eh,aOi,aOk,aOB];have e:(n+1)*(n+1)=n*n+n+n+1:=by rw[Nat.succ_mul,Nat.mul_succ];omega
  omega
theorem aGj (bit k:Nat):bit/2 ^ k/2=bit/2 ^ (k+1):=by rw[Nat.div_div_eq_div_mul,Nat.pow_succ]
theorem aGk {H0:aC}{pb rb B joined:Nat}{a4:Value}{zs:List Value}{Wt:List Int}(hB:B<=6)(hj:joined<65536){Q:aC->Value->Prop}{K:Ex->K (Value×aC)}
  (hK: ∀(H':aC)(ev':Value),MS H0 H' pb rb zs p ev' wv nv (oD joined (prs (B+1))) Wt-> ∀(x0 x1 x2 x5 x6 x7 x8 x9 aR aP aZ bG aQ bC bJ bL bI bE aS aT aU aV aW aX aY bA bB bN bO bP bQ bR bS bT bU bV bY cE cG cH cL cQ cU cV cM cN cO cR cY cW cX cZ dD dH dE dI dP dQ dV dW dX dY dZ eA eC eJ eK eM eN eO eP eQ eS eT eU eV eW fC fD fE fF fG fH fI fJ fS fT fU fV fW fX fY fZ gA gB gC gD gE gG gH gI gJ gK gL gM gN gO gP gQ gR gS gT gU gV gW gX gY gZ jB jC jD jE jH jI jJ jK jL jM jO mE mF mG mH:Value),∃H2 u2,K .normal [x0,x1,x2,(.int .u16 joined),a4,x5,x6,x7,x8,x9,(.pointer (some ⟨rb,0,none⟩)),(.pointer (some ⟨pb,0,none⟩)),aR,(.int .u16 (joined/2 ^ (prs (B+1)).length:Nat)),(.int .i64 (IntKind.i64.wrap ((B:Int)+1))),aP,aZ,bG,aQ,bC,bJ,bL,bI,bE,aS,aT,aU,aV,aW,aX,aY,bA,bB,bN,bO,bP,bQ,bR,bS,bT,bU,bV,bY,cE,cG,cH,cL,cQ,cU,cV,cM,cN,cO,cR,cY,cW,cX,cZ,dD,dH,dE,dI,dP,dQ,dV,dW,dX,dY,dZ,eA,eC,eJ,eK,eM,eN,eO,eP,eQ,eS,eT,eU,eV,eW,fC,fD,fE,fF,fG,fH,fI,fJ,fS,fT,fU,fV,fW,fX,fY,fZ,gA,gB,gC,gD,gE,gG,gH,gI,gJ,gK,gL,gM,gN,gO,gP,gQ,gR,gS,gT,gU,gV,gW,gX,gY,gZ,jB,jC,jD,jE,jH,jI,jJ,jK,jL,jM,jO,mE,mF,mG,mH] H'=some (u2,H2)/\Q H2 u2): ∀(q i k:Nat)(H1:aC)(ev1:Value),B-i=q->i<=B->q<k->MS H0 H1 pb rb zs p ev1 wv nv (oD joined (prs B++(List.range i).map λa=>(a,B))) Wt-> ∀(x0 x1 x2 x5 x6 x7 x8 x9 aR aZ bG aQ bC bJ bL bI bE aS aT aU aV aW aX aY bA bB bN bO bP bQ bR bS bT bU bV bY cE cG cH cL cQ cU cV cM cN cO cR cY cW cX cZ dD dH dE dI dP dQ dV dW dX dY dZ eA eC eJ eK eM eN eO eP eQ eS eT eU eV eW fC fD fE fF fG fH fI fJ fS fT fU fV fW fX fY fZ gA gB gC gD gE gG gH gI gJ gK gL gM gN gO gP gQ gR gS gT gU gV gW gX gY gZ jB jC jD jE jH jI jJ jK jL jM jO mE mF mG mH:Value),
  ∃H2 u2,aI k (aK prog (lvl prog cD m) (aI m) J7) (Ke (lvl prog cD m) (aI m) K) [x0,x1,x2,(.int .u16 joined),a4,x5,x6,x7,x8,x9,(.pointer (some ⟨rb,0,none⟩)),(.pointer (some ⟨pb,0,none⟩)),aR,(.int .u16 (joined/2 ^ ((prs B).length+i):Nat)),(.int .i64 (B:Nat)),(.int .i64 (i:Nat)),aZ,bG,aQ,bC,bJ,bL,bI,bE,aS,aT,aU,aV,aW,aX,aY,bA,bB,bN,bO,bP,bQ,bR,bS,bT,bU,bV,bY,cE,cG,cH,cL,cQ,cU,cV,cM,cN,cO,cR,cY,cW,cX,cZ,dD,dH,dE,dI,dP,dQ,dV,dW,dX,dY,dZ,eA,eC,eJ,eK,eM,eN,eO,eP,eQ,eS,eT,eU,eV,eW,fC,fD,fE,fF,fG,fH,fI,fJ,fS,fT,fU,fV,fW,fX,fY,fZ,gA,gB,gC,gD,gE,gG,gH,gI,gJ,gK,gL,gM,gN,gO,gP,gQ,gR,gS,gT,gU,gV,gW,gX,gY,gZ,jB,jC,jD,jE,jH,jI,jJ,jK,jL,jM,jO,mE,mF,mG,mH] H1=some (u2,H2)/\Q H2 u2:=by
 intro q;induction q with
 |zero=>
  intro i k H1 ev1 hr hi hk hM;intros;obtain⟨k,rfl⟩:=aB k (by omega)
  obtain rfl:B=i:=by omega
  have e:decide (((B:Nat):Int)<(B:Nat))=false:=by simp
  rw[<-Eh] at hM;have hl:(prs B).length+B=(prs (B+1)).length:=by rw[Eh,aOi,aOk,aOB]
  rw[hl];rw[eD,Ul];simp -implicitDefEqProofs only[gsR,e];rw[aFv];simp -implicitDefEqProofs only[gsR,cI];exact hK H1 ev1 hM ..
 |succ q ih=>
  intro i k H1 ev1 hr hi hk hM;intros;obtain⟨k,rfl⟩:=aB k (by omega)
  have e:decide ((i:Int)<(B:Nat))=true:=aOQ (by omega)
  have e3:=aA (i:=i) (by omega)
  have hpl:=Vf B;have hpl2:B*B<=36:=Nat.mul_le_mul hB hB;have hbit:joined/2 ^ ((prs B).length+i)<65536:=Nat.lt_of_le_of_lt (Nat.div_le_self _ _) hj;have r2:=aGs (joined/2 ^ ((prs B).length+i)) 2 2 rfl (by omega)
  have q2:=aGr (joined/2 ^ ((prs B).length+i)) 2 2 rfl (by omega) hbit
  rw[aGj,Nat.add_assoc] at q2;have l1:=eG hM.hb 1 _ rfl;have hlen:(prs B++(List.range i).map λa=>(a,B)).length=(prs B).length+i:=by rw[aOi,aOk,aOB]
  have hsn:=Vg i B (prs B++(List.range i).map λa=>(a,B)) joined
  rw[hlen] at hsn;have hap:prs B++(List.range (i+1)).map (λa=>(a,B))=(prs B++(List.range i).map λa=>(a,B))++[(i,B)]:=by rw[aOG,List.map_append,aOd];rfl
  have hsl:=Kx (prs B++(List.range i).map λa=>(a,B)) joined
  rw[hlen] at hsl;rw[eD,Ul];by_cases c:joined/2 ^ ((prs B).length+i)%2=1
  ·have d:(((joined/2 ^ ((prs B).length+i)%2:Nat):Int)==1)=true:=by rw[c];rfl
   rw[if_pos c] at hsn;obtain⟨ev2,H3,H4,g1,g2,g3,g4,g5,g6,g7⟩:=Bd (by':=16) sU Kl (by decide) (j:=1) (H0:=H0) ((i:Int),(B:Int)) hM.hb (by simp[plC]) hM.e hM.en hM.lp hM.ext (kH (n:=1000) (by decide) (by omega))
   have hb4:H4[pb]? =some (plB p ev2 wv nv):=g6;simp -implicitDefEqProofs only[gsR,e,r2,d,l1,bEd,aGi,g1,g2,q2,cI,e3];exact ih (i+1) k H4 ev2 (by omega) (by omega) (by omega) ⟨g5,hb4,g7 _ _ hM.ne (λcs hh=>by cases hh) hM.hr,by rw[hap,hsn];exact g3,g4,Rw.yN hM.w g7 hM.hb (by decide),hM.wn,hM.ne,hM.lp,hM.lr,hM.zl⟩ ..
  ·have d:(((joined/2 ^ ((prs B).length+i)%2:Nat):Int)==1)=false:=beq_eq_false_iff_ne.mpr (λh=>c (Int.ofNat.inj h))
   rw[if_neg c,List.append_nil] at hsn;simp -implicitDefEqProofs only[gsR,e,r2,d,q2,cI,e3];exact ih (i+1) k H1 ev1 (by omega) (by omega) (by omega) (by rw[hap,hsn];exact hM) ..
theorem aGl {H0:aC}{pb rb n joined:Nat}{a4:Value}{next:List Nat}{zs:List Value}(hn6:n<=6)(hnx:Us H0 a4 next)(hu8: ∀x∈next,x<256)(hnl:next.length<=72057594037927936)(hpn:p.nodes=(n:Int))(hm:50<m)(hj:joined<65536)(hpx:p.next=(List.range n).map (uX n next))(hpe:p.edges=oD joined (prs n))(hn1:1<=n): ∀(q i k:Nat)(H1:aC)(ev1:Value),n-i=q->i<=n->q<k->1<=i->MS H0 H1 pb rb zs p ev1 wv (.slice none 0 0) (oD joined (prs i)) p.weights-> ∀(x0 x1 x2 x5 x6 x7 x8 x9 aR aP aZ bG aQ bC bJ bL bI bE aS aT aU aV aW aX aY bA bB bN bO bP bQ bR bS bT bU bV bY cE cG cH cL cQ cU cV cM cN cO cR cY cW cX cZ dD dH dE dI dP dQ dV dW dX dY dZ eA eC eJ eK eM eN eO eP eQ eS eT eU eV eW fC fD fE fF fG fH fI fJ fS fT fU fV fW fX fY fZ gA gB gC gD gE gG gH gI gJ gK gL gM gN gO gP gQ gR gS gT gU gV gW gX gY gZ jB jC jD jE jH jI jJ jK jL jM jO mE mF mG mH:Value),
  ∃H2 u2,aI k (aK prog (lvl prog cD m) (aI m) J6) (Kd (lvl prog cD m) (aI m)) [x0,x1,x2,(.int .u16 joined),a4,x5,x6,x7,x8,x9,(.pointer (some ⟨rb,0,none⟩)),(.pointer (some ⟨pb,0,none⟩)),aR,(.int .u16 (joined/2 ^ (prs i).length:Nat)),(.int .i64 (i:Nat)),aP,aZ,bG,aQ,bC,bJ,bL,bI,bE,aS,aT,aU,aV,aW,aX,aY,bA,bB,bN,bO,bP,bQ,bR,bS,bT,bU,bV,bY,cE,cG,cH,cL,cQ,cU,cV,cM,cN,cO,cR,cY,cW,cX,cZ,dD,dH,dE,dI,dP,dQ,dV,dW,dX,dY,dZ,eA,eC,eJ,eK,eM,eN,eO,eP,eQ,eS,eT,eU,eV,eW,fC,fD,fE,fF,fG,fH,fI,fJ,fS,fT,fU,fV,fW,fX,fY,fZ,gA,gB,gC,gD,gE,gG,gH,gI,gJ,gK,gL,gM,gN,gO,gP,gQ,gR,gS,gT,gU,gV,gW,gX,gY,gZ,jB,jC,jD,jE,jH,jI,jJ,jK,jL,jM,jO,mE,mF,mG,mH] H1=some (u2,H2)/\Made H0 p H2 u2:=by
 intro q;induction q with
 |zero=>
  intro i k H1 ev1 hr hi hk h1i hM;intros;obtain⟨k,rfl⟩:=aB k (by omega)
  obtain rfl:n=i:=by omega
  have e:decide (((n:Nat):Int)<(n:Nat))=false:=by simp
  have l0:=eG hM.hb 0 _ rfl;rw[hpn] at l0;rw[<-hpe] at hM;rw[eD,Uk];simp -implicitDefEqProofs only[gsR,l0,e];rw[aFu];have:=aGp (m:=m) (pb:=pb) (rb:=rb) (zs:=zs) (wv:=wv) (ev:=ev1) (joined:=joined) hn6 hnx hu8 hnl hpn hm hpx n 0 m H1 (.slice none 0 0) (by omega) (by omega) (by omega) hM ⟨[],⟨Rw.lE,rfl,λj u xs h=>by simp at h,λj j' u u' _ h=>by simp at h⟩,λu hu=>by cases hu⟩ (New.nG _)
  rw[Nat.zero_mul] at this;exact this ..
 |succ q ih=>
  intro i k H1 ev1 hr hi hk h1i hM;intros;obtain⟨k,rfl⟩:=aB k (by omega)
  have e:decide ((i:Int)<(n:Nat))=true:=aOQ (by omega)
  have e3:=aA (i:=i) (by omega)
  have l0:=eG hM.hb 0 _ rfl;rw[hpn] at l0;rw[eD,Uk];simp -implicitDefEqProofs only[gsR,l0,e];refine aGk (H0:=H0) (pb:=pb) (rb:=rb) (B:=i) (joined:=joined) (zs:=zs) (wv:=wv) (Wt:=p.weights) (Q:=Made H0 p) (by omega) hj ?_ i 0 m H1 ev1 (by omega) (by omega) (by omega) (by simpa using hM) ..
  intro H2 ev2 hM2;intros;rw[again_normal,e3];exact ih (i+1) k H2 ev2 (by omega) (by omega) (by omega) (by omega) hM2 ..
theorem aGq {H0:aC}{pb rb n joined:Nat}{a4:Value}{next:List Nat}{zs:List Value}(hn6:n<=6)(hnx:Us H0 a4 next)(hu8: ∀x∈next,x<256)(hnl:next.length<=72057594037927936)(hpn:p.nodes=(n:Int))(hm:50<m){more:Nat}(hmore:more<256)(hj:joined<65536)(hpx:p.next=(List.range n).map (uX n next))(hpe:p.edges=oD joined (prs n))(hpw:p.weights=(List.range (1+more%3)).map (mkW more))(hpl:p.lanes=((1+more%3:Nat):Int))(hn1:1<=n): ∀(q i k:Nat)(H1:aC)(wv1:Value),(1+more%3)-i=q->i<=(1+more%3)->q<k->MS H0 H1 pb rb zs p (.slice none 0 0) wv1 (.slice none 0 0) [] ((List.range i).map (mkW more))-> ∀(x0 x1 x5 x6 x7 x8 x9 aN aM aP aZ bG aQ bC bJ bL bI bE aS aT aU aV aW aX aY bA bB bN bO bP bQ bR bS bT bU bV bY cE cG cH cL cQ cU cV cM cN cO cR cY cW cX cZ dD dH dE dI dP dQ dV dW dX dY dZ eA eC eJ eK eM eN eO eP eQ eS eT eU eV eW fC fD fE fF fG fH fI fJ fS fT fU fV fW fX fY fZ gA gB gC gD gE gG gH gI gJ gK gL gM gN gO gP gQ gR gS gT gU gV gW gX gY gZ jB jC jD jE jH jI jJ jK jL jM jO mE mF mG mH:Value),
  ∃H2 u2,aI k (aK prog (lvl prog cD m) (aI m) J5) (Kc (lvl prog cD m) (aI m)) [x0,x1,(.int .u8 more),(.int .u16 joined),a4,x5,x6,x7,x8,x9,(.pointer (some ⟨rb,0,none⟩)),(.pointer (some ⟨pb,0,none⟩)),(.int .i64 (i:Nat)),aN,aM,aP,aZ,bG,aQ,bC,bJ,bL,bI,bE,aS,aT,aU,aV,aW,aX,aY,bA,bB,bN,bO,bP,bQ,bR,bS,bT,bU,bV,bY,cE,cG,cH,cL,cQ,cU,cV,cM,cN,cO,cR,cY,cW,cX,cZ,dD,dH,dE,dI,dP,dQ,dV,dW,dX,dY,dZ,eA,eC,eJ,eK,eM,eN,eO,eP,eQ,eS,eT,eU,eV,eW,fC,fD,fE,fF,fG,fH,fI,fJ,fS,fT,fU,fV,fW,fX,fY,fZ,gA,gB,gC,gD,gE,gG,gH,gI,gJ,gK,gL,gM,gN,gO,gP,gQ,gR,gS,gT,gU,gV,gW,gX,gY,gZ,jB,jC,jD,jE,jH,jI,jJ,jK,jL,jM,jO,mE,mF,mG,mH] H1=some (u2,H2)/\Made H0 p H2 u2:=by
 intro q;induction q with
 |zero=>
  intro i k H1 wv1 hr hi hk hM;intros;obtain⟨k,rfl⟩:=aB k (by omega)
  obtain rfl:(1+more%3)=i:=by omega
  have e:decide ((((1+more%3):Nat):Int)<((1+more%3):Nat))=false:=by simp
  have l2:=eG hM.hb 2 _ rfl;rw[hpl] at l2;rw[<-hpw] at hM;rw[eD,Uj];simp -implicitDefEqProofs only[gsR,l2,e];rw[aFt];have:=aGl (m:=m) (pb:=pb) (rb:=rb) (zs:=zs) (wv:=wv1) (joined:=joined) hn6 hnx hu8 hnl hpn hm hj hpx hpe hn1 (n-1) 1 m H1 (.slice none 0 0) rfl hn1 (by omega) (aOb _) hM
  have hp1:joined/2 ^ (prs 1).length=joined:=by
   have:(prs 1).length=0:=rfl;rw[this,Nat.pow_zero,Nat.div_one]
  rw[hp1] at this;exact this ..
 |succ q ih=>
  intro i k H1 wv1 hr hi hk hM;intros;obtain⟨k,rfl⟩:=aB k (by omega)
  have e:decide ((i:Int)<((1+more%3):Nat))=true:=aOQ (by omega)
  have e3:=aA (i:=i) (by omega)
  have l2:=eG hM.hb 2 _ rfl;rw[hpl] at l2;have l8:=eG hM.hb 8 _ rfl;have hcv:=λH=>cvU H more hmore
  have a1:IntKind.i64.wrap ((i:Int)+(more:Int))=((i+more:Nat):Int):=by rw[dM (by omega) (by omega)];omega
  have a2:=rS (i+more) 5 5 rfl (by omega)
  have a3:IntKind.i64.wrap (1+((((i+more)%5:Nat)):Int))=mkW more i:=by unfold mkW;rw[dM (by omega) (by omega)];omega
  obtain⟨wv2,H2,H3,g1,g2,g3,g4,g5,g6,g7⟩:=Bd (by':=8) iQ o7 (by decide) (j:=8) (H0:=H0) (mkW more i) hM.hb (by simp[plC]) hM.w hM.wn hM.lp hM.ext (kH (n:=1000) (by decide) (by simp;omega))
  have hb3:H3[pb]? =some (plB p (.slice none 0 0) wv2 (.slice none 0 0)):=g6;rw[eD,Uj];simp -implicitDefEqProofs only[gsR,l2,e,l8,hcv,cI,a1,a2,a3,oT,g1,g2,e3];exact ih (i+1) k H3 wv2 (by omega) (by omega) (by omega) ⟨g5,hb3,g7 _ _ hM.ne (λcs hh=>by cases hh) hM.hr,Rw.lE,New.nG _,by rw[aOG,List.map_append];exact g3,g4,hM.ne,hM.lp,hM.lr,hM.zl⟩ ..
theorem bPl (a b c d e f g h:Int):bld prog 40 [(0,.int .i64 a),(2,.int .i64 b),(3,.int .i64 c),(4,.int .i64 d),(5,.int .i64 e),(6,.int .i64 f),(7,.int .i64 g),(9,.int .u16 h)]=some (.agg #[.int .i64 a,.slice none 0 0,.int .i64 b,.int .i64 c,.int .i64 d,.int .i64 e,.int .i64 f,.int .i64 g,.slice none 0 0,.int .u16 h,.slice none 0 0]):=by kernel_rfl
theorem aGm (nodes room more joined:Nat)(h1:nodes<256)(h2:room<256)(h3:more<256)(h4:joined<65536){a4:Value}{next:List Nat}(hnx:Us H a4 next)(hu8: ∀x∈next,x<256)(hnl:next.length<=72057594037927936)(hm:60<m):
  ∃H2 u,lvl prog cD m (.func 44) [.int .u8 nodes,.int .u8 room,.int .u8 more,.int .u16 joined,a4] H=some (u,H2)/\Made H (mkP nodes room more joined next) H2 u:=by
 obtain⟨p,hp⟩: ∃p,p=mkP nodes room more joined next:=⟨_,rfl⟩
 rw[<-hp];obtain⟨zs,hzs⟩: ∃zs,zs=[Value.int .i64 0,.slice none 0 0,.int .i64 0,.int .i64 0,.int .i64 0,.int .i64 0,.int .i64 0,.int .i64 0,.slice none 0 0,.int .u16 0,.slice none 0 0]:=⟨_,rfl⟩;obtain⟨H1,hH1⟩: ∃H1,H1=H++[Blk.cells zs 40 .fix]:=⟨_,rfl⟩;have x1:Ext H H1:=by rw[hH1];exact Fr.app _ _ _
 have n1:=wO nodes 5 5 rfl (by omega)
 have n2:=λH=>cvU H (nodes%5) (by omega)
 have n3:IntKind.i64.wrap (2+((nodes%5:Nat):Int))=p.nodes:=by rw[dM (by omega) (by omega),hp];simp[mkP,mkN]
 have n4:=wO more 3 3 rfl (by omega)
 have n5:=λH=>cvU H (more%3) (by omega)
 have n6:IntKind.i64.wrap (1+((more%3:Nat):Int))=p.lanes:=by rw[dM (by omega) (by omega),hp];simp[mkP]
 have r1:=wO room 8 8 rfl (by omega)
 have r2:=λH=>cvU H (room%8) (by omega)
 have r3:IntKind.i64.wrap (1+((room%8:Nat):Int))=p.room:=by rw[dM (by omega) (by omega),hp];simp[mkP]
 have r4:=Ei room 8 8 rfl (by omega) h2
 have r5:=wO (room/8) 8 8 rfl (by omega)
 have r6:=λH=>cvU H (room/8%8) (by omega)
 have r7:IntKind.i64.wrap (1+((room/8%8:Nat):Int))=p.queue:=by rw[dM (by omega) (by omega),hp];simp[mkP]
 have m1:=Ei more 3 3 rfl (by omega) h3
 have m2:=wO (more/3) 4 4 rfl (by omega)
 have m3:=λH=>cvU H (more/3%4) (by omega)
 have m4:IntKind.i64.wrap (1+((more/3%4:Nat):Int))=p.rounds:=by rw[dM (by omega) (by omega),hp];simp[mkP]
 have m5:=Ei more 12 12 rfl (by omega) h3
 have m6:=wO (more/12) 8 8 rfl (by omega)
 have m7:=λH=>cvU H (more/12%8) (by omega)
 have m8:IntKind.i64.wrap (1+((more/12%8:Nat):Int))=p.every:=by rw[dM (by omega) (by omega),hp];simp[mkP]
 have b64:p.bag=64:=by rw[hp];rfl
 have bst:p.start=joined:=by rw[hp];rfl
 obtain⟨H2,hH2⟩: ∃H2,H2=H1++[plB p (.slice none 0 0) (.slice none 0 0) (.slice none 0 0)]:=⟨_,rfl⟩;have x2:Ext H1 H2:=by rw[hH2];exact Fr.app _ _ _
 have st:stN 11 (.pointer (some ⟨H1.length,0,none⟩)) (.agg #[.int .i64 p.nodes,.slice none 0 0,.int .i64 p.lanes,.int .i64 p.room,.int .i64 p.queue,.int .i64 p.rounds,.int .i64 p.every,.int .i64 64,.slice none 0 0,.int .u16 joined,.slice none 0 0]) (H1++[.cells zs 40 .fix])=some (undef,H2):=by
  rw[mX 11 _ _ _ rfl,hP,oA _ _ _ _ _ _ (by decide) (by rw[hzs];simp[Value.cells]) rfl,hH2,hzs]
  simp[eH,Value.cells,plB,plC,b64,bst]
 have hr1:H1[H.length]? =some (.cells zs 40 .fix):=by rw[hH1];exact hP _ _
 have hM:MS H H2 H1.length H.length zs p (.slice none 0 0) (.slice none 0 0) (.slice none 0 0) [] ((List.range 0).map (mkW more)):=
  ⟨x1.tr x2,by rw[hH2];exact hP _ _,fN hr1 x2,Rw.lE,New.nG _,Rw.lE,New.nG _,by rw[hH1,aOi];simp,x1.1,aOb _,by rw[hzs];rfl⟩
 refine iP (iC rfl rfl) (by omega) ?_
 rw[aFy];simp -implicitDefEqProofs only[gsR,<-hzs,<-hH1,n1,n2,cI,n3,n4,n5,n6,r1,r2,r3,r4,r5,r6,r7,m1,m2,m3,m4,m5,m6,m7,m8,bPl,st];exact aGq (m:=m-1) (n:=mkN nodes) (p:=p) (pb:=H1.length) (rb:=H.length) (zs:=zs) (by unfold mkN;omega) hnx hu8 hnl (by rw[hp];rfl) (by omega) h3 h4 (by rw[hp];rfl) (by rw[hp];rfl) (by rw[hp];rfl) (by rw[hp];rfl) (by unfold mkN;omega) (1+more%3) 0 (m-1) H2 (.slice none 0 0) (by omega) (by omega) (by omega) hM ..
end
def okE (n:Int)(e:Ed):Prop:=0<=e.1/\e.1<e.2/\e.2<n
structure VE (n:Int)(E:List Ed):Prop where
 ok: ∀e∈E,okE n e
 nd:E.Nodup
theorem Vh (n:Int): ∀(E old:List Ed),tO n old E=true↔((∀e∈E,okE n e)/\E.Nodup/\ ∀e∈E,e∉old)
 |[],old=>by simp[tO]
 |e::E,old=>by
  have ih:=Vh n E (old++[e]);have hany:(old.any λx=>x==e)=true↔e∈old:=by
   rw[List.any_eq_true];constructor
   ·rintro ⟨x,h1,h2⟩
    have:x=e:=by simpa using h2
    exact this▸h1
   ·intro h
    exact⟨e,h,by simp⟩
  unfold tO;rw[aOe,ih,Bool.not_eq_true',Bool.or_eq_false_iff,Bool.or_eq_false_iff,Bool.or_eq_false_iff];simp only[decide_eq_false_iff_not,List.nodup_cons,aOq,List.mem_append,aOx,or_false];have hany':(old.any λx=>x==e)=false↔e∉old:=by rw[<-Bool.not_eq_true,hany]
  rw[hany'];constructor
  ·rintro ⟨⟨h1,h2,h3,h4⟩,h5,h6,h7⟩
   refine⟨?_,⟨λhh=>(h7 e hh) (.inr rfl),h6⟩,?_⟩
   ·rintro x (rfl|hx)
    ·exact⟨by omega,by omega,by omega⟩
    ·exact h5 x hx
   ·rintro x (rfl|hx)
    ·exact h4
    ·exact λhh=>h7 x hx (.inl hh)
  ·rintro ⟨h1,⟨h2,h3⟩,h4⟩
   obtain⟨a1,a2,a3⟩:=h1 e (.inl rfl);refine⟨⟨by omega,by omega,by omega,h4 e (.inl rfl)⟩,λx hx=>h1 x (.inr hx),h3,λx hx=> ?_⟩
   rintro (hh|rfl)
   ·exact h4 x (.inr hx) hh
   ·exact h2 hx
theorem Vi (n:Int)(E:List Ed):tO n [] E=true↔VE n E:=by
 rw[Vh]
 exact⟨λh=>⟨h.1,h.2.1⟩,λh=>⟨h.ok,h.nd,λ_ _=>aOx⟩⟩
def yO (p:Nat×Nat):Ed:=((p.1:Int),(p.2:Int))
theorem K2: ∀(L:List (Nat×Nat))(bit:Nat),(oD bit L).Sublist (L.map yO)
 |[],_=>List.Sublist.slnil
 |(a,b)::L,bit=>by
  unfold oD;split
  ·exact(K2 L (bit/2)).cons_cons _
  ·exact(K2 L (bit/2)).cons _
theorem Vl {n a b:Nat}:(a,b)∈prs n↔a<b/\b<n:=by
 unfold prs;rw[List.mem_flatMap];constructor
 ·rintro ⟨x,h1,h2⟩
  obtain⟨y,h3,h4⟩:=aOK.mp h2;cases h4
  exact⟨aOL.mp h3,aOL.mp h1⟩
 ·rintro ⟨h1,h2⟩
  exact⟨b,aOL.mpr h2,aOK.mpr ⟨a,aOL.mpr h1,rfl⟩⟩
theorem Vm: ∀n,(prs n).Nodup
 |0=>List.Pairwise.nil
 |n+1=>by
  rw[Eh];refine List.nodup_append.mpr ⟨Vm n,?_,?_⟩
  ·exact(List.nodup_range).map (λa=>(a,n)) λa b hab h=>hab (by cases h;rfl)
  ·intro x hx y hy
   obtain⟨a,_,rfl⟩:=aOK.mp hy;obtain⟨x1,x2⟩:=x;have:=(Vl.mp hx).2;intro hh;cases hh;omega
theorem aGw {x y:Nat×Nat}(h:yO x=yO y):x=y:=by
 obtain⟨a,b⟩:=x;obtain⟨c,d⟩:=y;simp only[yO,Prod.mk.injEq] at h;have h1:a=c:=by omega
 have h2:b=d:=by omega
 rw[h1,h2]
theorem aGz (bit n:Nat):VE n (oD bit (prs n)):=by
 have hs:=K2 (prs n) bit;refine⟨λe he=> ?_,(((Vm n).map yO λa b hab h=>hab (aGw h)).sublist hs)⟩
 obtain⟨⟨a,b⟩,h1,rfl⟩:=aOK.mp (hs.subset he);obtain⟨h2,h3⟩:=Vl.mp h1;simp only[okE,yO];omega
theorem aGy {n:Nat}(h:n<=6):(prs n).length<=15:=by
 have:n=0∨n=1∨n=2∨n=3∨n=4∨n=5∨n=6:=by omega
 rcases this with rfl|rfl|rfl|rfl|rfl|rfl|rfl<;>decide
theorem K0 {v w:Int}{e:Ed}:w∈qA v e↔v≠w/\(e=(v,w)∨e=(w,v)):=by
 obtain⟨a,b⟩:=e;unfold qA;simp only[Prod.mk.injEq];by_cases h1:a=b
 ·rw[if_pos h1]
  constructor
  ·intro h;cases h
  ·rintro ⟨h,⟨h2,h3⟩|⟨h2,h3⟩⟩
   ·exact absurd (h2.symm.trans (h1.trans h3)) h
   ·exact absurd (h3.symm.trans (h1.symm.trans h2)) h
 ·rw[if_neg h1]
  by_cases h2:a=v
  ·rw[if_pos h2,List.mem_singleton]
   constructor
   ·rintro rfl
    exact⟨λhh=>h1 (h2.trans hh),.inl ⟨h2,rfl⟩⟩
   ·rintro ⟨h,⟨_,h3⟩|⟨h3,h4⟩⟩
    ·exact h3.symm
    ·exact absurd (h2.symm.trans h3) h
  ·rw[if_neg h2]
   by_cases h3:b=v
   ·rw[if_pos h3,List.mem_singleton]
    constructor
    ·rintro rfl
     exact⟨λhh=>h2 hh.symm,.inr ⟨rfl,h3⟩⟩
    ·rintro ⟨h,⟨h4,_⟩|⟨h4,_⟩⟩
     ·exact absurd h4 h2
     ·exact h4.symm
   ·rw[if_neg h3]
    constructor
    ·intro h;cases h
    ·rintro ⟨h,⟨h4,_⟩|⟨_,h4⟩⟩
     ·exact absurd h4 h2
     ·exact absurd h4 h3
theorem aGv {E:List Ed}{v w:Int}:w∈oC E v↔v≠w/\((v,w)∈E∨(w,v)∈E):=by
 unfold oC;rw[List.mem_flatMap];constructor
 ·rintro ⟨e,h1,h2⟩
  obtain⟨h3,h4⟩:=K0.mp h2;rcases h4 with rfl|rfl
  ·exact⟨h3,.inl h1⟩
  ·exact⟨h3,.inr h1⟩
 ·rintro ⟨h3,h4|h4⟩
  ·exact⟨_,h4,K0.mpr ⟨h3,.inl rfl⟩⟩
  ·exact⟨_,h4,K0.mpr ⟨h3,.inr rfl⟩⟩
theorem Kz {E:List Ed}{v w:Int}:w∈bes E v↔v≠w/\((v,w)∈E∨(w,v)∈E):=by rw[Kt,aGv]
theorem Be {n:Int}{E:List Ed}(hE:VE n E){v w:Int}(h:w∈bes E v):0<=w/\w<n/\0<=v/\v<n:=by
 obtain⟨_,h|h⟩:=Kz.mp h
 ·have:=hE.ok _ h
  simp only[okE] at this;omega
 ·have:=hE.ok _ h
  simp only[okE] at this;omega
theorem K1 (nodes:Nat):2<=mkN nodes/\mkN nodes<=6:=by unfold mkN;omega
theorem aGx (nodes room more joined:Nat)(next:List Nat):VE (mkP nodes room more joined next).nodes (mkP nodes room more joined next).edges:=aGz joined (mkN nodes)
theorem Vj (nodes room more joined:Nat)(next:List Nat):(mkP nodes room more joined next).edges.length<=15:=
 aOm (Kx _ _) (aGy (K1 nodes).2)
theorem Vk (nodes room more joined:Nat)(next:List Nat):lP (mkP nodes room more joined next)=true:=by
 have hn:=K1 nodes;unfold lP;simp only[aOe,decide_eq_true_eq];refine⟨?_,by unfold wN;rw[aOe,decide_eq_true_eq];exact⟨(Vi _ _).mpr (aGx ..),by have:=Vj nodes room more joined next;omega⟩,?_,?_,?_,?_⟩
 ·unfold uU wi mkP
  simp only[aOe,decide_eq_true_eq];omega
 ·simp[mkP]
 ·unfold wOk
  simp only[mkP,aOk,aOB];rw[aOR (by omega),aOR (by omega)]
  simp only[Bool.false_or,Bool.not_eq_true',List.any_eq_false];intro x hx;obtain⟨i,_,rfl⟩:=aOK.mp hx;unfold qV mkW;rw[aOR (by omega),aOR (by omega)]
  simp
 ·simp[mkP]
 ·unfold uW
  simp only[Bool.not_eq_true',List.any_eq_false];intro x hx;obtain⟨i,_,rfl⟩:=aOK.mp hx;simp[uX,mkP]
theorem Made.pv {H0 H2:aC}{nodes room more joined:Nat}{next:List Nat}{u:Value}(h:Made H0 (mkP nodes room more joined next) H2 u): ∃ev wv nv,u=plV (mkP nodes room more joined next) ev wv nv/\Ext H0 H2/\PV H2 (mkP nodes room more joined next) ev wv nv:=by
 obtain⟨ev,wv,nv,h1,h2,h3,h4,h5⟩:=h;have:=Vj nodes room more joined next
 have hn:=K1 nodes
 exact⟨ev,wv,nv,h1,h2,h3.rs,h4.rs,h5.rw.aGh,by omega,by simp[mkP];omega,by simp[mkP];omega⟩
def plZ:Blk:= .cells [Value.int .i64 0,.slice none 0 0,.int .i64 0,.int .i64 0,.int .i64 0,.int .i64 0,.int .i64 0,.int .i64 0,.slice none 0 0,.int .u16 0,.slice none 0 0] 40 .fix
theorem qW:Blk.cells [Value.int .i64 0,.slice none 0 0,.int .i64 0,.int .i64 0,.int .i64 0,.int .i64 0,.int .i64 0,.int .i64 0,.slice none 0 0,.int .u16 0,.slice none 0 0] 40 .fix=plZ:=rfl
section
variable {H : aC} {m : Nat} {p : PlanD} {ev wv nv : Value}
theorem Rs.Bf {α:Type}{el:α->List Value}{e:TypeId}{v:Value}{xs:List α}(h:Rs el e H v xs):v.cells.toList=[v]/\dR [v]=true/\veq 3 v v=true:=by
 rcases h with⟨rfl,_⟩|⟨b,o,cap,rfl,_⟩
 ·exact⟨rfl,rfl,rfl⟩
 ·exact⟨rfl,rfl,by simp[veq]⟩
theorem Rows.Vn {v:Value}{xss:List (List Int)}(h:Rows H v xss):v.cells.toList=[v]/\dR [v]=true/\veq 3 v v=true:=by
 obtain⟨us,h1,_⟩:=h;exact Rs.Bf h1
theorem PV.K3 (h:PV H p ev wv nv):dR (plC p ev wv nv)=true:=by
 have e1: ∀(v:Value)(vs:List Value),dR [v]=true->dR (v::vs)=dR vs:=λv vs h=>by
  simp only[dR,List.all_cons,List.all_nil,Bool.and_true] at h⊢;rw[h,aOu]
 simp only[plC,R1,e1 _ _ (Rs.Bf h.e).2.1,e1 _ _ (Rs.Bf h.w).2.1,e1 _ _ (Rows.Vn h.n).2.1,R2]
theorem PV.chk (h:PV H p ev wv nv)(H':aC):Go.Abs.chk (some (plV p ev wv nv,H')) (plV p ev wv nv)=true:=by
 have h1:=(Rs.Bf h.e).2.2;have h2:=(Rs.Bf h.w).2.2;have h3:=(Rows.Vn h.n).2.2;have hi: ∀(k:IntKind)(a:Int),veq 3 (.int k a) (.int k a)=true:=λk a=>by simp[veq]
 show veq 4 (plV p ev wv nv) (plV p ev wv nv)=true
 unfold plV plC;rw[veq];simp only[tE,hi,h1,h2,h3,Bool.and_self]
theorem Ej (h:PV H p ev wv nv)(H':aC):stN 11 (.pointer (some ⟨H'.length,0,none⟩)) (plV p ev wv nv) (H'++[plZ])=some (undef,H'++[plB p ev wv nv]):=by
 have e1:(plV p ev wv nv).cells.toList=plC p ev wv nv:=rfl;rw[mX 11 _ _ _ rfl,hP,e1];unfold plZ;rw[oA _ _ _ _ _ _ (by decide) (by simp[plC]) h.K3]
 simp[eH,plC,plB]
theorem Ek {q q':PlanD}{ev' wv' nv' v:Value}{b j:Nat}(hb:H[b]? =some (plB q ev wv nv))(hv:v.cells.toList=[v])(ha:dR [v]=true)(hj:j<11)(hq:(plC q ev wv nv).set j v=plC q' ev' wv' nv'):stN 1 (.pointer (some ⟨b,j,none⟩)) v H=some (undef,H.set b (plB q' ev' wv' nv')):=by
 rw[mX 1 _ _ _ (by rw[hv];rfl),hb]
 unfold plB;rw[hv,oA _ _ _ _ _ _ (by decide) (by simp[plC];omega) ha]
 rw[<-hq];rfl
theorem tP {H0 H1:aC}{b:Nat}{x:Blk}(he:Ext H0 H1)(hb:H0.length<=b):Ext H0 (H1.set b x):=⟨by rw[List.length_set];exact he.1,λc hc _=>by rw[aN7 (by omega),he.2 c hc id]⟩
end
section
variable {H : aC} {m : Nat} {p : PlanD} {ev wv nv : Value}
theorem aGA (H:aC):Us H (.slice none 0 0) []:= .inl ⟨rfl,rfl⟩
end
section
variable {H : aC} {m : Nat} {p : PlanD} {ev wv nv : Value}
theorem El {n:Nat}{E:List Ed}(hE:VE n E)(hn:n<=6){v:Nat}{x:Ed}:x∈o8 E v↔x.1=v/\x.2∈bes E v:=by
 unfold o8;simp only[aOK,List.mem_filter];constructor
 ·rintro ⟨w,⟨h1,_⟩,rfl⟩
  exact⟨rfl,h1⟩
 ·rintro ⟨h1,h2⟩
  obtain⟨a,b⟩:=x;simp only at h1 h2;refine⟨b,⟨h2,?_⟩,by rw[h1]⟩
  have:=Be hE h2;unfold wi;simp;omega
theorem aGB {n:Nat}{E:List Ed}(hE:VE n E)(hn:n<=6){x:Ed}:x∈(List.range n).flatMap (o8 E)↔x.2∈bes E x.1:=by
 rw[List.mem_flatMap];constructor
 ·rintro ⟨v,_,h2⟩
  obtain⟨h3,h4⟩:=(El hE hn).mp h2;rw[h3];exact h4
 ·intro h
  have:=Be hE h;have e:((x.1.toNat:Nat):Int)=x.1:=by omega
  refine⟨x.1.toNat,aOL.mpr (by omega),(El hE hn).mpr ⟨e.symm,?_⟩⟩
  rw[e];exact h
theorem aGC {n:Nat}{E:List Ed}(hE:VE n E)(hn:n<=6):((List.range n).flatMap (o8 E)).Pairwise (λa b=>a.1<b.1∨(a.1=b.1/\a.2<b.2)):=by
 rw[List.pairwise_flatMap];constructor
 ·intro v _
  unfold o8;rw[List.pairwise_map]
  exact(List.Pairwise.filter _ (Ea E v)).imp λh=> .inr ⟨rfl,h⟩
 ·refine List.pairwise_lt_range.imp λ{a b} hab x hx y hy=> ?_
  have h1:=((El hE hn).mp hx).1;have h2:=((El hE hn).mp hy).1
  left;omega
end
section
variable {H : aC} {m : Nat} {p : PlanD} {ev wv nv : Value}
theorem aGD (H:aC)(x:Ed):dJ 67 2 1 [.int .i64 0,.int .i64 0] [(0,edV x)] H=some (.slice (some ⟨H.length,0,none⟩) 1 1,H++[.cells (edC x) 67 .row]):=rfl
end
section
variable {H : aC} {m : Nat} {p : PlanD} {ev wv nv : Value}
theorem Rs.sv {α:Type}{el:α->List Value}{e:TypeId}{v:Value}{xs:List α}(h:Rs el e H v xs):dR [v]=true/\v.cells= #[v]:=by
 rcases h with⟨rfl,_⟩|⟨b,o,cap,rfl,_⟩<;>exact⟨rfl,rfl⟩
theorem aGE {H0 H1:aC}{a u:Value}(he:Ext H0 H1)(h:ld1 a H0=some (u,H0)):ld1 a H1=some (u,H1):=by
 unfold ld1 at*;cases a with
 |pointer x=>
  cases x with
  |none=>simp at h
  |some ad=>
   obtain⟨b,o,s⟩:=ad;cases s with
   |some s=>simp at h
   |none=>
    simp only at h⊢;cases hb:H0[b]? with
    |none=>rw[hb] at h;simp at h
    |some y=>
     rw[fN hb he];rw[hb] at h;cases y with
     |cells cs e k=>
      simp only at h⊢;cases hc:cs[o]? with
      |none=>rw[hc] at h;simp at h
      |some z=>
       rw[hc] at h;simp at h;subst h;rfl
     |map=>simp at h
     |dead=>simp at h
 |_=>simp at h
end
end Go.Proofs.YtmimdleeihjdoaaGreatDoor
noncomputable section
namespace Go.Proofs.YtmimdleeihjdoaaGreatDoor
open Go.Proofs.Tryz
open Go.Abs
variable (O:aE)(L:LV)(k:KV)(N P Q R S T U V W X Y Z a b c d e f g i j l m n o p q r s t u v w x y z A B C D E F G H I J zz zy zx zw zv zu zt zs zr zq zp zo zn zm zl zk zj zi zh zg zf ze zd zc zb za yz yy yx yw yv yu yt ys yr yq yp yo yn ym yl yk yj yi yh yg yf ye yd yc yb ya xz xy xx xw xv xu xt xs xr xq xp xo xn xm xl xk xj xi xh xg xf xe xd xc xb xa wz wy wx ww wv wu wt ws wr wq wp wo wn wm wl wk wj wi wh wg wf we wd wc wb wa vz vy vx vw vv vu vt vs vr vq vp vo vn vm vl vk vj vi vh vg vf:Value)(h:aC)
theorem aGU:cA prog O L 35 [N,P,Q,R] h=ob (cP 40 [(.int .i64 0),(.slice none 0 0),(.int .i64 0),(.int .i64 0),(.int .i64 0),(.int .i64 0),(.int .i64 0),(.int .i64 0),(.slice none 0 0),(.int .u16 0),(.slice none 0 0)] .fix h) λaa h=>ob (O (.func 44) [(.int .u8 0),P,Q,R,(.slice none 0 0)] h) λab h=>ob (O (.func 84) [N] h) λac h=>ob (O (.func 83) [ab,ac] h) λad h=>ob (M.aD (ext 0 ad) h) λae h=>ob (M.aD (ext 1 ad) h) λaf h=>ob (cP 40 [(.int .i64 0),(.slice none 0 0),(.int .i64 0),(.int .i64 0),(.int .i64 0),(.int .i64 0),(.int .i64 0),(.int .i64 0),(.slice none 0 0),(.int .u16 0),(.slice none 0 0)] .fix h) λag h=>ob (stN 11 ag ae h) λah h=>ob (ldN 11 ag h) λai h=>ob (stN 11 aa ai h) λaj h=>ob (ldN 11 aa h) λw10 _=>some (aJ [w10],h):=by kernel_rfl
def Lj:Code:=b9 [1,1,1,1,1,1,1,1,1,1,0,1,0,0,1,0,0,1,0,1,0,0] (cC prog 83)
def Ln:KV:=(dN 4 (eF prog O L (b9 [1,1,1,1,1,1,1,1,1,1,0,1,0,0,1,0,0,1,1] (cC prog 83)) (dN 3 (eF prog O L (b9 [1,1,1,1,1,1,1,1,1,1,0,1,0,0,1,1] (cC prog 83)) k))))
def Lk (O:aE)(L:LV) (k:KV) (a b c d e f g i j l m n o p q r s t u v w x y z A B C D E F G H I J zz zy zx zw zv zu zt zs zr zq zp zo zn zm zl zk zj zi zh zg zf ze zd zc zb za yz yy yx yw yv yu yt ys yr yq yp yo yn ym yl yk yj yi yh yg yf ye yd:Value) (h:aC):OV:=ob (M.aD (aG 10 c) h) λaa h=>ob (ld1 aa h) λab h=>ob (dJ 37 1 1 [(.slice none 0 0)] [(0,m)] h) λac h=>ob (app 37 1 24 ab ac h) λad h=>ob (M.aD (aG 10 c) h) λae h=>ob (stN 1 ae ad h) λaf h=>ob (M.aD (bin prog .add 3 l (.int .i64 1)) h) λag h=>k .normal [a,b,c,d,e,f,g,i,j,ag,m,n,o,p,q,r,s,t,u,v,w,x,y,z,A,B,C,D,E,F,G,H,I,J,zz,zy,zx,zw,zv,zu,zt,zs,zr,zq,zp,zo,zn,zm,zl,zk,zj,zi,zh,zg,zf,l,ag,zc,zb,za,yz,yy,yx,yw,yv,yu,yt,ys,yr,yq,yp,yo,yn,ym,yl,yk,aa,ab,m,ac,ad,ae,yd] h
theorem aGX:Ln O L k (.exit 4) [a,b,c,d,e,f,g,i,j,l,m,n,o,p,q,r,s,t,u,v,w,x,y,z,A,B,C,D,E,F,G,H,I,J,zz,zy,zx,zw,zv,zu,zt,zs,zr,zq,zp,zo,zn,zm,zl,zk,zj,zi,zh,zg,zf,ze,zd,zc,zb,za,yz,yy,yx,yw,yv,yu,yt,ys,yr,yq,yp,yo,yn,ym,yl,yk,yj,yi,yh,yg,yf,ye,yd] h=Lk O L k a b c d e f g i j l m n o p q r s t u v w x y z A B C D E F G H I J zz zy zx zw zv zu zt zs zr zq zp zo zn zm zl zk zj zi zh zg zf ze zd zc zb za yz yy yx yw yv yu yt ys yr yq yp yo yn ym yl yk yj yi yh yg yf ye yd h:=by kernel_rfl
theorem V1:aK prog O L Lj k [a,b,c,d,e,f,g,i,j,l,m,n,o,p,q,r,s,t,u,v,w,x,y,z,A,B,C,D,E,F,G,H,I,J,zz,zy,zx,zw,zv,zu,zt,zs,zr,zq,zp,zo,zn,zm,zl,zk,zj,zi,zh,zg,zf,ze,zd,zc,zb,za,yz,yy,yx,yw,yv,yu,yt,ys,yr,yq,yp,yo,yn,ym,yl,yk,yj,yi,yh,yg,yf,ye,yd] h=ob (M.aD (bin prog .lss 3 n g) h) λaa h=>aL aa (ob (M.aD (bin prog .neq 3 l n) h) λab h=>aL ab (ob (O (.func 161) [b,l,n] h) λac h=>ob (M.aD (bH 1 ac (.int .i64 1)) h) λad h=>ob (ld1 ad h) λae h=>ob (dJ 3 1 1 [(.int .i64 0)] [(0,ae)] h) λaf h=>ob (app 3 1 8 m af h) λag h=>ob (M.aD (bin prog .add 3 n (.int .i64 1)) h) λah h=>k .normal [a,b,c,d,e,f,g,i,j,l,ag,ah,ae,p,q,r,s,t,u,v,w,x,y,z,A,B,C,D,E,F,G,H,I,J,zz,zy,zx,zw,zv,zu,zt,zs,zr,zq,zp,zo,zn,zm,zl,zk,zj,zi,zh,zg,zf,ze,zd,n,g,aa,n,ah,l,l,n,ab,b,l,n,ac,ad,ae,m,ae,af,ag,yj,yi,yh,yg,yf,ye,yd] h) (ob (dJ 3 1 1 [(.int .i64 0)] [(0,l)] h) λai h=>ob (app 3 1 8 m ai h) λaj h=>ob (M.aD (bin prog .add 3 n (.int .i64 1)) h) λak h=>k .normal [a,b,c,d,e,f,g,i,j,l,aj,ak,l,p,q,r,s,t,u,v,w,x,y,z,A,B,C,D,E,F,G,H,I,J,zz,zy,zx,zw,zv,zu,zt,zs,zr,zq,zp,zo,zn,zm,zl,zk,zj,zi,zh,zg,zf,ze,zd,n,g,aa,n,ak,l,l,n,ab,yt,ys,yr,yq,yp,yo,m,l,ai,aj,yj,yi,yh,yg,yf,ye,yd] h)) (k (.exit 4) [a,b,c,d,e,f,g,i,j,l,m,n,o,p,q,r,s,t,u,v,w,x,y,z,A,B,C,D,E,F,G,H,I,J,zz,zy,zx,zw,zv,zu,zt,zs,zr,zq,zp,zo,zn,zm,zl,zk,zj,zi,zh,zg,zf,ze,zd,n,g,aa,yz,yy,yx,yw,yv,yu,yt,ys,yr,yq,yp,yo,yn,ym,yl,yk,yj,yi,yh,yg,yf,ye,yd] h):=by kernel_rfl
def Li:Code:=b9 [1,1,1,1,1,1,1,1,1,1,0,1,0,0] (cC prog 83)
def Lm:KV:=(dN 2 (eF prog O L (b9 [1,1,1,1,1,1,1,1,1,1,1] (cC prog 83)) (eX prog Tryz.f83)))
theorem aGW:Lm O L (.exit 2) [a,b,c,d,e,f,g,i,j,l,m,n,o,p,q,r,s,t,u,v,w,x,y,z,A,B,C,D,E,F,G,H,I,J,zz,zy,zx,zw,zv,zu,zt,zs,zr,zq,zp,zo,zn,zm,zl,zk,zj,zi,zh,zg,zf,ze,zd,zc,zb,za,yz,yy,yx,yw,yv,yu,yt,ys,yr,yq,yp,yo,yn,ym,yl,yk,yj,yi,yh,yg,yf,ye,yd] h=ob (ldN 11 c h) λaa h=>ob (stN 11 e aa h) λab h=>ob (ldN 11 e h) λw39 _=>some (aJ [w39,(.int .i64 0)],h):=by kernel_rfl
theorem V0:aK prog O L Li k [a,b,c,d,e,f,g,i,j,l,m,n,o,p,q,r,s,t,u,v,w,x,y,z,A,B,C,D,E,F,G,H,I,J,zz,zy,zx,zw,zv,zu,zt,zs,zr,zq,zp,zo,zn,zm,zl,zk,zj,zi,zh,zg,zf,ze,zd,zc,zb,za,yz,yy,yx,yw,yv,yu,yt,ys,yr,yq,yp,yo,yn,ym,yl,yk,yj,yi,yh,yg,yf,ye,yd] h=ob (M.aD (bin prog .lss 3 l g) h) λaa h=>aL aa (L (aK prog O L Lj) (Ln O L k) [a,b,c,d,e,f,g,i,j,l,(.slice none 0 0),(.int .i64 0),o,p,q,r,s,t,u,v,w,x,y,z,A,B,C,D,E,F,G,H,I,J,zz,zy,zx,zw,zv,zu,zt,zs,zr,zq,zp,zo,zn,zm,zl,zk,zj,zi,l,g,aa,ze,zd,zc,zb,za,yz,yy,yx,yw,yv,yu,yt,ys,yr,yq,yp,yo,yn,ym,yl,yk,yj,yi,yh,yg,yf,ye,yd] h) (k (.exit 2) [a,b,c,d,e,f,g,i,j,l,m,n,o,p,q,r,s,t,u,v,w,x,y,z,A,B,C,D,E,F,G,H,I,J,zz,zy,zx,zw,zv,zu,zt,zs,zr,zq,zp,zo,zn,zm,zl,zk,zj,zi,l,g,aa,ze,zd,zc,zb,za,yz,yy,yx,yw,yv,yu,yt,ys,yr,yq,yp,yo,yn,ym,yl,yk,yj,yi,yh,yg,yf,ye,yd] h):=by kernel_rfl
def Lh:Code:=b9 [1,1,1,1,1,0,1,0,0] (cC prog 83)
def Ll:KV:=(dN 0 (eF prog O L (b9 [1,1,1,1,1,1] (cC prog 83)) (eX prog Tryz.f83)))
theorem aGV:Ll O L (.exit 0) [a,b,c,d,e,f,g,i,j,l,m,n,o,p,q,r,s,t,u,v,w,x,y,z,A,B,C,D,E,F,G,H,I,J,zz,zy,zx,zw,zv,zu,zt,zs,zr,zq,zp,zo,zn,zm,zl,zk,zj,zi,zh,zg,zf,ze,zd,zc,zb,za,yz,yy,yx,yw,yv,yu,yt,ys,yr,yq,yp,yo,yn,ym,yl,yk,yj,yi,yh,yg,yf,ye,yd] h=ob (M.aD (aG 8 c) h) λaa h=>ob (ld1 aa h) λab h=>ob (app 3 1 8 (.slice none 0 0) ab h) λac h=>ob (M.aD (aG 8 c) h) λad h=>ob (stN 1 ad ac h) λae h=>ob (M.aD (aG 10 c) h) λaf h=>ob (stN 1 af (.slice none 0 0) h) λag h=>L (aK prog O L Li) (Lm O L) [a,b,c,d,e,f,g,i,ac,(.int .i64 0),m,n,o,p,q,r,s,t,u,v,w,x,y,z,A,B,C,D,E,F,G,H,I,J,zz,zy,zx,zw,zv,zu,zt,zs,zr,zq,zp,(.slice none 0 0),aa,ab,ac,ac,ad,af,zh,zg,zf,ze,zd,zc,zb,za,yz,yy,yx,yw,yv,yu,yt,ys,yr,yq,yp,yo,yn,ym,yl,yk,yj,yi,yh,yg,yf,ye,yd] h:=by kernel_rfl
theorem Vz:aK prog O L Lh k [a,b,c,d,e,f,g,i,j,l,m,n,o,p,q,r,s,t,u,v,w,x,y,z,A,B,C,D,E,F,G,H,I,J,zz,zy,zx,zw,zv,zu,zt,zs,zr,zq,zp,zo,zn,zm,zl,zk,zj,zi,zh,zg,zf,ze,zd,zc,zb,za,yz,yy,yx,yw,yv,yu,yt,ys,yr,yq,yp,yo,yn,ym,yl,yk,yj,yi,yh,yg,yf,ye,yd] h=ob (M.aD (bin prog .lss 3 i g) h) λaa h=>aL aa (ob (M.aD (aG 1 c) h) λab h=>ob (ld1 ab h) λac h=>ifB (true) (ob (M.aD (bin prog .sub 3 i (.int .i64 1)) h) λad h=>ob (M.aD (bH 1 b ad) h) λae h=>ob (ld1 ae h) λaf h=>ifB (true) (ob (M.aD (bld prog 67 [(0,af),(1,i)]) h) λag h=>ob (dJ 67 2 1 [(.int .i64 0),(.int .i64 0)] [(0,ag)] h) λah h=>ob (app 67 2 16 ac ah h) λai h=>ifB (true) (ob (M.aD (aG 1 c) h) λaj h=>ob (stN 1 aj ai h) λak h=>ifB (true) (ob (M.aD (bin prog .add 3 i (.int .i64 1)) h) λal h=>k .normal [a,b,c,d,e,f,g,al,j,l,m,n,o,p,q,r,s,t,u,v,w,x,y,z,A,B,C,D,i,g,aa,i,al,ab,ac,b,i,ad,ae,af,i,ag,ah,ai,aj,zo,zn,zm,zl,zk,zj,zi,zh,zg,zf,ze,zd,zc,zb,za,yz,yy,yx,yw,yv,yu,yt,ys,yr,yq,yp,yo,yn,ym,yl,yk,yj,yi,yh,yg,yf,ye,yd] h))))) (k (.exit 0) [a,b,c,d,e,f,g,i,j,l,m,n,o,p,q,r,s,t,u,v,w,x,y,z,A,B,C,D,i,g,aa,H,I,J,zz,zy,zx,zw,zv,zu,zt,zs,zr,zq,zp,zo,zn,zm,zl,zk,zj,zi,zh,zg,zf,ze,zd,zc,zb,za,yz,yy,yx,yw,yv,yu,yt,ys,yr,yq,yp,yo,yn,ym,yl,yk,yj,yi,yh,yg,yf,ye,yd] h):=by kernel_rfl
theorem aGY:cA prog O L 83 [N,P] h=ob (cP 40 (Value.cells N).toList .fix h) λaa h=>ob (cP 40 [(.int .i64 0),(.slice none 0 0),(.int .i64 0),(.int .i64 0),(.int .i64 0),(.int .i64 0),(.int .i64 0),(.int .i64 0),(.slice none 0 0),(.int .u16 0),(.slice none 0 0)] .fix h) λab h=>ob (O (.func 160) [P] h) λac h=>ob (M.aD (un prog .not ac) h) λad h=>ob (gd ad false (M.cB P) h) λae h=>ob (gd ad false (M.aD (bX ae)) h) λaf h=>ob (gd ad false (M.aD (bin prog .eql 3 af (.int .i64 0))) h) λag h=>ob (M.aD (cF ad (.bool true) ag) h) λah h=>aL ah (ob (M.aD (bld prog 40 []) h) λai h=>ob (stN 11 ab ai h) λaj h=>ob (ldN 11 ab h) λw10 _=>some (aJ [w10,(.int .i64 120)],h)) (ob (M.aD (bX P) h) λak h=>ob (M.aD (bin prog .add 3 ak (.int .i64 1)) h) λal h=>ob (M.aD (aG 0 aa) h) λam h=>ob (stN 1 am al h) λan h=>ob (M.aD (aG 1 aa) h) λao h=>ob (stN 1 ao (.slice none 0 0) h) λap h=>L (aK prog O L Lh) (Ll O L) [N,P,aa,undef,ab,(.int .i64 0),al,(.int .i64 1),undef,undef,undef,undef,undef,P,ac,ad,ad,ae,af,ag,ah,undef,P,ak,al,al,am,ao,undef,undef,undef,undef,undef,undef,undef,undef,undef,undef,undef,undef,undef,undef,undef,undef,undef,undef,undef,undef,undef,undef,undef,undef,undef,undef,undef,undef,undef,undef,undef,undef,undef,undef,undef,undef,undef,undef,undef,undef,undef,undef,undef,undef,undef,undef,undef,undef,undef,undef,undef,undef,undef,undef,undef] h):=by kernel_rfl
def Lo:Code:=b9 [1,1,0,1,0,0] (cC prog 84)
def Lq:KV:=(dN 0 (eF prog O L (b9 [1,1,1] (cC prog 84)) (eX prog Tryz.f84)))
def Lp (O:aE)(L:LV) (a b c d e f g i j l m n o p q r s t u v w x y z A B C D E F G H I:Value) (h:aC):OV:=ob (M.aD (bX d) h) λaa h=>ob (M.aD (bin prog .eql 3 aa (.int .i64 0)) h) λab h=>aL ab (ob (dJ 3 1 1 [(.int .i64 0)] [(0,(.int .i64 0))] h) λac h=>ob (app 3 1 8 d ac h) λad h=>some (aJ [ad],h)) (some (aJ [d],h))
theorem V3:Lq O L (.exit 0) [a,b,c,d,e,f,g,i,j,l,m,n,o,p,q,r,s,t,u,v,w,x,y,z,A,B,C,D,E,F,G,H,I] h=Lp O L a b c d e f g i j l m n o p q r s t u v w x y z A B C D E F G H I h:=by kernel_rfl
theorem V2:aK prog O L Lo k [a,b,c,d,e,f,g,i,j,l,m,n,o,p,q,r,s,t,u,v,w,x,y,z,A,B,C,D,E,F,G,H,I] h=ob (M.aD (bX a) h) λaa h=>ob (M.aD (bin prog .lss 3 e aa) h) λab h=>ob (gd ab true (M.cB e) h) λac h=>ob (gd ab true (M.aD (bin prog .lss 3 ac (.int .i64 5))) h) λad h=>ob (M.aD (cF ab ad (.bool false)) h) λae h=>aL ae (ob (M.aD (bH 1 a e) h) λaf h=>ob (ld1 af h) λag h=>ob (cS prog 5 3 ag h) λah h=>ob (M.aD (bin prog .add 3 e (.int .i64 1)) h) λai h=>ob (M.aD (bin prog .rem 3 ah ai) h) λaj h=>ob (dJ 3 1 1 [(.int .i64 0)] [(0,aj)] h) λak h=>ob (app 3 1 8 d ak h) λal h=>ob (M.aD (bin prog .add 3 e (.int .i64 1)) h) λam h=>k .normal [a,b,c,al,am,e,a,aa,ab,ab,ac,ad,ae,e,am,d,a,e,af,ag,ah,e,ai,aj,ak,al,C,D,E,F,G,H,I] h) (k (.exit 0) [a,b,c,d,e,e,a,aa,ab,ab,ac,ad,ae,p,q,r,s,t,u,v,w,x,y,z,A,B,C,D,E,F,G,H,I] h):=by kernel_rfl
theorem aGZ:cA prog O L 84 [N] h=L (aK prog O L Lo) (Lq O L) [N,undef,(.slice none 0 0),(.slice none 0 0),(.int .i64 0),undef,undef,undef,undef,undef,undef,undef,undef,undef,undef,undef,undef,undef,undef,undef,undef,undef,undef,undef,undef,undef,undef,undef,undef,undef,undef,undef,undef] h:=by kernel_rfl
def Lt:Code:=b9 [1,1,1,1,1,0,1,0,0] (cC prog 85)
def Ey:KV:=(dN 4 (eF prog O L (b9 [1,1,1,1,1,1] (cC prog 85)) (eX prog Tryz.f85)))
theorem aG2:Ey O L (.exit 4) [a,b,c,d,e,f,g,i,j,l,m,n,o,p,q,r,s,t,u,v,w,x,y,z,A,B,C,D,E,F,G,H,I,J,zz,zy,zx,zw,zv,zu,zt,zs,zr,zq,zp,zo,zn,zm,zl,zk,zj,zi,zh,zg,zf,ze,zd,zc,zb,za,yz,yy,yx,yw,yv,yu,yt,ys,yr,yq,yp] h=some (aJ [(.int .u16 0)],h):=by kernel_rfl
theorem aG6:Ey O L .ret [a,b,c,d,e,f,g,i,j,l,m,n,o,p,q,r,s,t,u,v,w,x,y,z,A,B,C,D,E,F,G,H,I,J,zz,zy,zx,zw,zv,zu,zt,zs,zr,zq,zp,zo,zn,zm,zl,zk,zj,zi,zh,zg,zf,ze,zd,zc,zb,za,yz,yy,yx,yw,yv,yu,yt,ys,yr,yq,yp] h=some (aJ [c],h):=by kernel_rfl
theorem V6:aK prog O L Lt k [a,b,c,d,e,f,g,i,j,l,m,n,o,p,q,r,s,t,u,v,w,x,y,z,A,B,C,D,E,F,G,H,I,J,zz,zy,zx,zw,zv,zu,zt,zs,zr,zq,zp,zo,zn,zm,zl,zk,zj,zi,zh,zg,zf,ze,zd,zc,zb,za,yz,yy,yx,yw,yv,yu,yt,ys,yr,yq,yp] h=ob (M.aD (bin prog .lss 3 zf zg) h) λaa h=>aL aa (ob (M.aD (aO j) h) λab h=>ob (M.aD (aG 0 ab) h) λac h=>ob (ld1 ac h) λad h=>ob (M.aD (bH 1 ad zf) h) λae h=>ob (ld1 ae h) λaf h=>ob (M.aD (bin prog .eql 3 af (.int .i64 0)) h) λag h=>ob (gd ag true (M.cB j) h) λah h=>ob (gd ag true (M.cB zf) h) λai h=>ob (gd ag true (O (.func 165) [ah,ai]) h) λaj h=>ob (M.aD (cF ag aj (.bool false)) h) λak h=>aL ak (k .ret [a,b,(.int .u16 140),d,e,f,g,i,j,zf,m,n,o,p,q,r,s,t,u,v,w,x,y,z,A,B,C,D,E,F,G,H,I,J,zz,zy,zx,zw,zv,zu,zt,zs,zr,zq,zp,zo,zn,zm,zl,zk,zj,zi,zh,zg,zf,aa,zf,j,ab,ac,ad,zf,ae,af,ag,ag,ah,ai,aj,ak,yp] h) (ob (M.aD (bin prog .add 3 zf (.int .i64 1)) h) λal h=>k .normal [a,b,c,d,e,f,g,i,j,zf,m,n,o,p,q,r,s,t,u,v,w,x,y,z,A,B,C,D,E,F,G,H,I,J,zz,zy,zx,zw,zv,zu,zt,zs,zr,zq,zp,zo,zn,zm,zl,zk,zj,zi,zh,zg,al,aa,zf,j,ab,ac,ad,zf,ae,af,ag,ag,ah,ai,aj,ak,al] h)) (k (.exit 4) [a,b,c,d,e,f,g,i,j,l,m,n,o,p,q,r,s,t,u,v,w,x,y,z,A,B,C,D,E,F,G,H,I,J,zz,zy,zx,zw,zv,zu,zt,zs,zr,zq,zp,zo,zn,zm,zl,zk,zj,zi,zh,zg,zf,aa,zd,zc,zb,za,yz,yy,yx,yw,yv,yu,yt,ys,yr,yq,yp] h):=by kernel_rfl
def Ls:Code:=b9 [1,1,0,1,0,0,1,1,0,0,1,1,0,0] (cC prog 85)
def Ev:KV:=(dN 2 (dN 1 (eF prog O L (b9 [1,1,0,1,0,0,1,1,1] (cC prog 85)) k)))
theorem aG1:Ev O L k (.exit 2) [a,b,c,d,e,f,g,i,j,l,m,n,o,p,q,r,s,t,u,v,w,x,y,z,A,B,C,D,E,F,G,H,I,J,zz,zy,zx,zw,zv,zu,zt,zs,zr,zq,zp,zo,zn,zm,zl,zk,zj,zi,zh,zg,zf,ze,zd,zc,zb,za,yz,yy,yx,yw,yv,yu,yt,ys,yr,yq,yp] h=ob (M.aD (bin prog .add 3 t (.int .i64 1)) h) λaa h=>k .normal [a,b,c,d,e,f,g,i,j,l,m,n,o,p,q,r,s,aa,u,v,w,x,y,z,A,B,C,D,E,F,G,H,I,J,zz,aa,zx,zw,zv,zu,zt,zs,zr,zq,zp,zo,zn,zm,zl,zk,zj,zi,zh,zg,zf,ze,zd,zc,zb,za,yz,yy,yx,yw,yv,yu,yt,ys,yr,yq,yp] h:=by kernel_rfl
theorem aG5:Ev O L k .ret [a,b,c,d,e,f,g,i,j,l,m,n,o,p,q,r,s,t,u,v,w,x,y,z,A,B,C,D,E,F,G,H,I,J,zz,zy,zx,zw,zv,zu,zt,zs,zr,zq,zp,zo,zn,zm,zl,zk,zj,zi,zh,zg,zf,ze,zd,zc,zb,za,yz,yy,yx,yw,yv,yu,yt,ys,yr,yq,yp] h=k .ret [a,b,c,d,e,f,g,i,j,l,m,n,o,p,q,r,s,t,u,v,w,x,y,z,A,B,C,D,E,F,G,H,I,J,zz,zy,zx,zw,zv,zu,zt,zs,zr,zq,zp,zo,zn,zm,zl,zk,zj,zi,zh,zg,zf,ze,zd,zc,zb,za,yz,yy,yx,yw,yv,yu,yt,ys,yr,yq,yp] h:=by kernel_rfl
theorem V5:aK prog O L Ls k [a,b,c,d,e,f,g,i,j,l,m,n,o,p,q,r,s,t,u,v,w,x,y,z,A,B,C,D,E,F,G,H,I,J,zz,zy,zx,zw,zv,zu,zt,zs,zr,zq,zp,zo,zn,zm,zl,zk,zj,zi,zh,zg,zf,ze,zd,zc,zb,za,yz,yy,yx,yw,yv,yu,yt,ys,yr,yq,yp] h=ob (M.aD (bin prog .lss 3 y x) h) λaa h=>aL aa (ob (ldN 11 b h) λab h=>ob (O (.func 163) [ab,e,y] h) λac h=>ob (M.aD (ext 0 ac) h) λad h=>ob (M.aD (ext 1 ac) h) λae h=>ob (M.aD (un prog .not ae) h) λaf h=>aL af (k .ret [a,b,(.int .u16 140),d,e,y,ad,ae,j,l,m,n,o,p,q,r,s,t,u,v,w,x,y,aa,y,ac,ab,e,y,ac,ad,ae,ae,af,zz,zy,zx,zw,zv,zu,zt,zs,zr,zq,zp,zo,zn,zm,zl,zk,zj,zi,zh,zg,zf,ze,zd,zc,zb,za,yz,yy,yx,yw,yv,yu,yt,ys,yr,yq,yp] h) (ob (M.aD (bin prog .add 3 y (.int .i64 1)) h) λag h=>k .normal [a,b,c,d,e,y,ad,ae,j,l,m,n,o,p,q,r,s,t,u,v,w,x,ag,aa,y,ac,ab,e,y,ac,ad,ae,ae,af,ag,zy,zx,zw,zv,zu,zt,zs,zr,zq,zp,zo,zn,zm,zl,zk,zj,zi,zh,zg,zf,ze,zd,zc,zb,za,yz,yy,yx,yw,yv,yu,yt,ys,yr,yq,yp] h)) (k (.exit 2) [a,b,c,d,e,f,g,i,j,l,m,n,o,p,q,r,s,t,u,v,w,x,y,aa,A,B,C,D,E,F,G,H,I,J,zz,zy,zx,zw,zv,zu,zt,zs,zr,zq,zp,zo,zn,zm,zl,zk,zj,zi,zh,zg,zf,ze,zd,zc,zb,za,yz,yy,yx,yw,yv,yu,yt,ys,yr,yq,yp] h):=by kernel_rfl
def Lr:Code:=b9 [1,1,0,1,0,0] (cC prog 85)
def Eu:KV:=(dN 0 (eF prog O L (b9 [1,1,1] (cC prog 85)) (eX prog Tryz.f85)))
def Lu (O:aE)(L:LV) (a b c d e f g i j l m n o p q r s t u v w x y z A B C D E F G H I J zz zy zx zw zv zu zt zs zr zq zp zo zn zm zl zk zj zi zh zg zf ze zd zc zb za yz yy yx yw yv yu yt ys yr yq yp:Value) (h:aC):OV:=ob (ldN 11 b h) λaa h=>ob (O (.func 164) [aa] h) λab h=>ob (M.aD (bld prog 262 [(1,ab)]) h) λac h=>ob (cP 262 (Value.cells ac).toList .fix h) λad h=>ob (M.aD (aO ad) h) λae h=>ob (M.aD (aG 1 ae) h) λaf h=>ob (ld1 af h) λag h=>ob (M.aD (bX ag) h) λah h=>ob (lC 3 1 8 [(.int .i64 0)] ah ah h) λai h=>ob (M.aD (aO ad) h) λaj h=>ob (M.aD (aG 0 aj) h) λak h=>ob (stN 1 ak ai h) λal h=>ob (M.aD (aO ad) h) λam h=>ob (M.aD (aG 0 am) h) λan h=>ob (ld1 an h) λao h=>ob (M.aD (bX ao) h) λap h=>L (aK prog O L Lt) (Ey O L) [a,b,c,d,e,f,g,i,ad,l,m,n,o,p,q,r,s,t,u,v,w,x,y,z,A,B,C,D,E,F,G,H,I,J,zz,zy,aa,ab,ac,ad,ad,ad,ae,af,ag,ah,ai,aj,ak,ad,am,an,ao,ap,(.int .i64 0),ze,zd,zc,zb,za,yz,yy,yx,yw,yv,yu,yt,ys,yr,yq,yp] h
theorem aG0:Eu O L (.exit 0) [a,b,c,d,e,f,g,i,j,l,m,n,o,p,q,r,s,t,u,v,w,x,y,z,A,B,C,D,E,F,G,H,I,J,zz,zy,zx,zw,zv,zu,zt,zs,zr,zq,zp,zo,zn,zm,zl,zk,zj,zi,zh,zg,zf,ze,zd,zc,zb,za,yz,yy,yx,yw,yv,yu,yt,ys,yr,yq,yp] h=Lu O L a b c d e f g i j l m n o p q r s t u v w x y z A B C D E F G H I J zz zy zx zw zv zu zt zs zr zq zp zo zn zm zl zk zj zi zh zg zf ze zd zc zb za yz yy yx yw yv yu yt ys yr yq yp h:=by kernel_rfl
theorem aG4:Eu O L .ret [a,b,c,d,e,f,g,i,j,l,m,n,o,p,q,r,s,t,u,v,w,x,y,z,A,B,C,D,E,F,G,H,I,J,zz,zy,zx,zw,zv,zu,zt,zs,zr,zq,zp,zo,zn,zm,zl,zk,zj,zi,zh,zg,zf,ze,zd,zc,zb,za,yz,yy,yx,yw,yv,yu,yt,ys,yr,yq,yp] h=some (aJ [c],h):=by kernel_rfl
theorem V4:aK prog O L Lr k [a,b,c,d,e,f,g,i,j,l,m,n,o,p,q,r,s,t,u,v,w,x,y,z,A,B,C,D,E,F,G,H,I,J,zz,zy,zx,zw,zv,zu,zt,zs,zr,zq,zp,zo,zn,zm,zl,zk,zj,zi,zh,zg,zf,ze,zd,zc,zb,za,yz,yy,yx,yw,yv,yu,yt,ys,yr,yq,yp] h=ob (M.aD (bin prog .lss 3 t s) h) λaa h=>aL aa (ob (M.aD (aG 0 b) h) λab h=>ob (ld1 ab h) λac h=>L (aK prog O L Ls) (Ev O L k) [a,b,c,d,t,f,g,i,j,l,m,n,o,p,q,r,s,t,aa,t,ab,ac,(.int .i64 0),z,A,B,C,D,E,F,G,H,I,J,zz,zy,zx,zw,zv,zu,zt,zs,zr,zq,zp,zo,zn,zm,zl,zk,zj,zi,zh,zg,zf,ze,zd,zc,zb,za,yz,yy,yx,yw,yv,yu,yt,ys,yr,yq,yp] h) (k (.exit 0) [a,b,c,d,e,f,g,i,j,l,m,n,o,p,q,r,s,t,aa,v,w,x,y,z,A,B,C,D,E,F,G,H,I,J,zz,zy,zx,zw,zv,zu,zt,zs,zr,zq,zp,zo,zn,zm,zl,zk,zj,zi,zh,zg,zf,ze,zd,zc,zb,za,yz,yy,yx,yw,yv,yu,yt,ys,yr,yq,yp] h):=by kernel_rfl
theorem aG3:cA prog O L 85 [N] h=ob (cP 40 (Value.cells N).toList .fix h) λaa h=>ob (ldN 11 aa h) λab h=>ob (O (.func 162) [ab] h) λac h=>ob (M.aD (bin prog .neq 60 ac (.int .u16 0)) h) λad h=>aL ad (some (aJ [ac],h)) (ob (M.aD (aG 0 aa) h) λae h=>ob (ld1 ae h) λaf h=>L (aK prog O L Lr) (Eu O L) [N,aa,(.int .u16 0),ac,undef,undef,undef,undef,undef,undef,ab,ac,ac,ad,undef,ae,af,(.int .i64 0),undef,undef,undef,undef,undef,undef,undef,undef,undef,undef,undef,undef,undef,undef,undef,undef,undef,undef,undef,undef,undef,undef,undef,undef,undef,undef,undef,undef,undef,undef,undef,undef,undef,undef,undef,undef,undef,undef,undef,undef,undef,undef,undef,undef,undef,undef,undef,undef,undef,undef,undef,undef,undef] h):=by kernel_rfl
def K4:Code:=b9 [1,0,1,0,0] (cC prog 160)
def Em:KV:=(dN 0 (eF prog O L (b9 [1,1] (cC prog 160)) (eX prog Tryz.f160)))
theorem aGF:Em O L (.exit 0) [a,b,c,d,e,f,g,i,j,l,m,n,o,p,q,r,s,t,u,v,w,x,y,z,A,B] h=ob (M.aD (bX a) h) λaa h=>ob (M.aD (bin prog .leq 3 aa (.int .i64 5)) h) λab h=>some (aJ [ab],h):=by kernel_rfl
theorem Vp:Em O L .ret [a,b,c,d,e,f,g,i,j,l,m,n,o,p,q,r,s,t,u,v,w,x,y,z,A,B] h=some (aJ [c],h):=by kernel_rfl
theorem Vo:aK prog O L K4 k [a,b,c,d,e,f,g,i,j,l,m,n,o,p,q,r,s,t,u,v,w,x,y,z,A,B] h=ob (M.aD (bX a) h) λaa h=>ob (M.aD (bin prog .lss 3 d aa) h) λab h=>aL ab (ob (M.aD (bH 1 a d) h) λac h=>ob (ld1 ac h) λad h=>ob (M.aD (bin prog .lss 3 ad (.int .i64 0)) h) λae h=>ob (gd ae false (M.cB a) h) λaf h=>ob (gd ae false (M.cB d) h) λag h=>ob (gd ae false (M.aD (bH 1 af ag)) h) λah h=>ob (gd ae false (ld1 ah) h) λai h=>ob (gd ae false (M.cB d) h) λaj h=>ob (gd ae false (M.aD (bin prog .gtr 3 ai aj)) h) λak h=>ob (M.aD (cF ae (.bool true) ak) h) λal h=>aL al (k .ret [a,b,(.bool false),d,d,a,aa,ab,j,l,a,d,ac,ad,ae,ae,af,ag,ah,ai,aj,ak,al,z,A,B] h) (ob (M.aD (bin prog .add 3 d (.int .i64 1)) h) λam h=>k .normal [a,b,c,am,d,a,aa,ab,d,am,a,d,ac,ad,ae,ae,af,ag,ah,ai,aj,ak,al,z,A,B] h)) (k (.exit 0) [a,b,c,d,d,a,aa,ab,j,l,m,n,o,p,q,r,s,t,u,v,w,x,y,z,A,B] h):=by kernel_rfl
theorem aGG:cA prog O L 160 [N] h=L (aK prog O L K4) (Em O L) [N,undef,(.bool false),(.int .i64 0),undef,undef,undef,undef,undef,undef,undef,undef,undef,undef,undef,undef,undef,undef,undef,undef,undef,undef,undef,undef,undef,undef] h:=by kernel_rfl
def K6:Code:=b9 [1,1,1,1,1,1,1,0,1,0,0] (cC prog 161)
def La:KV:=(dN 2 (eF prog O L (b9 [1,1,1,1,1,1,1,1] (cC prog 161)) (eX prog Tryz.f161)))
theorem aGI:La O L (.exit 2) [a,b,c,d,e,f,g,i,j,l,m,n,o,p,q,r,s,t,u,v,w,x,y,z,A,B,C,D,E,F,G,H,I,J,zz,zy,zx,zw,zv,zu,zt,zs,zr,zq,zp,zo,zn,zm,zl,zk,zj,zi,zh,zg,zf,ze,zd,zc,zb,za,yz,yy,yx,yw,yv,yu,yt,ys,yr,yq,yp,yo,yn,ym,yl,yk,yj,yi,yh,yg,yf,ye,yd,yc,yb,ya,xz,xy,xx,xw,xv] h=some (aJ [l],h):=by kernel_rfl
theorem Vq:aK prog O L K6 k [a,b,c,d,e,f,g,i,j,l,m,n,o,p,q,r,s,t,u,v,w,x,y,z,A,B,C,D,E,F,G,H,I,J,zz,zy,zx,zw,zv,zu,zt,zs,zr,zq,zp,zo,zn,zm,zl,zk,zj,zi,zh,zg,zf,ze,zd,zc,zb,za,yz,yy,yx,yw,yv,yu,yt,ys,yr,yq,yp,yo,yn,ym,yl,yk,yj,yi,yh,yg,yf,ye,yd,yc,yb,ya,xz,xy,xx,xw,xv] h=ob (M.aD (bin prog .geq 3 m (.int .i64 0)) h) λaa h=>aL aa (ob (M.aD (bH 1 j m) h) λab h=>ob (ld1 ab h) λac h=>ob (dJ 3 1 1 [(.int .i64 0)] [(0,ac)] h) λad h=>ob (app 3 1 8 l ad h) λae h=>ob (M.aD (bin prog .sub 3 m (.int .i64 1)) h) λaf h=>k .normal [a,b,c,d,e,f,g,i,j,ae,af,n,o,p,q,r,s,t,u,v,w,x,y,z,A,B,C,D,E,F,G,H,I,J,zz,zy,zx,zw,zv,zu,zt,zs,zr,zq,zp,zo,zn,zm,zl,zk,zj,zi,zh,zg,zf,ze,zd,zc,zb,za,yz,yy,yx,yw,yv,yu,yt,ys,yr,yq,yp,yo,yn,ym,yl,yk,yj,yi,yh,m,aa,m,af,l,j,m,ab,ac,ad,ae,xv] h) (k (.exit 2) [a,b,c,d,e,f,g,i,j,l,m,n,o,p,q,r,s,t,u,v,w,x,y,z,A,B,C,D,E,F,G,H,I,J,zz,zy,zx,zw,zv,zu,zt,zs,zr,zq,zp,zo,zn,zm,zl,zk,zj,zi,zh,zg,zf,ze,zd,zc,zb,za,yz,yy,yx,yw,yv,yu,yt,ys,yr,yq,yp,yo,yn,ym,yl,yk,yj,yi,yh,m,aa,ye,yd,yc,yb,ya,xz,xy,xx,xw,xv] h):=by kernel_rfl
def K5:Code:=b9 [1,1,1,1,0,0,0] (cC prog 161)
def K9:KV:=(dN 0 (eF prog O L (b9 [1,1,1,1,1] (cC prog 161)) (eX prog Tryz.f161)))
def K7 (O:aE)(L:LV) (a b c d e f g i j l m n o p q r s t u v w x y z A B C D E F G H I J zz zy zx zw zv zu zt zs zr zq zp zo zn zm zl zk zj zi zh zg zf ze zd zc zb za yz yy yx yw yv yu yt ys yr yq yp yo yn ym yl yk yj yi yh yg yf ye yd yc yb ya xz xy xx xw xv:Value) (h:aC):OV:=ob (app 3 1 8 (.slice none 0 0) i h) λaa h=>ob (M.aD (bX j) h) λab h=>ob (M.aD (bin prog .sub 3 ab (.int .i64 2)) h) λac h=>L (aK prog O L K6) (La O L) [a,b,c,d,e,f,g,i,j,aa,ac,n,o,p,q,r,s,t,u,v,w,x,y,z,A,B,C,D,E,F,G,H,I,J,zz,zy,zx,zw,zv,zu,zt,zs,zr,zq,zp,zo,zn,zm,zl,zk,zj,zi,zh,zg,zf,ze,zd,zc,zb,za,yz,yy,yx,yw,yv,yu,yt,ys,yr,yq,yp,yo,yn,(.slice none 0 0),i,aa,j,ab,ac,yg,yf,ye,yd,yc,yb,ya,xz,xy,xx,xw,xv] h
theorem K8:K9 O L (.exit 0) [a,b,c,d,e,f,g,i,j,l,m,n,o,p,q,r,s,t,u,v,w,x,y,z,A,B,C,D,E,F,G,H,I,J,zz,zy,zx,zw,zv,zu,zt,zs,zr,zq,zp,zo,zn,zm,zl,zk,zj,zi,zh,zg,zf,ze,zd,zc,zb,za,yz,yy,yx,yw,yv,yu,yt,ys,yr,yq,yp,yo,yn,ym,yl,yk,yj,yi,yh,yg,yf,ye,yd,yc,yb,ya,xz,xy,xx,xw,xv] h=K7 O L a b c d e f g i j l m n o p q r s t u v w x y z A B C D E F G H I J zz zy zx zw zv zu zt zs zr zq zp zo zn zm zl zk zj zi zh zg zf ze zd zc zb za yz yy yx yw yv yu yt ys yr yq yp yo yn ym yl yk yj yi yh yg yf ye yd yc yb ya xz xy xx xw xv h:=by kernel_rfl
theorem aGH:aK prog O L K5 k [a,b,c,d,e,f,g,i,j,l,m,n,o,p,q,r,s,t,u,v,w,x,y,z,A,B,C,D,E,F,G,H,I,J,zz,zy,zx,zw,zv,zu,zt,zs,zr,zq,zp,zo,zn,zm,zl,zk,zj,zi,zh,zg,zf,ze,zd,zc,zb,za,yz,yy,yx,yw,yv,yu,yt,ys,yr,yq,yp,yo,yn,ym,yl,yk,yj,yi,yh,yg,yf,ye,yd,yc,yb,ya,xz,xy,xx,xw,xv] h=ob (M.aD (bX i) h) λaa h=>ob (M.aD (bin prog .gtr 3 aa (.int .i64 1)) h) λab h=>ob (gd ab true (M.cB j) h) λac h=>ob (gd ab true (M.aD (bX ac)) h) λad h=>ob (gd ab true (M.aD (bin prog .gtr 3 ad (.int .i64 1))) h) λae h=>ob (M.aD (cF ab ae (.bool false)) h) λaf h=>ob (gd af true (M.cB i) h) λag h=>ob (gd af true (M.cB i) h) λah h=>ob (gd af true (M.aD (bX ah)) h) λai h=>ob (gd af true (M.aD (bin prog .sub 3 ai (.int .i64 2))) h) λaj h=>ob (gd af true (M.aD (bH 1 ag aj)) h) λak h=>ob (gd af true (ld1 ak) h) λal h=>ifB (true) (ob (gd af true (M.cB j) h) λam h=>ob (gd af true (M.cB j) h) λan h=>ob (gd af true (M.aD (bX an)) h) λao h=>ob (gd af true (M.aD (bin prog .sub 3 ao (.int .i64 2))) h) λap h=>ob (gd af true (M.aD (bH 1 am ap)) h) λaq h=>ob (gd af true (ld1 aq) h) λar h=>ifB (true) (ob (gd af true (M.aD (bin prog .eql 3 al ar)) h) λau h=>ob (M.aD (cF af au (.bool false)) h) λav h=>aL av (ob (M.aD (bX i) h) λaw h=>ob (M.aD (bin prog .sub 3 aw (.int .i64 1)) h) λax h=>ob (slc prog 1 i none (some ax) none h) λay h=>ob (M.aD (bX j) h) λaz h=>ob (M.aD (bin prog .sub 3 az (.int .i64 1)) h) λba h=>ob (slc prog 1 j none (some ba) none h) λbb h=>k .normal [a,b,c,d,e,f,g,ay,bb,l,m,n,o,p,q,r,s,t,u,v,w,x,y,z,A,B,C,D,E,F,G,H,I,J,zz,zy,zx,zw,zv,zu,i,aa,ab,ab,ac,ad,ae,af,af,ag,ah,ai,aj,ak,al,am,an,ao,ap,aq,ar,au,av,i,i,aw,ax,ay,j,j,az,ba,bb,ym,yl,yk,yj,yi,yh,yg,yf,ye,yd,yc,yb,ya,xz,xy,xx,xw,xv] h) (k (.exit 0) [a,b,c,d,e,f,g,i,j,l,m,n,o,p,q,r,s,t,u,v,w,x,y,z,A,B,C,D,E,F,G,H,I,J,zz,zy,zx,zw,zv,zu,i,aa,ab,ab,ac,ad,ae,af,af,ag,ah,ai,aj,ak,al,am,an,ao,ap,aq,ar,au,av,yw,yv,yu,yt,ys,yr,yq,yp,yo,yn,ym,yl,yk,yj,yi,yh,yg,yf,ye,yd,yc,yb,ya,xz,xy,xx,xw,xv] h))):=by kernel_rfl
theorem aGJ:cA prog O L 161 [N,P,Q] h=ob (O (.func 160) [N] h) λaa h=>ob (M.aD (un prog .not aa) h) λab h=>ob (gd ab false (M.cB P) h) λac h=>ob (gd ab false (M.aD (bin prog .lss 3 ac (.int .i64 0))) h) λad h=>ob (M.aD (cF ab (.bool true) ad) h) λae h=>ob (gd ae false (M.cB P) h) λaf h=>ob (gd ae false (M.cB N) h) λag h=>ob (gd ae false (M.aD (bX ag)) h) λah h=>ob (gd ae false (M.aD (bin prog .gtr 3 af ah)) h) λai h=>ob (M.aD (cF ae (.bool true) ai) h) λaj h=>ob (gd aj false (M.cB Q) h) λak h=>ob (gd aj false (M.aD (bin prog .lss 3 ak (.int .i64 0))) h) λal h=>ob (M.aD (cF aj (.bool true) al) h) λam h=>ob (gd am false (M.cB Q) h) λan h=>ob (gd am false (M.cB N) h) λao h=>ob (gd am false (M.aD (bX ao)) h) λap h=>ob (gd am false (M.aD (bin prog .gtr 3 an ap)) h) λaq h=>ob (M.aD (cF am (.bool true) aq) h) λar h=>aL ar (some (aJ [(.slice none 0 0)],h)) (ob (O (.func 223) [N,P] h) λau h=>ob (O (.func 223) [N,Q] h) λav h=>L (aK prog O L K5) (K9 O L) [N,P,Q,undef,undef,undef,(.slice none 0 0),au,av,undef,undef,N,aa,ab,ab,ac,ad,ae,ae,af,ag,ah,ai,aj,aj,ak,al,am,am,an,ao,ap,aq,ar,N,P,au,N,Q,av,undef,undef,undef,undef,undef,undef,undef,undef,undef,undef,undef,undef,undef,undef,undef,undef,undef,undef,undef,undef,undef,undef,undef,undef,undef,undef,undef,undef,undef,undef,undef,undef,undef,undef,undef,undef,undef,undef,undef,undef,undef,undef,undef,undef,undef,undef,undef,undef,undef,undef,undef] h):=by kernel_rfl
def Lb:Code:=b9 [1,1,0,0,0] (cC prog 163)
def Eo:KV:=(dN 0 (eF prog O L (b9 [1,1,1] (cC prog 163)) (eX prog Tryz.f163)))
theorem aGL:Eo O L (.exit 0) [a,b,c,d,e,f,g,i,j,l,m,n,o,p,q,r,s,t,u,v,w,x,y,z,A,B,C,D,E,F,G,H,I,J,zz,zy,zx,zw,zv,zu,zt,zs] h=some (aJ [j,(.bool true)],h):=by kernel_rfl
theorem Vs:Eo O L .ret [a,b,c,d,e,f,g,i,j,l,m,n,o,p,q,r,s,t,u,v,w,x,y,z,A,B,C,D,E,F,G,H,I,J,zz,zy,zx,zw,zv,zu,zt,zs] h=some (aJ [g,i],h):=by kernel_rfl
theorem aGK:aK prog O L Lb k [a,b,c,d,e,f,g,i,j,l,m,n,o,p,q,r,s,t,u,v,w,x,y,z,A,B,C,D,E,F,G,H,I,J,zz,zy,zx,zw,zv,zu,zt,zs] h=ob (M.aD (bin prog .neq 3 b c) h) λaa h=>aL aa (ob (M.aD (aG 10 d) h) λab h=>ob (ld1 ab h) λac h=>ob (M.aD (bH 1 ac b) h) λad h=>ob (ld1 ad h) λae h=>ob (M.aD (bH 1 ae c) h) λaf h=>ob (ld1 af h) λag h=>ob (M.aD (bX j) h) λah h=>ob (M.aD (aG 0 d) h) λai h=>ob (ld1 ai h) λaj h=>ob (M.aD (bin prog .eql 3 ah aj) h) λak h=>ob (gd ak false (ldN 11 d) h) λal h=>ob (gd ak false (M.cB b) h) λam h=>ob (gd ak false (O (.func 88) [al,am]) h) λan h=>ob (gd ak false (M.cB ag) h) λao h=>ob (gd ak false (O (.func 228) [an,ao]) h) λap h=>ob (gd ak false (M.aD (un prog .not ap)) h) λaq h=>ob (M.aD (cF ak (.bool true) aq) h) λar h=>aL ar (k .ret [a,b,c,d,e,f,(.slice none 0 0),(.bool false),j,ag,m,n,b,c,aa,ab,ac,b,ad,ae,c,af,ag,j,ah,ai,aj,ak,ak,al,am,an,ao,ap,aq,ar,zx,zw,zv,zu,zt,zs] h) (ob (dJ 3 1 1 [(.int .i64 0)] [(0,ag)] h) λau h=>ob (app 3 1 8 j au h) λav h=>k .normal [a,ag,c,d,e,f,g,i,av,ag,m,n,b,c,aa,ab,ac,b,ad,ae,c,af,ag,j,ah,ai,aj,ak,ak,al,am,an,ao,ap,aq,ar,j,ag,au,av,ag,zs] h)) (k (.exit 0) [a,b,c,d,e,f,g,i,j,l,m,n,b,c,aa,r,s,t,u,v,w,x,y,z,A,B,C,D,E,F,G,H,I,J,zz,zy,zx,zw,zv,zu,zt,zs] h):=by kernel_rfl
theorem aGM:cA prog O L 163 [N,P,Q] h=ob (cP 40 (Value.cells N).toList .fix h) λaa h=>ob (dJ 3 1 1 [(.int .i64 0)] [(0,P)] h) λab h=>L (aK prog O L Lb) (Eo O L) [N,P,Q,aa,undef,undef,(.slice none 0 0),(.bool false),ab,undef,P,ab,undef,undef,undef,undef,undef,undef,undef,undef,undef,undef,undef,undef,undef,undef,undef,undef,undef,undef,undef,undef,undef,undef,undef,undef,undef,undef,undef,undef,undef,undef] h:=by kernel_rfl
def Lc:Code:=b9 [1,1,1,1,0,1,0,0] (cC prog 164)
def Ld:KV:=(dN 0 (eF prog O L (b9 [1,1,1,1,1] (cC prog 164)) (eX prog Tryz.f164)))
theorem aGN:Ld O L (.exit 0) [a,b,c,d,e,f,g,i,j,l,m,n,o,p,q,r,s,t,u,v,w,x,y,z,A,B,C,D,E,F,G] h=some (aJ [e],h):=by kernel_rfl
theorem Vt:aK prog O L Lc k [a,b,c,d,e,f,g,i,j,l,m,n,o,p,q,r,s,t,u,v,w,x,y,z,A,B,C,D,E,F,G] h=ob (M.aD (bin prog .lss 3 t s) h) λaa h=>aL aa (ob (M.aD (bH 2 r t) h) λab h=>ob (ldN 2 ab h) λac h=>ob (cP 117 [(.int .i64 0),(.int .i64 0)] .fix h) λad h=>ob (stN 2 ad ac h) λae h=>ob (ldN 11 b h) λaf h=>ob (ldN 2 ad h) λag h=>ob (O (.func 229) [af,ag,d] h) λah h=>ob (M.aD (bH 1 e t) h) λai h=>ob (stN 1 ai ah h) λaj h=>ob (M.aD (bin prog .add 3 t (.int .i64 1)) h) λak h=>k .normal [a,b,c,d,e,t,ad,i,j,l,m,n,o,p,q,r,s,ak,aa,t,ab,ac,e,t,af,ag,d,ah,ai,ak,G] h) (k (.exit 0) [a,b,c,d,e,f,g,i,j,l,m,n,o,p,q,r,s,t,aa,v,w,x,y,z,A,B,C,D,E,F,G] h):=by kernel_rfl
theorem aGO:cA prog O L 164 [N] h=ob (cP 40 (Value.cells N).toList .fix h) λaa h=>ob (ldN 11 aa h) λab h=>ob (O (.func 162) [ab] h) λac h=>ob (M.aD (bin prog .neq 60 ac (.int .u16 0)) h) λad h=>aL ad (some (aJ [(.slice none 0 0)],h)) (ob (ldN 11 aa h) λae h=>ob (O (.func 139) [ae] h) λaf h=>ob (M.aD (bX af) h) λag h=>ob (lC 37 1 24 [(.slice none 0 0)] ag ag h) λah h=>ob (M.aD (bX af) h) λai h=>L (aK prog O L Lc) (Ld O L) [N,aa,(.slice none 0 0),af,ah,undef,undef,ab,ac,ad,ae,af,af,ag,ah,af,ai,(.int .i64 0),undef,undef,undef,undef,undef,undef,undef,undef,undef,undef,undef,undef,undef] h):=by kernel_rfl
def Ep:Code:=b9 [1,0,1,1,0,1,0,0] (cC prog 165)
def Bg:KV:=(dN 0 (eF prog O L (b9 [1,0,1,1,1] (cC prog 165)) (eX prog Tryz.f165)))
theorem aGP:Bg O L (.exit 0) [a,b,c,d,e,f,g,i,j,l,m,n,o,p,q,r,s,t,u,v,w,x,y,z,A,B,C,D,E,F,G,H,I,J,zz,zy,zx,zw,zv,zu,zt,zs,zr,zq,zp,zo,zn,zm,zl,zk,zj,zi,zh,zg] h=ob (M.aD (aO a) h) λaa h=>ob (M.aD (aG 0 aa) h) λab h=>ob (ld1 ab h) λac h=>ob (M.aD (bH 1 ac b) h) λad h=>ob (stN 1 ad (.int .i64 2) h) λae h=>some (aJ [(.bool false)],h):=by kernel_rfl
theorem Vv:Bg O L .ret [a,b,c,d,e,f,g,i,j,l,m,n,o,p,q,r,s,t,u,v,w,x,y,z,A,B,C,D,E,F,G,H,I,J,zz,zy,zx,zw,zv,zu,zt,zs,zr,zq,zp,zo,zn,zm,zl,zk,zj,zi,zh,zg] h=some (aJ [e],h):=by kernel_rfl
theorem Vu:aK prog O L Ep k [a,b,c,d,e,f,g,i,j,l,m,n,o,p,q,r,s,t,u,v,w,x,y,z,A,B,C,D,E,F,G,H,I,J,zz,zy,zx,zw,zv,zu,zt,zs,zr,zq,zp,zo,zn,zm,zl,zk,zj,zi,zh,zg] h=ob (M.aD (bin prog .lss 3 x w) h) λaa h=>aL aa (ob (M.aD (bH 1 v x) h) λab h=>ob (ld1 ab h) λac h=>ob (M.aD (aO a) h) λad h=>ob (M.aD (aG 0 ad) h) λae h=>ob (ld1 ae h) λaf h=>ob (M.aD (bH 1 af ac) h) λag h=>ob (ld1 ag h) λah h=>ob (M.aD (bin prog .eql 3 ah (.int .i64 1)) h) λai h=>aL ai (k .ret [a,b,c,d,(.bool true),f,ac,i,j,l,m,n,o,p,q,r,s,t,u,v,w,x,aa,ab,ac,ai,a,ad,ae,af,ac,ag,ah,ai,zz,zy,zx,zw,zv,zu,zt,zs,zr,zq,zp,zo,zn,zm,zl,zk,zj,zi,zh,zg] h) (ob (M.aD (aO a) h) λaj h=>ob (M.aD (aG 0 aj) h) λak h=>ob (ld1 ak h) λal h=>ob (M.aD (bH 1 al ac) h) λam h=>ob (ld1 am h) λan h=>ob (M.aD (bin prog .eql 3 an (.int .i64 2)) h) λao h=>aL ao (ob (M.aD (bin prog .add 3 x (.int .i64 1)) h) λap h=>k .normal [a,b,c,d,e,f,ac,i,j,l,m,n,o,p,q,r,s,t,u,v,w,ap,aa,ab,ac,ai,a,ad,ae,af,ac,ag,ah,ai,ao,a,aj,ak,al,ac,am,an,ao,zq,zp,zo,zn,ap,zl,zk,zj,zi,zh,zg] h) (ob (O (.func 165) [a,ac] h) λaq h=>aL aq (k .ret [a,b,c,d,(.bool true),f,ac,i,j,l,m,n,o,p,q,r,s,t,u,v,w,x,aa,ab,ac,ai,a,ad,ae,af,ac,ag,ah,ai,ao,a,aj,ak,al,ac,am,an,ao,aq,a,ac,aq,zm,zl,zk,zj,zi,zh,zg] h) (ob (M.aD (bin prog .add 3 x (.int .i64 1)) h) λar h=>k .normal [a,b,c,d,e,f,ac,i,j,l,m,n,o,p,q,r,s,t,u,v,w,ar,aa,ab,ac,ai,a,ad,ae,af,ac,ag,ah,ai,ao,a,aj,ak,al,ac,am,an,ao,aq,a,ac,aq,ar,zl,zk,zj,zi,zh,zg] h)))) (k (.exit 0) [a,b,c,d,e,f,g,i,j,l,m,n,o,p,q,r,s,t,u,v,w,x,aa,z,A,B,C,D,E,F,G,H,I,J,zz,zy,zx,zw,zv,zu,zt,zs,zr,zq,zp,zo,zn,zm,zl,zk,zj,zi,zh,zg] h):=by kernel_rfl
theorem aGQ:cA prog O L 165 [N,P] h=ob (M.aD (aO N) h) λaa h=>ob (M.aD (aG 0 aa) h) λab h=>ob (ld1 ab h) λac h=>ob (M.aD (bH 1 ac P) h) λad h=>ob (stN 1 ad (.int .i64 1) h) λae h=>ob (M.aD (aO N) h) λaf h=>ob (M.aD (aG 1 af) h) λag h=>ob (ld1 ag h) λah h=>ob (M.aD (bH 1 ah P) h) λai h=>ob (ld1 ai h) λaj h=>ob (M.aD (bX aj) h) λak h=>L (aK prog O L Ep) (Bg O L) [N,P,undef,undef,(.bool false),undef,undef,N,aa,ab,ac,P,ad,N,af,ag,ah,P,ai,aj,ak,(.int .i64 0),undef,undef,undef,undef,undef,undef,undef,undef,undef,undef,undef,undef,undef,undef,undef,undef,undef,undef,undef,undef,undef,undef,undef,undef,undef,undef,undef,undef,undef,undef,undef,undef] h:=by kernel_rfl
def Lf:Code:=b9 [1,1,0,0,0] (cC prog 223)
def Lg:KV:=(dN 0 (eF prog O L (b9 [1,1,1] (cC prog 223)) (eX prog Tryz.f223)))
theorem Vx:Lg O L (.exit 0) [a,b,c,d,e,f,g,i,j,l,m,n,o,p,q,r,s,t,u,v] h=some (aJ [f],h):=by kernel_rfl
theorem Vw:aK prog O L Lf k [a,b,c,d,e,f,g,i,j,l,m,n,o,p,q,r,s,t,u,v] h=ob (M.aD (bin prog .gtr 3 b (.int .i64 0)) h) λaa h=>aL aa (ob (M.aD (bin prog .sub 3 b (.int .i64 1)) h) λab h=>ob (M.aD (bH 1 a ab) h) λac h=>ob (ld1 ac h) λad h=>ob (dJ 3 1 1 [(.int .i64 0)] [(0,ad)] h) λae h=>ob (app 3 1 8 f ae h) λaf h=>k .normal [a,ad,c,d,e,af,g,i,b,aa,a,b,ab,ac,ad,f,ad,ae,af,v] h) (k (.exit 0) [a,b,c,d,e,f,g,i,b,aa,m,n,o,p,q,r,s,t,u,v] h):=by kernel_rfl
theorem aGR:cA prog O L 223 [N,P] h=ob (dJ 3 1 1 [(.int .i64 0)] [(0,P)] h) λaa h=>L (aK prog O L Lf) (Lg O L) [N,P,undef,undef,(.slice none 0 0),aa,P,aa,undef,undef,undef,undef,undef,undef,undef,undef,undef,undef,undef,undef] h:=by kernel_rfl
def Er:Code:=b9 [1,1,0,1,0,0] (cC prog 229)
def Et:KV:=(dN 0 (eF prog O L (b9 [1,1,1] (cC prog 229)) (eX prog Tryz.f229)))
theorem aGS:Et O L (.exit 0) [a,b,c,d,e,f,g,i,j,l,m,n,o,p,q,r,s,t,u,v,w,x,y,z,A,B,C,D,E,F,G,H,I,J,zz,zy,zx,zw,zv,zu,zt,zs,zr,zq,zp,zo,zn,zm,zl,zk,zj,zi,zh,zg,zf,ze,zd,zc,zb,za,yz,yy,yx,yw] h=ob (O (.func 169) [i] h) λaa h=>ob (O (.func 170) [i] h) λab h=>some (aJ [ab],h):=by kernel_rfl
theorem Vy:aK prog O L Er k [a,b,c,d,e,f,g,i,j,l,m,n,o,p,q,r,s,t,u,v,w,x,y,z,A,B,C,D,E,F,G,H,I,J,zz,zy,zx,zw,zv,zu,zt,zs,zr,zq,zp,zo,zn,zm,zl,zk,zj,zi,zh,zg,zf,ze,zd,zc,zb,za,yz,yy,yx,yw] h=ob (M.aD (bin prog .lss 3 o n) h) λaa h=>aL aa (ob (M.aD (aG 0 e) h) λab h=>ob (ld1 ab h) λac h=>ifB (true) (ob (M.aD (bin prog .eql 3 o ac) h) λad h=>ob (gd ad false (M.cB o) h) λae h=>ob (gd ad false (M.aD (aG 1 e)) h) λaf h=>ob (gd ad false (ld1 af) h) λag h=>ifB (true) (ob (gd ad false (M.aD (bin prog .eql 3 ae ag)) h) λah h=>ob (M.aD (cF ad (.bool true) ah) h) λai h=>ob (gd ai false (M.aD (aG 10 d)) h) λaj h=>ob (gd ai false (ld1 aj) h) λak h=>ifB (true) (ob (gd ai false (M.aD (aG 0 e)) h) λal h=>ob (gd ai false (ld1 al) h) λam h=>ifB (true) (ob (gd ai false (M.aD (bH 1 ak am)) h) λan h=>ob (gd ai false (ld1 an) h) λao h=>ifB (true) (ob (gd ai false (M.cB o) h) λap h=>ob (gd ai false (M.aD (bH 1 ao ap)) h) λaq h=>ob (gd ai false (ld1 aq) h) λar h=>ifB (true) (ob (gd ai false (M.aD (aG 1 e)) h) λau h=>ob (gd ai false (ld1 au) h) λav h=>ifB (true) (ob (gd ai false (M.aD (bin prog .neq 3 ar av)) h) λaw h=>ob (M.aD (cF ai (.bool true) aw) h) λax h=>aL ax (ob (M.aD (bin prog .add 3 o (.int .i64 1)) h) λay h=>k .normal [a,b,c,d,e,f,g,i,o,l,m,n,ay,aa,o,o,ab,ac,ad,ad,ae,af,ag,ah,ai,ai,aj,ak,al,am,an,ao,ap,aq,ar,au,av,aw,ax,zu,zt,zs,zr,zq,zp,zo,zn,zm,zl,zk,zj,zi,zh,zg,zf,ze,zd,zc,zb,ay,yz,yy,yx,yw] h) (ob (M.aD (aG 1 e) h) λaz h=>ob (ld1 az h) λba h=>ifB (true) (ob (M.aD (aG 10 d) h) λbb h=>ob (ld1 bb h) λbc h=>ifB (true) (ob (M.aD (aG 1 e) h) λbd h=>ob (ld1 bd h) λbe h=>ifB (true) (ob (M.aD (bH 1 bc be) h) λbf h=>ob (ld1 bf h) λbg h=>ifB (true) (ob (M.aD (bH 1 bg o) h) λbh h=>ob (ld1 bh h) λbi h=>ifB (true) (ob (M.aD (bld prog 117 [(0,ba),(1,bi)]) h) λbj h=>ob (O (.func 259) [c,bj] h) λbk h=>ifB (true) (ob (M.aD (bin prog .geq 3 bk (.int .i64 0)) h) λbl h=>aL bl (ob (dJ 3 1 1 [(.int .i64 0)] [(0,bk)] h) λbm h=>ob (app 3 1 8 i bm h) λbn h=>ob (M.aD (bin prog .add 3 o (.int .i64 1)) h) λbo h=>k .normal [a,b,c,d,e,f,g,bn,o,bk,m,n,bo,aa,o,o,ab,ac,ad,ad,ae,af,ag,ah,ai,ai,aj,ak,al,am,an,ao,ap,aq,ar,au,av,aw,ax,c,az,ba,bb,bc,bd,be,bf,bg,o,bh,bi,bj,bk,bk,bl,i,bk,bm,bn,bo,yz,yy,yx,yw] h) (ob (M.aD (bin prog .add 3 o (.int .i64 1)) h) λbp h=>k .normal [a,b,c,d,e,f,g,i,o,bk,m,n,bp,aa,o,o,ab,ac,ad,ad,ae,af,ag,ah,ai,ai,aj,ak,al,am,an,ao,ap,aq,ar,au,av,aw,ax,c,az,ba,bb,bc,bd,be,bf,bg,o,bh,bi,bj,bk,bk,bl,ze,zd,zc,zb,bp,yz,yy,yx,yw] h)))))))))))))))) (k (.exit 0) [a,b,c,d,e,f,g,i,j,l,m,n,o,aa,q,r,s,t,u,v,w,x,y,z,A,B,C,D,E,F,G,H,I,J,zz,zy,zx,zw,zv,zu,zt,zs,zr,zq,zp,zo,zn,zm,zl,zk,zj,zi,zh,zg,zf,ze,zd,zc,zb,za,yz,yy,yx,yw] h):=by kernel_rfl
theorem aGT:cA prog O L 229 [N,P,Q] h=ob (cP 40 (Value.cells N).toList .fix h) λaa h=>ob (cP 117 (Value.cells P).toList .fix h) λab h=>ob (M.aD (aG 0 aa) h) λac h=>ob (ld1 ac h) λad h=>L (aK prog O L Er) (Et O L) [N,P,Q,aa,ab,undef,(.slice none 0 0),(.slice none 0 0),undef,undef,ac,ad,(.int .i64 0),undef,undef,undef,undef,undef,undef,undef,undef,undef,undef,undef,undef,undef,undef,undef,undef,undef,undef,undef,undef,undef,undef,undef,undef,undef,undef,undef,undef,undef,undef,undef,undef,undef,undef,undef,undef,undef,undef,undef,undef,undef,undef,undef,undef,undef,undef,undef,undef,undef,undef,undef] h:=by kernel_rfl
end Go.Proofs.YtmimdleeihjdoaaGreatDoor
end
namespace Go.Proofs.YtmimdleeihjdoaaGreatDoor
open Go.Proofs.Tryz
open Go.Abs
def nx (p:PlanD)(v w:Int):Int:=(p.next.getD v.toNat []).getD w.toNat 0
def wP (p:PlanD)(w:Int):Nat->List Int->Int->Option (List Int)
 |0,_,_=>none
 |q+1,l,v=>if v=w then some l else if((l.length:Int)=p.nodes∨(oC p.edges v).contains (nx p v w)=false) then none else wP p w q (l++[nx p v w]) (nx p v w)
def o9 (p:PlanD)(v w:Int):Option (List Int):=wP p w p.nodes.toNat [v] v
def uY (p:PlanD)(v w:Int):List Int:=if lP p=true/\0<=v/\v<p.nodes/\0<=w/\w<p.nodes then(o9 p v w).getD [] else []
structure OkP (p:PlanD)(n:Nat):Prop where
 hn:p.nodes=(n:Int)
 h2:2<=n
 h6:n<=6
 ve:VE n p.edges
 e15:p.edges.length<=15
 nl:p.next.length=n
 rl: ∀r∈p.next,r.length=n
theorem Ez {p:PlanD}(h:lP p=true): ∃n,OkP p n:=by
 unfold lP uU wN uW wi at h;simp only[aOe,decide_eq_true_eq,Bool.not_eq_true'] at h;obtain⟨⟨⟨h1,h2⟩,_⟩,⟨h3,h4⟩,_,_,h5,h6⟩:=h;have hn:p.nodes=((p.nodes.toNat:Nat):Int):=by omega
 refine⟨p.nodes.toNat,hn,by omega,by omega,?_,by omega,by omega,λr hr=> ?_⟩
 ·rw[<-hn];exact(Vi _ _).mp h3
 ·rw[List.any_eq_false] at h6
  have:=h6 r hr;simp only[decide_eq_true_eq,ne_eq,Decidable.not_not] at this;omega
theorem aG7 {E:List Ed}{v x:Int}:(bes E v).contains x=(oC E v).contains x:=by
 rw[Bool.eq_iff_iff,List.contains_iff_mem,List.contains_iff_mem,Kt]
section
variable {H : aC} {m : Nat} {p : PlanD} {ev wv nv : Value}
theorem aG9 (xs:List Int)(w:Int):decide (0<=Ks xs w)=xs.contains w:=by
 unfold Ks;rw[D7,Bc xs (λx=>x==w) _ (λi x hx=>by rw[hx];rfl)]
 rw[Bool.eq_iff_iff,List.any_eq_true,List.contains_iff_mem];constructor
 ·rintro ⟨x,h1,h2⟩
  have:x=w:=by simpa using h2
  exact this▸h1
 ·exact λh=>⟨w,h,by simp⟩
theorem aG8 {v:Value}{xs:List Int}(hx:Is H v xs)(w:Int)(hn:xs.length+20<m)(hm:m<=72057594037927936):lvl prog cD m (.func 228) [v,.int .i64 w] H=some (.bool (xs.contains w),H):=by
 have g:=aGc hx w (m:=m-1) (by omega) (by omega)
 refine dA (iC rfl rfl) (by omega) ?_
 rw[aFf];simp -implicitDefEqProofs only[gsR,g,aG9]
theorem Lv {n:Nat}(hk:OkP p n)(hp:PV H p ev wv nv){v w:Int}(hv:0<=v/\v<n)(hw:0<=w/\w<n): ∃a u a2,bH 1 nv (.int .i64 v)=some a/\ld1 a H=some (u,H)/\bH 1 u (.int .i64 w)=some a2/\ld1 a2 H=some (.int .i64 (nx p v w),H):=by
 have ev':v=((v.toNat:Nat):Int):=by omega
 have ew':w=((w.toNat:Nat):Int):=by omega
 have h1:=hk.nl;obtain⟨r,hr⟩: ∃r,p.next[v.toNat]? =some r:=⟨_,aN8 (by omega)⟩
 have h2:=hk.rl r (aOg hr);obtain⟨x,hx⟩: ∃x,r[w.toNat]? =some x:=⟨_,aN8 (by omega)⟩
 obtain⟨a,u,g1,g2,g3⟩:=hp.n.D6 hr .i64;obtain⟨b,o,g4,_,g6⟩:=g3.iS iQ hx .i64;rw[<-ev'] at g1;rw[<-ew'] at g4;have e:nx p v w=x:=by
  unfold nx;simp only[aOa,hr,hx,aOA]
 rw[e]
 exact⟨a,u,_,g1,g2,g4,(g6 H rfl).2.1 0 _ rfl⟩
def V7 (H0:aC)(o:Option (List Int))(H':aC)(u:Value):Prop:=Ext H0 H'/\ ∃lv,u= .tuple #[lv,.bool o.isSome]/\Iw H' lv (o.getD [])/\New H0 lv
theorem aHb {n:Nat}(hk:OkP p n){H0:aC}{a:Nat}{w:Int}(hw:0<=w/\w<n)(hp:PV H0 p ev wv nv)(hb:H0[a]? =some (plB p ev wv nv))(hm:200<m)(hm2:m<=72057594037927936):
  ∀(q k:Nat)(H1:aC)(u:Value)(l:List Int)(v:Int),q+l.length=n+1->l.length<=n->q<k->0<=v/\v<n->Ext H0 H1->Iw H1 u l->New H0 u-> ∀(x0 x4 x5 x6 x7 x9 bK bM aR aN aM aP aZ bG aQ bC bJ bL bI bE aS aT aU aV aW aX aY bA bB bN bO bP bQ bR bS bT bU bV:Value),
  ∃H' r,aI k (aK prog (lvl prog cD m) (aI m) Lb) (Eo (lvl prog cD m) (aI m)) [x0,(.int .i64 v),(.int .i64 w),(.pointer (some ⟨a,0,none⟩)),x4,x5,x6,x7,u,x9,bK,bM,aR,aN,aM,aP,aZ,bG,aQ,bC,bJ,bL,bI,bE,aS,aT,aU,aV,aW,aX,aY,bA,bB,bN,bO,bP,bQ,bR,bS,bT,bU,bV] H1=some (r,H')/\V7 H0 (wP p w q l v) H' r:=by
 intro q;have h6:=hk.h6;have h15:=hk.e15;induction q with
 |zero=>intro k H1 u l v h1 h2;omega
 |succ q ih=>
  intro k H1 u l v hql hln hk2 hv he hu hnew;intros;obtain⟨k,rfl⟩:=aB k (by omega)
  rw[eD,aGK];unfold wP;by_cases hvw:v=w
  ·have d:(v !=w)=false:=by simp[hvw]
   rw[if_pos hvw];simp -implicitDefEqProofs only[gsR,d];rw[aGL]
   exact⟨H1,_,rfl,he,u,rfl,hu,hnew⟩
  ·have d:(v !=w)=true:=by simp[hvw]
   rw[if_neg hvw];have b1:=fN hb he;have p1:=hp.ext he;have l10:=eG b1 10 _ rfl;have l0:=eG b1 0 _ rfl;rw[hk.hn] at l0;obtain⟨a1,u1,a2,g1,g2,g3,g4⟩:=Lv hk p1 hv hw;have hlen:=hu.yG;obtain⟨x,hx⟩: ∃x,x=nx p v w:=⟨_,rfl⟩;rw[<-hx] at g4⊢;by_cases hl:l.length=n
   ·have dl:((l.length:Int)==(n:Int))=true:=by simp[hl]
    rw[if_pos (.inl (by rw[hk.hn];omega))]
    simp -implicitDefEqProofs only[gsR,d,l10,g1,g2,g3,g4,hlen,l0,dl];rw[Vs]
    exact⟨H1,_,rfl,he,.slice none 0 0,rfl,Rw.lE,New.nG _⟩
   ·have dl:((l.length:Int)==(n:Int))=false:=by simp;omega
    have l11:=kP b1;obtain⟨H2,ub,g5,x2,q2,_⟩:=Ko p1 (m:=m) (by omega) (by omega) v
    have hbl:=Va p.edges v;have g6:=aG8 q2.rs x (m:=m) (by omega) (by omega)
    rw[aG7] at g6;cases hc:(oC p.edges v).contains x with
    |false=>
     rw[hc] at g6;rw[if_pos (.inr rfl)];simp -implicitDefEqProofs only[gsR,d,l10,g1,g2,g3,g4,hlen,l0,dl,l11,g5,g6];rw[Vs]
     exact⟨H2,_,rfl,he.tr x2,.slice none 0 0,rfl,Rw.lE,New.nG _⟩
    |true=>
     rw[hc] at g6;rw[if_neg (by rw[hk.hn];rintro (h|h);omega;cases h)]
     have hxin:=Be hk.ve (Kt _ _ _ |>.mpr (List.contains_iff_mem.mp hc));have hu2:Iw H2 u l:=hu.gF λb hb=>x2.2 b (hu.iO hb) id
     obtain⟨u2,H3,t1,t2,t3,t4⟩:=hu2.rP (by':=8) iQ o7 (by decide) x hnew (he.tr x2) (kH (n:=1000000) (by decide) (by omega))
     simp -implicitDefEqProofs only[gsR,d,l10,g1,g2,g3,g4,hlen,l0,dl,l11,g5,g6,oT,t1];exact ih k H3 u2 (l++[x]) x (by simp;omega) (by simp;omega) (by omega) ⟨hxin.1,hxin.2.1⟩ t4 t2 t3 ..
theorem aHa {n:Nat}(hk:OkP p n)(hp:PV H p ev wv nv){v w:Int}(hv:0<=v/\v<n)(hw:0<=w/\w<n)(hm:300<m)(hm2:m<=72057594037927936):
  ∃H' r,lvl prog cD m (.func 163) [plV p ev wv nv,.int .i64 v,.int .i64 w] H=some (r,H')/\V7 H (o9 p v w) H' r:=by
 obtain⟨H0,hH0⟩: ∃H0,H0=H++[plB p ev wv nv]:=⟨_,rfl⟩;have x0:Ext H H0:=by rw[hH0];exact Fr.app _ _ _
 have b0:H0[H.length]? =some (plB p ev wv nv):=by rw[hH0];exact hP _ _
 have h6:=hk.h6;have h2:=hk.h2;have one:Iw (H0++[.cells (inC v) 3 .row]) (.slice (some ⟨H0.length,0,none⟩) 1 1) [v]:=⟨rfl,.inr ⟨_,1,[],rfl,by simp,rfl,by simp⟩⟩
 have hnew:New H0 (.slice (some ⟨H0.length,0,none⟩) 1 1):=λb ⟨_,_,_,hh⟩=>by cases hh;exact aOb _
 have x1:Ext H0 (H0++[Blk.cells (inC v) 3 .row]):=Fr.app _ _ _;refine iP (iC rfl rfl) (by omega) ?_
 rw[aGM];simp -implicitDefEqProofs only[gsR,lG,<-hH0,oT];have hq:p.nodes.toNat=n:=by rw[hk.hn];rfl
 unfold o9;rw[hq];have:=aHb hk hw (hp.ext x0) b0 (m:=m-1) (by omega) (by omega) n (m-1) _ _ [v] v (by simp) (by simp;omega) (by omega) hv x1 one hnew
 refine Exists.imp (λH' h=>Exists.imp (λr h=>⟨h.1,x0.tr h.2.1,?_⟩) h) (this ..)
 obtain⟨lv,e1,e2,e3⟩:=h.2.2
 exact⟨lv,e1,e2,λb hb=>aOm x0.1 (e3 b hb)⟩
end
def E1 (p:PlanD)(a b:Ed)(w:Nat):Bool:=a.2==b.1&&((w:Int)!=a.2&&((w:Int)!=a.1&&(nx p a.1 w==a.2&&nx p a.2 w==b.2)))
def wt (p:PlanD)(n:Nat)(a b:Ed):Bool:=(List.range n).any (E1 p a b)
def nV (p:PlanD)(n:Nat)(hs:List Ed)(a:Ed):List Int:=((List.range hs.length).filter λk=>wt p n a (hs.getD k (0,0))).map (λk:Nat=>(k:Int))
def lX (p:PlanD):List (List Int):=if lP p=true then(lH p).map (nV p p.nodes.toNat (lH p)) else []
def qB (hs:List Ed)(y:Ed):Int:=fst (λj=>hs[j]? ==some y) hs.length 0
def nA (p:PlanD)(hs:List Ed)(h:Ed)(w:Nat):List Int:=
 if(w:Int)=h.1∨(w:Int)=h.2∨nx p h.1 w≠h.2 then [] else if 0<=qB hs (h.2,nx p h.2 w) then [qB hs (h.2,nx p h.2 w)] else []
def E0 (p:PlanD)(n:Nat)(hs:List Ed)(h:Ed):List Int:=(List.range n).flatMap (nA p hs h)
theorem Wa (p:Nat->Bool): ∀q i,0<=fst p q i->p (fst p q i).toNat=true
 |0,i=>by simp[fst]
 |q+1,i=>by
  unfold fst;split
  ·rename_i h
   intro _;simpa using h
  ·exact Wa p q (i+1)
theorem Wd {hs:List Ed}(hn:hs.Nodup)(y:Ed)(k:Nat):qB hs y=k↔hs[k]? =some y:=by
 have key:0<=qB hs y->hs[(qB hs y).toNat]? =some y:=λh=>by
  unfold qB at h⊢;have:=Wa _ _ _ h;simpa using this
 constructor
 ·intro h
  have:=key (by omega)
  rw[h] at this;simpa using this
 ·intro h
  have hk:=(aN6.mp h).1;have h0:0<=qB hs y:=(Km _ _ _).mpr ⟨k,by omega,by omega,by rw[h];simp⟩
  have h1:=key h0;have hk1:=(aN6.mp h1).1;have:=(List.getElem_inj (h₀:=hk1) (h₁:=hk) hn).mp (by
   rw[(aN6.mp h1).2,(aN6.mp h).2])
  omega
theorem aHe (p:PlanD)(hs:List Ed)(h:Ed)(w:Nat):(nA p hs h w).length<=1:=by
 unfold nA;split
 ·simp
 ·split<;>simp
theorem Lx (p:PlanD)(hs:List Ed)(h:Ed): ∀i,((List.range i).flatMap (nA p hs h)).length<=i
 |0=>by simp
 |i+1=>by
  have:=Lx p hs h i;have:=aHe p hs h i;rw[aOG,List.flatMap_append];simp only[aOi,List.flatMap_cons,List.flatMap_nil,List.append_nil];omega
theorem Wf {p:PlanD}{n:Nat}{hs:List Ed}{a:Ed}{z:Int}:z∈nV p n hs a↔ ∃k b,z=(k:Nat)/\hs[k]? =some b/\wt p n a b=true:=by
 unfold nV;simp only[aOK,List.mem_filter,aOL];constructor
 ·rintro ⟨k,⟨h1,h2⟩,rfl⟩
  exact⟨k,hs[k],rfl,aN8 h1,by rwa [aOa,aN8 h1,aOA] at h2⟩
 ·rintro ⟨k,b,rfl,h1,h2⟩
  refine⟨k,⟨(aN6.mp h1).1,?_⟩,rfl⟩;rwa [aOa,h1,aOA]
theorem aHo (p:PlanD)(n:Nat)(hs:List Ed)(a:Ed):(nV p n hs a).Pairwise (· < ·):=by
 unfold nV;rw[List.pairwise_map]
 exact(List.Pairwise.filter _ List.pairwise_lt_range).imp λh=>by omega
theorem aHn (z:Int)(l:List Int):z∈srt l↔z∈l:=(Av l).mem_iff
theorem aHf {p:PlanD}{n:Nat}{hs:List Ed}(hn:hs.Nodup)(a:Ed):dd (srt (E0 p n hs a))=nV p n hs a:=by
 refine Vc _ _ (Kp _ (Di _)) (aHo p n hs a) λz=> ?_
 rw[Eb,aHn,Wf];unfold E0 wt;simp only[List.mem_flatMap,aOL,List.any_eq_true];constructor
 ·rintro ⟨w,hw,hz⟩
  unfold nA at hz
  split at hz
  ·simp at hz
  ·rename_i hc
   split at hz
   ·rename_i h0
    simp only[List.mem_singleton] at hz;have e:qB hs (a.2,nx p a.2 w)=((qB hs (a.2,nx p a.2 w)).toNat:Nat):=by omega
    refine⟨_,_,by rw[hz];exact e,(Wd hn _ _).mp e,w,hw,?_⟩
    unfold E1;simp only[aOe,bne_iff_ne,beq_iff_eq];refine⟨trivial,?_,?_,?_,trivial⟩<;>omega
   ·simp at hz
 ·rintro ⟨k,b,rfl,hk,w,hw,hz⟩
  unfold E1 at hz;simp only[aOe,bne_iff_ne,beq_iff_eq] at hz;obtain⟨h1,h2,h3,h4,h5⟩:=hz;refine⟨w,hw,?_⟩;unfold nA;rw[if_neg (by omega)]
  have:(a.2,nx p a.2 w)=b:=by rw[h5,h1]
  rw[this,(Wd hn b k).mpr hk,if_pos (by omega)]
  simp
theorem Wb {p:PlanD}{n:Nat}(hk:OkP p n):(lH p).Nodup/\lH p=(List.range n).flatMap (o8 p.edges):=by
 have hN:mO p=n:=by have:=hk.h6;unfold mO;rw[hk.hn];omega
 have hho:lH p=(List.range n).flatMap (o8 p.edges):=by unfold lH;rw[hN]
 refine⟨?_,hho⟩;rw[hho]
 exact(aGC hk.ve hk.h6).imp λh hh=>by subst hh;omega
theorem aHi {p:PlanD}{n:Nat}(hk:OkP p n){h:Ed}(hh:h∈lH p):0<=h.1/\h.1<n/\0<=h.2/\h.2<n:=by
 rw[(Wb hk).2] at hh;have:=Be hk.ve ((aGB hk.ve hk.h6).mp hh);omega
section
variable {H : aC} {m : Nat} {p : PlanD} {ev wv nv : Value}
def hpB (h:Ed):Blk:= .cells (edC h) 117 .fix
theorem Wc (h:Ed):Blk.cells (edV h).cells.toList 117 .fix=hpB h:=rfl
theorem aHl {b:Nat}{h:Ed}(hb:H[b]? =some (hpB h)):ld1 (.pointer (some ⟨b,0,none⟩)) H=some (.int .i64 h.1,H):=Aq hb rfl
theorem aHm {b:Nat}{h:Ed}(hb:H[b]? =some (hpB h)):ld1 (.pointer (some ⟨b,1,none⟩)) H=some (.int .i64 h.2,H):=Aq hb rfl
theorem We {b:Nat}{h:Ed}(hb:H[b]? =some (hpB h)):ldN 2 (.pointer (some ⟨b,0,none⟩)) H=some (edV h,H):=by
 rw[rO,hb];unfold hpB;rw[sI _ _ _ _ _ (by simp[edC])]
 rfl
theorem V9 (a b:Ed):bin prog .eql 117 (edV a) (edV b)=some (.bool (a==b)):=by
 have k:r8 prog 117=some [true,true]:=by kernel_rfl
 obtain⟨a1,a2⟩:=a;obtain⟨b1,b2⟩:=b;simp[bin,edV,dU,oN,k,eqT,edC];rfl
theorem aHk {v:Value}{xs:List Ed}{a:Nat}{y:Ed}(hx:Hs H v xs)(ha:H[a]? =some (hpB y))(hn:xs.length<=72057594037927936): ∀(q i k:Nat),xs.length-i=q->i<=xs.length->q<k-> ∀(x1 x2 x4 x5 x6 x9 bK bM aR aN aM aP aZ bG aQ:Value),
  aI k (aK prog (lvl prog cD m) (aI m) J3) (D4 (lvl prog cD m) (aI m)) [v,x1,x2,(.pointer (some ⟨a,0,none⟩)),x4,x5,x6,(.int .i64 xs.length),(.int .i64 (i:Nat)),x9,bK,bM,aR,aN,aM,aP,aZ,bG,aQ] H=some (.int .i64 (fst (λj=>xs[j]? ==some y) q i),H):=by
 intro q;have la:=We ha;induction q with
 |zero=>
  intro i k hr hi hk;intros;obtain⟨k,rfl⟩:=aB k (by omega)
  obtain rfl:i=xs.length:=by omega
  have e:decide ((xs.length:Int)<xs.length)=false:=by simp
  rw[eD,Uh];simp -implicitDefEqProofs only[gsR,e];rw[aFn];rfl
 |succ q ih=>
  intro i k hr hi hk;intros;obtain⟨k,rfl⟩:=aB k (by omega)
  have e:decide ((i:Int)<xs.length)=true:=by simp;omega
  have e3:=aA (i:=i) (by omega)
  have hxi:xs[i]? =some xs[i]:=aN8 (by omega)
  obtain⟨b,o,g1,g2,g3⟩:=hx.iS sU hxi .i64;have l1:ldN 2 (.pointer (some ⟨b,o,none⟩)) H=some (edV xs[i],H):=(g3 H rfl).1;rw[eD,Uh];unfold fst;by_cases h:y=xs[i]
  ·have d:(y==xs[i])=true:=by rw[h];simp
   have d2:(xs[i]? ==some y)=true:=by rw[hxi,h];simp
   simp -implicitDefEqProofs only[gsR,e,la,g1,l1,V9,d];rw[aFp,if_pos d2];rfl
  ·have d:(y==xs[i])=false:=by simpa using h
   have d2: ¬(xs[i]? ==some y)=true:=by rw[hxi];simpa using λhh=>h hh.symm
   simp -implicitDefEqProofs only[gsR,e,la,g1,l1,V9,d,cI,e3];rw[if_neg d2];exact ih (i+1) k (by omega) (by omega) (by omega) ..
theorem aHj {v:Value}{xs:List Ed}(hx:Hs H v xs)(y:Ed)(hn:xs.length+10<m)(hm:m<=72057594037927936): ∃H',lvl prog cD m (.func 259) [v,edV y] H=some (.int .i64 (qB xs y),H')/\Ext H H':=by
 have x2:Ext H (H++[hpB y]):=Fr.app _ _ _;have hlen:=hx.kC;refine⟨H++[hpB y],dA (iC rfl rfl) (by omega) ?_,x2⟩
 rw[aFo];simp -implicitDefEqProofs only[gsR,Wc,hlen];exact aHk (hx.ext x2) (hP H _) (by omega) xs.length 0 (m-1) (by omega) (by omega) (by omega) ..
theorem aHh {n:Nat}(hk:OkP p n){H0:aC}{a hb:Nat}{h:Ed}{u:Value}{hs:List Ed}(hh:0<=h.1/\h.1<n/\0<=h.2/\h.2<n)(hp:PV H0 p ev wv nv)(hb0:H0[a]? =some (plB p ev wv nv))(hhb:H0[hb]? =some (hpB h))(hu:Hs H0 u hs)(hsl:hs.length<=100)(hm:300<m)(hm2:m<=72057594037927936):
  ∀(q i k:Nat)(H1:aC)(acc:Value),n-i=q->i<=n->q<k->Ext H0 H1->Iw H1 acc ((List.range i).flatMap (nA p hs h))->New H0 acc-> ∀(x0 x1 x5 x6 x8 x9 bK aN aM aP aZ bG aQ bC bJ bL bI bE aS aT aU aV aW aX aY bA bB bN bO bP bQ bR bS bT bU bV bY cE cG cH cL cQ cU cV cM cN cO cR cY cW cX cZ dD dH dE dI dP dQ:Value),
  ∃H' r,aI k (aK prog (lvl prog cD m) (aI m) Er) (Et (lvl prog cD m) (aI m)) [x0,x1,u,(.pointer (some ⟨a,0,none⟩)),(.pointer (some ⟨hb,0,none⟩)),x5,x6,acc,x8,x9,bK,(.int .i64 n),(.int .i64 (i:Nat)),aN,aM,aP,aZ,bG,aQ,bC,bJ,bL,bI,bE,aS,aT,aU,aV,aW,aX,aY,bA,bB,bN,bO,bP,bQ,bR,bS,bT,bU,bV,bY,cE,cG,cH,cL,cQ,cU,cV,cM,cN,cO,cR,cY,cW,cX,cZ,dD,dH,dE,dI,dP,dQ] H1=some (r,H')/\Ext H0 H'/\Iw H' r (dd (srt (E0 p n hs h)))/\New H0 r:=by
 intro q;have h6:=hk.h6;induction q with
 |zero=>
  intro i k H1 acc hr hi hk2 he ha hnew;intros;obtain⟨k,rfl⟩:=aB k (by omega)
  obtain rfl:i=n:=by omega
  have e:decide ((i:Int)<(i:Int))=false:=by simp
  have hal:=Lx p hs h i;obtain⟨H2,g1,g2,g3⟩:=Ti ha (by omega) hnew he
  have g1':=Ut m (by omega) [acc] H1
  rw[g1] at g1';have hsl:=qT ((List.range i).flatMap (nA p hs h));obtain⟨H3,r,q1,q2,q3,q4⟩:=U4 (m:=m) g2 hnew g3 (by omega) (by omega)
  refine⟨H3,r,?_,q2,q3,q4⟩;rw[eD,Vy];simp -implicitDefEqProofs only[gsR,e];rw[aGS];simp -implicitDefEqProofs only[gsR,g1',q1]
 |succ q ih=>
  intro i k H1 acc hr hi hk2 he ha hnew;intros;obtain⟨k,rfl⟩:=aB k (by omega)
  have e:decide ((i:Int)<(n:Int))=true:=aOQ (by omega)
  have e3:=aA (i:=i) (by omega)
  have hb1:=fN hhb he;have h0:=aHl hb1;have h1:=aHm hb1;have bp:=fN hb0 he;have l10:=eG bp 10 _ rfl;have p1:=hp.ext he;have hran:(List.range (i+1)).flatMap (nA p hs h)=(List.range i).flatMap (nA p hs h)++nA p hs h i:=by
   rw[aOG,List.flatMap_append];simp
  have hal:=Lx p hs h i;have skip:nA p hs h i=[]-> ∀(x0 x1 x5 x6 x8 x9 bK aN aM aP aZ bG aQ bC bJ bL bI bE aS aT aU aV aW aX aY bA bB bN bO bP bQ bR bS bT bU bV bY cE cG cH cL cQ cU cV cM cN cO cR cY cW cX cZ dD dH dE dI dP dQ:Value),∃H' r,aI k (aK prog (lvl prog cD m) (aI m) Er) (Et (lvl prog cD m) (aI m)) [x0,x1,u,(.pointer (some ⟨a,0,none⟩)),(.pointer (some ⟨hb,0,none⟩)),x5,x6,acc,x8,x9,bK,(.int .i64 n),(.int .i64 (i+1:Nat)),aN,aM,aP,aZ,bG,aQ,bC,bJ,bL,bI,bE,aS,aT,aU,aV,aW,aX,aY,bA,bB,bN,bO,bP,bQ,bR,bS,bT,bU,bV,bY,cE,cG,cH,cL,cQ,cU,cV,cM,cN,cO,cR,cY,cW,cX,cZ,dD,dH,dE,dI,dP,dQ] H1=some (r,H')/\Ext H0 H'/\Iw H' r (dd (srt (E0 p n hs h)))/\New H0 r:=by
   intro h0;exact ih (i+1) k H1 acc (by omega) (by omega) (by omega) he (by rw[hran,h0,List.append_nil];exact ha) hnew
  rw[eD,Vy];cases c1:((i:Int)==h.1) with
  |true=>
   simp -implicitDefEqProofs only[gsR,e,h0,c1,cI,e3];exact skip (by unfold nA;rw[if_pos (.inl (by simpa using c1))]) ..
  |false=>
   cases c2:((i:Int)==h.2) with
   |true=>
    simp -implicitDefEqProofs only[gsR,e,h0,h1,c1,c2,cI,e3];exact skip (by unfold nA;rw[if_pos (.inr (.inl (by simpa using c2)))]) ..
   |false=>
    obtain⟨a1,u1,a2,g1,g2,g3,g4⟩:=Lv hk p1 (v:=h.1) (w:=i) (by omega) (by omega)
    cases c3:(nx p h.1 i !=h.2) with
    |true=>
     simp -implicitDefEqProofs only[gsR,e,h0,h1,c1,c2,l10,g1,g2,g3,g4,c3,cI,e3];exact skip (by unfold nA;rw[if_pos (.inr (.inr (by simpa using c3)))]) ..
    |false=>
     obtain⟨a3,u3,a4,k1,k2,k3,k4⟩:=Lv hk p1 (v:=h.2) (w:=i) (by omega) (by omega)
     have bh:bld prog 117 [(0,.int .i64 h.2),(1,.int .i64 (nx p h.2 i))]=some (edV (h.2,nx p h.2 i)):=U9 _ _;obtain⟨H2,x1,x2⟩:=aHj (hu.ext he) (h.2,nx p h.2 i) (m:=m) (by omega) (by omega)
     have hnot: ¬((i:Int)=h.1∨(i:Int)=h.2∨nx p h.1 i≠h.2):=by
      have c1': ¬(i:Int)=h.1:=by simpa using c1
      have c2': ¬(i:Int)=h.2:=by simpa using c2
      have c3':nx p h.1 i=h.2:=by simpa using c3
      rintro (hx|hx|hx)
      ·exact c1' hx
      ·exact c2' hx
      ·exact hx c3'
     have ha2:Iw H2 acc ((List.range i).flatMap (nA p hs h)):=ha.gF λb hb=>x2.2 b (ha.iO hb) id
     cases c4:decide (0<=qB hs (h.2,nx p h.2 i)) with
     |true=>
      obtain⟨acc2,H3,t1,t2,t3,t4⟩:=ha2.rP (by':=8) iQ o7 (by decide) (qB hs (h.2,nx p h.2 i)) hnew (he.tr x2) (kH (n:=1000000) (by decide) (by omega))
      simp -implicitDefEqProofs only[gsR,e,h0,h1,c1,c2,l10,g1,g2,g3,g4,c3,k1,k2,k3,k4,bh,x1,c4,oT,t1,cI,e3];refine ih (i+1) k H3 acc2 (by omega) (by omega) (by omega) t4 ?_ t3 ..
      have:nA p hs h i=[qB hs (h.2,nx p h.2 i)]:=by unfold nA;rw[if_neg hnot,if_pos (of_decide_eq_true c4)]
      rw[hran,this];exact t2
     |false=>
      simp -implicitDefEqProofs only[gsR,e,h0,h1,c1,c2,l10,g1,g2,g3,g4,c3,k1,k2,k3,k4,bh,x1,c4,cI,e3];refine ih (i+1) k H2 acc (by omega) (by omega) (by omega) (he.tr x2) ?_ hnew ..
      have:nA p hs h i=[]:=by unfold nA;rw[if_neg hnot,if_neg (of_decide_eq_false c4)]
      rw[hran,this,List.append_nil];exact ha2
theorem aHg {n:Nat}(hk:OkP p n){h:Ed}{u:Value}{hs:List Ed}(hh:0<=h.1/\h.1<n/\0<=h.2/\h.2<n)(hp:PV H p ev wv nv)(hu:Hs H u hs)(hsl:hs.length<=100)(hnd:hs.Nodup)(hm:400<m)(hm2:m<=72057594037927936):
  ∃H' r,lvl prog cD m (.func 229) [plV p ev wv nv,edV h,u] H=some (r,H')/\Ext H H'/\Iw H' r (nV p n hs h)/\New H r:=by
 obtain⟨H0,hH0⟩: ∃H0,H0=H++[plB p ev wv nv]:=⟨_,rfl⟩;have x0:Ext H H0:=by rw[hH0];exact Fr.app _ _ _
 have b0:H0[H.length]? =some (plB p ev wv nv):=by rw[hH0];exact hP _ _
 obtain⟨H1,hH1⟩: ∃H1,H1=H0++[hpB h]:=⟨_,rfl⟩;have x1:Ext H0 H1:=by rw[hH1];exact Fr.app _ _ _
 have b1:H1[H0.length]? =some (hpB h):=by rw[hH1];exact hP _ _
 have l0:=eG (fN b0 x1) 0 _ rfl;rw[hk.hn] at l0;have x01:=x0.tr x1;have h6:=hk.h6;refine iP (iC rfl rfl) (by omega) ?_
 rw[aGT];simp -implicitDefEqProofs only[gsR,lG,<-hH0,Wc,<-hH1,l0];rw[<-aHf hnd];exact Exists.imp (λH' h=>Exists.imp (λr h=>⟨h.1,x01.tr h.2.1,h.2.2.1,λb hb=>aOm x01.1 (h.2.2.2 b hb)⟩) h) (aHh hk hh (hp.ext x01) (fN b0 x1) b1 (hu.ext x01) hsl (m:=m-1) (by omega) (by omega) n 0 (m-1) H1 (.slice none 0 0) (by omega) (by omega) (by omega) (Fr.nF _ _) Rw.lE (New.nG _) ..)
structure WR (H:aC)(us:List SV)(xss:List (List Int)):Prop where
 len:us.length=xss.length
 row: ∀(j:Nat)(s:SV)(xs:List Int),us[j]? =some s->xss[j]? =some xs->Iw H s.1 xs
theorem WR.Bh {us:List SV}{xss:List (List Int)}{H':aC}(h:WR H us xss)(hk: ∀(b:Nat)(cs:List Value),H[b]? =some (.cells cs 3 .row)->H'[b]? =H[b]?):WR H' us xss:=
 ⟨h.len,λj s xs h1 h2=>(h.row j s xs h1 h2).gF λb hb=>by
  obtain⟨cs,hc⟩:=(h.row j s xs h1 h2).blk hb;exact hk b cs hc⟩
theorem WR.V8 {us:List SV}{xss:List (List Int)}{s:SV}{xs:List Int}(h:WR H us xss)(hs:Iw H s.1 xs):WR H (us++[s]) (xss++[xs]):=by
 refine⟨by simp[h.len],λj s' xs' h1 h2=> ?_⟩
 by_cases hj:j<us.length
 ·rw[aN9 hj] at h1
  rw[aN9 (by have:=h.len;omega)] at h2
  exact h.row j s' xs' h1 h2
 ·have hj2:j=us.length:=by
   have:=(aN6.mp h1).1;simp at this;omega
  subst hj2;simp at h1;rw[h.len] at h2;simp at h2;subst h1 h2;exact hs
theorem WR.Lw {us:List SV}{xss:List (List Int)}{v:Value}(h:WR H us xss)(hv:Rs sC 37 H v us):Rows H v xss:=by
 refine⟨us.map (·.1),?_,by simp[h.len],λj u xs h1 h2=> ?_⟩
 ·rcases hv with⟨h1,h2⟩|⟨b,o,cap,h1,h2,h3⟩
  ·exact .inl ⟨h1,by rw[h2];rfl⟩
  ·refine .inr ⟨b,o,cap,by rw[aOk];exact h1,by rw[aOk];exact h2,λhne=> ?_⟩
   rw[<-Kw];exact h3 λhh=>hne (by rw[hh];rfl)
 ·rw[aOj] at h1
  obtain⟨s,hs,rfl⟩:=aOD.mp h1
  exact(h.row j s xs hs h2).rs
def qC {u:Value}{xs:List Int}(h:Iw H u xs):SV:=⟨u,Rs.sv h.rs⟩
def Ly:SV:=⟨.slice none 0 0,rfl,rfl⟩
theorem aHd {n:Nat}(hk:OkP p n){H0:aC}{a ob:Nat}{u:Value}{hs:List Ed}(hin: ∀h∈hs,0<=h.1/\h.1<n/\0<=h.2/\h.2<n)(hsl:hs.length<=100)(hnd:hs.Nodup)(hm:500<m)(hm2:m<=72057594037927936)(hp:PV H0 p ev wv nv)(hb0:H0[a]? =some (plB p ev wv nv))(hu:Hs H0 u hs)(hob:H0.length=ob):
  ∀(q i k:Nat)(H1:aC)(us:List SV),hs.length-i=q->i<=hs.length->q<k->Ext H0 H1->OwS sC 37 H1 (.slice (some ⟨ob,0,none⟩) hs.length hs.length) ob us->us.length=hs.length->WR H1 (us.take i) ((hs.take i).map (nV p n hs))-> ∀(x0 x2 x5 x6 x7 x8 x9 bK bM aR aN aM aQ bC bJ bL bI bE aS aT aU aV aW aX aY:Value),
  ∃H' r,aI k (aK prog (lvl prog cD m) (aI m) Lc) (Ld (lvl prog cD m) (aI m)) [x0,(.pointer (some ⟨a,0,none⟩)),x2,u,(.slice (some ⟨ob,0,none⟩) hs.length hs.length),x5,x6,x7,x8,x9,bK,bM,aR,aN,aM,u,(.int .i64 hs.length),(.int .i64 (i:Nat)),aQ,bC,bJ,bL,bI,bE,aS,aT,aU,aV,aW,aX,aY] H1=some (r,H')/\Ext H0 H'/\Rows H' r (hs.map (nV p n hs)):=by
 intro q;induction q with
 |zero=>
  intro i k H1 us hr hi hk2 he ho hul hwr;intros;obtain⟨k,rfl⟩:=aB k (by omega)
  obtain rfl:i=hs.length:=by omega
  have e:decide ((hs.length:Int)<(hs.length:Int))=false:=by simp
  rw[eD,Vt];simp -implicitDefEqProofs only[gsR,e];rw[aGN];rw[List.take_of_length_le (aOb _),List.take_of_length_le (by omega)] at hwr
  refine⟨H1,.slice (some ⟨ob,0,none⟩) hs.length hs.length,rfl,he,hwr.Lw (.inr ⟨ob,0,hs.length,by rw[hul],by omega,λ_=>⟨37,.row,[],[],rfl,λ_=>rfl,?_⟩⟩)⟩
  rw[ho.blk];simp
 |succ q ih=>
  intro i k H1 us hr hi hk2 he ho hul hwr;intros;obtain⟨k,rfl⟩:=aB k (by omega)
  have e:decide ((i:Int)<(hs.length:Int))=true:=aOQ (by omega)
  have e3:=aA (i:=i) (by omega)
  obtain⟨h,hh⟩: ∃h,hs[i]? =some h:=⟨_,aN8 (by omega)⟩
  obtain⟨b,o,g1,_,g3⟩:=(hu.ext he).iS sU hh .i64;have g4:ldN 2 (.pointer (some ⟨b,o,none⟩)) H1=some (edV h,H1):=(g3 H1 rfl).1;obtain⟨H2,hH2⟩: ∃H2,H2=H1++[hpB h]:=⟨_,rfl⟩;have x2:Ext H1 H2:=by rw[hH2];exact Fr.app _ _ _
  have b2:H2[H1.length]? =some (hpB h):=by rw[hH2];exact hP _ _
  have st:stN 2 (.pointer (some ⟨H1.length,0,none⟩)) (edV h) (H1++[.cells [.int .i64 0,.int .i64 0] 117 .fix])=some (undef,H2):=by
   rw[mX 2 _ _ _ rfl,hP,oA _ _ _ _ _ _ (by decide) (by show 0+2<=2;omega) rfl,hH2]
   simp[eH,edV,edC,Value.cells,hpB]
  have l11:=kP (fN hb0 (he.tr x2));have l2:=We b2;obtain⟨H3,r,g5,x3,g6,g7⟩:=aHg hk (hin h (aOg hh)) (hp.ext (he.tr x2)) (hu.ext (he.tr x2)) hsl hnd (m:=m) (by omega) (by omega)
  have aN:Ext H1 H3:=x2.tr x3;have ho3:OwS sC 37 H3 (.slice (some ⟨ob,0,none⟩) hs.length hs.length) ob us:=⟨ho.val,by rw[aN.2 ob (aN6.mp ho.blk).1 id];exact ho.blk⟩
  have ga:=ho3.aC1 1 i .i64 (by omega)
  obtain⟨s1,s2⟩:=ho3.st (sz:=1) Kv Ku (i:=i) (by omega) (qC g6)
  have st2:stN 1 (.pointer (some ⟨ob,i*1,none⟩)) r H3=some (undef,H3.set ob (.cells ((us.set i (qC g6)).map sC).flatten 37 .row)):=by
   have hcl:r.cells.toList=sC (qC g6):=by
    have:=(qC g6).2.2;show r.cells.toList=[r]
    rw[show r.cells= #[r] from this]
   rw[mX 1 _ _ _ (by rw[hcl];rfl),hcl]
   exact s1
  rw[eD,Vt];simp -implicitDefEqProofs only[gsR,e,g1,g4,st,l11,l2,g5,ga,st2,cI,e3];obtain⟨H4,hH4⟩: ∃H4,H4=H3.set ob (.cells ((us.set i (qC g6)).map sC).flatten 37 .row):=⟨_,rfl⟩;rw[<-hH4] at s2⊢;have x04:Ext H0 H4:=by rw[hH4];exact tP (he.tr aN) (by omega)
  have kp: ∀(b:Nat)(cs:List Value),H3[b]? =some (.cells cs 3 .row)->H4[b]? =H3[b]? :=λb cs hb=>by
   rw[hH4];refine aN7 λhh=> ?_
   subst hh;rw[ho3.blk] at hb;simp at hb
  have w3:WR H3 (us.take i) ((hs.take i).map (nV p n hs)):=hwr.Bh λb cs hb=>by rw[aN.2 b (aN6.mp hb).1 id]
  have w4:=(w3.V8 (s:=qC g6) g6).Bh kp;refine ih (i+1) k H4 (us.set i (qC g6)) (by omega) (by omega) (by omega) x04 s2 (by simp[hul]) ?_ ..
  have e1:(us.set i (qC g6)).take (i+1)=us.take i++[qC g6]:=by
   rw[List.take_add_one,aOc (by omega),List.take_set_of_le (aOb _)]
   rfl
  have e2:(hs.take (i+1)).map (nV p n hs)=(hs.take i).map (nV p n hs)++[nV p n hs h]:=by
   rw[List.take_add_one,hh,List.map_append];rfl
  rw[e1,e2];exact w4
theorem aHc (hp:PV H p ev wv nv)(hm:17592186045200<m)(hm2:m<=72057594037927936):
  ∃H' r,lvl prog cD m (.func 164) [plV p ev wv nv] H=some (r,H')/\Ext H H'/\Rows H' r (lX p):=by
 obtain⟨H0,hH0⟩: ∃H0,H0=H++[plB p ev wv nv]:=⟨_,rfl⟩;have x0:Ext H H0:=by rw[hH0];exact Fr.app _ _ _
 have b0:H0[H.length]? =some (plB p ev wv nv):=by rw[hH0];exact hP _ _
 have p0:=hp.ext x0;have l11:=kP b0;obtain⟨H1,g1,x1⟩:=U1 p0 (m:=m-1) (by omega) (by omega)
 have b1:=fN b0 x1;have p1:=p0.ext x1;have l12:=kP b1;refine iP (iC rfl rfl) (by omega) ?_
 rw[aGO];cases hc:lP p with
 |false=>
  rw[hc] at g1;have en:(uV false !=0)=true:=rfl;have e:lX p=[]:=by unfold lX;rw[if_neg (by simp[hc])]
  simp -implicitDefEqProofs only[gsR,lG,<-hH0,l11,g1,en]
  exact⟨H1,_,rfl,x0.tr x1,by rw[e];exact⟨[],.inl ⟨rfl,rfl⟩,rfl,λi u xs h=>by simp at h⟩⟩
 |true=>
  rw[hc] at g1;have en:(uV true !=0)=false:=rfl;obtain⟨n,hk⟩:=Ez hc;have h15:=hk.e15;obtain⟨H2,u,g2,x2,q2,_⟩:=aF9 p1 (m:=m-1) (by omega) (by omega)
  have hlen:=q2.yG;have hhl:=Kr p;have mk:=wC (H:=H2) 37 1 24 [.slice none 0 0] .i64 .i64 ((lH p).length:Int) (by omega) (by omega) (by omega) rfl
  simp only[aOz] at mk;have e:lX p=(lH p).map (nV p n (lH p)):=by unfold lX;rw[if_pos hc,hk.hn];rfl
  have hfl:(List.replicate (lH p).length [Value.slice none 0 0]).flatten=((List.replicate (lH p).length Ly).map sC).flatten:=by rw[List.map_replicate];rfl
  simp -implicitDefEqProofs only[gsR,lG,<-hH0,l11,g1,en,l12,g2,hlen,mk];rw[e,hfl];have hx:Ext H2 (H2++[Blk.cells ((List.replicate (lH p).length Ly).map sC).flatten 37 .row]):=Fr.app _ _ _;exact Exists.imp (λH' h=>Exists.imp (λr h=>⟨h.1,((x0.tr x1).tr x2).tr h.2.1,h.2.2⟩) h) (aHd hk (λh hh=>aHi hk hh) (by omega) (Wb hk).1 (m:=m-1) (by omega) (by omega) (p1.ext x2) (fN b1 x2) q2.rs rfl (lH p).length 0 (m-1) _ (List.replicate (lH p).length Ly) (by omega) (by omega) (by omega) hx ⟨by simp,hP _ _⟩ (by simp) ⟨by simp,λj s xs h=>by simp at h⟩ ..)
end
end Go.Proofs.YtmimdleeihjdoaaGreatDoor
namespace Go.Abs
def Eg (g:List (List Int))(i k:Nat):Prop:= ∃r,g[i]? =some r/\(k:Int)∈r
inductive Rch (g:List (List Int)):Nat->Nat->Prop
 |one {i k:Nat}:Eg g i k->Rch g i k
 |step {i j k:Nat}:Rch g i j->Eg g j k->Rch g i k
def Cyc (g:List (List Int)):Prop:= ∃i,Rch g i i
def Inn (g:List (List Int)):Prop:= ∀r∈g,∀z∈r,0<=z/\z<(g.length:Int)
def Dn (g:List (List Int))(C:List Int):Prop:= ∀u:Nat,C[u]? =some 2->(∀k:Nat,Eg g u k->C[k]? =some 2)/\ ¬Rch g u u
theorem Dn.aHq {g:List (List Int)}{D:List Int}(h:Dn g D){i:Nat}{r:List Int}(hi:D[i]? =some 1)(hr:g[i]? =some r)(hall: ∀k:Nat,(k:Int)∈r->D[k]? =some 2):Dn g (D.set i 2):=by
 have hl:=(aN6.mp hi).1;have up: ∀k:Nat,D[k]? =some 2->(D.set i 2)[k]? =some 2:=λk hk=>by
  rw[List.getElem?_set];split
  ·rename_i h
   subst h;simp[hl]
  ·exact hk
 intro u hu;by_cases hui:u=i
 ·subst hui
  refine⟨λk ⟨r',h1,h2⟩=> ?_,λhc=> ?_⟩
  ·rw[hr] at h1
   cases h1;exact up k (hall k h2)
  ·have key: ∀k:Nat,Rch g u k->D[k]? =some 2:=by
    intro k hk;induction hk with
    |one e=>
     obtain⟨r',h1,h2⟩:=e;rw[hr] at h1;cases h1;exact hall _ h2
    |step _ e ih=>exact(h _ ih).1 _ e
   have:=key u hc;rw[hi] at this;cases this
 ·rw[aN7 (Ne.symm hui)] at hu
  exact⟨λk hk=>up k ((h u hu).1 k hk),(h u hu).2⟩
def Bj (s r:List Int):List Int:=r.foldl (λs k=>s.set k.toNat 1) s
def nI (g:List (List Int))(a:Nat)(s:List Int)(i:Nat):List Int:=if i≠a/\s.getD i 0=0 then s else Bj s (g.getD i [])
def sW (g:List (List Int))(a:Nat)(s:List Int):List Int:=(List.range g.length).foldl (nI g a) s
def kJ (g:List (List Int))(a:Nat):Nat->List Int
 |0=>List.replicate g.length 0
 |n+1=>sW g a (kJ g a n)
def sV (g:List (List Int)):Bool:=(List.range g.length).any λi=>(kJ g i g.length).getD i 0==1
def Le (s s':List Int):Prop:=s.length=s'.length/\ ∀k:Nat,s[k]? =some 1->s'[k]? =some 1
def Bin (s:List Int):Prop:= ∀x∈s,x=0∨x=1
theorem Le.Lz (s:List Int):Le s s:=⟨rfl,λ_ h=>h⟩
theorem Le.Wg {a b c:List Int}(h:Le a b)(h':Le b c):Le a c:=⟨h.1.trans h'.1,λk hk=>h'.2 k (h.2 k hk)⟩
theorem aHv (s:List Int)(k:Nat):Le s (s.set k 1):=⟨by simp,λj hj=>by
 rw[List.getElem?_set];split
 ·rename_i h
  subst h;simp[(aN6.mp hj).1]
 ·exact hj⟩
theorem Bin.aHp {s:List Int}(h:Bin s)(k:Nat):Bin (s.set k 1):=λx hx=>by
 rcases List.mem_or_eq_of_mem_set hx with h1|h1
 ·exact h x h1
 ·exact .inr h1
theorem L0: ∀(r s:List Int),Le s (Bj s r)
 |[],s=>Le.Lz s
 |k::r,s=>(aHv s k.toNat).Wg (L0 r (s.set k.toNat 1))
theorem Wk: ∀(r s:List Int),Bin s->Bin (Bj s r)
 |[],s,h=>h
 |k::r,s,h=>Wk r _ (h.aHp _)
theorem Wl: ∀(r s:List Int)(k:Nat),(k:Int)∈r->k<s.length->(Bj s r)[k]? =some 1
 |[],s,k,h,_=>by cases h
 |z::r,s,k,h,hk=>by
  rcases aOq.mp h with h|h
  ·subst h
   refine(L0 r (s.set (k:Int).toNat 1)).2 k ?_;simp[hk]
  ·exact Wl r _ k h (by simpa using hk)
theorem L1: ∀(r s:List Int)(k:Nat),(∀z∈r,0<=z)->(Bj s r)[k]? =some 1->s[k]? =some 1∨(k:Int)∈r
 |[],s,k,_,h=> .inl h
 |z::r,s,k,hz,h=>by
  rcases L1 r _ k (λy hy=>hz y (by simp[hy])) h with h1|h1
  ·rw[List.getElem?_set] at h1
   split at h1
   ·rename_i hh
    have:=hz z (by simp)
    exact .inr (by rw[aOq];left;omega)
   ·exact .inl h1
  ·exact .inr (by simp[h1])
theorem E4 (g:List (List Int))(a:Nat)(s:List Int)(i:Nat):Le s (nI g a s i):=by
 unfold nI;split
 ·exact Le.Lz s
 ·exact L0 _ _
theorem L3 (g:List (List Int))(a:Nat): ∀(l:List Nat)(s:List Int),Le s (l.foldl (nI g a) s)
 |[],s=>Le.Lz s
 |i::l,s=>(E4 g a s i).Wg (L3 g a l _)
theorem Bl (g:List (List Int))(a:Nat): ∀(l:List Nat)(s:List Int),Bin s->Bin (l.foldl (nI g a) s)
 |[],s,h=>h
 |i::l,s,h=>Bl g a l _ (by
  unfold nI;split
  ·exact h
  ·exact Wk _ _ h)
theorem L2 (g:List (List Int))(a:Nat)(s:List Int):Le s (sW g a s):=L3 g a _ s
theorem Wp (g:List (List Int))(a:Nat)(s:List Int)(h:Bin s):Bin (sW g a s):=Bl g a _ s h
def Bi (g:List (List Int))(a:Nat)(s:List Int):Prop:= ∀k:Nat,s[k]? =some 1->Rch g a k
theorem Wh {s:List Int}(h:Bin s){i:Nat}(hi: ¬s.getD i 0=0):s[i]? =some 1:=by
 rw[aOa] at hi;cases hs:s[i]? with
 |none=>rw[hs] at hi;simp at hi
 |some x=>
  rw[hs] at hi;simp at hi;rcases h x (aOg hs) with h|h
  ·exact absurd h hi
  ·rw[h]
theorem aHw {g:List (List Int)}{a:Nat}{s:List Int}{i:Nat}(hg:Inn g)(hb:Bin s)(h:Bi g a s):Bi g a (nI g a s i):=by
 unfold nI;split
 ·exact h
 ·rename_i hc
  intro k hk;have hz: ∀z∈g.getD i [],0<=z:=λz hz=>by
   rw[aOa] at hz;cases hg':g[i]? with
   |none=>rw[hg'] at hz;simp at hz
   |some r=>rw[hg'] at hz;exact(hg r (aOg hg') z hz).1
  rcases L1 _ _ k hz hk with h1|h1
  ·exact h k h1
  ·rw[aOa] at h1
   cases hg':g[i]? with
   |none=>rw[hg'] at h1;simp at h1
   |some r=>
    rw[hg'] at h1;have e:Eg g i k:=⟨r,hg',h1⟩;by_cases hia:i=a
    ·rw[<-hia];exact .one e
    ·have: ¬s.getD i 0=0:=λhh=>hc ⟨hia,hh⟩
     exact .step (h i (Wh hb this)) e
theorem Wq {g:List (List Int)}{a:Nat}(hg:Inn g): ∀(l:List Nat)(s:List Int),Bin s->Bi g a s->Bi g a (l.foldl (nI g a) s)
 |[],s,_,h=>h
 |i::l,s,hb,h=>Wq hg l _ (Bl g a [i] s hb) (aHw hg hb h)
def pN (s:List Int):Nat:=s.countP (· ==1)
theorem Bk: ∀(s s':List Int),Le s s'->pN s<=pN s'
 |[],[],_=>aOb _
 |[],_::_,h=>absurd h.1 (by simp)
 |_::_,[],h=>absurd h.1 (by simp)
 |x::s,y::s',h=>by
  have ih:=Bk s s' ⟨by simpa using h.1,λk hk=>by have:=h.2 (k+1) (by simpa using hk);simpa using this⟩
  have h0:=h.2 0;simp only[List.getElem?_cons_zero,aOy] at h0;unfold pN at*;simp only[List.countP_cons];by_cases hx:x=1
  ·rw[hx,h0 hx];simp;exact ih
  ·have:(x==1)=false:=by simp[hx]
   rw[this];simp only[Bool.false_eq_true,if_false];omega
theorem E2: ∀(s s':List Int),Le s s'->Bin s->Bin s'->pN s'<=pN s->s=s'
 |[],[],_,_,_,_=>rfl
 |[],_::_,h,_,_,_=>absurd h.1 (by simp)
 |_::_,[],h,_,_,_=>absurd h.1 (by simp)
 |x::s,y::s',h,hb,hb',hc=>by
  have hle:Le s s':=⟨by simpa using h.1,λk hk=>by have:=h.2 (k+1) (by simpa using hk);simpa using this⟩
  have h1:=Bk s s' hle;have h0:=h.2 0;simp only[List.getElem?_cons_zero,aOy] at h0;have bx:=hb x (by simp)
  have by':=hb' y (by simp)
  unfold pN at*;simp only[List.countP_cons] at hc;have e:x=y:=by
   rcases bx with bx|bx
   ·rcases by' with by'|by'
    ·rw[bx,by']
    ·rw[bx,by'] at hc
     simp at hc;omega
   ·rw[bx,h0 bx]
  subst e;rw[E2 s s' hle (λz hz=>hb z (by simp[hz])) (λz hz=>hb' z (by simp[hz])) (by unfold pN;omega)]
theorem aHu (s:List Int):pN s<=s.length:=List.countP_le_length
theorem aHt (s:List Int)(h:pN s=s.length): ∀k:Nat,k<s.length->s[k]? =some 1:=by
 intro k hk;have:=(List.countP_eq_length.mp h) s[k] (List.getElem_mem hk);rw[aN8 hk];simpa using this
def Clo (g:List (List Int))(a:Nat)(s:List Int):Prop:= ∀i k:Nat,(i=a∨s[i]? =some 1)->Eg g i k->s[k]? =some 1
theorem Wj {g:List (List Int)}{a:Nat}: ∀(l:List Nat)(s:List Int),Bin s->l.foldl (nI g a) s=s-> ∀i∈l,nI g a s i=s
 |[],s,_,_,i,h=>by cases h
 |j::l,s,hb,h,i,hi=>by
  have h1:Le s (nI g a s j):=E4 g a s j;have h2:Le (nI g a s j) s:=by
   have:=L3 g a l (nI g a s j);rw[List.foldl_cons] at h;rw[h] at this;exact this
  have e:nI g a s j=s:=(E2 _ _ h1 hb (Bl g a [j] s hb) (Bk _ _ h2)).symm;rcases aOq.mp hi with rfl|hi
  ·exact e
  ·rw[List.foldl_cons,e] at h
   exact Wj l s hb h i hi
theorem aHr {g:List (List Int)}{a:Nat}{s:List Int}(hg:Inn g)(hl:s.length=g.length)(hb:Bin s)(h:sW g a s=s):Clo g a s:=by
 rintro i k hi ⟨r,hr,hk⟩
 have hil:=(aN6.mp hr).1;have:=Wj _ s hb h i (aOL.mpr hil);unfold nI at this;have hc: ¬(i≠a/\s.getD i 0=0):=by
  rintro ⟨h1,h2⟩
  rcases hi with hi|hi
  ·exact h1 hi
  ·rw[aOa,hi] at h2
   simp at h2
 rw[if_neg hc] at this;have hkl:=(hg r (aOg hr) k hk).2;have h1:=Wl (g.getD i []) s k (by rw[aOa,hr];exact hk) (by omega)
 rw[this] at h1;exact h1
theorem aHs {g:List (List Int)}{a:Nat}{s:List Int}(hg:Inn g)(hl:s.length=g.length)(h:pN s=s.length):Clo g a s:=by
 rintro i k _ ⟨r,hr,hk⟩
 have hkl:=(hg r (aOg hr) k hk).2;exact aHt s h k (by omega)
theorem E3 (g:List (List Int))(a:Nat): ∀n,(kJ g a n).length=g.length
 |0=>by simp[kJ]
 |n+1=>by
  have:=(L2 g a (kJ g a n)).1;rw[E3 g a n] at this;exact this.symm
theorem uZ (g:List (List Int))(a:Nat): ∀n,Bin (kJ g a n)
 |0=>λx hx=> .inl (by simp[kJ] at hx;exact hx.2)
 |n+1=>Wp g a _ (uZ g a n)
theorem Wo {g:List (List Int)}(a:Nat)(hg:Inn g): ∀n,Bi g a (kJ g a n)
 |0=>λk hk=>by
  simp only[kJ,aON] at hk
  split at hk<;>simp at hk
 |n+1=>Wq hg _ _ (uZ g a n) (Wo a hg n)
theorem Wm {g:List (List Int)}(a:Nat)(hg:Inn g): ∀n,Clo g a (kJ g a n)∨n<=pN (kJ g a n)
 |0=> .inr (Nat.zero_le _)
 |n+1=>by
  rcases Wm a hg n with h|h
  ·left
   have e: ∀l:List Nat,l.foldl (nI g a) (kJ g a n)=kJ g a n:=by
    intro l;induction l with
    |nil=>rfl
    |cons i l ih=>
     rw[List.foldl_cons];have:nI g a (kJ g a n) i=kJ g a n:=by
      refine(E2 _ _ (E4 g a _ i) (uZ g a n) (Bl g a [i] _ (uZ g a n)) ?_).symm;refine Bk _ _ ⟨(E4 g a _ i).1.symm,λk hk=> ?_⟩
      unfold nI at hk
      split at hk
      ·exact hk
      ·rename_i hc
       have hz: ∀z∈g.getD i [],0<=z:=λz hz=>by
        rw[aOa] at hz;cases hg':g[i]? with
        |none=>rw[hg'] at hz;simp at hz
        |some r=>rw[hg'] at hz;exact(hg r (aOg hg') z hz).1
       rcases L1 _ _ k hz hk with h1|h1
       ·exact h1
       ·rw[aOa] at h1
        cases hg':g[i]? with
        |none=>rw[hg'] at h1;simp at h1
        |some r=>
         rw[hg'] at h1;refine h i k ?_ ⟨r,hg',h1⟩;by_cases hia:i=a
         ·exact .inl hia
         ·exact .inr (Wh (uZ g a n) λhh=>hc ⟨hia,hh⟩)
     rw[this];exact ih
   show Clo g a (sW g a (kJ g a n))
   unfold sW;rw[e];exact h
  ·by_cases hx:sW g a (kJ g a n)=kJ g a n
   ·left
    show Clo g a (sW g a (kJ g a n))
    rw[hx];exact aHr hg (E3 g a n) (uZ g a n) hx
   ·right
    show n+1<=pN (sW g a (kJ g a n))
    have h1:=Bk _ _ (L2 g a (kJ g a n));by_cases h2:pN (sW g a (kJ g a n))<=pN (kJ g a n)
    ·exact absurd (E2 _ _ (L2 g a _) (uZ g a n) (Wp g a _ (uZ g a n)) h2).symm hx
    ·omega
theorem Wn {g:List (List Int)}(hg:Inn g)(a k:Nat):(kJ g a g.length)[k]? =some 1↔Rch g a k:=by
 constructor
 ·exact Wo a hg g.length k
 ·have hc:Clo g a (kJ g a g.length):=by
   rcases Wm a hg g.length with h|h
   ·exact h
   ·refine aHs hg (E3 g a _) ?_
    have:=aHu (kJ g a g.length);rw[E3] at*;omega
  intro hr;induction hr with
  |one e=>exact hc _ _ (.inl rfl) e
  |step _ e ih=>exact hc _ _ (.inr ih) e
theorem Wi {g:List (List Int)}(hg:Inn g):sV g=true↔Cyc g:=by
 unfold sV;rw[List.any_eq_true];constructor
 ·rintro ⟨i,hi,h⟩
  refine⟨i,(Wn hg i i).mp ?_⟩;rw[aOa] at h;cases hh:(kJ g i g.length)[i]? with
  |none=>rw[hh] at h;simp at h
  |some x=>rw[hh] at h;simp at h;rw[h]
 ·rintro ⟨i,h⟩
  have hil:i<g.length:=by
   cases h with
   |one e=>obtain⟨r,h1,_⟩:=e;exact(aN6.mp h1).1
   |step h1 e=>
    obtain⟨r,h2,h3⟩:=e;have:=(hg r (aOg h2) i h3).2;omega
  refine⟨i,aOL.mpr hil,?_⟩;rw[aOa,(Wn hg i i).mpr h];rfl
end Go.Abs
namespace Go.Proofs.YtmimdleeihjdoaaGreatDoor
open Go.Proofs.Tryz
open Go.Abs
section
variable {H : aC} {m : Nat} {p : PlanD} {ev wv nv : Value}
theorem aHx (p:PlanD):Inn (lX p):=by
 unfold lX;split
 ·intro r hr z hz
  obtain⟨h,hh,rfl⟩:=aOK.mp hr;rw[aOk];obtain⟨k,b,rfl,h1,_⟩:=Wf.mp hz;have:=(aN6.mp h1).1;omega
 ·intro r hr;cases hr
theorem aHy (p:PlanD):(lX p).length<=36:=by
 unfold lX;split
 ·rw[aOk];exact Kr p
 ·simp
theorem aHz (p:PlanD): ∀r∈lX p,r.length<=36:=by
 unfold lX;split
 ·intro r hr
  obtain⟨h,hh,rfl⟩:=aOK.mp hr;unfold nV;rw[aOk];have:=Kr p;exact aOm (List.length_filter_le _ _) (by rw[aOB];exact this)
 ·intro r hr;cases hr
end
section
variable {H : aC} {m : Nat} {p : PlanD} {ev wv nv : Value}
def atV (ab n:Nat):Value:= .slice (some ⟨ab,0,none⟩) n n
def mkB (ab n:Nat)(wv:Value):Blk:= .cells [atV ab n,wv] 262 .fix
theorem Bm {mb ab n:Nat}(h:H[mb]? =some (mkB ab n wv)):ld1 (.pointer (some ⟨mb,0,none⟩)) H=some (atV ab n,H):=Aq h rfl
theorem aHG {mb ab n:Nat}(h:H[mb]? =some (mkB ab n wv)):ld1 (.pointer (some ⟨mb,1,none⟩)) H=some (wv,H):=Aq h rfl
theorem E5 {ab n k:Nat}(h:k<n):bH 1 (atV ab n) (.int .i64 (k:Nat))=some (.pointer (some ⟨ab,k,none⟩)):=by
 have:=ia (c:=ab) (o:=0) (cap:=n) h;rw[aOs] at this;exact this
def Col (C:List Int):Prop:= ∀x∈C,x=0∨x=1∨x=2
theorem Col.aHE {C:List Int}(h:Col C)(i:Nat){y:Int}(hy:y=0∨y=1∨y=2):Col (C.set i y):=λx hx=>by
 rcases List.mem_or_eq_of_mem_set hx with h1|h1
 ·exact h x h1
 ·rw[h1];exact hy
structure Srch (g:List (List Int))(Hw:aC)(mb ab:Nat)(wv:Value)(H:aC)(C:List Int):Prop where
 ext:Ext Hw H
 mrk:H[mb]? =some (mkB ab g.length wv)
 row:H[ab]? =some (oU C [])
 len:C.length=g.length
 col:Col C
theorem Srch.st {g:List (List Int)}{Hw:aC}{mb ab:Nat}{C:List Int}(h:Srch g Hw mb ab wv H C)(hne:mb≠ab)(hab:Hw.length<=ab){i:Nat}(hi:i<g.length)(y:Int)(hy:y=0∨y=1∨y=2):
  ∃H',stN 1 (.pointer (some ⟨ab,i,none⟩)) (.int .i64 y) H=some (undef,H')/\Srch g Hw mb ab wv H' (C.set i y):=
 ⟨_,U8 y h.row (by have:=h.len;omega),tP h.ext hab,by rw[aN7 (Ne.symm hne)];exact h.mrk,aOc (aN6.mp h.row).1,by simp[h.len],h.col.aHE i hy⟩
structure Dne (g:List (List Int))(C C':List Int)(i:Nat):Prop where
 i2:C'[i]? =some 2
 dn:Dn g C'
 gr: ∀u:Nat,C'[u]? =some 1↔C[u]? =some 1
 bl: ∀u:Nat,C[u]? =some 2->C'[u]? =some 2
def L4 (g:List (List Int))(Hw:aC)(mb ab:Nat)(wv:Value)(m q:Nat):Prop:=
 ∀(H:aC)(C:List Int)(i:Nat),Srch g Hw mb ab wv H C->C[i]? =some 0->Dn g C->(∀u:Nat,C[u]? =some 1->Rch g u i)->(∃L:List Nat,L.length=q/\ ∀u:Nat,C[u]? =some 0->u∈L)->
  ∃H' b C',lvl prog cD m (.func 165) [.pointer (some ⟨mb,0,none⟩),.int .i64 (i:Nat)] H=some (.bool b,H')/\Srch g Hw mb ab wv H' C'/\(b=true->Cyc g)/\(b=false->Dne g C C' i)
theorem aHI {g:List (List Int)}{Hw:aC}{mb ab:Nat}{q':Nat}(hrd:L4 g Hw mb ab wv m q')(hinn:Inn g)(hne:mb≠ab)(hab:Hw.length<=ab){C:List Int}{i:Nat}{r:List Int}{rv:Value}(hr:g[i]? =some r)(hrl:r.length<=100)(hrv:Is Hw rv r)(hgr: ∀u:Nat,C[u]? =some 1->Rch g u i)(hci:C[i]? =some 0){L:List Nat}(hL:L.length=q'):
  ∀(q j k:Nat)(H:aC)(D:List Int),r.length-j=q->j<=r.length->q<k->Srch g Hw mb ab wv H D->D[i]? =some 1->Dn g D->(∀u:Nat,D[u]? =some 1↔(u=i∨C[u]? =some 1))->(∀u:Nat,C[u]? =some 2->D[u]? =some 2)->(∀z∈r.take j,D[z.toNat]? =some 2)->(∀u:Nat,D[u]? =some 0->u∈L)-> ∀(x2 x3 x4 x5 x6 x7 x8 x9 bK bM aR aN aM aP aZ bG aQ bI bE aS aT aU aV aW aX aY bA bB bN bO bP bQ bR bS bT bU bV bY cE cG cH cL cQ cU cV cM cN cO cR:Value),
  ∃H' b C',aI k (aK prog (lvl prog cD m) (aI m) Ep) (Bg (lvl prog cD m) (aI m)) [(.pointer (some ⟨mb,0,none⟩)),(.int .i64 (i:Nat)),x2,x3,x4,x5,x6,x7,x8,x9,bK,bM,aR,aN,aM,aP,aZ,bG,aQ,rv,(.int .i64 r.length),(.int .i64 (j:Nat)),bI,bE,aS,aT,aU,aV,aW,aX,aY,bA,bB,bN,bO,bP,bQ,bR,bS,bT,bU,bV,bY,cE,cG,cH,cL,cQ,cU,cV,cM,cN,cO,cR] H=some (.bool b,H')/\Srch g Hw mb ab wv H' C'/\(b=true->Cyc g)/\(b=false->Dne g C C' i):=by
 intro q;have hil:=(aN6.mp hr).1;induction q with
 |zero=>
  intro j k H D hq hj hk hs hi1 hdn hgray hbl htake hwh;intros;obtain⟨k,rfl⟩:=aB k (by omega)
  obtain rfl:r.length=j:=by omega
  have e:decide ((r.length:Int)<(r.length:Int))=false:=by simp
  rw[List.take_of_length_le (aOb _)] at htake;have l0:=Bm hs.mrk;have a0:=E5 (ab:=ab) hil;obtain⟨H',st,hs'⟩:=hs.st hne hab hil 2 (.inr (.inr rfl));have fin:=hdn.aHq hi1 hr (λk hk=>by have:=htake k hk;simpa using this)
  refine⟨H',false,D.set i 2,?_,hs',λh=>(by cases h),λ_=>⟨?_,fin,λu=> ?_,λu hu=> ?_⟩⟩
  ·rw[eD,Vu]
   simp -implicitDefEqProofs only[gsR,e];rw[aGP];simp -implicitDefEqProofs only[gsR,l0,a0,st]
  ·exact aOc (by have:=hs.len;omega)
  ·by_cases hui:u=i
   ·subst hui
    rw[aOc (by have:=hs.len;omega),hci]
    simp
   ·rw[aN7 (Ne.symm hui),hgray u]
    simp[hui]
  ·have:=hbl u hu
   by_cases hui:u=i
   ·subst hui
    rw[hi1] at this;cases this
   ·rw[aN7 (Ne.symm hui)]
    exact this
 |succ q ih=>
  intro j k H D hq hj hk hs hi1 hdn hgray hbl htake hwh;intros;obtain⟨k,rfl⟩:=aB k (by omega)
  have e:decide ((j:Int)<(r.length:Int))=true:=aOQ (by omega)
  have e3:=aA (i:=j) (by omega)
  obtain⟨z,hz⟩: ∃z,r[j]? =some z:=⟨_,aN8 (by omega)⟩
  have hzin:=hinn r (aOg hr) z (aOg hz);obtain⟨b,o,g1,_,g3⟩:=(hrv.ext hs.ext).iS iQ hz .i64;have g4:ld1 (.pointer (some ⟨b,o,none⟩)) H=some (.int .i64 z,H):=(g3 H rfl).2.1 0 _ rfl;obtain⟨t,rfl⟩: ∃t:Nat,z=t:=⟨z.toNat,by omega⟩
  have htl:t<g.length:=by omega
  have edge:Eg g i t:=⟨r,hr,aOg hz⟩;have l0:=Bm hs.mrk;have a0:=E5 (ab:=ab) htl;obtain⟨x,hx⟩: ∃x,D[t]? =some x:=⟨_,aN8 (by have:=hs.len;omega)⟩
  have lx:=yM hs.row hx;have grs: ∀u:Nat,D[u]? =some 1->Rch g u t:=λu hu=>by
   rcases(hgray u).mp hu with h|h
   ·rw[h];exact .one edge
   ·exact .step (hgr u h) edge
  have htk:r.take (j+1)=r.take j++[(t:Int)]:=by rw[List.take_add_one,hz];rfl
  have next: ∀(H2:aC)(D2:List Int),Srch g Hw mb ab wv H2 D2->D2[i]? =some 1->Dn g D2->(∀u:Nat,D2[u]? =some 1↔(u=i∨C[u]? =some 1))->(∀u:Nat,C[u]? =some 2->D2[u]? =some 2)->(∀z∈r.take j,D2[z.toNat]? =some 2)->D2[t]? =some 2->(∀u:Nat,D2[u]? =some 0->u∈L)-> ∀(x2 x3 x4 x5 x6 x7 x8 x9 bK bM aR aN aM aP aZ bG aQ bI bE aS aT aU aV aW aX aY bA bB bN bO bP bQ bR bS bT bU bV bY cE cG cH cL cQ cU cV cM cN cO cR:Value),
    ∃H' b C',aI k (aK prog (lvl prog cD m) (aI m) Ep) (Bg (lvl prog cD m) (aI m)) [(.pointer (some ⟨mb,0,none⟩)),(.int .i64 (i:Nat)),x2,x3,x4,x5,x6,x7,x8,x9,bK,bM,aR,aN,aM,aP,aZ,bG,aQ,rv,(.int .i64 r.length),(.int .i64 (j+1:Nat)),bI,bE,aS,aT,aU,aV,aW,aX,aY,bA,bB,bN,bO,bP,bQ,bR,bS,bT,bU,bV,bY,cE,cG,cH,cL,cQ,cU,cV,cM,cN,cO,cR] H2=some (.bool b,H')/\Srch g Hw mb ab wv H' C'/\(b=true->Cyc g)/\(b=false->Dne g C C' i):=by
   intro H2 D2 h1 h2 h3 h4 h5 h6 h7 h8;refine ih (j+1) k H2 D2 (by omega) (by omega) (by omega) h1 h2 h3 h4 h5 (λz hz=> ?_) h8
   rw[htk,List.mem_append] at hz;rcases hz with hz|hz
   ·exact h6 z hz
   ·have:z=(t:Int):=by simpa using hz
    rw[this];simpa using h7
  rw[eD,Vu];rcases hs.col x (aOg hx) with rfl|rfl|rfl
  ·have d1:((0:Int)==1)=false:=rfl
   have d2:((0:Int)==2)=false:=rfl;obtain⟨H2,bb,D2,c1,hs2,hcyc,hdne⟩:=hrd H D t hs hx hdn grs ⟨L,hL,hwh⟩;cases bb with
   |true=>
    refine⟨H2,true,D2,?_,hs2,λ_=>hcyc rfl,λh=>(by cases h)⟩
    simp -implicitDefEqProofs only[gsR,e,g1,g4,l0,a0,lx,d1,d2,c1];rw[Vv];rfl
   |false=>
    have hd:=hdne rfl;simp -implicitDefEqProofs only[gsR,e,g1,g4,l0,a0,lx,d1,d2,c1,cI,e3];refine next H2 D2 hs2 ((hd.gr i).mpr hi1) hd.dn (λu=>by rw[hd.gr u];exact hgray u) (λu hu=>hd.bl u (hbl u hu)) (λz hz=>hd.bl _ (htake z hz)) hd.i2 (λu hu=>hwh u ?_) ..
    have hul:u<g.length:=by have:=(aN6.mp hu).1;have:=hs2.len;omega
    obtain⟨y,hy⟩: ∃y,D[u]? =some y:=⟨_,aN8 (by have:=hs.len;omega)⟩
    rcases hs.col y (aOg hy) with rfl|rfl|rfl
    ·exact hy
    ·have:=(hd.gr u).mpr hy
     rw[hu] at this;cases this
    ·have:=hd.bl u hy
     rw[hu] at this;cases this
  ·have d1:((1:Int)==1)=true:=rfl
   refine⟨H,true,D,?_,hs,λ_=>⟨t,grs t hx⟩,λh=>(by cases h)⟩
   simp -implicitDefEqProofs only[gsR,e,g1,g4,l0,a0,lx,d1];rw[Vv];rfl
  ·have d1:((2:Int)==1)=false:=rfl
   have d2:((2:Int)==2)=true:=rfl;simp -implicitDefEqProofs only[gsR,e,g1,g4,l0,a0,lx,d1,d2,cI,e3];exact next H D hs hi1 hdn hgray hbl htake hx hwh ..
theorem aHH {g:List (List Int)}{Hw:aC}{mb ab:Nat}(hg:Rows Hw wv g)(hinn:Inn g)(hrl: ∀r∈g,r.length<=100)(hne:mb≠ab)(hab:Hw.length<=ab): ∀(q m:Nat),200+q<m->L4 g Hw mb ab wv m q:=by
 intro q;induction q with
 |zero=>
  intro m hm H C i hs hi hdn hgr ⟨L,hL,hw⟩;have:=hw i hi;rw[aOo.mp hL] at this;cases this
 |succ q ih=>
  intro m hm H C i hs hi hdn hgr ⟨L,hL,hw⟩;have hil:i<g.length:=by have:=(aN6.mp hi).1;have:=hs.len;omega
  have l0:=Bm hs.mrk;have a0:=E5 (ab:=ab) hil;obtain⟨H1,st,hs1⟩:=hs.st hne hab hil 1 (.inr (.inl rfl));have l1:=aHG hs1.mrk;obtain⟨r,hr⟩: ∃r,g[i]? =some r:=⟨_,aN8 hil⟩;obtain⟨a1,rv,g1,g2,g3⟩:=hg.D6 hr .i64;have g2':=aGE hs1.ext g2;have hlen:=g3.kC;have hr100:=hrl r (aOg hr);have hcl:C.length=g.length:=hs.len;have other: ∀u:Nat,u≠i->(C.set i 1)[u]? =C[u]? :=λu hu=>aN7 (Ne.symm hu)
  have self:(C.set i 1)[i]? =some 1:=aOc (by omega)
  obtain⟨m,rfl⟩:=aB m (by omega)
  rw[Ro (iC rfl rfl),aGQ];simp -implicitDefEqProofs only[gsR,l0,a0,st,l1,g1,g2',hlen];have hiL:=hw i hi;refine aHI (ih m (by omega)) hinn hne hab hr hr100 g3 hgr hi (L:=L.erase i) (by rw[List.length_erase_of_mem hiL];omega) r.length 0 m H1 (C.set i 1) (by omega) (by omega) (by omega) hs1 self ?_ (λu=> ?_) (λu hu=> ?_) (λz hz=>by simp at hz) (λu hu=> ?_) ..
  ·intro u hu
   have hui:u≠i:=λhh=>by rw[hh,self] at hu;cases hu
   rw[other u hui] at hu;refine⟨λk hk=> ?_,(hdn u hu).2⟩
   have:=(hdn u hu).1 k hk;have hki:k≠i:=λhh=>by rw[hh,hi] at this;cases this
   rw[other k hki];exact this
  ·by_cases hui:u=i
   ·rw[hui,self];simp
   ·rw[other u hui];simp[hui]
  ·have hui:u≠i:=λhh=>by rw[hh,hi] at hu;cases hu
   rw[other u hui];exact hu
  ·have hui:u≠i:=λhh=>by rw[hh,self] at hu;cases hu
   rw[other u hui] at hu
   exact(List.mem_erase_of_ne hui).mpr (hw u hu)
def sX (p:PlanD)(n:Nat):Bool:=(List.range n).all λv=>(List.range n).all λw=>(o9 p v w).isSome
def L5 (p:PlanD):Bool:=lP p&&(sX p p.nodes.toNat&& !sV (lX p))
def mP (p:PlanD):Int:=if lP p=true then(if L5 p=true then 0 else 140) else 120
theorem aHD {g:List (List Int)}{Hw:aC}{mb ab:Nat}(hrd:L4 g Hw mb ab wv m g.length)(hgl:g.length<=100)(hinn:Inn g):
  ∀(q i k:Nat)(H:aC)(C:List Int),g.length-i=q->i<=g.length->q<k->Srch g Hw mb ab wv H C->Dn g C->(∀u:Nat,C[u]? ≠some 1)->(∀u:Nat,u<i->C[u]? =some 2)-> ∀(x0 x1 x2 x3 x4 x5 x6 x7 x9 bK bM aR aN aM aP aZ bG aQ bC bJ bL bI bE aS aT aU aV aW aX aY bA bB bN bO bP bQ bR bS bT bU bV bY cE cG cH cL cQ cU cV cM cN cO cW cX cZ dD dH dE dI dP dQ dV dW dX dY dZ eA eC:Value),
  ∃H',aI k (aK prog (lvl prog cD m) (aI m) Lt) (Ey (lvl prog cD m) (aI m)) [x0,x1,x2,x3,x4,x5,x6,x7,(.pointer (some ⟨mb,0,none⟩)),x9,bK,bM,aR,aN,aM,aP,aZ,bG,aQ,bC,bJ,bL,bI,bE,aS,aT,aU,aV,aW,aX,aY,bA,bB,bN,bO,bP,bQ,bR,bS,bT,bU,bV,bY,cE,cG,cH,cL,cQ,cU,cV,cM,cN,cO,(.int .i64 g.length),(.int .i64 (i:Nat)),cW,cX,cZ,dD,dH,dE,dI,dP,dQ,dV,dW,dX,dY,dZ,eA,eC] H=some (.int .u16 (if sV g=true then 140 else 0),H')/\Ext Hw H':=by
 intro q;induction q with
 |zero=>
  intro i k H C hq hi hk hs hdn hgr hbl;intros;obtain⟨k,rfl⟩:=aB k (by omega)
  obtain rfl:g.length=i:=by omega
  have e:decide ((g.length:Int)<(g.length:Int))=false:=by simp
  have hno: ¬sV g=true:=by
   rw[Wi hinn];rintro ⟨i,hc⟩
   have hil:i<g.length:=by
    cases hc with
    |one e=>obtain⟨r,h1,_⟩:=e;exact(aN6.mp h1).1
    |step h1 e=>
     obtain⟨r,h2,h3⟩:=e;have:=(hinn r (aOg h2) i h3).2;omega
   exact(hdn i (hbl i hil)).2 hc
  rw[if_neg hno,eD,V6];simp -implicitDefEqProofs only[gsR,e];rw[aG2]
  exact⟨H,rfl,hs.ext⟩
 |succ q ih=>
  intro i k H C hq hi hk hs hdn hgr hbl;intros;obtain⟨k,rfl⟩:=aB k (by omega)
  have hil:i<g.length:=by omega
  have e:decide ((i:Int)<(g.length:Int))=true:=aOQ (by omega)
  have e3:=aA (i:=i) (by omega)
  have l0:=Bm hs.mrk;have a0:=E5 (ab:=ab) hil;obtain⟨x,hx⟩: ∃x,C[i]? =some x:=⟨_,aN8 (by have:=hs.len;omega)⟩
  have lx:=yM hs.row hx;rw[eD,V6];rcases hs.col x (aOg hx) with rfl|rfl|rfl
  ·have d1:((0:Int)==0)=true:=rfl
   obtain⟨H2,bb,D2,c1,hs2,hcyc,hdne⟩:=hrd H C i hs hx hdn (λu hu=>absurd hu (hgr u)) ⟨List.range g.length,by simp,λu hu=>aOL.mpr (by have:=(aN6.mp hu).1;have:=hs.len;omega)⟩
   cases bb with
   |true=>
    have hyes:sV g=true:=(Wi hinn).mpr (hcyc rfl);rw[if_pos hyes];simp -implicitDefEqProofs only[gsR,e,l0,a0,lx,d1,c1];rw[aG6]
    exact⟨H2,rfl,hs2.ext⟩
   |false=>
    have hd:=hdne rfl;simp -implicitDefEqProofs only[gsR,e,l0,a0,lx,d1,c1,cI,e3];refine ih (i+1) k H2 D2 (by omega) (by omega) (by omega) hs2 hd.dn (λu hu=>hgr u ((hd.gr u).mp hu)) (λu hu=> ?_) ..
    by_cases hui:u=i
    ·rw[hui];exact hd.i2
    ·exact hd.bl u (hbl u (by omega))
  ·exact absurd hx (hgr i)
  ·have d1:((2:Int)==0)=false:=rfl
   simp -implicitDefEqProofs only[gsR,e,l0,a0,lx,d1,cI,e3];refine ih (i+1) k H C (by omega) (by omega) (by omega) hs hdn hgr (λu hu=> ?_) ..
   by_cases hui:u=i
   ·rw[hui];exact hx
   ·exact hbl u (by omega)
theorem aHC {n:Nat}(hk:OkP p n){H0:aC}{a v:Nat}(hv:v<n){K:Ex->K (Value×aC)}{Q:aC->Value->Prop}(hp:PV H0 p ev wv nv)(hb:H0[a]? =some (plB p ev wv nv))(hm:400<m)(hm2:m<=72057594037927936):
  ∀(q i k:Nat)(H1:aC),n-i=q->i<=n->q<k->Ext H0 H1->
  (∀H',Ext H0 H'->((List.range' i q).all λw=>(o9 p v w).isSome)=true-> ∀(x0 x2 x3 x4 x5 x6 x7 x8 x9 bK bM aR aN aM aP aQ bC bJ bL bI bE aS aT aU aV aW aX aY bA bB bN bO bP bQ bR bS bT bU bV bY cE cG cH cL cQ cU cV cM cN cO cR cY cW cX cZ dD dH dE dI dP dQ dV dW dX dY dZ eA eC:Value),∃H2 r,K .normal [x0,(.pointer (some ⟨a,0,none⟩)),x2,x3,x4,x5,x6,x7,x8,x9,bK,bM,aR,aN,aM,aP,(.int .i64 n),(.int .i64 (v+1:Nat)),aQ,bC,bJ,bL,bI,bE,aS,aT,aU,aV,aW,aX,aY,bA,bB,bN,bO,bP,bQ,bR,bS,bT,bU,bV,bY,cE,cG,cH,cL,cQ,cU,cV,cM,cN,cO,cR,cY,cW,cX,cZ,dD,dH,dE,dI,dP,dQ,dV,dW,dX,dY,dZ,eA,eC] H'=some (r,H2)/\Q H2 r)->
  (∀H',Ext H0 H'->((List.range' i q).all λw=>(o9 p v w).isSome)=false-> ∀(x0 x1 x3 x4 x5 x6 x7 x8 x9 bK bM aR aN aM aP aZ bG aQ bC bJ bL bI bE aS aT aU aV aW aX aY bA bB bN bO bP bQ bR bS bT bU bV bY cE cG cH cL cQ cU cV cM cN cO cR cY cW cX cZ dD dH dE dI dP dQ dV dW dX dY dZ eA eC:Value),∃H2 r,K .ret [x0,x1,(.int .u16 140),x3,x4,x5,x6,x7,x8,x9,bK,bM,aR,aN,aM,aP,aZ,bG,aQ,bC,bJ,bL,bI,bE,aS,aT,aU,aV,aW,aX,aY,bA,bB,bN,bO,bP,bQ,bR,bS,bT,bU,bV,bY,cE,cG,cH,cL,cQ,cU,cV,cM,cN,cO,cR,cY,cW,cX,cZ,dD,dH,dE,dI,dP,dQ,dV,dW,dX,dY,dZ,eA,eC] H'=some (r,H2)/\Q H2 r)-> ∀(x0 x2 x3 x5 x6 x7 x8 x9 bK bM aR aN aM aP aQ bC bJ bE aS aT aU aV aW aX aY bA bB bN bO bP bQ bR bS bT bU bV bY cE cG cH cL cQ cU cV cM cN cO cR cY cW cX cZ dD dH dE dI dP dQ dV dW dX dY dZ eA eC:Value),
  ∃H' r,aI k (aK prog (lvl prog cD m) (aI m) Ls) (Ev (lvl prog cD m) (aI m) K) [x0,(.pointer (some ⟨a,0,none⟩)),x2,x3,(.int .i64 (v:Nat)),x5,x6,x7,x8,x9,bK,bM,aR,aN,aM,aP,(.int .i64 n),(.int .i64 (v:Nat)),aQ,bC,bJ,(.int .i64 n),(.int .i64 (i:Nat)),bE,aS,aT,aU,aV,aW,aX,aY,bA,bB,bN,bO,bP,bQ,bR,bS,bT,bU,bV,bY,cE,cG,cH,cL,cQ,cU,cV,cM,cN,cO,cR,cY,cW,cX,cZ,dD,dH,dE,dI,dP,dQ,dV,dW,dX,dY,dZ,eA,eC] H1=some (r,H')/\Q H' r:=by
 intro q;have h6:=hk.h6;induction q with
 |zero=>
  intro i k H1 hr hi hk2 he hK hR;intros;obtain⟨k,rfl⟩:=aB k (by omega)
  have e:decide ((i:Int)<(n:Int))=false:=aOR (by omega)
  have e3:=aA (i:=v) (by omega)
  rw[eD,V5];simp -implicitDefEqProofs only[gsR,e];rw[aG1];simp -implicitDefEqProofs only[gsR,cI,e3];exact hK H1 he rfl ..
 |succ q ih=>
  intro i k H1 hr hi hk2 he hK hR;intros;obtain⟨k,rfl⟩:=aB k (by omega)
  have e:decide ((i:Int)<(n:Int))=true:=aOQ (by omega)
  have e3:=aA (i:=i) (by omega)
  have l11:=kP (fN hb he);obtain⟨H2,r,g1,x2,lv,rfl,_,_⟩:=aHa hk (hp.ext he) (v:=v) (w:=i) (by omega) (by omega) (m:=m) (by omega) (by omega)
  rw[eD,V5];rw[List.range'_succ,List.all_cons] at hK hR;cases c:(o9 p v i).isSome with
  |true=>
   rw[c] at g1 hK hR;simp -implicitDefEqProofs only[gsR,e,l11,g1,cI,e3];exact ih (i+1) k H2 (by omega) (by omega) (by omega) (he.tr x2) (λH' h1 h2=>hK H' h1 (by simpa using h2)) (λH' h1 h2=>hR H' h1 (by simpa using h2)) ..
  |false=>
   rw[c] at g1 hR;simp -implicitDefEqProofs only[gsR,e,l11,g1];rw[aG5];exact hR H2 (he.tr x2) rfl ..
theorem aHJ (n:Nat):Blk.cells (List.replicate n [Value.int .i64 0]).flatten 3 .row=oU (List.replicate n 0) []:=by
 unfold oU
 congr 1
 rw[List.append_nil,List.map_replicate];induction n with
 |zero=>rfl
 |succ n ih=>rw[List.replicate_succ,List.replicate_succ,aOH,ih];rfl
theorem aHF {v:Value}{us:List Value}(h:Rs vC 37 H v us):bld prog 262 [(1,v)]=some (.agg #[.slice none 0 0,v])/\Blk.cells (Value.agg #[.slice none 0 0,v]).cells.toList 262 .fix= .cells [.slice none 0 0,v] 262 .fix:=by
 rcases h with⟨rfl,_⟩|⟨b,o,cap,rfl,_⟩
 ·exact⟨by kernel_rfl,rfl⟩
 ·have: ∀b o n c:Nat,bld prog 262 [(1,.slice (some ⟨b,o,none⟩) n c)]=some (.agg #[.slice none 0 0,.slice (some ⟨b,o,none⟩) n c]):=λb o n c=>by kernel_rfl
  exact⟨this _ _ _ _,rfl⟩
theorem aHA {n:Nat}(hk:OkP p n){H0:aC}{a:Nat}(hp:PV H0 p ev wv nv)(hb:H0[a]? =some (plB p ev wv nv))(hm:17592186045300<m)(hm2:m<=72057594037927936)(x0 x2 x3 x4 x5 x6 x7 x8 x9 bK bM aR aN aM aP aZ bG aQ bC bJ bL bI bE aS aT aU aV aW aX aY bA bB bN bO bP bQ bR bS bT bU bV bY cE cG cH cL cQ cU cV cM cN cO cR cY cW cX cZ dD dH dE dI dP dQ dV dW dX dY dZ eA eC:Value):
  ∃H',Lu (lvl prog cD m) (aI m) x0 (.pointer (some ⟨a,0,none⟩)) x2 x3 x4 x5 x6 x7 x8 x9 bK bM aR aN aM aP aZ bG aQ bC bJ bL bI bE aS aT aU aV aW aX aY bA bB bN bO bP bQ bR bS bT bU bV bY cE cG cH cL cQ cU cV cM cN cO cR cY cW cX cZ dD dH dE dI dP dQ dV dW dX dY dZ eA eC H0=some (.int .u16 (if sV (lX p)=true then 140 else 0),H')/\Ext H0 H':=by
 have l11:=kP hb;obtain⟨H1,wvv,g1,x1,hg⟩:=aHc hp (m:=m) (by omega) (by omega)
 have hgl:=aHy p;obtain⟨us,hus,hul,_⟩:=id hg;obtain⟨bm,bc⟩:=aHF hus;obtain⟨g,hgg⟩: ∃g,g=lX p:=⟨_,rfl⟩;have hinn:=aHx p;have hrow:=aHz p;rw[<-hgg] at hg hgl hinn hrow⊢;obtain⟨H2,hH2⟩: ∃H2,H2=H1++[Blk.cells [.slice none 0 0,wvv] 262 .fix]:=⟨_,rfl⟩;have x2:Ext H1 H2:=by rw[hH2];exact Fr.app _ _ _
 have b2:H2[H1.length]? =some (.cells [.slice none 0 0,wvv] 262 .fix):=by rw[hH2];exact hP _ _
 have l2:ld1 (.pointer (some ⟨H1.length,1,none⟩)) H2=some (wvv,H2):=Aq b2 rfl;have hlen:=hg.Ux;have mk:=wC (H:=H2) 3 1 8 [.int .i64 0] .i64 .i64 (g.length:Int) (by omega) (by omega) (by omega) rfl
 simp only[aOz] at mk;rw[aHJ] at mk;obtain⟨H3,hH3⟩: ∃H3,H3=H2++[oU (List.replicate g.length 0) []]:=⟨_,rfl⟩;rw[<-hH3] at mk;have x3:Ext H2 H3:=by rw[hH3];exact Fr.app _ _ _
 have b3:=fN b2 x3;have st:stN 1 (.pointer (some ⟨H1.length,0,none⟩)) (.slice (some ⟨H2.length,0,none⟩) g.length g.length) H3=some (undef,H3.set H1.length (mkB H2.length g.length wvv)):=by
  rw[mX 1 _ _ _ rfl,b3,oA _ _ _ _ _ _ (by decide) (by show 0+1<=2;omega) rfl]
  rfl
 obtain⟨H4,hH4⟩: ∃H4,H4=H3.set H1.length (mkB H2.length g.length wvv):=⟨_,rfl⟩;rw[<-hH4] at st;have h12:H2.length=H1.length+1:=by rw[hH2];simp
 have hs:Srch g H1 H1.length H2.length wvv H4 (List.replicate g.length 0):=by
  refine⟨?_,?_,?_,by simp,λx hx=> .inl (by simp at hx;exact hx.2)⟩
  ·rw[hH4];exact tP (x2.tr x3) (aOb _)
  ·rw[hH4];exact aOc (aN6.mp b3).1
  ·rw[hH4,aN7 (by omega),hH3];exact hP _ _
 have l4:=Bm hs.mrk;have hlen4:bX (atV H2.length g.length)=some (.int .i64 g.length):=rfl;have hrd:=aHH hg hinn (λr hr=>by have:=hrow r hr;omega) (show H1.length≠H2.length by omega) (show H1.length<=H2.length by omega) g.length m (by omega)
 unfold Lu;simp -implicitDefEqProofs only[gsR,l11,g1,bm,bc,<-hH2,l2,hlen,mk,st,l4,hlen4];exact Exists.imp (λH' h=>⟨h.1,x1.tr h.2⟩) (aHD hrd (by omega) hinn g.length 0 m H4 (List.replicate g.length 0) (by omega) (by omega) (by omega) hs (λu hu=>by simp[aON] at hu) (λu hu=>by simp[aON] at hu) (λu hu=>absurd hu (by omega)) ..)
theorem aHB {n:Nat}(hk:OkP p n){H0:aC}{a:Nat}{Q:aC->Value->Prop}(hp:PV H0 p ev wv nv)(hb:H0[a]? =some (plB p ev wv nv))(hm:17592186045300<m)(hm2:m<=72057594037927936)(hQ: ∀H',Ext H0 H'->Q H' (.int .u16 (if sX p n=true/\sV (lX p)=false then 0 else 140))):
  ∀(q i k:Nat)(H1:aC),n-i=q->i<=n->q<k->Ext H0 H1->(∀v,v<i->((List.range n).all λw=>(o9 p v w).isSome)=true)-> ∀(x0 x2 x3 x4 x5 x6 x7 x8 x9 bK bM aR aN aM aP aQ bC bJ bL bI bE aS aT aU aV aW aX aY bA bB bN bO bP bQ bR bS bT bU bV bY cE cG cH cL cQ cU cV cM cN cO cR cY cW cX cZ dD dH dE dI dP dQ dV dW dX dY dZ eA eC:Value),
  ∃H' r,aI k (aK prog (lvl prog cD m) (aI m) Lr) (Eu (lvl prog cD m) (aI m)) [x0,(.pointer (some ⟨a,0,none⟩)),x2,x3,x4,x5,x6,x7,x8,x9,bK,bM,aR,aN,aM,aP,(.int .i64 n),(.int .i64 (i:Nat)),aQ,bC,bJ,bL,bI,bE,aS,aT,aU,aV,aW,aX,aY,bA,bB,bN,bO,bP,bQ,bR,bS,bT,bU,bV,bY,cE,cG,cH,cL,cQ,cU,cV,cM,cN,cO,cR,cY,cW,cX,cZ,dD,dH,dE,dI,dP,dQ,dV,dW,dX,dY,dZ,eA,eC] H1=some (r,H')/\Q H' r:=by
 intro q;have h6:=hk.h6;induction q with
 |zero=>
  intro i k H1 hr hi hk2 he hpre;intros;obtain⟨k,rfl⟩:=aB k (by omega)
  have e:decide ((i:Int)<(n:Int))=false:=aOR (by omega)
  have hall:sX p n=true:=by
   unfold sX;rw[aOM];intro v hv;exact hpre v (by have:=aOL.mp hv;omega)
  rw[eD,V4];simp -implicitDefEqProofs only[gsR,e];rw[aG0];refine Exists.imp (λH' h=>⟨_,h.1,?_⟩) (aHA hk (hp.ext he) (fN hb he) hm hm2 ..)
  have:=hQ H' (he.tr h.2);rw[hall] at this;cases hc:sV (lX p) with
  |true=>rw[hc] at this;simpa using this
  |false=>rw[hc] at this;simpa using this
 |succ q ih=>
  intro i k H1 hr hi hk2 he hpre;intros;obtain⟨k,rfl⟩:=aB k (by omega)
  have e:decide ((i:Int)<(n:Int))=true:=aOQ (by omega)
  have b1:=fN hb he;have l0:=eG b1 0 _ rfl;rw[hk.hn] at l0;have hrr: ∀v:Nat,((List.range' 0 n).all λw=>(o9 p v w).isSome)=((List.range n).all λw=>(o9 p v w).isSome):=λv=>by rw[List.range_eq_range']
  rw[eD,V4];simp -implicitDefEqProofs only[gsR,e,l0];refine aHC hk (v:=i) (by omega) (hp.ext he) b1 (Q:=Q) (by omega) hm2 n 0 m H1 (by omega) (by omega) (by omega) (Fr.nF _ _) (λH' hx hall=> ?_) (λH' hx hall=> ?_) ..
  ·rw[hrr] at hall
   intros;simp -implicitDefEqProofs only[gsR];refine ih (i+1) k H' (by omega) (by omega) (by omega) (he.tr hx) (λv hv=> ?_) ..
   by_cases hvi:v=i
   ·rw[hvi];exact hall
   ·exact hpre v (by omega)
  ·rw[hrr] at hall
   intros;simp -implicitDefEqProofs only[gsR];rw[aG4];refine⟨H',_,rfl,?_⟩;have hno:sX p n=false:=by
    rw[<-Bool.not_eq_true];unfold sX;rw[aOM];intro hh;rw[hh i (aOL.mpr (by omega))] at hall
    cases hall
   have:=hQ H' (he.tr hx);rw[hno] at this;simpa using this
theorem Wr (hp:PV H p ev wv nv)(hm:17592186045400<m)(hm2:m<=72057594037927936):
  ∃H',lvl prog cD m (.func 85) [plV p ev wv nv] H=some (.int .u16 (mP p),H')/\Ext H H':=by
 obtain⟨H0,hH0⟩: ∃H0,H0=H++[plB p ev wv nv]:=⟨_,rfl⟩;have x0:Ext H H0:=by rw[hH0];exact Fr.app _ _ _
 have b0:H0[H.length]? =some (plB p ev wv nv):=by rw[hH0];exact hP _ _
 have p0:=hp.ext x0;have l11:=kP b0;obtain⟨H1,g1,x1⟩:=U1 p0 (m:=m-1) (by omega) (by omega)
 have b1:=fN b0 x1;have p1:=p0.ext x1;have main: ∃H' r,lvl prog cD m (.func 85) [plV p ev wv nv] H=some (r,H')/\(r= .int .u16 (mP p)/\Ext H H'):=by
  refine iP (Q:=λH' r=>r= .int .u16 (mP p)/\Ext H H') (iC rfl rfl) (by omega) ?_
  rw[aG3];cases hc:lP p with
  |false=>
   rw[hc] at g1;have en:(uV false !=0)=true:=rfl;have e:mP p=uV false:=by unfold mP;rw[if_neg (by simp[hc])];rfl
   simp -implicitDefEqProofs only[gsR,lG,<-hH0,l11,g1,en]
   exact⟨H1,_,rfl,by rw[e],x0.tr x1⟩
  |true=>
   rw[hc] at g1;have en:(uV true !=0)=false:=rfl;obtain⟨n,hk⟩:=Ez hc;have h6:=hk.h6;have l0:=eG b1 0 _ rfl;rw[hk.hn] at l0;simp -implicitDefEqProofs only[gsR,lG,<-hH0,l11,g1,en,l0];refine aHB hk (Q:=λH' r=>r= .int .u16 (mP p)/\Ext H H') p1 b1 (m:=m-1) (by omega) (by omega) (λH' hx=>⟨?_,(x0.tr x1).tr hx⟩) n 0 (m-1) H1 (by omega) (by omega) (by omega) (Fr.nF _ _) (λv hv=>absurd hv (by omega)) ..
   congr 1
   unfold mP L5;have hq:p.nodes.toNat=n:=by rw[hk.hn];rfl
   rw[if_pos hc,hc,hq];cases sV (lX p)<;>cases sX p n<;>simp
 obtain⟨H',r,h1,rfl,h2⟩:=main
 exact⟨H',h1,h2⟩
end
theorem aHL {a:Int}(h:(Lit.int .u16 a).wf=true):0<=a/\a<65536:=by
 have e: ∀z:Int,(Lit.int .u16 z).wf=(decide (0<=z)&&decide (z<=65535)):=λz=>rfl
 rw[e] at h;simp only[aOe,decide_eq_true_eq] at h
 exact⟨h.1,by omega⟩
theorem wQ {a:Int}(h:(Lit.int .u8 a).wf=true): ∃n:Nat,a=n/\n<256:=by
 have:=aDc h
 exact⟨a.toNat,by omega,by omega⟩
theorem aHK {a:Int}(h:(Lit.int .u16 a).wf=true): ∃n:Nat,a=n/\n<65536:=by
 have:=aHL h
 exact⟨a.toNat,by omega,by omega⟩
def Bn (r:List Value):Nat:=match r with
 |[.int _ i]=>i.toNat
 |_=>0
theorem Us.L6 {G:aC}{n:Nat}{u:Value}(h:Rp prog G n 22 [u]): ∃next,Us G u next/\(∀x∈next,x<256)/\next.length<=72057594037927936:=by
 obtain⟨m,u',b,rows,h1,h2,h3,h4,h5⟩:=h.aC9 (e:=5) (by kernel_rfl)
 cases h1;have hc:prog.cellsOf 5=1:=by kernel_rfl
 have hb:prog.bytesOf 5=1:=by kernel_rfl
 rw[hc] at h2;rw[hb] at h3;have hr: ∀r∈rows,u8C (Bn r)=r/\Bn r<256:=λr hr=>by
  obtain⟨i,hi,hw⟩:=(h5 r hr).2.Ar (k:= .u8) (by kernel_rfl)
  obtain⟨k,rfl,hk⟩:=wQ hw;subst hi
  exact⟨rfl,by simpa[Bn] using hk⟩
 have hm:(rows.map Bn).map u8C=rows:=by
  rw[List.map_map]
  conv=>rhs;rw[<-List.map_id rows]
  exact List.map_congr_left λr hr'=>(hr r hr').1
 refine⟨rows.map Bn,?_,λx hx=> ?_,?_⟩
 ·rw[<-hm] at h2
  rcases h4 with rfl|⟨c,rfl⟩
  ·have h0:rows=[]:=by
    have:=h2.len;have hl:bX (Value.slice none 0 0)=some (.int .i64 0):=rfl;rw[hl,hm] at this;simp at this;exact aOo.mp (by omega)
   subst h0;exact .inl ⟨rfl,rfl⟩
  ·exact h2.rs Ky (c:=c) (.inr (by rw[aOk]))
 ·obtain⟨r,hr1,rfl⟩:=aOK.mp hx
  exact(hr r hr1).2
 ·have:reachBytes=140737488351232:=rfl
  rw[aOk];omega
section
variable {H H0 : aC} {m : Nat} {p : PlanD} {ev wv nv : Value}
def tab (n:Nat)(F:Nat->Nat->Int):List (List Int):=(List.range n).map λv=>(List.range n).map (F v)
theorem aHM (n:Nat)(F:Nat->Nat->Int):(tab n F).length=n:=by simp[tab]
variable {a : Nat}
end
def cpP (n:Nat)(E:List Ed)(N:List (List Int)):PlanD:=⟨n,E,1,1,1,1,1,1,[1],0,N⟩
theorem Wu {p:PlanD}{n:Nat}{E:List Ed}{N:List (List Int)}(h1:p.nodes=(n:Int))(h2:p.edges=E)(h3:p.next=N)(w:Int): ∀(q:Nat)(l:List Int)(v:Int),wP p w q l v=wP (cpP n E N) w q l v
 |0,_,_=>rfl
 |q+1,l,v=>by
  have e:nx p v w=nx (cpP n E N) v w:=by unfold nx cpP;rw[h3]
  unfold wP;rw[e,h1,h2,Wu h1 h2 h3 w q];rfl
theorem aHN {p:PlanD}{n:Nat}{E:List Ed}{N:List (List Int)}(h:lP p=true)(hc:lP (cpP n E N)=true)(h1:p.nodes=(n:Int))(h2:p.edges=E)(h3:p.next=N):
  (∀v w,o9 p v w=o9 (cpP n E N) v w)/\(∀v w,uY p v w=uY (cpP n E N) v w)/\lX p=lX (cpP n E N)/\mP p=mP (cpP n E N):=by
 have a1: ∀v w,o9 p v w=o9 (cpP n E N) v w:=λv w=>by
  unfold o9;rw[Wu h1 h2 h3,h1];rfl
 have a2: ∀v w,uY p v w=uY (cpP n E N) v w:=λv w=>by
  unfold uY;rw[a1,h,hc,h1];rfl
 have e: ∀v w,nx p v w=nx (cpP n E N) v w:=λv w=>by unfold nx cpP;rw[h3]
 have e2: ∀a b,wt p n a b=wt (cpP n E N) n a b:=λa b=>by
  unfold wt
  congr 1
  funext w
  unfold E1;rw[e,e]
 have e3:lH p=lH (cpP n E N):=by
  unfold lH mO;rw[h1,h2];rfl
 have a3:lX p=lX (cpP n E N):=by
  unfold lX;rw[h,hc,e3,h1];simp only[if_true];refine List.map_congr_left λa _=> ?_
  show nV p n _ a=nV (cpP n E N) n _ a
  unfold nV;simp only[e2]
 refine⟨a1,a2,a3,?_⟩;unfold mP L5;rw[a3,h,hc,h1];have: ∀m,sX p m=sX (cpP n E N) m:=λm=>by
  unfold sX;simp only[a1]
 rw[this];rfl
theorem Ws (a b:Bool):bin prog .eql 4 (.bool a) (.bool b)=some (.bool (a==b)):=by cases a<;>cases b<;>kernel_rfl
section
variable {H : aC} {m : Nat} {p : PlanD} {ev wv nv : Value}
end
end Go.Proofs.YtmimdleeihjdoaaGreatDoor
