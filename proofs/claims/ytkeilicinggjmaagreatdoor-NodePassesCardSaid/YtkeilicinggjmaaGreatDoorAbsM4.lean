/-
  PARTS OF THIS CLAIM'S PROOF, laid together by a program of mine.
-/
import Derived.Test.YtkeilicinggjmaaGreatDoorProg
import Derived.Ground.NamesProg
import Derived.Shelf.Sort.Plain
import Derived.Shelf.Slices.In.SortNone
import Derived.Test.YtkeilicinggjmaaGreatDoorAbsM2
import Derived.Test.YtkeilicinggjmaaGreatDoorAbsM1
import Derived.Calls
import Derived.LoopN
import Derived.Orders
import Derived.Laws.Sem
import Derived.Laws.Tables
import Derived.Laws.Cells
import Derived.Laws.StructEq
import Derived.Laws.Append
import Derived.Laws.MakeOwn
import Derived.Laws.Slices
import Derived.Lib.UnsafeStr
import Derived.Laws.BytesString
import Derived.Laws.BytesArg
import Derived.Laws.Pointers
import Derived.Lib.SliceRun
import Derived.Laws.Cover3
import Derived.MapKept
import Derived.WideKeyRuns
import Derived.Scope
import Derived.ProofKit
import Derived.RowKit
import Derived.RowKit3
import Derived.ChangeSame
import Derived.OpenShut
import Derived.Deep.Slices
import Derived.SizedLaws
import Derived.Test.YtkeilicinggjmaaGreatDoorAbsM3
import Derived.KernelRfl
import Derived.Sort.Grow
import Derived.RangeFuncNested
import Derived.RangeFuncBound
import Derived.RangeFuncCalls
import Derived.RangeFuncLeaves
import Derived.Shelf.Abstract
import Derived.Shelf.RegionOpen
import Derived.WalkKit
import Derived.OwnWalkIn
import Derived.TacticsInMore
import Derived.LoopNIn
import Derived.LoopIn
import Derived.Lib.TrailingZeros
import Derived.Tactics
import Derived.Tactics2
set_option linter.unusedVariables false
set_option linter.unusedSimpArgs false
set_option linter.unusedSectionVars false
namespace Go.Proofs.YtkeilicinggjmaaGreatDoor
open Go.Proofs.Tryz
open Go.Shelf
def Tryz.aGf:Go.Shelf.Ren:=⟨λ|189=>82|125=>135|257=>134|128=>172|129=>173|294=>163|295=>164|296=>165|297=>166|298=>167|299=>168|216=>169|300=>170|301=>171|328=>183|329=>184|330=>185|331=>186|332=>187|215=>188|343=>189|n=>n,λ|28=>25|3=>3|46=>116|0=>0|51=>37|53=>55|4=>4|183=>276|182=>275|131=>258|5=>5|9=>9|218=>293|222=>296|228=>299|229=>300|n=>n,λ|n=>n⟩
theorem Tryz.Vk:Go.Proofs.Lays.n189 prog Tryz.aGf:={
 mixed:=by kernel_rfl
 f125:=Tryz.func135.trans (congrArg some (by kernel_rfl))
 f128:=Tryz.func172.trans (congrArg some (by kernel_rfl))
 f129:=Tryz.func173.trans (congrArg some (by kernel_rfl))
 f189:=Tryz.func82.trans (congrArg some (by kernel_rfl))
 f215:=Tryz.func188.trans (congrArg some (by kernel_rfl))
 f216:=Tryz.func169.trans (congrArg some (by kernel_rfl))
 f257:=Tryz.func134.trans (congrArg some (by kernel_rfl))
 f294:=Tryz.func163.trans (congrArg some (by kernel_rfl))
 f295:=Tryz.func164.trans (congrArg some (by kernel_rfl))
 f296:=Tryz.func165.trans (congrArg some (by kernel_rfl))
 f297:=Tryz.func166.trans (congrArg some (by kernel_rfl))
 f298:=Tryz.func167.trans (congrArg some (by kernel_rfl))
 f299:=Tryz.func168.trans (congrArg some (by kernel_rfl))
 f300:=Tryz.func170.trans (congrArg some (by kernel_rfl))
 f301:=Tryz.func171.trans (congrArg some (by kernel_rfl))
 f328:=Tryz.func183.trans (congrArg some (by kernel_rfl))
 f329:=Tryz.func184.trans (congrArg some (by kernel_rfl))
 f330:=Tryz.func185.trans (congrArg some (by kernel_rfl))
 f331:=Tryz.func186.trans (congrArg some (by kernel_rfl))
 f332:=Tryz.func187.trans (congrArg some (by kernel_rfl))
 f343:=Tryz.func189.trans (congrArg some (by kernel_rfl))
 t0:=Tryz.underlying0
 a0:=Tryz.isAgg0
 z0:=Tryz.sizeOf0
 v0:=Tryz.zeroValue0
 t3:=Tryz.underlying3
 a3:=Tryz.isAgg3
 z3:=Tryz.sizeOf3
 v3:=Tryz.zeroValue3
 t4:=Tryz.underlying4
 a4:=Tryz.isAgg4
 z4:=Tryz.sizeOf4
 v4:=Tryz.zeroValue4
 t5:=Tryz.underlying5
 a5:=Tryz.isAgg5
 z5:=Tryz.sizeOf5
 v5:=Tryz.zeroValue5
 t9:=Tryz.underlying9
 a9:=Tryz.isAgg9
 z9:=Tryz.sizeOf9
 v9:=Tryz.zeroValue9
 t28:=Tryz.underlying25
 a28:=Tryz.isAgg25
 z28:=Tryz.sizeOf25
 v28:=Tryz.zeroValue25
 t46:=Tryz.underlying116
 a46:=Tryz.isAgg116
 z46:=Tryz.sizeOf116
 v46:=Tryz.zeroValue116
 t51:=Tryz.underlying37
 a51:=Tryz.isAgg37
 z51:=Tryz.sizeOf37
 v51:=Tryz.zeroValue37
 t53:=Tryz.underlying55
 a53:=Tryz.isAgg55
 z53:=Tryz.sizeOf55
 v53:=Tryz.zeroValue55
 t131:=Tryz.underlying258
 a131:=Tryz.isAgg258
 z131:=Tryz.sizeOf258
 v131:=Tryz.zeroValue258
 t182:=Tryz.underlying275
 a182:=Tryz.isAgg275
 z182:=Tryz.sizeOf275
 v182:=Tryz.zeroValue275
 t183:=Tryz.underlying276
 a183:=Tryz.isAgg276
 z183:=Tryz.sizeOf276
 v183:=Tryz.zeroValue276
 t218:=Tryz.underlying293
 a218:=Tryz.isAgg293
 z218:=Tryz.sizeOf293
 v218:=Tryz.zeroValue293
 t222:=Tryz.underlying296
 a222:=Tryz.isAgg296
 z222:=Tryz.sizeOf296
 v222:=Tryz.zeroValue296
 t228:=Tryz.underlying299
 a228:=Tryz.isAgg299
 z228:=Tryz.sizeOf299
 v228:=Tryz.zeroValue299
 t229:=Tryz.underlying300
 a229:=Tryz.isAgg300
 z229:=Tryz.sizeOf300
 v229:=Tryz.zeroValue300}
end Go.Proofs.YtkeilicinggjmaaGreatDoor
namespace Go.Abs
theorem gsR:type_of%(And.intro @r_opt (And.intro @r_ret (And.intro @ob_some (And.intro @ifB_true (And.intro @iteV_true (And.intro @iteV_false (And.intro @r_gdt (And.intro @r_gdt2 (And.intro @r_gdtf (And.intro @r_gdtf2 (And.intro @r_gdff (And.intro @r_gdff2 (And.intro @r_gdft (And.intro @r_gdft2 (And.intro @r_gdu (And.intro @r_gdu2 (And.intro @pick_t (And.intro @pick_f (And.intro @ext_0 (And.intro @ext_1 (And.intro @x_newB (And.intro @r_nil (And.intro @r_fAddr (And.intro @Nat.zero_add (And.intro @b_lss (And.intro @b_leq (And.intro @b_gtr (And.intro @b_geq (And.intro @b_eql (And.intro @b_neq (And.intro @u_not (And.intro @Bool.not_true (And.intro @Bool.not_false (And.intro @oneOf_one (And.intro @oneOf_two (And.intro @again_normal (And.intro @again_exit (And.intro @again_ret @Bool.and_true)))))))))))))))))))))))))))))))))))))):=And.intro @r_opt (And.intro @r_ret (And.intro @ob_some (And.intro @ifB_true (And.intro @iteV_true (And.intro @iteV_false (And.intro @r_gdt (And.intro @r_gdt2 (And.intro @r_gdtf (And.intro @r_gdtf2 (And.intro @r_gdff (And.intro @r_gdff2 (And.intro @r_gdft (And.intro @r_gdft2 (And.intro @r_gdu (And.intro @r_gdu2 (And.intro @pick_t (And.intro @pick_f (And.intro @ext_0 (And.intro @ext_1 (And.intro @x_newB (And.intro @r_nil (And.intro @r_fAddr (And.intro @Nat.zero_add (And.intro @b_lss (And.intro @b_leq (And.intro @b_gtr (And.intro @b_geq (And.intro @b_eql (And.intro @b_neq (And.intro @u_not (And.intro @Bool.not_true (And.intro @Bool.not_false (And.intro @oneOf_one (And.intro @oneOf_two (And.intro @again_normal (And.intro @again_exit (And.intro @again_ret @Bool.and_true)))))))))))))))))))))))))))))))))))))
end Go.Abs
set_option maxRecDepth 100000
namespace Go.Proofs.YtkeilicinggjmaaGreatDoor
open Go.Proofs.Tryz
open Go.Abs
theorem aGh:SortOk prog 82:=⟨enters_of Tryz.func82 (by kernel_rfl) rfl,Any.slices_Sort_int_none Tryz.Vk,Any.slices_Sort_int Tryz.Vk⟩
theorem Kv:prog.follows .mixedOrders=true:=by kernel_rfl
theorem aGg:PrimsOk prog (sN []):=aDy Kv λg hg=>by simp at hg
theorem aGi:PrimsOk prog (qE [] 82):=aD2 aGg aGh
abbrev pkN:jH:=qG 103 sY (qG 101 (uU 23) (qE [] 82))
abbrev cF:jH:=pkN
theorem rX:FrP pkN:=Uo aE6 (Uo (aE7 _) (aES _ _))
theorem iH {k:FuncId}(h:((k==103)||(k==101))=false)(h2:(k==82)=false):pkN (.func k)=none:=by
 rw[Bool.or_eq_false_iff] at h;rw[pkN,Bi h.1,Bi h.2];exact aD1 h2 rfl
theorem cL {k:FuncId}(h:((k==103)||(k==101)||(k==82))=false):pkN (.func k)=none:=by
 rw[Bool.or_eq_false_iff] at h;exact iH h.1 h.2
theorem Vl (n:Nat)(hn:0<n)(args:List Value)(H:aC):lvl prog cF n (.func 82) args H=qX args H:=
 Jq (((Bi rfl).trans (Bi rfl)).trans aD3) hn args H
theorem Kw (n:Nat)(hn:0<n)(args:List Value)(H:aC):lvl prog pkN n (.func 103) args H=sY args H:=Jq Uu hn args H
theorem aGj (n:Nat)(hn:0<n)(args:List Value)(H:aC):lvl prog pkN n (.func 101) args H=uU 23 args H:=Jq ((Bi rfl).trans Uu) hn args H
end Go.Proofs.YtkeilicinggjmaaGreatDoor
namespace Go.Proofs.YtkeilicinggjmaaGreatDoor
open Go.Proofs.Tryz
open Go Go.RowKit Go.Abs
theorem aGn:Hv prog=some 0:=by kernel_rfl
theorem aGo:xB=Lib.deBruijn32tab.map Int.ofNat:=by decide+kernel
theorem Vn {w:World}(h:As prog w):TabC w:=by
 obtain⟨cs,e,r,h1,h2⟩:=h 0 aGn;intro j hj;unfold World.cell?;rw[h1];show cs[j]? =_
 rw[<-Array.getElem?_toList,h2,aGo,List.map_map,aO7];have hl:Lib.deBruijn32tab.length=32:=by decide+kernel
 rw[aOW (by omega),aOY,aOW (by omega)]
 rfl
theorem aGk {args:List Value}{H H':aC}{v:Value}(h:sY args H=some (v,H')):H'=H:=by
 unfold sY at h
 split at h
 ·split at h
  ·cases h
   rfl
  ·cases h
 ·cases h
theorem aGp {t:TypeId}{args:List Value}{H H':aC}{v:Value}(h:uU t args H=some (v,H')):H.length<=H'.length:=by
 unfold uU at h
 split at h
 ·split at h
  ·split at h
   ·split at h
    ·split at h
     ·cases h
      simp
     ·cases h
    ·cases h
   ·cases h
  ·cases h
 ·cases h
theorem aGl {args:List Value}{H H':aC}{v:Value}(h:sY args H=some (v,H')){ρ:Ren}{w:World}{args':List Value}(hr:Rel prog ρ (dI H) w)(ha:Vrs ρ args args'):
  xG prog (.func 103) args'.toArray w (Post prog ρ H w v H'):=by
 have he:(callFunc 103 args'.toArray).run prog w= .ok (.enter 103 args'.toArray) w:=enters_of Tryz.func103 (by kernel_rfl) rfl _ _
 refine⟨he,?_⟩;unfold sY at h
 split at h
 ·rename_i m fr n
  split at h
  ·rename_i hm
   cases h;obtain⟨hl,h1⟩:=ha
   match args',hl with
   |[a',b',c'],_=>
    obtain rfl:=(h1 0 _ a' rfl rfl).lJ rfl
    obtain rfl:=(h1 1 _ b' rfl rfl).lJ rfl
    obtain rfl:=(h1 2 _ c' rfl rfl).lJ rfl
    exact(aFe m fr n hm.1 hm.2 w (Vn hr.Ht)).mono λe w' ⟨h2,hB⟩=>⟨_,h2,ρ,.oS rfl,Step.Sa hr hB.size (λc hc=>hB.block c hc) hB.os hB.tape hB.output⟩
  ·cases h
 ·cases h
theorem aGm (rows:List Nat)(n:Nat):(kG (λk=>dH (λi=>(rows.getD i 0).testBit k) rows.length) n).toList=(j9 rows n).map λz:Nat=>Value.int .u16 (z:Int):=by
 unfold kG j9;rw[List.map_map];rfl
theorem aGq {args:List Value}{H H':aC}{v:Value}(h:uU 23 args H=some (v,H')){ρ:Ren}{w:World}{args':List Value}(hr:Rel prog ρ (dI H) w)(ha:Vrs ρ args args')
  (hfree: ∀b,H.length<=b->b<H'.length->ρ b=none):xG prog (.func 101) args'.toArray w (Post prog ρ H w v H'):=by
 have he:(callFunc 101 args'.toArray).run prog w= .ok (.enter 101 args'.toArray) w:=enters_of Tryz.func101 (by kernel_rfl) rfl _ _
 refine⟨he,?_⟩;unfold uU at h
 split at h
 ·rename_i b o len cap n
  try dsimp only at h
  split at h
  ·rename_i hc
   try dsimp only at h
   split at h
   ·rename_i cs e k hb
    try dsimp only at h
    split at h
    ·rename_i hlen
     try dsimp only at h
     split at h
     ·rename_i rows hrows
      cases h;obtain⟨hl,h1⟩:=ha
      match args',hl with
      |[a',b'],_=>
       obtain rfl:=(h1 1 _ b' rfl rfl).lJ rfl
       have hv:=h1 0 _ a' rfl rfl;cases hv with
       |same hls=>simp[gK] at hls
       |slice0=>omega
       | @slice _ _ _ _ cap' pl hpl hn hcc hroom=>
        obtain⟨ccs,ce,lo,hi,ho,hcv,_,_,_⟩:=hr.blk b pl _ hpl hb;obtain⟨hz,h16⟩:=Ut _ _ hrows;have hzl:rows.length=len:=by
         have:=congrArg List.length hz;simp at this;omega
        obtain⟨n',rfl⟩: ∃n':Nat,n=n':=⟨n.toNat,by omega⟩
        have hin: ∀i,i<len->w.cell? ⟨pl.c,pl.base+o+i,none⟩=some (.int .u16 (rows.getD i 0:Nat)):=by
         intro i hi;have hzi:rows[i]? =some rows[i]:=aOW (by omega)
         have h2:cs[o+i]? =some (.int .u16 (rows[i]:Nat)):=by
          have:=congrArg (·[i]?) hz
          simp only[List.getElem?_take,List.getElem?_drop,aO7,hzi,if_pos hi,Option.map_some] at this;exact this
         obtain⟨v',h3,h4⟩:=hcv (o+i) _ h2;have h5:=h4.lJ rfl;subst h5;rw[Aw ho,aOY,hzi,Nat.add_assoc];exact h3
        have hcall:=(callsIn_wide (n:=6)).1 (aFy pl.c (pl.base+o) len cap' n' (by omega) (by omega) (by omega) (by omega) (by omega) w (Vn hr.Ht) rows hzl h16 (hr.lt b pl hpl) hin)
        refine hcall.mono λe w' ⟨h2,hB,hrow⟩=>⟨_,h2,ρ.upd H.length ⟨w.heap.size,0,some (1,n')⟩,?_,?_⟩
        ·have:=Vr.slice (ρ:=ρ.upd H.length ⟨w.heap.size,0,some (1,n')⟩) (o:=0) (n:=n') (cap:=n') (cap':=n') (Ren.oT _ _ _) (aOZ _) (aOZ _) (by
          intro e' T hT;simp only[aPl,Prod.mk.injEq] at hT;obtain⟨rfl,rfl⟩:=hT;simp)
         simpa using this
        ·have hlt:w.heap.size<w'.heap.size:=(aPj.mp hrow).1
         have hcell:prog.cellsOf 23=1:=by kernel_rfl
         refine Step.Hy hr (hfree _ (aOZ _) (by simp)) (aOZ _) hB.size hlt (λc hc=>hB.block c hc) ?_ (by simp) hB.os hB.tape hB.output
         refine⟨_,_,0,0,hrow,λi v hi=> ?_,λ_ off _=>by omega,λ_=> ?_,λhk=>absurd rfl hk⟩
         ·refine⟨v,?_,?_⟩
          ·rw[<-hi,aPm,<-aGm,<-hzl,Array.getElem?_toList]
           simp
          ·rw[aO7] at hi
           cases hx:(j9 rows (n':Int).toNat)[i]? with
           |none=>rw[hx] at hi;cases hi
           |some z=>
            rw[hx] at hi;cases hi;exact .oS rfl
         ·show some (1,n')=some (prog.cellsOf 23,_)
          rw[hcell,U1]
     ·cases h
    ·cases h
   ·cases h
  ·cases h
 ·cases h
theorem Vo {P:Program}{g:FuncId}{p:List Value->aC->Option (Value×aC)}{pr:jH}(h:PrimsOk P pr)(hm: ∀args H v H',p args H=some (v,H')->H.length<=H'.length)
  (hs: ∀args H v H',p args H=some (v,H')-> ∀ρ w args',Rel P ρ (dI H) w->Vrs ρ args args'->(∀b,H.length<=b->b<H'.length->ρ b=none)->xG P (.func g) args'.toArray w (Post P ρ H w v H')):PrimsOk P (qG g p pr):=by
 constructor
 ·intro f q hf args H v H' hp
  cases f with
  |func k=>
   by_cases hk:k=g
   ·simp only[qG,if_pos hk] at hf
    cases hf;exact hm _ _ _ _ hp
   ·simp only[qG,if_neg hk] at hf
    exact h.mono _ _ hf _ _ _ _ hp
  |_=>cases hf
 ·intro f q hf args H v H' hp ρ w args' hr ha hfree
  cases f with
  |func k=>
   by_cases hk:k=g
   ·simp only[qG,if_pos hk] at hf
    cases hf;subst hk;exact hs _ _ _ _ hp _ _ _ hr ha hfree
   ·simp only[qG,if_neg hk] at hf
    exact h.sound _ _ hf _ _ _ _ hp _ _ _ hr ha hfree
  |_=>cases hf
theorem Vm:PrimsOk prog pkN:=
 Vo (Vo aGi (λ_ _ _ _ h=>aGp h) λ_ _ _ _ h _ _ _ hr ha hf=>aGq h hr ha hf) (λ_ _ _ _ h=>by rw[aGk h];exact aOZ _) λ_ _ _ _ h _ _ _ hr ha _=>aGl h hr ha
end Go.Proofs.YtkeilicinggjmaaGreatDoor
namespace Go.Proofs.YtkeilicinggjmaaGreatDoor
open Go.Proofs.Tryz
open Go.Abs
theorem szI:prog.cellsOf 3=1:=by kernel_rfl
theorem aGz:prog.cellsOf 34=2:=by kernel_rfl
abbrev Ed:=Int×Int
def edC (e:Ed):List Value:=[.int .i64 e.1,.int .i64 e.2]
theorem sZ (e:Ed):(edC e).length=2:=rfl
theorem Kx (e:Ed):dZ (edC e)=true:=rfl
def edV (e:Ed):Value:= .agg ⟨edC e⟩
abbrev Is (H:aC)(v:Value)(xs:List Int):=Rs inC 3 H v xs
abbrev Iw (H:aC)(v:Value)(xs:List Int):=Rw inC 3 1 H v xs
abbrev Es (H:aC)(v:Value)(xs:List Ed):=Rs edC 34 H v xs
abbrev Ew (H:aC)(v:Value)(xs:List Ed):=Rw edC 34 2 H v xs
def vC (u:Value):List Value:=[u]
theorem aGA (u:Value):(vC u).length=1:=rfl
def Rows (H:aC)(v:Value)(xss:List (List Int)):Prop:= ∃us,Rs vC 25 H v us/\us.length=xss.length/\ ∀(i:Nat)(u:Value)(xs:List Int),us[i]? =some u->xss[i]? =some xs->Is H u xs
theorem Rows.ext {H H':aC}{v:Value}{xss:List (List Int)}(h:Rows H v xss)(he:Ext H H'):Rows H' v xss:=by
 obtain⟨us,h1,h2,h3⟩:=h
 exact⟨us,h1.ext he,h2,λi u xs hu hx=>(h3 i u xs hu hx).ext he⟩
theorem Rows.Vp {H:aC}{v:Value}{xss:List (List Int)}(h:Rows H v xss):bM v=some (.int .i64 xss.length):=by
 obtain⟨us,h1,h2,h3⟩:=h;rw[h1.gO,h2]
theorem Rows.Em {H:aC}{v:Value}{xss:List (List Int)}(h:Rows H v xss){i:Nat}{xs:List Int}(hx:xss[i]? =some xs)(k:IntKind): ∃p u,aR 1 v (.int k i)=some p/\ld1 p H=some (u,H)/\Is H u xs:=by
 obtain⟨us,h1,h2,h3⟩:=h;have hi:=(aOU.mp hx).1;have hu:us[i]? =some us[i]:=aOW (by omega)
 obtain⟨b,o,g1,g2,g3⟩:=h1.iG aGA hu k;have:=(g3 H rfl).2.1 0 us[i] rfl
 exact⟨_,_,g1,this,h3 i _ _ hu hx⟩
structure PlanD where
 nodes:Int
 edges:List Ed
 lanes:Int
 room:Int
 queue:Int
 rounds:Int
 every:Int
 bag:Int
 weights:List Int
 start:Int
 next:List (List Int)
def plC (p:PlanD)(ev wv nv:Value):List Value:=[.int .i64 p.nodes,ev,.int .i64 p.lanes,.int .i64 p.room,.int .i64 p.queue,.int .i64 p.rounds,.int .i64 p.every,.int .i64 p.bag,wv,.int .u16 p.start,nv]
def plV (p:PlanD)(ev wv nv:Value):Value:= .agg ⟨plC p ev wv nv⟩
def plB (p:PlanD)(ev wv nv:Value):Blk:= .cells (plC p ev wv nv) 28 .fix
structure PV (H:aC)(p:PlanD)(ev wv nv:Value):Prop where
 e:Es H ev p.edges
 w:Is H wv p.weights
 n:Rows H nv p.next
 be:p.edges.length<=17592186043000
 bw:p.weights.length<=17592186044500
 bn:p.next.length<=17592186043000
theorem PV.ext {H H':aC}{p:PlanD}{ev wv nv:Value}(h:PV H p ev wv nv)(he:Ext H H'):PV H' p ev wv nv:=⟨h.e.ext he,h.w.ext he,h.n.ext he,h.be,h.bw,h.bn⟩
theorem lS (p:PlanD)(ev wv nv:Value):Blk.cells (plV p ev wv nv).cells.toList 28 .fix=plB p ev wv nv:=rfl
theorem eU {H:aC}{b:Nat}{p:PlanD}{ev wv nv:Value}(h:H[b]? =some (plB p ev wv nv))(j:Nat)(v:Value)(hv:(plC p ev wv nv)[j]? =some v):ld1 (.pointer (some ⟨b,j,none⟩)) H=some (v,H):=by
 rw[kV,h];unfold plB;rw[uO,hv,xM]
theorem kX {H:aC}{b:Nat}{p:PlanD}{ev wv nv:Value}(h:H[b]? =some (plB p ev wv nv)):ldN 11 (.pointer (some ⟨b,0,none⟩)) H=some (plV p ev wv nv,H):=by
 rw[rV,h];unfold plB;rw[sO _ _ _ _ _ (by simp[plC])]
 rfl
theorem gZ (H:aC)(x:Blk):(H++[x])[H.length]? =some x:=by simp
theorem hZ {H H':aC}{b:Nat}{x:Blk}(h:H[b]? =some x)(he:Ext H H'):H'[b]? =some x:=by
 rw[he.2 b (aOU.mp h).1 id,h]
def wi (x lo hi:Int):Bool:=decide (lo<=x)&&decide (x<=hi)
def uW (p:PlanD):Bool:=wi p.nodes 2 6&&(wi p.lanes 1 3&&(wi p.room 1 8&&(wi p.queue 1 8&&(wi p.rounds 1 4&&(wi p.every 1 8&&wi p.bag 1 64)))))
section
variable {H : aC} {m : Nat} {p : PlanD} {ev wv nv : Value}
theorem Vt (hm:0<m)(x lo hi:Int)(H:aC):lvl prog cF m (.func 121) [.int .i64 x,.int .i64 lo,.int .i64 hi] H=some (.bool (wi x lo hi),H):=by
 refine dF (iH rfl rfl) hm ?_;rw[aFz];unfold wi;by_cases h:lo<=x
 ·simp only[gsR,h,decide_true,aPh]
 ·simp only[gsR,h,decide_false,Bool.false_and]
theorem aGy (hm:1<m)(p:PlanD)(ev wv nv:Value):lvl prog cF m (.func 128) [plV p ev wv nv] H=some (.bool (uW p),H++[plB p ev wv nv]):=by
 refine dF (iH rfl rfl) (by omega) ?_
 have w:=λx lo hi H=>Vt (m:=m-1) (by omega) x lo hi H
 have hb:=gZ H (plB p ev wv nv);have l0:=eU hb 0 _ rfl;have l2:=eU hb 2 _ rfl;have l3:=eU hb 3 _ rfl;have l4:=eU hb 4 _ rfl;have l5:=eU hb 5 _ rfl;have l6:=eU hb 6 _ rfl;have l7:=eU hb 7 _ rfl;rw[aFB];unfold uW;cases c1:wi p.nodes 2 6 with
 |false=>simp only[gsR,lS,w,l0,l2,l3,l4,l5,l6,c1,Bool.false_and,aPh]
 |true=>
   cases c2:wi p.lanes 1 3 with
   |false=>simp only[gsR,lS,w,l0,l2,l3,l4,l5,l6,c1,c2,Bool.false_and,aPh]
   |true=>
     cases c3:wi p.room 1 8 with
     |false=>simp only[gsR,lS,w,l0,l2,l3,l4,l5,l6,c1,c2,c3,Bool.false_and,aPh]
     |true=>
       cases c4:wi p.queue 1 8 with
       |false=>simp only[gsR,lS,w,l0,l2,l3,l4,l5,l6,c1,c2,c3,c4,Bool.false_and,aPh]
       |true=>
         cases c5:wi p.rounds 1 4 with
         |false=>simp only[gsR,lS,w,l0,l2,l3,l4,l5,l6,c1,c2,c3,c4,c5,Bool.false_and,aPh]
         |true=>
           cases c6:wi p.every 1 8 with
           |false=>simp only[gsR,lS,w,l0,l2,l3,l4,l5,l6,c1,c2,c3,c4,c5,c6,Bool.false_and,aPh]
           |true=>
             simp only[gsR,lS,w,l0,l2,l3,l4,l5,l6,l7,c1,c2,c3,c4,c5,c6,aPh]
def fst (p:Nat->Bool):Nat->Nat->Int
 |0,_=> -1
 |q+1,i=>if p i=true then i else fst p q (i+1)
theorem Ky (p:Nat->Bool): ∀q i,(0<=fst p q i)↔ ∃j,i<=j/\j<i+q/\p j=true
 |0,i=>by simp[fst];omega
 |q+1,i=>by
  unfold fst;by_cases h:p i=true
  ·rw[if_pos h]
   exact⟨λ_=>⟨i,by omega,by omega,h⟩,λ_=>by omega⟩
  ·rw[if_neg h,Ky p q (i+1)]
   constructor
   ·rintro ⟨j,h1,h2,h3⟩
    exact⟨j,by omega,by omega,h3⟩
   ·rintro ⟨j,h1,h2,h3⟩
    have:j≠i:=λhh=>h (hh▸h3)
    exact⟨j,by omega,by omega,h3⟩
theorem Eo (p:Nat->Bool)(n:Nat):decide (0<=fst p n 0)=(List.range n).any p:=by
 rw[Bool.eq_iff_iff,decide_eq_true_iff,Ky,List.any_eq_true];constructor
 ·rintro ⟨j,h1,h2,h3⟩
  exact⟨j,aPy.mpr (by omega),h3⟩
 ·rintro ⟨j,h1,h2⟩
  exact⟨j,by omega,by have:=aPy.mp h1;omega,h2⟩
theorem Bm {α:Type}(xs:List α)(q:α->Bool)(p:Nat->Bool)(h: ∀i x,xs[i]? =some x->p i=q x):(List.range xs.length).any p=xs.any q:=by
 rw[Bool.eq_iff_iff,List.any_eq_true,List.any_eq_true];constructor
 ·rintro ⟨i,h1,h2⟩
  have hi:=aPy.mp h1;have hx:xs[i]? =some xs[i]:=aOW hi
  exact⟨xs[i],List.getElem_mem hi,by rw[<-h i _ hx];exact h2⟩
 ·rintro ⟨x,h1,h2⟩
  obtain⟨i,hi⟩:=List.getElem?_of_mem h1
  exact⟨i,aPy.mpr (aOU.mp hi).1,by rw[h i x hi];exact h2⟩
theorem aGv {v fv:Value}{n:Nat}(p:Nat->Bool)(hd: ∀i,i<n-> ∃a u,aR 1 v (.int .i64 (i:Nat))=some a/\ld1 a H=some (u,H)/\oH (lvl prog cF m) fv [u] H=some (.bool (p i),H))(hn:n<=72057594037927936): ∀(q i k:Nat),n-i=q->i<=n->q<k-> ∀(x2 x3 x4 x5 x6 x9 bK bN bC aO aP aM aS bI aN:Value),
  aI k (aK prog (lvl prog cF m) (aI m) J6) (Ee (lvl prog cF m) (aI m)) [v,fv,x2,x3,x4,x5,x6,(.int .i64 n),(.int .i64 (i:Nat)),x9,bK,bN,bC,aO,aP,aM,aS,bI,aN] H=some (.int .i64 (fst p q i),H):=by
 intro q;induction q with
 |zero=>
  intro i k hr hi hk;intros;obtain⟨k,rfl⟩:=aB k (by omega)
  obtain rfl:i=n:=by omega
  have e:decide ((i:Int)<i)=false:=by simp
  rw[dY,U5];simp only[gsR,e];rw[aFG];rfl
 |succ q ih=>
  intro i k hr hi hk;intros;obtain⟨k,rfl⟩:=aB k (by omega)
  have e:decide ((i:Int)<n)=true:=by simp;omega
  have e3:=aA (i:=i) (by omega)
  obtain⟨a,u,g1,g2,g3⟩:=hd i (by omega)
  rw[dY,U5];unfold fst;cases h:p i with
  |true=>
   rw[h] at g3;simp only[gsR,e,g1,g2,g3,if_true];rw[aFI];rfl
  |false=>
   rw[h] at g3;simp only[gsR,e,g1,g2,g3,cC,e3,Bool.false_eq_true,if_false];exact ih (i+1) k (by omega) (by omega) (by omega) ..
theorem Vq {v fv:Value}{n:Nat}(p:Nat->Bool)(hl:bM v=some (.int .i64 n))(hn:n+10<m)(hm:m<=72057594037927936)(hd: ∀i,i<n-> ∃a u,aR 1 v (.int .i64 (i:Nat))=some a/\ld1 a H=some (u,H)/\oH (lvl prog cF (m-1-1)) fv [u] H=some (.bool (p i),H)):
  lvl prog cF m (.func 80) [v,fv] H=some (.bool ((List.range n).any p),H):=by
 have g:lvl prog cF (m-1) (.func 133) [v,fv] H=some (.int .i64 (fst p n 0),H):=by
  refine dF (iH rfl rfl) (by omega) ?_
  rw[aFH];simp only[gsR,hl];exact aGv p hd (by omega) n 0 (m-1-1) (by omega) (by omega) (by omega) ..
 refine dF (iH rfl rfl) (by omega) ?_
 rw[aF9];simp only[gsR,g,Eo]
theorem aGw {v fv:Value}{n:Nat}(p:Nat->Bool)(hd: ∀i,i<n-> ∃a u,aR 1 v (.int .i64 (i:Nat))=some a/\ld1 a H=some (u,H)/\oH (lvl prog cF m) fv [u] H=some (.bool (p i),H))(hn:n<=72057594037927936): ∀(q i k:Nat),n-i=q->i<=n->q<k-> ∀(x2 x3 x4 x5 x6 x9 bK bN bC aO aP aM aS bI aN:Value),
  aI k (aK prog (lvl prog cF m) (aI m) J7) (Eh (lvl prog cF m) (aI m)) [v,fv,x2,x3,x4,x5,x6,(.int .i64 n),(.int .i64 (i:Nat)),x9,bK,bN,bC,aO,aP,aM,aS,bI,aN] H=some (.int .i64 (fst p q i),H):=by
 intro q;induction q with
 |zero=>
  intro i k hr hi hk;intros;obtain⟨k,rfl⟩:=aB k (by omega)
  obtain rfl:i=n:=by omega
  have e:decide ((i:Int)<i)=false:=by simp
  rw[dY,U6];simp only[gsR,e];rw[aFK];rfl
 |succ q ih=>
  intro i k hr hi hk;intros;obtain⟨k,rfl⟩:=aB k (by omega)
  have e:decide ((i:Int)<n)=true:=by simp;omega
  have e3:=aA (i:=i) (by omega)
  obtain⟨a,u,g1,g2,g3⟩:=hd i (by omega)
  rw[dY,U6];unfold fst;cases h:p i with
  |true=>
   rw[h] at g3;simp only[gsR,e,g1,g2,g3,if_true];rw[aFM];rfl
  |false=>
   rw[h] at g3;simp only[gsR,e,g1,g2,g3,cC,e3,Bool.false_eq_true,if_false];exact ih (i+1) k (by omega) (by omega) (by omega) ..
theorem aGr {v fv:Value}{n:Nat}(p:Nat->Bool)(hl:bM v=some (.int .i64 n))(hn:n+10<m)(hm:m<=72057594037927936)(hd: ∀i,i<n-> ∃a u,aR 1 v (.int .i64 (i:Nat))=some a/\ld1 a H=some (u,H)/\oH (lvl prog cF (m-1-1)) fv [u] H=some (.bool (p i),H)):
  lvl prog cF m (.func 130) [v,fv] H=some (.bool ((List.range n).any p),H):=by
 have g:lvl prog cF (m-1) (.func 160) [v,fv] H=some (.int .i64 (fst p n 0),H):=by
  refine dF (iH rfl rfl) (by omega) ?_
  rw[aFL];simp only[gsR,hl];exact aGw p hd (by omega) n 0 (m-1-1) (by omega) (by omega) (by omega) ..
 refine dF (iH rfl rfl) (by omega) ?_
 rw[aFE];simp only[gsR,g,Eo]
theorem Vs (a b:Ed):bin prog .eql 34 (edV a) (edV b)=some (.bool (a==b)):=by
 have k:sE prog 34=some [true,true]:=by kernel_rfl
 obtain⟨a1,a2⟩:=a;obtain⟨b1,b2⟩:=b;simp[bin,edV,eC,o9,k,eqT,edC];rfl
theorem aGx {v:Value}{xs:List Ed}{a:Nat}{y:Ed}(hx:Es H v xs)(ha:H[a]? =some (.cells (edC y) 34 .fix))(hn:xs.length<=72057594037927936): ∀(q i k:Nat),xs.length-i=q->i<=xs.length->q<k-> ∀(x1 x2 x4 x5 x6 x9 bK bN bC aO aP aM aS bI aN:Value),
  aI k (aK prog (lvl prog cF m) (aI m) Km) (Ek (lvl prog cF m) (aI m)) [v,x1,x2,(.pointer (some ⟨a,0,none⟩)),x4,x5,x6,(.int .i64 xs.length),(.int .i64 (i:Nat)),x9,bK,bN,bC,aO,aP,aM,aS,bI,aN] H=some (.int .i64 (fst (λj=>xs[j]? ==some y) q i),H):=by
 intro q;have la:ldN 2 (.pointer (some ⟨a,0,none⟩)) H=some (edV y,H):=by
  rw[rV,ha,sO _ _ _ _ _ (by simp[edC])]
  rfl
 induction q with
 |zero=>
  intro i k hr hi hk;intros;obtain⟨k,rfl⟩:=aB k (by omega)
  obtain rfl:i=xs.length:=by omega
  have e:decide ((xs.length:Int)<xs.length)=false:=by simp
  rw[dY,Ve];simp only[gsR,e];rw[aFZ];rfl
 |succ q ih=>
  intro i k hr hi hk;intros;obtain⟨k,rfl⟩:=aB k (by omega)
  have e:decide ((i:Int)<xs.length)=true:=by simp;omega
  have e3:=aA (i:=i) (by omega)
  have hxi:xs[i]? =some xs[i]:=aOW (by omega)
  obtain⟨b,o,g1,g2,g3⟩:=hx.iG sZ hxi .i64;have l1:ldN 2 (.pointer (some ⟨b,o,none⟩)) H=some (edV xs[i],H):=(g3 H rfl).1;rw[dY,Ve];unfold fst;by_cases h:y=xs[i]
  ·have d:(y==xs[i])=true:=by rw[h];simp
   have d2:(xs[i]? ==some y)=true:=by rw[hxi,h];simp
   simp only[gsR,e,la,g1,l1,Vs,d];rw[aF1,if_pos d2];rfl
  ·have d:(y==xs[i])=false:=by simpa using h
   have d2: ¬(xs[i]? ==some y)=true:=by rw[hxi];simpa using λhh=>h hh.symm
   simp only[gsR,e,la,g1,l1,Vs,d,cC,e3];rw[if_neg d2];exact ih (i+1) k (by omega) (by omega) (by omega) ..
theorem aGu {v:Value}{xs:List Ed}(hx:Es H v xs)(y:Ed)(hn:xs.length+10<m)(hm:m<=72057594037927936): ∃H',lvl prog cF m (.func 159) [v,edV y] H=some (.bool (xs.any λx=>x==y),H')/\Ext H H':=by
 have c:Blk.cells (edV y).cells.toList 34 .fix= .cells (edC y) 34 .fix:=rfl;have b0:=gZ H (.cells (edC y) 34 .fix);have l0:ldN 2 (.pointer (some ⟨H.length,0,none⟩)) (H++[.cells (edC y) 34 .fix])=some (edV y,H++[.cells (edC y) 34 .fix]):=by
  rw[rV,b0,sO _ _ _ _ _ (by simp[edC])]
  rfl
 obtain⟨H1,hH1⟩: ∃H1,H1=H++[Blk.cells (edC y) 34 .fix]:=⟨_,rfl⟩;have x1:Ext H H1:=by rw[hH1];exact Fr.app _ _ _
 have x2:Ext H (H1++[.cells (edC y) 34 .fix]):=x1.tr (Fr.app _ _ _);have hx2:=hx.ext x2;have hlen:=hx.gO;have g:lvl prog cF (m-1) (.func 182) [v,edV y] H1=some (.int .i64 (fst (λj=>xs[j]? ==some y) xs.length 0),H1++[.cells (edC y) 34 .fix]):=by
  refine dF (iH rfl rfl) (by omega) ?_
  rw[aF0];simp only[gsR,c,hlen];exact aGx hx2 (gZ H1 _) (by omega) xs.length 0 (m-1-1) (by omega) (by omega) (by omega) ..
 refine⟨_,dF (iH rfl rfl) (by omega) ?_,x2⟩
 rw[aFJ];have hb:decide (0<=fst (λj=>xs[j]? ==some y) xs.length 0)=xs.any λx=>x==y:=by
  rw[Eo];exact Bm xs _ _ λi x h=>by rw[h];rfl
 rw[<-hH1] at l0;simp only[gsR,c,<-hH1,l0,g,hb]
def uV (n:Int):List Ed->List Ed->Bool
 |_,[]=>true
 |old,e::r=>(!(decide (e.1<0)||(decide (e.2<=e.1)||(decide (n<=e.2)||old.any λx=>x==e))))&&uV n (old++[e]) r
def xZ (p:PlanD):Bool:=uV p.nodes [] p.edges&&decide ((p.edges.length:Int)<=15)
theorem aGt {a:Nat}(hx:Es H ev p.edges)(hn:p.edges.length+20<m)(hm:m<=72057594037927936): ∀(q i k:Nat)(H':aC),p.edges.length-i=q->i<=p.edges.length->q<k->Ext H H'->H'[a]? =some (plB p ev wv nv)-> ∀(x0 x3 x4 x5 x9 bK bN bC aO aP aM aS bI aN bG bJ bL bH bE aT aU aV aW aX aY aZ bA bB bO bP bQ bR bS bT bU bV bX bY:Value),
  ∃H2,aI k (aK prog (lvl prog cF m) (aI m) J5) (Eb (lvl prog cF m) (aI m)) [x0,(.pointer (some ⟨a,0,none⟩)),(.bool false),x3,x4,x5,ev,(.int .i64 p.edges.length),(.int .i64 (i:Nat)),x9,bK,bN,bC,aO,aP,aM,aS,bI,aN,bG,bJ,bL,bH,bE,aT,aU,aV,aW,aX,aY,aZ,bA,bB,bO,bP,bQ,bR,bS,bT,bU,bV,bX,bY] H'=some (.bool (uV p.nodes (p.edges.take i) (p.edges.drop i)&&decide ((p.edges.length:Int)<=15)),H2)/\Ext H H2:=by
 intro q;induction q with
 |zero=>
  intro i k H' hr hi hk he ha;intros;obtain⟨k,rfl⟩:=aB k (by omega)
  obtain rfl:i=p.edges.length:=by omega
  have e:decide ((p.edges.length:Int)<p.edges.length)=false:=by simp
  have l1:=eU ha 1 _ rfl;have hlen:=hx.gO;refine⟨H',?_,he⟩;rw[dY,U4];simp only[gsR,e];rw[aFC];rw[List.drop_length,uV,aPh];simp only[gsR,l1,hlen]
 |succ q ih=>
  intro i k H' hr hi hk he ha;intros;obtain⟨k,rfl⟩:=aB k (by omega)
  have e:decide ((i:Int)<p.edges.length)=true:=by simp;omega
  have e3:=aA (i:=i) (by omega)
  have hxi:p.edges[i]? =some p.edges[i]:=aOW (by omega)
  obtain⟨b,o,g1,g2,g3⟩:=(hx.ext he).iG sZ hxi .i64;obtain⟨y,hy⟩: ∃y,y=p.edges[i]:=⟨_,rfl⟩;have l1:ldN 2 (.pointer (some ⟨b,o,none⟩)) H'=some (edV y,H'):=by rw[hy];exact(g3 H' rfl).1
  have hdrop:p.edges.drop i=y::p.edges.drop (i+1):=by rw[hy];exact List.drop_eq_getElem_cons (by omega)
  have htake:p.edges.take i++[y]=p.edges.take (i+1):=by rw[List.take_add_one,hxi,hy];rfl
  have z:Blk.cells [Value.int .i64 0,.int .i64 0] 34 .fix= .cells (edC (0,0)) 34 .fix:=rfl;have st:stN 2 (.pointer (some ⟨H'.length,0,none⟩)) (edV y) (H'++[.cells (edC (0,0)) 34 .fix])=some (undef,H'++[.cells (edC y) 34 .fix]):=by
   rw[mS 2 _ _ _ rfl,gZ,n9 _ _ _ _ _ _ (by decide) (by simp[edC,edV,Value.cells]) rfl]
   simp[edC,edV,Value.cells,eT]
  obtain⟨H1,hH1⟩: ∃H1,H1=H'++[Blk.cells (edC y) 34 .fix]:=⟨_,rfl⟩;rw[<-hH1] at st;have x1:Ext H' H1:=by rw[hH1];exact Fr.app _ _ _
  have hb1:H1[H'.length]? =some (.cells (edC y) 34 .fix):=by rw[hH1];exact gZ _ _
  have la:ld1 (.pointer (some ⟨H'.length,0,none⟩)) H1=some (.int .i64 y.1,H1):=by rw[kV,hb1];rfl
  have lb:ld1 (.pointer (some ⟨H'.length,1,none⟩)) H1=some (.int .i64 y.2,H1):=by rw[kV,hb1];rfl
  have lab:ldN 2 (.pointer (some ⟨H'.length,0,none⟩)) H1=some (edV y,H1):=by
   rw[rV,hb1,sO _ _ _ _ _ (by simp[edC])]
   rfl
  have ha1:=hZ ha x1;have p0:=eU ha1 0 _ rfl;have p1:=eU ha1 1 _ rfl;obtain⟨v',s1,s2,s3⟩:=((hx.ext he).ext x1).D0 (P:=prog) sZ aGz (λh=>by have:=congrArg List.length h;simp only[List.length_nil] at this;omega) (lo:=none) rfl (oA p.edges.length .i64 i) (Nat.zero_le _) (by omega)
  rw[List.drop_zero] at s2;obtain⟨H2,t1,t2⟩:=aGu s2 y (m:=m) (by rw[List.length_take];omega) hm
  rw[dY,U4,hdrop,uV,htake];by_cases c1:y.1<0
  ·refine⟨H1,?_,he.tr x1⟩
   simp only[gsR,e,g1,l1,z,st,la,lb,c1,decide_true,Bool.true_or,Bool.false_and];rw[Ec];rfl
  ·by_cases c2:y.2<=y.1
   ·refine⟨H1,?_,he.tr x1⟩
    simp only[gsR,e,g1,l1,z,st,la,lb,c1,c2,decide_true,decide_false,Bool.false_or,Bool.true_or,Bool.false_and];rw[Ec];rfl
   ·by_cases c3:p.nodes<=y.2
    ·refine⟨H1,?_,he.tr x1⟩
     simp only[gsR,e,g1,l1,z,st,la,lb,p0,c1,c2,c3,decide_true,decide_false,Bool.false_or,Bool.true_or,Bool.false_and];rw[Ec];rfl
    ·cases c4:(p.edges.take i).any λx=>x==y with
     |true=>
      rw[c4] at t1;refine⟨H2,?_,(he.tr x1).tr t2⟩;simp only[gsR,e,g1,l1,z,st,la,lb,lab,p0,p1,s1,t1,c1,c2,c3,decide_true,decide_false,Bool.false_or,Bool.false_and];rw[Ec];rfl
     |false=>
      rw[c4] at t1;simp only[gsR,e,g1,l1,z,st,la,lb,lab,p0,p1,s1,t1,c1,c2,c3,decide_false,Bool.false_or,aPh,cC,e3];exact ih (i+1) k H2 (by omega) (by omega) (by omega) ((he.tr x1).tr t2) (hZ ha1 t2) ..
theorem aGs (hp:PV H p ev wv nv)(hn:p.edges.length+20<m-1)(hm:m<=72057594037927936): ∃H',lvl prog cF m (.func 129) [plV p ev wv nv] H=some (.bool (xZ p),H')/\Ext H H':=by
 refine lK (iH rfl rfl) (by omega) ?_
 have hb:=gZ H (plB p ev wv nv);have l1:=eU hb 1 _ rfl;have hlen:=hp.e.gO;rw[aFD];simp only[gsR,lS,l1,hlen];exact aGt hp.e (m:=m-1) hn (by omega) p.edges.length 0 (m-1) _ (by omega) (by omega) (by omega) (Fr.app _ _ _) hb ..
end
def q8 (n:Int):Bool:=decide (n<1)||decide (5<n)
def wOk (ws:List Int):Bool:= !(decide ((ws.length:Int)=0)||(decide ((3:Int)<ws.length)||ws.any q8))
def wE (p:PlanD):Bool:= !(p.next.any λr=>decide ((r.length:Int)≠p.nodes))
def kY (p:PlanD):Bool:=uW p&&(xZ p&&(decide ((p.weights.length:Int)=p.lanes)&&(wOk p.weights&&(decide ((p.next.length:Int)=p.nodes)&&wE p))))
def wD (b:Bool):Int:=if b=true then 0 else 120
section
variable {H : aC} {m : Nat} {p : PlanD} {ev wv nv : Value}
theorem Vv (hm:0<m)(n:Int)(H:aC):lvl prog cF m (.func 79) [.int .i64 n] H=some (.bool (q8 n),H):=by
 refine dF (iH rfl rfl) hm ?_;rw[aF8];unfold q8;by_cases h:n<1
 ·simp only[gsR,h,decide_true,Bool.true_or]
 ·simp only[gsR,h,decide_false,Bool.false_or]
theorem aGB (b o n c:Nat):bin prog .eql 25 (.slice (some ⟨b,o,none⟩) n c) (.slice none 0 0)=some (.bool false):=by
 have h1:prog.underlying 25=some (.slice 3):=by kernel_rfl
 simp[bin,eC,o9,nY,eqV,h1]
theorem Ep {v:Value}{xs:List Int}(hx:Is H v xs)(hne:xs≠[])(hl:xs.length<=1000)(hm:0<m): ∃H' u,lvl prog cF m (.func 81) [v] H=some (u,H')/\Ext H H'/\Iw H' u xs/\New H u:=by
 have hv: ∃b o c,v= .slice (some ⟨b,o,none⟩) xs.length c:=by
  rcases hx with⟨_,h⟩|⟨b,o,cap,h,_⟩
  ·exact absurd h hne
  ·exact⟨b,o,cap,h⟩
 have b0:dL 3 1 0 [.int .i64 0] [] H=some (.slice (some ⟨H.length,0,none⟩) 0 0,H++[.cells [] 3 .row]):=rfl;have h0:Iw (H++[.cells [] 3 .row]) (.slice (some ⟨H.length,0,none⟩) 0 0) []:=⟨rfl,.inr ⟨H.length,0,[],rfl,aOZ _,rfl,by simp⟩⟩
 obtain⟨u,H',g1,g2,g3,g4⟩:=h0.vY jK pC (by decide) (by':=8) (H0:=H) (hx.ext (Fr.app _ _ _)) (λb ⟨_,_,_,h⟩=>by cases h;exact aOZ _) (Fr.app _ _ _) (kM (n:=1000) (by decide) (by simp;omega))
 refine jJ (iH rfl rfl) (by omega) ⟨H',u,?_,g4,g2,g3⟩
 obtain⟨b,o,c,rfl⟩:=hv;rw[aGa];simp only[gsR,aGB,b0,g1]
theorem ePW (a:Addr):bin prog .eql 90 (.pointer (some a)) (.pointer none)=some (.bool false):=Dp 90 171 (by kernel_rfl) a
theorem Kz:bin prog .eql 90 (.pointer none) (.pointer none)=some (.bool true):=Sh 90 171 (by kernel_rfl)
theorem aGC {v:Value}{ws:List Int}(hw:Is H v ws)(hl:ws.length<=17592186044500)(hm:ws.length+100<m)(hm2:m<=72057594037927936): ∃H' u,lvl prog cF m (.func 36) [v] H=some (u,H')/\Ext H H'/\bin prog .eql 90 u (.pointer none)=some (.bool (!wOk ws)):=by
 have hlen:=hw.gO;have hcf:lvl prog cF (m-1) (.func 80) [v,.func (.func 79) #[] #[]] H=some (.bool (ws.any q8),H):=by
  have:=Vq (H:=H) (m:=m-1) (v:=v) (fv:= .func (.func 79) #[] #[]) (n:=ws.length) (λi=>(ws[i]?.map q8).getD false) hlen (by omega) (by omega) (λi hi=>by
   have hx:ws[i]? =some ws[i]:=aOW hi;obtain⟨b,o,g1,g2,g3⟩:=hw.iG jK hx .i64;have l1:=(g3 H rfl).2.1 0 _ rfl;refine⟨_,_,g1,l1,?_⟩;have:=Vv (m:=m-1-1-1) (by omega) ws[i] H
   rw[hx];exact this)
  rw[this,Bm ws q8 _ λi x h=>by rw[h];rfl]
 by_cases c1:(ws.length:Int)=0
 ·have e1:((ws.length:Int)==0)=true:=by simpa using c1
  have hno:wOk ws=false:=by unfold wOk;simp only[c1,decide_true,Bool.true_or,Bool.not_true]
  refine jJ (iH rfl rfl) (by omega) ⟨H,.pointer none,?_,Fr.nC _ _,by rw[hno];exact Kz⟩
  rw[Bk];simp only[gsR,hlen,e1]
 ·have e1:((ws.length:Int)==0)=false:=by simpa using c1
  by_cases c2:(3:Int)<ws.length
  ·have hno:wOk ws=false:=by unfold wOk;simp only[c2,decide_true,Bool.true_or,Bool.or_true,Bool.not_true]
   refine jJ (iH rfl rfl) (by omega) ⟨H,.pointer none,?_,Fr.nC _ _,by rw[hno];exact Kz⟩
   rw[Bk];simp only[gsR,hlen,e1,c2,decide_true]
  ·cases c3:ws.any q8 with
   |true=>
    have hno:wOk ws=false:=by unfold wOk;simp only[c3,Bool.or_true,Bool.not_true]
    rw[c3] at hcf;refine jJ (iH rfl rfl) (by omega) ⟨H,.pointer none,?_,Fr.nC _ _,by rw[hno];exact Kz⟩
    rw[Bk];simp only[gsR,hlen,e1,c2,decide_false,hcf]
   |false=>
    have hyes:wOk ws=true:=by unfold wOk;simp only[c1,c2,c3,decide_false,Bool.or_false,Bool.not_false]
    rw[c3] at hcf;obtain⟨H1,u1,g1,g2,g3,g4⟩:=Ep (m:=m-1) hw (λh=>c1 (by rw[h];rfl)) (by omega) (by omega)
    obtain⟨H2,u2,q1,q2,q3,q4⟩:=Ep (m:=m-1) (hw.ext g2) (λh=>c1 (by rw[h];rfl)) (by omega) (by omega)
    have hb:bld prog 171 [(0,u1),(1,u2)]=some (.agg #[u1,u2,.int .i64 0]):=by
     rcases g3 with⟨_,⟨rfl,_⟩|⟨_,_,_,rfl,_⟩⟩<;>rcases q3 with⟨_,⟨rfl,_⟩|⟨_,_,_,rfl,_⟩⟩<;>rfl
    refine jJ (iH rfl rfl) (by omega) ⟨H2++[.cells (Value.agg #[u1,u2,.int .i64 0]).cells.toList 171 .fix],.pointer (some ⟨H2.length,0,none⟩),?_,(g2.tr q2).tr (Fr.app _ _ _),by rw[hyes];exact ePW _⟩
    rw[Bk];simp only[gsR,hlen,e1,c2,decide_false,hcf,g1,q1,hb]
theorem Vu (hp:PV H p ev wv nv)(hm:17592186045000<m)(hm2:m<=72057594037927936): ∃H',lvl prog cF m (.func 75) [plV p ev wv nv] H=some (.int .u16 (wD (kY p)),H')/\Ext H H':=by
 have h1:=hp.be;have h2:=hp.bw;have h3:=hp.bn;obtain⟨H0,hH0⟩: ∃H0,H0=H++[plB p ev wv nv]:=⟨_,rfl⟩;have x0:Ext H H0:=by rw[hH0];exact Fr.app _ _ _
 have b0:H0[H.length]? =some (plB p ev wv nv):=by rw[hH0];exact gZ _ _
 have l11:=kX b0;have g1:=aGy (H:=H0) (m:=m-1) (by omega) p ev wv nv
 obtain⟨H1,hH1⟩: ∃H1,H1=H0++[plB p ev wv nv]:=⟨_,rfl⟩;have x1:Ext H0 H1:=by rw[hH1];exact Fr.app _ _ _
 rw[<-hH1] at g1;have b1:=hZ b0 x1;have l11':=kX b1;obtain⟨H2,g2,x2⟩:=aGs (m:=m-1) (hp.ext (x0.tr x1)) (by omega) (by omega)
 have b2:=hZ b1 x2;have w2:=eU b2 8 _ rfl;have la2:=eU b2 2 _ rfl;have p2:=hp.ext ((x0.tr x1).tr x2);have wl:=p2.w.gO;obtain⟨H3,u3,g3,x3,g4⟩:=aGC p2.w (m:=m-1) (by omega) (by omega) (by omega)
 have b3:=hZ b2 x3;have n3:=eU b3 10 _ rfl;have no3:=eU b3 0 _ rfl;have p3:=p2.ext x3;have nl:=p3.n.Vp;have hcf:lvl prog cF (m-1) (.func 130) [nv,.func (.func 127) #[] #[.pointer (some ⟨H.length,0,none⟩)]] H3=some (.bool (p.next.any λr=>decide ((r.length:Int)≠p.nodes)),H3):=by
  have:=aGr (H:=H3) (m:=m-1) (v:=nv) (fv:= .func (.func 127) #[] #[.pointer (some ⟨H.length,0,none⟩)]) (n:=p.next.length) (λi=>(p.next[i]?.map λr=>decide ((r.length:Int)≠p.nodes)).getD false) nl (by omega) (by omega) (λi hi=>by
   have hx:p.next[i]? =some p.next[i]:=aOW hi;obtain⟨a,u,q1,q2,q3⟩:=p3.n.Em hx .i64;refine⟨a,u,q1,q2,?_⟩;have hlen:=q3.gO;have:lvl prog cF (m-1-1-1+0) (.func 127) [u,.pointer (some ⟨H.length,0,none⟩)] H3=some (.bool (decide ((p.next[i].length:Int)≠p.nodes)),H3):=by
    refine dF (iH rfl rfl) (by omega) ?_
    rw[aFA];have e:(((p.next[i].length:Nat):Int)!=p.nodes)=decide ((p.next[i].length:Int)≠p.nodes):=by
     rw[Bool.eq_iff_iff];simp
    simp only[gsR,hlen,no3,e]
   rw[hx];exact this)
  rw[this,Bm p.next (λr=>decide ((r.length:Int)≠p.nodes)) _ λi x h=>by rw[h];rfl]
 have hn1:((p.weights.length:Int)!=p.lanes)= !decide ((p.weights.length:Int)=p.lanes):=by rw[Bool.eq_iff_iff];simp
 have hn2:((p.next.length:Int)!=p.nodes)= !decide ((p.next.length:Int)=p.nodes):=by rw[Bool.eq_iff_iff];simp
 have hr:(p.next.any λr=>decide ((r.length:Int)≠p.nodes))= !wE p:=by unfold wE;rw[Bool.not_not]
 rw[hr] at hcf;have hz:wD false=120:=rfl;have hz1:wD true=0:=rfl;refine lK (iH rfl rfl) (by omega) ?_
 rw[aF7];unfold kY;cases c1:uW p with
 |false=>exact⟨H1,by simp only[gsR,lS,<-hH0,l11,g1,c1,hz,hz1,Bool.false_and,aPh],x0.tr x1⟩
 |true=>
   cases c2:xZ p with
   |false=>exact⟨H2,by simp only[gsR,lS,<-hH0,l11,g1,l11',g2,c1,c2,hz,hz1,Bool.false_and,aPh],(x0.tr x1).tr x2⟩
   |true=>
     cases c3:decide ((p.weights.length:Int)=p.lanes) with
     |false=>exact⟨H2,by simp only[gsR,lS,<-hH0,l11,g1,l11',g2,w2,wl,la2,hn1,c1,c2,c3,hz,hz1,Bool.false_and,aPh],(x0.tr x1).tr x2⟩
     |true=>
       cases c4:wOk p.weights with
       |false=>exact⟨H3,by simp only[gsR,lS,<-hH0,l11,g1,l11',g2,w2,wl,la2,hn1,g3,g4,c1,c2,c3,c4,hz,hz1,Bool.false_and,aPh],((x0.tr x1).tr x2).tr x3⟩
       |true=>
         cases c5:decide ((p.next.length:Int)=p.nodes) with
         |false=>exact⟨H3,by simp only[gsR,lS,<-hH0,l11,g1,l11',g2,w2,wl,la2,hn1,g3,g4,n3,nl,no3,hn2,c1,c2,c3,c4,c5,hz,hz1,Bool.false_and,aPh],((x0.tr x1).tr x2).tr x3⟩
         |true=>
           cases c6:wE p with
           |false=>exact⟨H3,by simp only[gsR,lS,<-hH0,l11,g1,l11',g2,w2,wl,la2,hn1,g3,g4,n3,nl,no3,hn2,hcf,c1,c2,c3,c4,c5,c6,hz,hz1,Bool.false_and,aPh],((x0.tr x1).tr x2).tr x3⟩
           |true=>
             exact⟨H3,by simp only[gsR,lS,<-hH0,l11,g1,l11',g2,w2,wl,la2,hn1,g3,g4,n3,nl,no3,hn2,hcf,c1,c2,c3,c4,c5,c6,hz,hz1,Bool.false_and,aPh],((x0.tr x1).tr x2).tr x3⟩
end
def dd:List Int->List Int
 |[]=>[]
 |[x]=>[x]
 |x::y::r=>if x=y then dd (y::r) else x::dd (y::r)
theorem V0: ∀(l:List Int)(a b:Int),dd (l++[a,b])=if a=b then dd (l++[a]) else dd (l++[a])++[b]
 |[],a,b=>by
  by_cases h:a=b<;>simp[dd,h]
 |[x],a,b=>by
  by_cases h:a=b<;>by_cases h2:x=a<;>simp[dd,h,h2]<;>simp_all
 |x::y::l,a,b=>by
  have ih:=V0 (y::l) a b;simp only[List.cons_append] at ih⊢;simp only[dd];by_cases h2:x=y
  ·rw[if_pos h2,if_pos h2,ih]
  ·rw[if_neg h2,if_neg h2,ih]
   by_cases h:a=b
   ·rw[if_pos h,if_pos h]
   ·rw[if_neg h,if_neg h]
    rfl
theorem V1 {zs:List Int}{j:Nat}{a b:Int}(h0:0<j)(ha:zs[j-1]? =some a)(hb:zs[j]? =some b):dd (zs.take (j+1))=if b=a then dd (zs.take j) else dd (zs.take j)++[b]:=by
 have e1:zs.take j=zs.take (j-1)++[a]:=by
  have:=List.take_add_one (l:=zs) (i:=j-1);rw[ha,show j-1+1=j by omega] at this
  simpa using this
 have e2:zs.take (j+1)=zs.take (j-1)++[a,b]:=by
  rw[List.take_add_one,hb,e1];simp
 rw[e2,V0,<-e1];by_cases h:a=b
 ·rw[if_pos h,if_pos h.symm]
 ·rw[if_neg h,if_neg (Ne.symm h)]
theorem Vz: ∀l:List Int,(dd l).length<=l.length
 |[]=>aOZ _
 |[x]=>aOZ _
 |x::y::r=>by
  have:=Vz (y::r);unfold dd;split
  ·simp only[aPg] at *; omega
  ·simp only[aPg] at *; omega
section
variable {H : aC} {m c cap : Nat} {ys rest : List Value}
theorem ia {o n i:Nat}(h:i<n):aR 1 (.slice (some ⟨c,o,none⟩) n cap) (.int .i64 (i:Nat))=some (.pointer (some ⟨c,o+i,none⟩)):=by
 rw[qD _ _ _ _ _ _ _ (by omega) (by omega)]
 simp
def oX (ys:List Int)(rest:List Value):Blk:= .cells (ys.map (Value.int .i64)++rest) 3 .row
theorem zO {ys:List Int}{i:Nat}{y:Int}(hc:H[c]? =some (oX ys rest))(hi:ys[i]? =some y):ld1 (.pointer (some ⟨c,i,none⟩)) H=some (.int .i64 y,H):=by
 have:=(aOU.mp hi).1;rw[kV,hc];unfold oX;rw[uO,aOX (by rw[aO8];exact this),aO7,hi]
 rfl
theorem V2 {ys:List Int}{i:Nat}(y:Int)(hc:H[c]? =some (oX ys rest))(hi:i<ys.length):stN 1 (.pointer (some ⟨c,i,none⟩)) (.int .i64 y) H=some (undef,H.set c (oX (ys.set i y) rest)):=by
 rw[mS 1 _ _ _ rfl,hc];unfold oX;have e:(Value.int .i64 y).cells.toList=[.int .i64 y]:=rfl;rw[e,n9 _ _ _ _ _ _ (by decide) (by simp;omega) rfl]
 congr 3
 simp only[eT];rw[List.set_append_left _ _ (by rw[aO8];exact hi),<-List.map_set]
theorem aGE {zs ys:List Int}{k:Nat}(hc:H[c]? =some (oX ys rest))(hy:ys.length=zs.length)(hk:k<zs.length)(hcap:zs.length<=cap)(hrest:rest.length=cap-zs.length)(hd:ys.take k=dd zs):
  ∃w H',slc prog 1 (.slice (some ⟨c,0,none⟩) zs.length cap) (some (.int .i64 (k:Nat))) none none H=some (w,H)/\clr 1 [.int .i64 0] w H=some (.tuple #[],H')/\
   slc prog 1 (.slice (some ⟨c,0,none⟩) zs.length cap) none (some (.int .i64 (k:Nat))) none H'=some (.slice (some ⟨c,0,none⟩) k cap,H')/\Iw H' (.slice (some ⟨c,0,none⟩) k cap) (dd zs)/\H'.length=H.length/\ ∀b,b≠c->H'[b]? =H[b]? :=by
 have hlt:=(aOU.mp hc).1;have g1:=uR (P:=prog) (H:=H) (o:=0) (sz:=1) (len:=zs.length) (cap:=cap) (lo:=some (.int .i64 (k:Nat))) (hi:=none) (mx:=none) (h:=zs.length) (m:=cap) (l:=k) hc (λ_=>szI) (oA 0 .i64 k) rfl rfl (by omega) (by omega) (aOZ _)
 rw[aPf,Nat.mul_one] at g1;obtain⟨H',hH'⟩: ∃H',H'=H.set c (oX (ys.take k) ((List.replicate (zs.length-k) [Value.int .i64 0]).flatten++rest)):=⟨_,rfl⟩;have hc':H'[c]? =some (oX (ys.take k) ((List.replicate (zs.length-k) [Value.int .i64 0]).flatten++rest)):=by rw[hH'];exact aO0 hlt
 have hyk:(ys.take k).length=k:=by rw[List.length_take];omega
 have g2:clr 1 [.int .i64 0] (.slice (some ⟨c,k,none⟩) (zs.length-k) (cap-k)) H=some (.tuple #[],H'):=by
  unfold clr;simp only;rw[if_neg (by omega),hc]
  unfold oX;simp only;rw[if_pos ⟨by decide,by simp;omega,rfl,rfl⟩,hH']
  congr 3
  unfold oX
  congr 1
  have hsplit:ys.map (Value.int .i64)=(ys.take k).map (Value.int .i64)++(ys.drop k).map (Value.int .i64):=by rw[<-List.map_append,List.take_append_drop]
  have hl:((List.replicate (zs.length-k) [Value.int .i64 0]).flatten).length=zs.length-k:=by simp
  rw[hsplit];have:=vX ((List.replicate (zs.length-k) [Value.int .i64 0]).flatten) ((ys.drop k).map (Value.int .i64)) ((ys.take k).map (Value.int .i64)) rest (by rw[hl,aO8,List.length_drop];omega)
  rw[aO8,hyk] at this;rw[this,aO1]
 have g3:=uR (P:=prog) (H:=H') (o:=0) (sz:=1) (len:=zs.length) (cap:=cap) (lo:=none) (hi:=some (.int .i64 (k:Nat))) (mx:=none) (h:=k) (m:=cap) (l:=0) hc' (λ_=>szI) rfl (oA _ .i64 k) rfl (by omega) (by omega) (aOZ _)
 rw[Nat.zero_mul,aPf,Nat.sub_zero,Nat.sub_zero] at g3;refine⟨_,H',g1,g2,g3,?_,by rw[hH'];simp,λb hb=>by rw[hH'];exact aOV (Ne.symm hb)⟩
 have hdl:(dd zs).length=k:=by rw[<-hd,hyk]
 refine⟨by rw[uS,aO8,Nat.mul_one],.inr ⟨c,cap,(List.replicate (zs.length-k) [Value.int .i64 0]).flatten++rest,by rw[hdl],by omega,?_,by rw[uS,hc',hd];rfl⟩⟩
 simp[hdl];omega
def Vw (H0:aC)(c cap:Nat)(zs:List Int)(v:Value)(H':aC):Prop:=Iw H' v (dd zs)/\(∀b,cR v b->b=c)/\H'.length=H0.length/\ ∀b,b≠c->H'[b]? =H0[b]?
theorem aGG {zs:List Int}{rest:List Value}{k0 kk:Nat}{H0:aC}{Q:aC->Value->Prop}(hQ: ∀H' v,Vw H0 c cap zs v H'->Q H' v)(hcap:zs.length<=cap)(hrest:rest.length=cap-zs.length)(hn:zs.length<=72057594037927936)(h1:1<=k0):
  ∀(q j t k:Nat)(H:aC)(ys:List Int),zs.length-j=q->j<=zs.length->q<k->k0<j->t<j->H[c]? =some (oX ys rest)->ys.length=zs.length->ys.take t=dd (zs.take j)->ys.drop t=zs.drop t->H.length=H0.length->(∀b,b≠c->H[b]? =H0[b]?)-> ∀(x1 x2 x6 x7 x8 x9 bK bN bC aO aP aM aS bI aN bG bJ bL bH bE aT aU aV aW aX aY aZ bA bB bO bP bQ bR bS bT bU bV bX bY cD cG cH cK cQ cS cT cM cN cO cP cW cU cV cY dA dC dB:Value),
  ∃H' v,aI k (aK prog (lvl prog cF m) (aI m) Kt) (Ku (lvl prog cF m) (aI m) (A4 kk (aK prog (lvl prog cF m) (aI m) El) (Bl (lvl prog cF m) (aI m)))) [(.slice (some ⟨c,0,none⟩) zs.length cap),x1,x2,(.int .i64 (t:Nat)),(.slice (some ⟨c,k0,none⟩) (zs.length-k0) (cap-k0)),(.int .i64 (j-k0:Nat)),x6,x7,x8,x9,bK,bN,bC,aO,aP,aM,aS,bI,aN,bG,bJ,bL,bH,bE,aT,aU,aV,aW,aX,aY,aZ,bA,bB,bO,bP,bQ,bR,bS,bT,bU,bV,bX,bY,cD,cG,cH,cK,cQ,cS,cT,cM,cN,cO,cP,cW,cU,cV,cY,dA,dC,dB] H=some (v,H')/\Q H' v:=by
 intro q;induction q with
 |zero=>
  intro j t k H ys hr hj hk hkj htj hc hy hd hdr hl hf;intros;obtain⟨k,rfl⟩:=aB k (by omega)
  obtain rfl:j=zs.length:=by omega
  rw[List.take_of_length_le (aOZ _)] at hd;obtain⟨w,H',g1,g2,g3,g4,g5,g6⟩:=aGE hc hy htj hcap hrest hd;have e:decide (((zs.length-k0:Nat):Int)<(zs.length-k0:Nat))=false:=by simp
  refine⟨H',.slice (some ⟨c,0,none⟩) t cap,?_,hQ _ _ ⟨g4,λb ⟨_,_,_,h⟩=>by cases h;rfl,by omega,λb hb=>by rw[g6 b hb,hf b hb]⟩⟩
  rw[dY,Vj];simp only[gsR,vT,e];rw[aGc];simp only[gsR,g1,g2,g3];rw[aGe];rfl
 |succ q ih=>
  intro j t k H ys hr hj hk hkj htj hc hy hd hdr hl hf;intros;obtain⟨k,rfl⟩:=aB k (by omega)
  have e:decide (((j-k0:Nat):Int)<(zs.length-k0:Nat))=true:=by simp;omega
  have e3:IntKind.i64.wrap (((j-k0:Nat):Int)+1)=((j+1-k0:Nat):Int):=by rw[dG (by omega) (by omega)];omega
  have e4:IntKind.i64.wrap (((j-k0:Nat):Int)-1)=((j-1-k0:Nat):Int):=by rw[dG (by omega) (by omega)];omega
  have e5:=aA (i:=t) (by omega)
  have get: ∀i,t<=i->ys[i]? =zs[i]? :=λi hi=>by
   have:=congrArg (·[i-t]?) hdr
   simp only[List.getElem?_drop] at this;rwa [show t+(i-t)=i by omega] at this
  have ga:ys[j-1]? =some (zs[j-1]'(by omega)):=by rw[get _ (by omega)];exact aOW (by omega)
  have gb:ys[j]? =some (zs[j]'(by omega)):=by rw[get _ (by omega)];exact aOW (by omega)
  have i1:aR 1 (.slice (some ⟨c,k0,none⟩) (zs.length-k0) (cap-k0)) (.int .i64 (j-k0:Nat))=some (.pointer (some ⟨c,j,none⟩)):=by rw[ia (by omega),show k0+(j-k0)=j by omega]
  have i2:aR 1 (.slice (some ⟨c,k0,none⟩) (zs.length-k0) (cap-k0)) (.int .i64 (j-1-k0:Nat))=some (.pointer (some ⟨c,j-1,none⟩)):=by rw[ia (by omega),show k0+(j-1-k0)=j-1 by omega]
  have i3:aR 1 (.slice (some ⟨c,0,none⟩) zs.length cap) (.int .i64 (t:Nat))=some (.pointer (some ⟨c,t,none⟩)):=by rw[ia (by omega),aPf]
  have l1:=zO hc gb;have l2:=zO hc ga;have s1:=V2 (i:=t) (zs[j]'(by omega)) hc (by omega)
  have hdt:=V1 (zs:=zs) (j:=j) (by omega) (aOW (show j-1<zs.length by omega)) (aOW (show j<zs.length by omega))
  rw[dY,Vj];by_cases hx:zs[j]'(by omega)=zs[j-1]'(by omega)
  ·have d:((zs[j]'(by omega))!=(zs[j-1]'(by omega)))=false:=by simp[hx]
   rw[if_pos hx] at hdt;simp only[gsR,vT,e,i1,l1,iM,e4,i2,l2,d,cC,e3];exact ih (j+1) t k H ys (by omega) (by omega) (by omega) (by omega) (by omega) hc hy (by rw[hdt];exact hd) hdr hl hf ..
  ·have d:((zs[j]'(by omega))!=(zs[j-1]'(by omega)))=true:=by simp[hx]
   rw[if_neg hx] at hdt;simp only[gsR,vT,e,i1,l1,iM,e4,i2,l2,d,i3,s1,cC,e3,e5];refine ih (j+1) (t+1) k _ (ys.set t (zs[j]'(by omega))) (by omega) (by omega) (by omega) (by omega) (by omega) (aO0 (aOU.mp hc).1) (by rw[List.length_set];exact hy) ?_ ?_ (by rw[List.length_set];exact hl) (λb hb=>by rw[aOV (Ne.symm hb)];exact hf b hb) ..
   ·rw[hdt,<-hd,List.take_add_one,aO0 (by omega),List.take_set_of_le (aOZ _)]
    rfl
   ·rw[List.drop_set_of_lt (by omega),<-aPC (i:=1),hdr,aPC]
theorem aGF {zs:List Int}{rest:List Value}{Q:aC->Value->Prop}(hQ: ∀H' v,Vw H c cap zs v H'->Q H' v)(hcap:zs.length<=cap)(hrest:rest.length=cap-zs.length)(hn:zs.length+10<m)(hm:m<=72057594037927936)(hc:H[c]? =some (oX zs rest)):
  ∀(q j k:Nat),zs.length-j=q->1<=j->j<=zs.length->q<k->dd (zs.take j)=zs.take j-> ∀(x1 x2 x4 x5 x6 x7 x8 x9 bK bN bC aO aP aM aS bI aN bG bJ bL bH bE aT aU aV aW aX aY aZ bA bB bO bP bQ bR bS bT bU bV bX bY cD cG cH cK cQ cS cT cM cN cO cP cW cU cV cY dA dC dB:Value),
  ∃H' v,aI k (aK prog (lvl prog cF m) (aI m) El) (Bl (lvl prog cF m) (aI m)) [(.slice (some ⟨c,0,none⟩) zs.length cap),x1,x2,(.int .i64 (j:Nat)),x4,x5,x6,x7,x8,x9,bK,bN,bC,aO,aP,aM,aS,bI,aN,bG,bJ,bL,bH,bE,aT,aU,aV,aW,aX,aY,aZ,bA,bB,bO,bP,bQ,bR,bS,bT,bU,bV,bX,bY,cD,cG,cH,cK,cQ,cS,cT,cM,cN,cO,cP,cW,cU,cV,cY,dA,dC,dB] H=some (v,H')/\Q H' v:=by
 intro q;induction q with
 |zero=>
  intro j k hr h1 hj hk hd;intros;obtain⟨k,rfl⟩:=aB k (by omega)
  obtain rfl:j=zs.length:=by omega
  rw[List.take_of_length_le (aOZ _)] at hd;have e:decide ((zs.length:Int)<zs.length)=false:=by simp
  refine⟨H,.slice (some ⟨c,0,none⟩) zs.length cap,?_,hQ _ _ ⟨?_,λb ⟨_,_,_,h⟩=>by cases h;rfl,rfl,λb hb=>rfl⟩⟩
  ·rw[dY,Vi]
   simp only[gsR,vT,e];rw[aGb];rfl
  ·rw[hd]
   exact⟨by rw[uS,aO8,Nat.mul_one],.inr ⟨c,cap,rest,rfl,hcap,by rw[hrest,Nat.mul_one],by rw[uS,hc];rfl⟩⟩
 |succ q ih=>
  intro j k hr h1 hj hk hd;intros;obtain⟨k,rfl⟩:=aB k (by omega)
  have e:decide ((j:Int)<zs.length)=true:=by simp;omega
  have e3:=aA (i:=j) (by omega)
  have e4:IntKind.i64.wrap ((j:Int)-1)=((j-1:Nat):Int):=by rw[dG (by omega) (by omega)];omega
  have i1:aR 1 (.slice (some ⟨c,0,none⟩) zs.length cap) (.int .i64 (j:Nat))=some (.pointer (some ⟨c,j,none⟩)):=by rw[ia (by omega),aPf]
  have i2:aR 1 (.slice (some ⟨c,0,none⟩) zs.length cap) (.int .i64 (j-1:Nat))=some (.pointer (some ⟨c,j-1,none⟩)):=by rw[ia (by omega),aPf]
  have ga:zs[j-1]? =some (zs[j-1]'(by omega)):=aOW (by omega)
  have gb:zs[j]? =some (zs[j]'(by omega)):=aOW (by omega)
  have l1:=zO hc gb;have l2:=zO hc ga;have hdt:=V1 (zs:=zs) (j:=j) (by omega) ga gb
  rw[dY,Vi];by_cases hx:zs[j]'(by omega)=zs[j-1]'(by omega)
  ·have d:((zs[j]'(by omega))==(zs[j-1]'(by omega)))=true:=by simp[hx]
   have g1:=uR (P:=prog) (H:=H) (o:=0) (sz:=1) (len:=zs.length) (cap:=cap) (lo:=some (.int .i64 (j:Nat))) (hi:=none) (mx:=none) (h:=zs.length) (m:=cap) (l:=j) hc (λ_=>szI) (oA 0 .i64 j) rfl rfl (by omega) (by omega) (aOZ _)
   rw[aPf,Nat.mul_one] at g1;rw[if_pos hx] at hdt;have e1:(1:Int)=((j+1-j:Nat):Int):=by omega
   simp only[gsR,vT,e,i1,l1,iM,e4,i2,l2,d,g1];have:=aGG (m:=m) (kk:=k) (H0:=H) (cap:=cap) (c:=c) (k0:=j) hQ hcap hrest (by omega) h1 (zs.length-(j+1)) (j+1) j m H zs rfl (by omega) (by omega) (by omega) (by omega) hc rfl (by rw[hdt,hd]) rfl rfl (λ_ _=>rfl)
   rw[<-e1] at this;exact this ..
  ·have d:((zs[j]'(by omega))==(zs[j-1]'(by omega)))=false:=by simp[hx]
   rw[if_neg hx] at hdt;simp only[gsR,vT,e,i1,l1,iM,e4,i2,l2,d,cC,e3];exact ih (j+1) k (by omega) (by omega) (by omega) (by omega) (by rw[hdt,hd,List.take_add_one,gb];rfl) ..
theorem Vy {v:Value}{zs:List Int}{H0:aC}(hv:Iw H v zs)(hnew:New H0 v)(he:Ext H0 H)(hn:zs.length+20<m)(hm:m<=72057594037927936): ∃H' u,lvl prog cF m (.func 83) [v] H=some (u,H')/\Ext H0 H'/\Iw H' u (dd zs)/\New H0 u:=by
 have hlen:=hv.zK;refine jJ (iH rfl rfl) (by omega) ?_
 rw[aGd];by_cases h2:zs.length<2
 ·have e:decide ((zs.length:Int)<2)=true:=by simp;omega
  have hd:dd zs=zs:=by
   match zs,h2 with
   |[],_=>rfl
   |[x],_=>rfl
   |x::y::r,h=>exact absurd h (by simp only[aPg];omega)
  refine⟨H,v,?_,he,by rw[hd];exact hv,hnew⟩
  simp only[gsR,hlen,e]
 ·have e:decide ((zs.length:Int)<2)=false:=by simp;omega
  obtain⟨hcs,⟨rfl,h0⟩|⟨c,cap,rest,rfl,h1,h2',h3⟩⟩:=hv
  ·omega
  ·rw[uS] at h3
   rw[Nat.mul_one] at h2';have hcl:=hnew c ⟨_,_,_,rfl⟩;simp only[gsR,hlen,e];have hd1:dd (zs.take 1)=zs.take 1:=by
    match zs with
    |[]=>rfl
    |x::r=>rfl
   refine aGF (λH' u hC=> ?_) h1 h2' (by omega) (by omega) h3 (zs.length-1) 1 (m-1) rfl (aOZ _) (by omega) (by omega) hd1 ..
   obtain⟨g2,g3,g4,g5⟩:=hC;refine⟨⟨by rw[g4];exact he.1,λb hb _=> ?_⟩,g2,λb hb=>by rw[g3 b hb];exact hcl⟩
   rw[g5 b (by omega),he.2 b hb id]
end
def mU (v:Int)(e:Ed):List Int:=if e.1=e.2 then [] else if e.1=v then [e.2] else if e.2=v then [e.1] else []
def kH (es:List Ed)(v:Int):List Int:=es.flatMap (mU v)
def bes (es:List Ed)(v:Int):List Int:=dd (srt (kH es v))
theorem Bn (v:Int): ∀es:List Ed,(kH es v).length<=es.length
 |[]=>aOZ _
 |e::es=>by
  have:=Bn v es;unfold kH at*;rw[List.flatMap_cons,aO6];have h1:(mU v e).length<=1:=by
   unfold mU;split
   ·simp
   ·split
    ·simp
    ·split<;>simp
  simp only[aPg];omega
theorem Vx {es:List Ed}{i:Nat}{e:Ed}(v:Int)(h:es[i]? =some e):kH (es.take (i+1)) v=kH (es.take i) v++mU v e:=by
 unfold kH;rw[List.take_add_one,h];simp
theorem oW (H:aC)(k:Int):dL 3 1 1 [.int .i64 0] [(0,.int .i64 k)] H=some (.slice (some ⟨H.length,0,none⟩) 1 1,H++[.cells (inC k) 3 .row]):=rfl
theorem zEd:Blk.cells [Value.int .i64 0,.int .i64 0] 34 .fix= .cells (edC (0,0)) 34 .fix:=rfl
def edB (y:Ed):Blk:= .cells (edC y) 34 .fix
theorem aGJ (y:Ed)(H:aC):stN 2 (.pointer (some ⟨H.length,0,none⟩)) (edV y) (H++[.cells (edC (0,0)) 34 .fix])=some (undef,H++[edB y]):=by
 rw[mS 2 _ _ _ rfl,gZ,n9 _ _ _ _ _ _ (by decide) (by simp[edC,edV,Value.cells]) rfl]
 simp[edC,edV,Value.cells,eT,edB]
theorem aGH {H:aC}{b:Nat}{y:Ed}(h:H[b]? =some (edB y)):ld1 (.pointer (some ⟨b,0,none⟩)) H=some (.int .i64 y.1,H):=by rw[kV,h];rfl
theorem aGI {H:aC}{b:Nat}{y:Ed}(h:H[b]? =some (edB y)):ld1 (.pointer (some ⟨b,1,none⟩)) H=some (.int .i64 y.2,H):=by rw[kV,h];rfl
section
variable {H : aC} {m : Nat} {p : PlanD} {ev wv nv : Value}
theorem aGD {v:Int}{Q:aC->Value->Prop}(hQ: ∀H' u,Ext H H'->Iw H' u (bes p.edges v)->New H u->Q H' u)(hx:Es H ev p.edges)(hL:p.edges.length<=17592186043000)(hn:p.edges.length+30<m)(hm:m<=72057594037927936): ∀(q i k:Nat)(H1:aC)(acc:Value),p.edges.length-i=q->i<=p.edges.length->q<k->Ext H H1->Iw H1 acc (kH (p.edges.take i) v)->New H acc-> ∀(x0 x2 x3 x4 x6 x7 x8 bC aO aP aM aS bI aN bG bJ bL bH bE aT aU aV aW aX aY aZ bA bB bO bP bQ bR bS bT bU bV bX bY cD cG cH:Value),
  ∃H' u,aI k (aK prog (lvl prog cF m) (aI m) Kn) (Ko (lvl prog cF m) (aI m)) [x0,(.int .i64 v),x2,x3,x4,acc,x6,x7,x8,ev,(.int .i64 p.edges.length),(.int .i64 (i:Nat)),bC,aO,aP,aM,aS,bI,aN,bG,bJ,bL,bH,bE,aT,aU,aV,aW,aX,aY,aZ,bA,bB,bO,bP,bQ,bR,bS,bT,bU,bV,bX,bY,cD,cG,cH] H1=some (u,H')/\Q H' u:=by
 intro q;induction q with
 |zero=>
  intro i k H1 acc hr hi hk he ha hnew;intros;obtain⟨k,rfl⟩:=aB k (by omega)
  obtain rfl:i=p.edges.length:=by omega
  have e:decide ((p.edges.length:Int)<p.edges.length)=false:=by simp
  rw[List.take_of_length_le (aOZ _)] at ha;have hcl:=Bn v p.edges;obtain⟨H2,g1,g2,g3⟩:=Ud ha (by omega) hnew he
  have g1':=Vl m (by omega) [acc] H1
  rw[g1] at g1';have hsl:=qY (kH p.edges v);obtain⟨H3,u,q1,q2,q3,q4⟩:=Vy (m:=m) g2 hnew g3 (by omega) (by omega)
  refine⟨H3,u,?_,hQ _ _ q2 q3 q4⟩;rw[dY,Vf];simp only[gsR,e];rw[aF2];simp only[gsR,g1',q1]
 |succ q ih=>
  intro i k H1 acc hr hi hk he ha hnew;intros;obtain⟨k,rfl⟩:=aB k (by omega)
  have e:decide ((i:Int)<p.edges.length)=true:=by simp;omega
  have e3:=aA (i:=i) (by omega)
  have hxi:p.edges[i]? =some p.edges[i]:=aOW (by omega)
  obtain⟨b,o,g1,g2,g3⟩:=(hx.ext he).iG sZ hxi .i64;obtain⟨y,hy⟩: ∃y,y=p.edges[i]:=⟨_,rfl⟩;have l1:ldN 2 (.pointer (some ⟨b,o,none⟩)) H1=some (edV y,H1):=by rw[hy];exact(g3 H1 rfl).1
  rw[<-hy] at hxi;have hct:=Vx v hxi;have hcl:=Bn v (p.edges.take i);rw[List.length_take] at hcl;have st:=aGJ y H1;obtain⟨H2,hH2⟩: ∃H2,H2=H1++[edB y]:=⟨_,rfl⟩;rw[<-hH2] at st;have x1:Ext H1 H2:=by rw[hH2];exact Fr.app _ _ _
  have hb:H2[H1.length]? =some (edB y):=by rw[hH2];exact gZ _ _
  have la:=aGH hb;have lb:=aGI hb;have ha2:Iw H2 acc (kH (p.edges.take i) v):=by rw[hH2];exact ha.sU _
  rw[dY,Vf];by_cases c1:y.1=y.2
  ·have d1:(y.1==y.2)=true:=by simpa using c1
   have hc0:mU v y=[]:=if_pos c1;rw[hc0,List.append_nil] at hct;simp only[gsR,e,g1,l1,zEd,st,la,lb,d1,cC,e3];exact ih (i+1) k H2 acc (by omega) (by omega) (by omega) (he.tr x1) (by rw[hct];exact ha2) hnew ..
  ·have d1:(y.1==y.2)=false:=by simpa using c1
   by_cases c2:y.1=v
   ·have d2:(y.1==v)=true:=by simpa using c2
    have hc0:mU v y=[y.2]:=by unfold mU;rw[if_neg c1,if_pos c2]
    rw[hc0] at hct;obtain⟨u,H3,t1,t2,t3,t4⟩:=ha2.rW (by':=8) jK pC (by decide) y.2 hnew (he.tr x1) (kM (n:=17592186044100) (by decide) (by omega))
    simp only[gsR,e,g1,l1,zEd,st,la,lb,d1,d2,oW,t1,cC,e3];exact ih (i+1) k H3 u (by omega) (by omega) (by omega) t4 (by rw[hct];exact t2) t3 ..
   ·have d2:(y.1==v)=false:=by simpa using c2
    by_cases c3:y.2=v
    ·have d3:(y.2==v)=true:=by simpa using c3
     have hc0:mU v y=[y.1]:=by unfold mU;rw[if_neg c1,if_neg c2,if_pos c3]
     rw[hc0] at hct;obtain⟨u,H3,t1,t2,t3,t4⟩:=ha2.rW (by':=8) jK pC (by decide) y.1 hnew (he.tr x1) (kM (n:=17592186044100) (by decide) (by omega))
     simp only[gsR,e,g1,l1,zEd,st,la,lb,d1,d2,d3,oW,t1,cC,e3];exact ih (i+1) k H3 u (by omega) (by omega) (by omega) t4 (by rw[hct];exact t2) t3 ..
    ·have d3:(y.2==v)=false:=by simpa using c3
     have hc0:mU v y=[]:=by unfold mU;rw[if_neg c1,if_neg c2,if_neg c3]
     rw[hc0,List.append_nil] at hct;simp only[gsR,e,g1,l1,zEd,st,la,lb,d1,d2,d3,cC,e3];exact ih (i+1) k H2 acc (by omega) (by omega) (by omega) (he.tr x1) (by rw[hct];exact ha2) hnew ..
theorem K0 (hp:PV H p ev wv nv)(hn:p.edges.length+40<m)(hm:m<=72057594037927936)(v:Int): ∃H' u,lvl prog cF m (.func 37) [plV p ev wv nv,.int .i64 v] H=some (u,H')/\Ext H H'/\Iw H' u (bes p.edges v)/\New H u:=by
 refine jJ (iH rfl rfl) (by omega) ?_
 have hb:=gZ H (plB p ev wv nv);have l1:=eU hb 1 _ rfl;have hlen:=hp.e.gO;rw[aF3];simp only[gsR,lS,l1,hlen];exact aGD (λH' u h1 h2 h3=>⟨h1,h2,h3⟩) hp.e hp.be (m:=m-1) (by omega) (by omega) p.edges.length 0 (m-1) _ _ (by omega) (by omega) (by omega) (Fr.app _ _ _) (Rw.lQ (el:=inC)) (New.nP _) ..
end
def K3 (xs:List Int)(w:Int):Int:=fst (λj=>xs[j]? ==some w) xs.length 0
def pD (es:List Ed)(v:Nat):List Ed:=((bes es v).filter λw=>wi w 0 5).map λw=>((v:Int),w)
def mV (p:PlanD):Nat:=(min (max p.nodes 0) 6).toNat
def lT (p:PlanD):List Ed:=(List.range (mV p)).flatMap (pD p.edges)
abbrev Hs (H:aC)(v:Value)(xs:List Ed):=Rs edC 67 H v xs
abbrev Hw (H:aC)(v:Value)(xs:List Ed):=Rw edC 67 2 H v xs
theorem Bp (z:Int): ∀l,z∈dd l↔z∈l
 |[]=>Iff.rfl
 |[x]=>Iff.rfl
 |x::y::r=>by
  have ih:=Bp z (y::r);unfold dd;split
  ·rename_i h
   subst h;rw[ih];simp
  ·simp only[aPd] at ih⊢
   rw[ih]
theorem Et: ∀l:List Int,l.Pairwise (· <= ·)->(dd l).Pairwise (· < ·)
 |[],_=>List.Pairwise.nil
 |[x],_=>by simp[dd]
 |x::y::r,h=>by
  obtain⟨h1,h2⟩:=List.pairwise_cons.mp h;have ih:=Et (y::r) h2;unfold dd;split
  ·exact ih
  ·rename_i hne
   refine List.pairwise_cons.mpr ⟨λz hz=> ?_,ih⟩
   have hz':=(Bp z _).mp hz;have h3:=h1 y (by simp)
   have h4:y<=z:=by
    rcases aPd.mp hz' with rfl|hz'
    ·exact Int.le_refl _
    ·exact(List.pairwise_cons.mp h2).1 z hz'
   omega
theorem Er (es:List Ed)(v:Int):(bes es v).Pairwise (· < ·):=Et _ (A8 _)
theorem Eu: ∀(l:List Int)(lo hi:Int),l.Pairwise (· < ·)->(∀x∈l,lo<=x/\x<=hi)->lo<=hi+1->(l.length:Int)<=hi+1-lo
 |[],lo,hi,_,_,h=>by simp;omega
 |x::r,lo,hi,hp,hb,h=>by
  obtain⟨h1,h2⟩:=List.pairwise_cons.mp hp;have hx:=hb x (by simp)
  have:=Eu r (x+1) hi h2 (λy hy=>⟨by have:=h1 y hy;omega,(hb y (by simp[hy])).2⟩) (by omega)
  simp only[aPg];omega
theorem V5 (l:List Int)(h:l.Pairwise (· < ·)):(l.filter λw=>wi w 0 5).length<=6:=by
 have:=Eu (l.filter λw=>wi w 0 5) 0 5 (h.sublist (List.filter_sublist)) (λx hx=>by
  have:=(List.mem_filter.mp hx).2;unfold wi at this;simpa using this) (by omega)
 omega
section
variable {H : aC} {m : Nat} {p : PlanD} {ev wv nv : Value}
theorem aGQ {v:Value}{xs:List Int}{w:Int}(hx:Is H v xs)(hn:xs.length<=72057594037927936): ∀(q i k:Nat),xs.length-i=q->i<=xs.length->q<k-> ∀(x2 x3 x4 x5 x6 x9 bK bN bC aO aP aM aS bI aN:Value),
  aI k (aK prog (lvl prog cF m) (aI m) J8) (Ei (lvl prog cF m) (aI m)) [v,(.int .i64 w),x2,x3,x4,x5,x6,(.int .i64 xs.length),(.int .i64 (i:Nat)),x9,bK,bN,bC,aO,aP,aM,aS,bI,aN] H=some (.int .i64 (fst (λj=>xs[j]? ==some w) q i),H):=by
 intro q;induction q with
 |zero=>
  intro i k hr hi hk;intros;obtain⟨k,rfl⟩:=aB k (by omega)
  obtain rfl:xs.length=i:=by omega
  have e:decide (((xs.length:Nat):Int)<(xs.length:Nat))=false:=by simp
  rw[dY,U7];simp only[gsR,e];rw[aFN];rfl
 |succ q ih=>
  intro i k hr hi hk;intros;obtain⟨k,rfl⟩:=aB k (by omega)
  have e:decide ((i:Int)<(xs.length:Nat))=true:=aPD (by omega)
  have e3:=aA (i:=i) (by omega)
  have hxi:xs[i]? =some xs[i]:=aOW (by omega)
  obtain⟨b,o,g1,g2,g3⟩:=hx.iG jK hxi .i64;have l1:ld1 (.pointer (some ⟨b,o,none⟩)) H=some (.int .i64 xs[i],H):=(g3 H rfl).2.1 0 _ rfl;rw[dY,U7];unfold fst;by_cases h:w=xs[i]
  ·have d:(w==xs[i])=true:=by rw[h];simp
   have d2:(xs[i]? ==some w)=true:=by rw[hxi,h];simp
   simp only[gsR,e,g1,l1,d];rw[aFP,if_pos d2];rfl
  ·have d:(w==xs[i])=false:=by simpa using h
   have d2: ¬(xs[i]? ==some w)=true:=by rw[hxi];simpa using λhh=>h hh.symm
   simp only[gsR,e,g1,l1,d,cC,e3];rw[if_neg d2];exact ih (i+1) k (by omega) (by omega) (by omega) ..
theorem aGP {v:Value}{xs:List Int}(hx:Is H v xs)(w:Int)(hn:xs.length+10<m)(hm:m<=72057594037927936):lvl prog cF m (.func 161) [v,.int .i64 w] H=some (.int .i64 (K3 xs w),H):=by
 have hlen:=hx.gO;refine dF (iH rfl rfl) (by omega) ?_
 rw[aFO];simp only[gsR,hlen];exact aGQ hx (by omega) xs.length 0 (m-1) (by omega) (by omega) (by omega) ..
theorem V4 (es:List Ed)(v:Int):(bes es v).length<=es.length:=by
 have h1:=Vz (srt (kH es v));have h2:=qY (kH es v);have h3:=Bn v es;unfold bes;omega
theorem V3 (a b:Int):bld prog 67 [(0,.int .i64 a),(1,.int .i64 b)]=some (edV (a,b)):=rfl
theorem aGK (H:aC)(y:Ed):dL 67 2 1 [.int .i64 0,.int .i64 0] [(0,edV y)] H=some (.slice (some ⟨H.length,0,none⟩) 1 1,H++[.cells (edC y) 67 .row]):=rfl
theorem aGO {H0:aC}{a:Nat}{v:Nat}{ws:List Int}{hs:List Ed}{Q:aC->Value->Prop}{K:Ex->K (Value×aC)}{bn:Int}{u:Value}(hs1:hs.length+(ws.filter λw=>wi w 0 5).length<=1000)(hws:ws.length<=72057594037927936)(hm:0<m)
  (hK: ∀(H':aC)(acc:Value),Ext H0 H'->Hw H' acc (hs++(ws.filter λw=>wi w 0 5).map λw=>((v:Int),w))->New H0 acc-> ∀(x0 x2 x4 x5 x6 x7 x8 x9 bC aO aP aM aS bI aN bG bJ bL bH bE aT aU aV aW aX aY aZ bA bB:Value),∃H2 u2,K .normal [x0,(.pointer (some ⟨a,0,none⟩)),x2,acc,x4,x5,x6,x7,x8,x9,(.int .i64 bn),(.int .i64 (IntKind.i64.wrap ((v:Int)+1))),bC,aO,aP,aM,aS,bI,aN,bG,bJ,bL,bH,bE,aT,aU,aV,aW,aX,aY,aZ,bA,bB] H'=some (u2,H2)/\Q H2 u2): ∀(q i k:Nat)(H1:aC)(acc:Value),ws.length-i=q->i<=ws.length->q<k->Ext H0 H1->Is H1 u ws->Apart H1 u acc->Hw H1 acc (hs++((ws.take i).filter λw=>wi w 0 5).map λw=>((v:Int),w))->New H0 acc-> ∀(x0 x2 x5 x6 x7 x8 x9 bC aO aP aM bG bJ bL bH bE aT aU aV aW aX aY aZ bA bB:Value),
  ∃H' u2,aI k (aK prog (lvl prog cF m) (aI m) Kq) (Ks (lvl prog cF m) (aI m) K) [x0,(.pointer (some ⟨a,0,none⟩)),x2,acc,(.int .i64 (v:Nat)),x5,x6,x7,x8,x9,(.int .i64 bn),(.int .i64 (v:Nat)),bC,aO,aP,aM,u,(.int .i64 ws.length),(.int .i64 (i:Nat)),bG,bJ,bL,bH,bE,aT,aU,aV,aW,aX,aY,aZ,bA,bB] H1=some (u2,H')/\Q H' u2:=by
 intro q;induction q with
 |zero=>
  intro i k H1 acc hr hi hk he hu hap ha hnew;intros;obtain⟨k,rfl⟩:=aB k (by omega)
  obtain rfl:ws.length=i:=by omega
  have e:decide (((ws.length:Nat):Int)<(ws.length:Nat))=false:=by simp
  rw[List.take_of_length_le (aOZ _)] at ha;rw[dY,Vh];simp only[gsR,e];rw[aF5];simp only[gsR,cC];exact hK H1 acc he ha hnew ..
 |succ q ih=>
  intro i k H1 acc hr hi hk he hu hap ha hnew;intros;obtain⟨k,rfl⟩:=aB k (by omega)
  have e:decide ((i:Int)<(ws.length:Nat))=true:=aPD (by omega)
  have e3:=aA (i:=i) (by omega)
  have hxi:ws[i]? =some ws[i]:=aOW (by omega)
  obtain⟨b,o,g1,g2,g3⟩:=hu.iG jK hxi .i64;have l1:ld1 (.pointer (some ⟨b,o,none⟩)) H1=some (.int .i64 ws[i],H1):=(g3 H1 rfl).2.1 0 _ rfl;have htake:ws.take (i+1)=ws.take i++[ws[i]]:=by rw[List.take_add_one,hxi];rfl
  have w1:=Vt (m:=m) hm ws[i] 0 5 H1;have hfl:((ws.take i).filter λw=>wi w 0 5).length<=(ws.filter λw=>wi w 0 5).length:=(List.Sublist.filter _ (List.take_sublist i ws)).length_le
  rw[dY,Vh];cases c:wi ws[i] 0 5 with
  |true=>
   rw[c] at w1;obtain⟨acc2,H2,t1,t2,t3,t4,t5,t6⟩:=ha.Uc (by':=16) sZ Kx (by decide) ((v:Int),ws[i]) hnew he (kM (n:=1000000) (by decide) (by simp only[aO6,aO8];omega))
   simp only[gsR,e,g1,l1,w1,V3,aGK,t1,cC,e3];refine ih (i+1) k H2 acc2 (by omega) (by omega) (by omega) t4 (hu.aEL hap t5) (hap.up t5 t6) ?_ t3 ..
   ·rw[htake,List.filter_append,List.map_append,<-aO1]
    have:([ws[i]].filter λw=>wi w 0 5)=[ws[i]]:=by rw[List.filter_cons,if_pos c];rfl
    rw[this];exact t2
  |false=>
   rw[c] at w1;simp only[gsR,e,g1,l1,w1,cC,e3];refine ih (i+1) k H1 acc (by omega) (by omega) (by omega) he hu hap ?_ hnew ..
   have:([ws[i]].filter λw=>wi w 0 5)=[]:=by rw[List.filter_cons,if_neg (by rw[c];decide)];rfl
   rw[htake,List.filter_append,this,List.append_nil];exact ha
theorem aGL (es:List Ed)(v:Nat):(pD es v).length<=6:=by
 have h2:=V5 _ (Er es v);unfold pD;rw[aO8];omega
theorem K1 (es:List Ed): ∀i,((List.range i).flatMap (pD es)).length<=i*6
 |0=>by simp
 |i+1=>by
  have:=K1 es i;have:=aGL es i;rw[aPt,List.flatMap_append,aO6,Nat.succ_mul];simp only[List.flatMap_cons,List.flatMap_nil,List.append_nil];omega
theorem K2 (p:PlanD):(lT p).length<=36:=by
 have:=K1 p.edges (mV p);have h6:mV p<=6:=by unfold mV;omega
 unfold lT;omega
theorem V6 (a b:Int):lN prog false [.int .i64 a,.int .i64 b]=some (.int .i64 (min a b)):=by
 simp[lN,eC,iZ,pur,Builtin.min_,Builtin.min2,pure,bind,Sem.bind]
 split<;>omega
theorem aGR (a b:Int):lN prog true [.int .i64 a,.int .i64 b]=some (.int .i64 (max a b)):=by
 simp[lN,eC,iZ,pur,Builtin.max_,Builtin.max2,pure,bind,Sem.bind]
 split<;>omega
theorem aGN {H0:aC}{a:Nat}(hp:PV H0 p ev wv nv)(hn:p.edges.length+60<m)(hm:m<=72057594037927936): ∀(q i k:Nat)(H1:aC)(acc:Value),(mV p)-i=q->i<=(mV p)->q<k->Ext H0 H1->H0[a]? =some (plB p ev wv nv)->Hw H1 acc ((List.range i).flatMap (pD p.edges))->New H0 acc-> ∀(x0 x2 x4 x5 x6 x7 x8 x9 bC aO aP aM aS bI aN bG bJ bL bH bE aT aU aV aW aX aY aZ bA bB:Value),
  ∃H' u2,aI k (aK prog (lvl prog cF m) (aI m) Kp) (Kr (lvl prog cF m) (aI m)) [x0,(.pointer (some ⟨a,0,none⟩)),x2,acc,x4,x5,x6,x7,x8,x9,(.int .i64 (mV p)),(.int .i64 (i:Nat)),bC,aO,aP,aM,aS,bI,aN,bG,bJ,bL,bH,bE,aT,aU,aV,aW,aX,aY,aZ,bA,bB] H1=some (u2,H')/\Ext H0 H'/\Hw H' u2 (lT p)/\New H0 u2:=by
 intro q;have h6:mV p<=6:=by unfold mV;omega
 induction q with
 |zero=>
  intro i k H1 acc hr hi hk he hb0 ha hnew;intros;obtain⟨k,rfl⟩:=aB k (by omega)
  obtain rfl:(mV p)=i:=by omega
  have e:decide ((((mV p):Nat):Int)<((mV p):Nat))=false:=by simp
  refine⟨H1,acc,?_,he,ha,hnew⟩;rw[dY,Vg];simp only[gsR,e];rw[aF4];rfl
 |succ q ih=>
  intro i k H1 acc hr hi hk he hb0 ha hnew;intros;obtain⟨k,rfl⟩:=aB k (by omega)
  have e:decide ((i:Int)<((mV p):Nat))=true:=aPD (by omega)
  have e3:=aA (i:=i) (by omega)
  have hb:=hZ hb0 he;have l11:=kX hb;obtain⟨H2,u,g1,g2,g3,g4⟩:=K0 (hp.ext he) (m:=m) (by omega) (by omega) (i:Int)
  have hlen:=g3.zK;have hble:=V4 p.edges (i:Int);have hol:=K1 p.edges i;have hff:=V5 _ (Er p.edges (i:Int));have hL:=hp.be;have hap:Apart H2 u acc:=λb hb=>⟨g3.j8 hb,λhc=>by have:=g4 b hb;have:=ha.j8 hc;omega⟩
  have ha2:Hw H2 acc ((List.range i).flatMap (pD p.edges)):=ha.iD λb hb=>g2.2 b (ha.j8 hb) id
  rw[dY,Vg];simp only[gsR,e,l11,g1,hlen];refine aGO (H0:=H0) (a:=a) (v:=i) (ws:=bes p.edges (i:Int)) (hs:=(List.range i).flatMap (pD p.edges)) (Q:=λH' u2=>Ext H0 H'/\Hw H' u2 (lT p)/\New H0 u2) (by omega) (by omega) (by omega) ?_ (bes p.edges (i:Int)).length 0 m H2 acc (by omega) (by omega) (by omega) (he.tr g2) g3.rs hap (by simpa using ha2) hnew ..
  intro H3 acc3 k1 k2 k3;intros;rw[again_normal,e3];refine ih (i+1) k H3 acc3 (by omega) (by omega) (by omega) k1 hb0 ?_ k3 ..
  rw[aPt,List.flatMap_append];simpa[pD] using k2
theorem aGM (hp:PV H p ev wv nv)(hn:p.edges.length+70<m)(hm:m<=72057594037927936): ∃H' u,lvl prog cF m (.func 66) [plV p ev wv nv] H=some (u,H')/\Ext H H'/\Hw H' u (lT p)/\New H u:=by
 have hL:=hp.be;obtain⟨H0,hH0⟩: ∃H0,H0=H++[plB p ev wv nv]:=⟨_,rfl⟩;have x0:Ext H H0:=by rw[hH0];exact Fr.app _ _ _
 have b0:H0[H.length]? =some (plB p ev wv nv):=by rw[hH0];exact gZ _ _
 have l0:=eU b0 0 _ rfl;have h6:mV p<=6:=by unfold mV;omega
 have e1:lN prog true [.int .i64 p.nodes,.int .i64 0]=some (.int .i64 (max p.nodes 0)):=aGR p.nodes 0;have e2:lN prog false [.int .i64 (max p.nodes 0),.int .i64 6]=some (.int .i64 (mV p)):=by
  rw[V6]
  congr 2
  unfold mV;omega
 obtain⟨H',u,g1,g2,g3,g4⟩: ∃H' u,lvl prog cF m (.func 66) [plV p ev wv nv] H=some (u,H')/\Ext H0 H'/\Hw H' u (lT p)/\New H0 u:=by
  refine jJ (iH rfl rfl) (by omega) ?_
  rw[aF6];simp only[gsR,lS,<-hH0,l0,e1,e2];exact aGN (hp.ext x0) (m:=m-1) (by omega) (by omega) (mV p) 0 (m-1) H0 _ (by omega) (by omega) (by omega) (Fr.nC _ _) b0 (Rw.lQ (el:=edC)) (New.nP _) ..
 exact⟨H',u,g1,x0.tr g2,g3,λb hb=>aPa x0.1 (g4 b hb)⟩
end
def qH (x:Int):List Int->List Int
 |[]=>[x]
 |y::r=>if y<x then y::qH x r else if y=x then x::r else x::y::r
theorem Ev (x z:Int): ∀l,z∈qH x l↔z=x∨z∈l
 |[]=>by simp[qH]
 |y::r=>by
  unfold qH;split
  ·simp only[aPd,Ev x z r]
   constructor
   ·rintro (h|h|h)
    ·exact .inr (.inl h)
    ·exact .inl h
    ·exact .inr (.inr h)
   ·rintro (h|h|h)
    ·exact .inr (.inl h)
    ·exact .inl h
    ·exact .inr (.inr h)
  ·split
   ·rename_i h
    subst h;simp
   ·simp
theorem V7 (x:Int): ∀l,l.Pairwise (· < ·)->(qH x l).Pairwise (· < ·)
 |[],_=>by simp[qH]
 |y::r,h=>by
  obtain⟨h1,h2⟩:=List.pairwise_cons.mp h;unfold qH;split
  ·rename_i hyx
   refine List.pairwise_cons.mpr ⟨λz hz=> ?_,V7 x r h2⟩
   rcases(Ev x z r).mp hz with rfl|hz
   ·exact hyx
   ·exact h1 z hz
  ·rename_i hyx
   split
   ·rename_i hh
    subst hh;exact h
   ·rename_i hne
    refine List.pairwise_cons.mpr ⟨λz hz=> ?_,h⟩
    rcases aPd.mp hz with rfl|hz
    ·omega
    ·have:=h1 z hz
     omega
theorem K5: ∀(l l':List Int),l.Pairwise (· < ·)->l'.Pairwise (· < ·)->(∀z,z∈l↔z∈l')->l=l'
 |[],[],_,_,_=>rfl
 |[],y::r,_,_,h=>absurd ((h y).mpr (by simp)) (by simp)
 |x::l,[],_,_,h=>absurd ((h x).mp (by simp)) (by simp)
 |x::l,y::r,h1,h2,h=>by
  obtain⟨a1,a2⟩:=List.pairwise_cons.mp h1;obtain⟨b1,b2⟩:=List.pairwise_cons.mp h2;have hxy:x=y:=by
   have h3:=(h x).mp (by simp)
   have h4:=(h y).mpr (by simp)
   rcases aPd.mp h3 with h3|h3
   ·exact h3
   ·rcases aPd.mp h4 with h4|h4
    ·exact h4.symm
    ·have:=b1 x h3
     have:=a1 y h4;omega
  subst hxy;rw[K5 l r a2 b2 λz=> ?_]
  constructor
  ·intro hz
   rcases aPd.mp ((h z).mp (by simp[hz])) with h3|h3
   ·have:=a1 z hz
    omega
   ·exact h3
  ·intro hz
   rcases aPd.mp ((h z).mpr (by simp[hz])) with h3|h3
   ·have:=b1 z hz
    omega
   ·exact h3
def wF (l xs:List Int):List Int:=xs.foldl (λl x=>qH x l) l
theorem V8 (z:Int): ∀(xs l:List Int),z∈wF l xs↔z∈l∨z∈xs
 |[],l=>by simp[wF]
 |x::xs,l=>by
  have:=V8 z xs (qH x l);unfold wF at*;rw[List.foldl_cons,this,Ev,aPd];constructor
  ·rintro ((h|h)|h)
   ·exact .inr (.inl h)
   ·exact .inl h
   ·exact .inr (.inr h)
  ·rintro (h|h|h)
   ·exact .inl (.inr h)
   ·exact .inl (.inl h)
   ·exact .inr h
theorem V9: ∀(xs l:List Int),l.Pairwise (· < ·)->(wF l xs).Pairwise (· < ·)
 |[],l,h=>h
 |x::xs,l,h=>by
  unfold wF;exact V9 xs (qH x l) (V7 x l h)
theorem aGS (es:List Ed)(v:Int):bes es v=wF [] (kH es v):=by
 refine K5 _ _ (Et _ (A8 _)) (V9 _ _ List.Pairwise.nil) λz=> ?_
 rw[V8];unfold bes;rw[Bp,(zF _).mem_iff];simp
theorem K4 (es:List Ed)(v z:Int):z∈bes es v↔z∈kH es v:=by
 unfold bes;rw[Bp,(zF _).mem_iff]
section
variable {H : aC} {m : Nat} {p : PlanD} {ev wv nv : Value}
end
def mkN (nodes:Nat):Nat:=2+nodes%5
def mkW (more:Nat)(i:Nat):Int:=((1+(i+more)%5:Nat):Int)
def prs (n:Nat):List (Nat×Nat):=(List.range n).flatMap λb=>(List.range b).map λa=>(a,b)
def oJ:Nat->List (Nat×Nat)->List Ed
 |_,[]=>[]
 |bit,(a,b)::r=>if bit%2=1 then((a:Int),(b:Int))::oJ (bit/2) r else oJ (bit/2) r
def nxt (n:Nat)(next:List Nat)(k w:Nat):Nat:=match next[k]? with
 |some x=>if x%4=0 then(x/4)%n else w
 |none=>w
def wG (n:Nat)(next:List Nat)(v:Nat):List Int:=(List.range n).map λw=>((nxt n next (v*n+w) w:Nat):Int)
def mkP (nodes room more joined:Nat)(next:List Nat):PlanD where
 nodes:=mkN nodes
 edges:=oJ joined (prs (mkN nodes))
 lanes:=((1+more%3:Nat):Int)
 room:=((1+room%8:Nat):Int)
 queue:=((1+room/8%8:Nat):Int)
 rounds:=((1+more/3%4:Nat):Int)
 every:=((1+more/12%8:Nat):Int)
 bag:=64
 weights:=(List.range (1+more%3)).map (mkW more)
 start:=joined
 next:=(List.range (mkN nodes)).map (wG (mkN nodes) next)
def u8C (n:Nat):List Value:=[.int .u8 n]
theorem La (n:Nat):(u8C n).length=1:=rfl
abbrev Us (H:aC)(v:Value)(xs:List Nat):=Rs u8C 5 H v xs
theorem cvU (H:aC)(n:Nat)(h:n<256):cI prog 5 3 (.int .u8 n) H=some (.int .i64 n,H):=by
 have h1:prog.underlying 5=some (.int .u8):=by kernel_rfl
 have h2:prog.underlying 3=some (.int .i64):=by kernel_rfl
 rw[fF _ _ h1 h2,dG (by omega) (by omega)]
theorem uX (a b:Nat)(c:Int)(hc:c=b)(hb:0<b):bin prog .rem 5 (.int .u8 a) (.int .u8 c)=some (.int .u8 (a%b:Nat)):=by rw[hc,Dm _ _ _ _ (by omega),Int.tmod_eq_emod_of_nonneg (by omega)];congr 2
theorem q9 (a b:Nat)(c:Int)(hc:c=b)(hb:0<b):bin prog .rem 3 (.int .i64 a) (.int .i64 c)=some (.int .i64 (a%b:Nat)):=by rw[hc,Dm _ _ _ _ (by omega),Int.tmod_eq_emod_of_nonneg (by omega)];congr 2
theorem aG5 (a b:Nat)(c:Int)(hc:c=b)(hb:0<b):bin prog .rem 23 (.int .u16 a) (.int .u16 c)=some (.int .u16 (a%b:Nat)):=by rw[hc,Dm _ _ _ _ (by omega),Int.tmod_eq_emod_of_nonneg (by omega)];congr 2
theorem We {n:Nat}(h:n<256):IntKind.u8.wrap (n:Int)=n:=by simp[IntKind.wrap,IntKind.bits,IntKind.signed];omega
theorem Lb {n:Nat}(h:n<65536):IntKind.u16.wrap (n:Int)=n:=by simp[IntKind.wrap,IntKind.bits,IntKind.signed];omega
theorem E0 (a b:Nat)(c:Int)(hc:c=b)(hb:0<b)(ha:a<256):bin prog .quo 5 (.int .u8 a) (.int .u8 c)=some (.int .u8 (a/b:Nat)):=by
 rw[hc,Dl _ _ _ _ (by omega),Int.tdiv_eq_ediv_of_nonneg (by omega)]
 have h2:((a:Int)/(b:Int))=((a/b:Nat):Int):=by simp
 rw[h2,We (Nat.lt_of_le_of_lt (Nat.div_le_self a b) ha)]
theorem aG4 (a b:Nat)(c:Int)(hc:c=b)(hb:0<b)(ha:a<65536):bin prog .quo 23 (.int .u16 a) (.int .u16 c)=some (.int .u16 (a/b:Nat)):=by
 rw[hc,Dl _ _ _ _ (by omega),Int.tdiv_eq_ediv_of_nonneg (by omega)]
 have h2:((a:Int)/(b:Int))=((a/b:Nat):Int):=by simp
 rw[h2,Lb (Nat.lt_of_le_of_lt (Nat.div_le_self a b) ha)]
def Ey (b:Nat)(e:TypeId)(H H':aC):Prop:= ∀(c:Nat)(y:Blk),c≠b->(∀cs,y≠ .cells cs e .row)->H[c]? =some y->H'[c]? =some y
section
variable {H : aC} {m : Nat} {p : PlanD} {ev wv nv : Value}
theorem Bq {α:Type}{el:α->List Value}{e:TypeId}{sz by':Nat}{tb:TypeId}(hsz: ∀x,(el x).length=sz)(hall: ∀x,dZ (el x)=true)(h0:0<sz){H0:aC}{v:Value}{xs:List α}{b j:Nat}{cs:List Value}(x:α)
  (hb:H[b]? =some (.cells cs tb .fix))(hj:j<cs.length)(hv:Rw el e sz H v xs)(hn:New H0 v)(hbn:H0.length<=b)(he:Ext H0 H)(hr:j7 (xs.length+1) by'=true):
  ∃v' H1 H',app e sz by' v (.slice (some ⟨H.length,0,none⟩) 1 1) (H++[.cells (el x) e .row])=some (v',H1)/\stN 1 (.pointer (some ⟨b,j,none⟩)) v' H1=some (undef,H')/\
   Rw el e sz H' v' (xs++[x])/\New H0 v'/\Ext H0 H'/\H'[b]? =some (.cells (cs.set j v') tb .fix)/\Ey b e H H':=by
 obtain⟨v',H1,g1,g2,g3,g4,g5,g6⟩:=hv.Uc hsz hall h0 (by':=by') x hn he hr;have hbl:=(aOU.mp hb).1;have hnh: ¬cR v b:=λhh=>by
  obtain⟨c',hc'⟩:=hv.blk hh;rw[hb] at hc';simp at hc'
 have hb1:H1[b]? =some (.cells cs tb .fix):=by rw[g5.2 b hbl hnh,hb]
 obtain⟨s1,s2⟩:=g2.zL;have hb1l:=(aOU.mp hb1).1;refine⟨v',H1,H1.set b (.cells (cs.set j v') tb .fix),g1,?_,g2.iD λc hc=> ?_,g3,⟨by rw[List.length_set];exact g4.1,λc hc _=> ?_⟩,aO0 hb1l,λc y hcb hA hy=> ?_⟩
 ·rw[mS 1 _ _ _ (by rw[s1];rfl),hb1,s1,n9 _ _ _ _ _ _ (by decide) (by simp;omega) s2]
  rfl
 ·refine aOV λhh=> ?_
  subst hh;obtain⟨c',hc'⟩:=g2.blk hc;rw[hb1] at hc';simp at hc'
 ·rw[aOV (by omega),g4.2 c hc id]
 ·have hch: ¬cR v c:=λhh=>by
   obtain⟨c',hc'⟩:=hv.blk hh;rw[hy] at hc';cases hc';exact hA _ rfl
  rw[aOV (Ne.symm hcb),g5.2 c (aOU.mp hy).1 hch,hy]
theorem Rw.zP {α:Type}{el:α->List Value}{e e' tb:TypeId}{sz b:Nat}{H':aC}{v:Value}{xs:List α}{cs:List Value}(h:Rw el e' sz H v xs)(hk:Ey b e H H')(hb:H[b]? =some (.cells cs tb .fix))(hne:e'≠e):Rw el e' sz H' v xs:=h.iD λc hc=>by
 obtain⟨cs',hx⟩:=h.blk hc;have hcb:c≠b:=λhh=>by
  subst hh;rw[hb] at hx;simp at hx
 rw[hx];exact hk c _ hcb (λcs'' hh=>by cases hh;exact hne rfl) hx
theorem bEd (a b:Int):bld prog 34 [(0,.int .i64 a),(1,.int .i64 b)]=some (edV (a,b)):=rfl
theorem aGV (H:aC)(y:Ed):dL 34 2 1 [.int .i64 0,.int .i64 0] [(0,edV y)] H=some (.slice (some ⟨H.length,0,none⟩) 1 1,H++[.cells (edC y) 34 .row]):=rfl
theorem aG1 {H0:aC}{b rb n v joined:Nat}{a4:Value}{next:List Nat}{zs:List Value}{Q:aC->Value->Prop}{K:Ex->K (Value×aC)}(hn6:n<=6)(hv6:v<n)(hnx:Us H0 a4 next)(hu8: ∀x∈next,x<256)(hnl:next.length<=72057594037927936)(hpn:p.nodes=(n:Int))(hbr:H0[rb]? =some (.cells zs 28 .fix))(hb:H0[b]? =some (plB p ev wv nv))
  (hK: ∀(H':aC)(u:Value),Ext H0 H'->Iw H' u (wG n next v)->New H0 u-> ∀(x0 x1 x2 x5 x6 x7 x8 x9 bC aO aP aM bG bJ bL bH bE aT aU aV aW aX aY aZ bA bB bO bP bQ bR bS bT bU bV bX bY cD cG cH cK cQ cS cT cM cN cO cP cW cU cV cY dA dC dB dD dN dO dR dS dT dU dV dW dX eG eH eI eJ eK eL eM eN eO eP eQ eS eX eY eZ fA fB fC fD fE fJ fK fL fM fN fO fP fQ fR fS fT fU fV fW fX fY fZ gA gB gC gD gE gF gG gH gR gS gT gU gV gW gX gY iN iO iP iQ iR iS iT iV iW iX iY lE lF lG lH:Value),∃H2 u2,Kg (lvl prog cF m) (aI m) K x0 x1 x2 (.int .u16 joined) a4 x5 x6 x7 x8 x9 (.pointer (some ⟨rb,0,none⟩)) (.pointer (some ⟨b,0,none⟩)) bC aO aP aM (.int .i64 ((v+1)*n:Nat)) (.int .i64 (v:Nat)) u bG bJ bL bH bE aT aU aV aW aX aY aZ bA bB bO bP bQ bR bS bT bU bV bX bY cD cG cH cK cQ cS cT cM cN cO cP cW cU cV cY dA dC dB dD dN dO dR dS dT dU dV dW dX eG eH eI eJ eK eL eM eN eO eP eQ eS eX eY eZ fA fB fC fD fE fJ fK fL fM fN fO fP fQ fR fS fT fU fV fW fX fY fZ gA gB gC gD gE gF gG gH gR gS gT gU gV gW gX gY iN iO iP iQ iR iS iT iV iW iX iY lE lF lG lH H'=some (u2,H2)/\Q H2 u2): ∀(q i k:Nat)(H1:aC)(acc:Value),n-i=q->i<=n->q<k->Ext H0 H1->Iw H1 acc ((List.range i).map λw=>((nxt n next (v*n+w) w:Nat):Int))->New H0 acc-> ∀(x0 x1 x2 x5 x6 x7 x8 x9 bC aO aP aM bJ bL bH bE aT aU aV aW aX aY aZ bA bB bO bP bQ bR bS bT bU bV bX bY cD cG cH cK cQ cS cT cM cN cO cP cW cU cV cY dA dC dB dD dN dO dR dS dT dU dV dW dX eG eH eI eJ eK eL eM eN eO eP eQ eS eX eY eZ fA fB fC fD fE fJ fK fL fM fN fO fP fQ fR fS fT fU fV fW fX fY fZ gA gB gC gD gE gF gG gH gR gS gT gU gV gW gX gY iN iO iP iQ iR iS iT iV iW iX iY lE lF lG lH:Value),
  ∃H2 u2,aI k (aK prog (lvl prog cF m) (aI m) Ke) (Kl (lvl prog cF m) (aI m) K) [x0,x1,x2,(.int .u16 joined),a4,x5,x6,x7,x8,x9,(.pointer (some ⟨rb,0,none⟩)),(.pointer (some ⟨b,0,none⟩)),bC,aO,aP,aM,(.int .i64 (v*n+i:Nat)),(.int .i64 (v:Nat)),acc,(.int .i64 (i:Nat)),bJ,bL,bH,bE,aT,aU,aV,aW,aX,aY,aZ,bA,bB,bO,bP,bQ,bR,bS,bT,bU,bV,bX,bY,cD,cG,cH,cK,cQ,cS,cT,cM,cN,cO,cP,cW,cU,cV,cY,dA,dC,dB,dD,dN,dO,dR,dS,dT,dU,dV,dW,dX,eG,eH,eI,eJ,eK,eL,eM,eN,eO,eP,eQ,eS,eX,eY,eZ,fA,fB,fC,fD,fE,fJ,fK,fL,fM,fN,fO,fP,fQ,fR,fS,fT,fU,fV,fW,fX,fY,fZ,gA,gB,gC,gD,gE,gF,gG,gH,gR,gS,gT,gU,gV,gW,gX,gY,iN,iO,iP,iQ,iR,iS,iT,iV,iW,iX,iY,lE,lF,lG,lH] H1=some (u2,H2)/\Q H2 u2:=by
 intro q;induction q with
 |zero=>
  intro i k H1 acc hr hi hk he ha hnew;intros;obtain⟨k,rfl⟩:=aB k (by omega)
  obtain rfl:n=i:=by omega
  have e:decide (((n:Nat):Int)<(n:Nat))=false:=by simp
  have l0:=eU (hZ hb he) 0 _ rfl;rw[hpn] at l0;rw[dY,Vd];simp only[gsR,l0,e];rw[aFX];have hk:v*n+n=(v+1)*n:=by rw[Nat.succ_mul]
  rw[hk];exact hK H1 acc he ha hnew ..
 |succ q ih=>
  intro i k H1 acc hr hi hk he ha hnew;intros;obtain⟨k,rfl⟩:=aB k (by omega)
  have e:decide ((i:Int)<(n:Nat))=true:=aPD (by omega)
  have e3:=aA (i:=i) (by omega)
  have l0:=eU (hZ hb he) 0 _ rfl;rw[hpn] at l0;have hlen:=(hnx.ext he).gO;have hvn:v*n+i<42:=by
   have:v*n<=5*n:=Nat.mul_le_mul_right _ (by omega)
   omega
  have e4:IntKind.i64.wrap (((v*n+i:Nat):Int)+1)=((v*n+(i+1):Nat):Int):=by rw[dG (by omega) (by omega)];omega
  have hrange:(List.range (i+1)).map (λw=>((nxt n next (v*n+w) w:Nat):Int))=(List.range i).map (λw=>((nxt n next (v*n+w) w:Nat):Int))++[((nxt n next (v*n+i) i:Nat):Int)]:=by rw[aPt,List.map_append];rfl
  obtain⟨acc2,H2,t1,t2,t3,t4⟩:=ha.rW (by':=8) jK pC (by decide) ((nxt n next (v*n+i) i:Nat):Int) hnew he (kM (n:=1000) (by decide) (by simp;omega))
  rw[<-hrange] at t2;rw[dY,Vd];by_cases c:v*n+i<next.length
  ·have d:decide (((v*n+i:Nat):Int)<next.length)=true:=aPD (by omega)
   have hx:next[v*n+i]? =some next[v*n+i]:=aOW c
   obtain⟨bb,oo,g1,g2,g3⟩:=(hnx.ext he).iG La hx .i64;have l1:ld1 (.pointer (some ⟨bb,oo,none⟩)) H1=some (.int .u8 (next[v*n+i]:Nat),H1):=(g3 H1 rfl).2.1 0 _ rfl
   have hx8:=hu8 _ (List.getElem_mem c);have r4:=uX next[v*n+i] 4 4 rfl (by omega)
   by_cases c4:next[v*n+i]%4=0
   ·have d4:(((next[v*n+i]%4:Nat):Int)==0)=true:=by rw[c4];rfl
    have q4:=E0 next[v*n+i] 4 4 rfl (by omega) hx8
    have hcv:=λH=>cvU H (next[v*n+i]/4) (by omega)
    have rn:=q9 (next[v*n+i]/4) n n rfl (by omega)
    have hval:nxt n next (v*n+i) i=next[v*n+i]/4%n:=by unfold nxt;rw[hx];simp only;rw[if_pos c4]
    rw[hval] at t1;simp only[gsR,l0,e,hlen,d,g1,l1,r4,d4,q4,hcv,rn,oW,t1,cC,e4,e3];exact ih (i+1) k H2 acc2 (by omega) (by omega) (by omega) t4 t2 t3 ..
   ·have d4:(((next[v*n+i]%4:Nat):Int)==0)=false:=by simpa using λh=>c4 (by omega)
    have hval:nxt n next (v*n+i) i=i:=by unfold nxt;rw[hx];simp only;rw[if_neg c4]
    rw[hval] at t1;simp only[gsR,l0,e,hlen,d,g1,l1,r4,d4,oW,t1,cC,e4,e3];exact ih (i+1) k H2 acc2 (by omega) (by omega) (by omega) t4 t2 t3 ..
  ·have d:decide (((v*n+i:Nat):Int)<next.length)=false:=aPE (by omega)
   have hval:nxt n next (v*n+i) i=i:=by unfold nxt;rw[aO5 (by omega)]
   rw[hval] at t1;simp only[gsR,l0,e,hlen,d,oW,t1,cC,e4,e3];exact ih (i+1) k H2 acc2 (by omega) (by omega) (by omega) t4 t2 t3 ..
def SV:={u:Value // dZ [u]=true/\u.cells= #[u]}
def sC (u:SV):List Value:=[u.1]
theorem K7 (u:SV):(sC u).length=1:=rfl
theorem K6 (u:SV):dZ (sC u)=true:=u.2.1
theorem K8: ∀us:List SV,(us.map sC)=(us.map (·.1)).map vC
 |[]=>rfl
 |u::us=>by rw[aPp,aPp,aPp,K8 us];rfl
structure RowsI (H:aC)(v:Value)(xss:List (List Int))(us:List SV):Prop where
 row:Rw sC 25 1 H v us
 len:us.length=xss.length
 el: ∀(j:Nat)(u:SV)(xs:List Int),us[j]? =some u->xss[j]? =some xs->Iw H u.1 xs
 ap: ∀(j j':Nat)(u u':SV),j<j'->us[j]? =some u->us[j']? =some u'-> ∀b,cR u.1 b->cR u'.1 b->False
def RowsW (H:aC)(v:Value)(xss:List (List Int)):Prop:= ∃us,RowsI H v xss us
theorem RowsI.Wa {H':aC}{v:Value}{xss:List (List Int)}{us:List SV}(h:RowsI H v xss us)(h1: ∀b,cR v b->H'[b]? =H[b]?)(h2: ∀u∈us,∀b,cR u.1 b->H'[b]? =H[b]?):RowsI H' v xss us:=
 ⟨h.row.iD h1,h.len,λj u xs hu hx=>(h.el j u xs hu hx).iD λb hb=>h2 u (aO4 hu) b hb,h.ap⟩
theorem RowsI.Wb {v:Value}{xss:List (List Int)}{us:List SV}(h:RowsI H v xss us){u:SV}(hu:u∈us){b:Nat}(hb:cR u.1 b):b<H.length:=by
 obtain⟨j,hj⟩:=List.getElem?_of_mem hu;have:=(aOU.mp hj).1
 exact(h.el j u _ hj (aOW (by rw[<-h.len];exact this))).j8 hb
theorem RowsI.blk {v:Value}{xss:List (List Int)}{us:List SV}(h:RowsI H v xss us){u:SV}(hu:u∈us){b:Nat}(hb:cR u.1 b): ∃cs,H[b]? =some (.cells cs 3 .row):=by
 obtain⟨j,hj⟩:=List.getElem?_of_mem hu;have:=(aOU.mp hj).1
 exact(h.el j u _ hj (aOW (by rw[<-h.len];exact this))).blk hb
theorem RowsW.aGU {v:Value}{xss:List (List Int)}(h:RowsW H v xss):Rows H v xss:=by
 obtain⟨us,hi⟩:=h;refine⟨us.map (·.1),?_,by rw[aO8,hi.len],λj u xs hu hx=> ?_⟩
 ·have:=hi.row.rs
  unfold Rs at this⊢;rw[aO8,<-K8];rcases this with⟨h1,h2⟩|⟨b,o,cap,h1,h2,h3⟩
  ·exact .inl ⟨h1,by rw[h2];rfl⟩
  ·exact .inr ⟨b,o,cap,h1,h2,λhne=>h3 λhh=>hne (by rw[hh];rfl)⟩
 ·rw[aO7] at hu
  cases hj:us[j]? with
  |none=>rw[hj] at hu;cases hu
  |some u'=>
   rw[hj] at hu;cases hu
   exact(hi.el j u' xs hj hx).rs
def RowsA (H0 H:aC)(v:Value)(xss:List (List Int))(wv:Value):Prop:= ∃us,RowsI H v xss us/\ ∀u∈us,∀b,cR u.1 b-> ¬cR wv b/\H0.length<=b
theorem RowsA.rw {H0:aC}{v wv:Value}{xss:List (List Int)}(h:RowsA H0 H v xss wv):RowsW H v xss:=let⟨us,hi,_⟩:=h;⟨us,hi⟩
structure MS (H0 H1:aC)(pb rb:Nat)(zs:List Value)(p:PlanD)(ev wv nv:Value)(E:List Ed)(W:List Int):Prop where
 ext:Ext H0 H1
 hb:H1[pb]? =some (plB p ev wv nv)
 hr:H1[rb]? =some (.cells zs 28 .fix)
 e:Ew H1 ev E
 en:New H0 ev
 w:Iw H1 wv W
 wn:New H0 wv
 ne:rb≠pb
 lp:H0.length<=pb
 lr:H0.length<=rb
 zl:zs.length=11
theorem MS.aGT {H0 H1 H2:aC}{pb rb:Nat}{zs:List Value}{E:List Ed}{W:List Int}(h:MS H0 H1 pb rb zs p ev wv nv E W)(he:Ext H1 H2):MS H0 H2 pb rb zs p ev wv nv E W:=
 ⟨h.ext.tr he,hZ h.hb he,hZ h.hr he,h.e.iD λb hb=>he.2 b (h.e.j8 hb) id,h.en,h.w.iD λb hb=>he.2 b (h.w.j8 hb) id,h.wn,h.ne,h.lp,h.lr,h.zl⟩
theorem aG0 {H0 H1:aC}{pb rb:Nat}{zs:List Value}{E:List Ed}{W:List Int}{N:List (List Int)}(h:MS H0 H1 pb rb zs p ev wv nv E W)(hn:RowsA H0 H1 nv N wv){Q:aC->Value->Prop}(hQ: ∀H2,Ext H0 H2->Ew H2 ev E->Iw H2 wv W->RowsA H0 H2 nv N wv->Q H2 (plV p ev wv nv))(x0 x1 x2 x3 x4 x5 x6 x7 x8 x9 bC aO aP aM aS bI aN bG bJ bL bH bE aT aU aV aW aX aY aZ bA bB bO bP bQ bR bS bT bU bV bX bY cD cG cH cK cQ cS cT cM cN cO cP cW cU cV cY dA dC dB dD dN dO dR dS dT dU dV dW dX eG eH eI eJ eK eL eM eN eO eP eQ eS eX eY eZ fA fB fC fD fE fJ fK fL fM fN fO fP fQ fR fS fT fU fV fW fX fY fZ gA gB gC gD gE gF gG gH gR gS gT gU gV gW gX gY iN iO iP iQ iR iS iT iV iW iX iY lE lF lG lH:Value):
  ∃H2 u2,Kf (lvl prog cF m) (aI m) x0 x1 x2 x3 x4 x5 x6 x7 x8 x9 (.pointer (some ⟨rb,0,none⟩)) (.pointer (some ⟨pb,0,none⟩)) bC aO aP aM aS bI aN bG bJ bL bH bE aT aU aV aW aX aY aZ bA bB bO bP bQ bR bS bT bU bV bX bY cD cG cH cK cQ cS cT cM cN cO cP cW cU cV cY dA dC dB dD dN dO dR dS dT dU dV dW dX eG eH eI eJ eK eL eM eN eO eP eQ eS eX eY eZ fA fB fC fD fE fJ fK fL fM fN fO fP fQ fR fS fT fU fV fW fX fY fZ gA gB gC gD gE gF gG gH gR gS gT gU gV gW gX gY iN iO iP iQ iR iS iT iV iW iX iY lE lF lG lH H1=some (u2,H2)/\Q H2 u2:=by
 have l11:=kX h.hb;have hrl:=(aOU.mp h.hr).1;obtain⟨a1,a2⟩:=Rw.zL h.e;obtain⟨b1,b2⟩:=Rw.zL h.w;obtain⟨us,hi,hap⟩:=hn;obtain⟨c1,c2⟩:=Rw.zL hi.row;have hall:dZ (plC p ev wv nv)=true:=by
  have e1: ∀(v:Value)(vs:List Value),dZ [v]=true->dZ (v::vs)=dZ vs:=λv vs h=>by
   simp only[dZ,List.all_cons,List.all_nil,Bool.and_true] at h⊢;rw[h,aPh]
  simp only[plC,Sp,e1 _ _ a2,e1 _ _ b2,e1 _ _ c2,Sq]
 have st:stN 11 (.pointer (some ⟨rb,0,none⟩)) (plV p ev wv nv) H1=some (undef,H1.set rb (plB p ev wv nv)):=by
  have e1:(plV p ev wv nv).cells.toList=plC p ev wv nv:=rfl;rw[mS 11 _ _ _ rfl,h.hr,e1,n9 _ _ _ _ _ _ (by decide) (by rw[h.zl];simp[plC]) hall]
  have hs:eT zs 0 (plC p ev wv nv)=plC p ev wv nv:=by
   match zs,h.zl with
   |[z1,z2,z3,z4,z5,z6,z7,z8,z9,z10,z11],_=>rfl
  rw[hs];rfl
 have hb2:(H1.set rb (plB p ev wv nv))[rb]? =some (plB p ev wv nv):=aO0 hrl;have l2:=kX hb2;have kp: ∀(b:Nat)(cs:List Value)(e:TypeId),H1[b]? =some (.cells cs e .row)->(H1.set rb (plB p ev wv nv))[b]? =H1[b]? :=λb cs e hb=>by
  refine aOV λhh=> ?_
  subst hh;rw[h.hr] at hb;simp at hb
 refine⟨H1.set rb (plB p ev wv nv),plV p ev wv nv,?_,hQ _ ⟨by rw[List.length_set];exact h.ext.1,λb hb _=> ?_⟩ (h.e.iD λb hb=> ?_) (h.w.iD λb hb=> ?_) ⟨us,hi.Wa (λb hb=> ?_) (λu hu b hb=> ?_),hap⟩⟩
 ·unfold Kf
  simp only[gsR,l11,st,l2]
 ·rw[aOV (by have:=h.lr;omega),h.ext.2 b hb id]
 ·obtain⟨cs,hc⟩:=h.e.blk hb
  exact kp b cs _ hc
 ·obtain⟨cs,hc⟩:=h.w.blk hb
  exact kp b cs _ hc
 ·obtain⟨cs,hc⟩:=hi.row.blk hb
  exact kp b cs _ hc
 ·obtain⟨cs,hc⟩:=hi.blk hu hb
  exact kp b cs _ hc
def Made (H0:aC)(p:PlanD)(H2:aC)(u:Value):Prop:= ∃ev wv nv,u=plV p ev wv nv/\Ext H0 H2/\Ew H2 ev p.edges/\Iw H2 wv p.weights/\RowsA H0 H2 nv p.next wv
theorem aG2 {H0:aC}{pb rb n joined:Nat}{a4:Value}{next:List Nat}{zs:List Value}(hn6:n<=6)(hnx:Us H0 a4 next)(hu8: ∀x∈next,x<256)(hnl:next.length<=72057594037927936)(hpn:p.nodes=(n:Int))(hm:50<m)(hpx:p.next=(List.range n).map (wG n next)): ∀(q i k:Nat)(H1:aC)(nv1:Value),n-i=q->i<=n->q<k->MS H0 H1 pb rb zs p ev wv nv1 p.edges p.weights->RowsA H0 H1 nv1 ((List.range i).map (wG n next)) wv->New H0 nv1-> ∀(x0 x1 x2 x5 x6 x7 x8 x9 bC aO aP aM aN bG bJ bL bH bE aT aU aV aW aX aY aZ bA bB bO bP bQ bR bS bT bU bV bX bY cD cG cH cK cQ cS cT cM cN cO cP cW cU cV cY dA dC dB dD dN dO dR dS dT dU dV dW dX eG eH eI eJ eK eL eM eN eO eP eQ eS eX eY eZ fA fB fC fD fE fJ fK fL fM fN fO fP fQ fR fS fT fU fV fW fX fY fZ gA gB gC gD gE gF gG gH gR gS gT gU gV gW gX gY iN iO iP iQ iR iS iT iV iW iX iY lE lF lG lH:Value),
  ∃H2 u2,aI k (aK prog (lvl prog cF m) (aI m) Kd) (Kk (lvl prog cF m) (aI m)) [x0,x1,x2,(.int .u16 joined),a4,x5,x6,x7,x8,x9,(.pointer (some ⟨rb,0,none⟩)),(.pointer (some ⟨pb,0,none⟩)),bC,aO,aP,aM,(.int .i64 (i*n:Nat)),(.int .i64 (i:Nat)),aN,bG,bJ,bL,bH,bE,aT,aU,aV,aW,aX,aY,aZ,bA,bB,bO,bP,bQ,bR,bS,bT,bU,bV,bX,bY,cD,cG,cH,cK,cQ,cS,cT,cM,cN,cO,cP,cW,cU,cV,cY,dA,dC,dB,dD,dN,dO,dR,dS,dT,dU,dV,dW,dX,eG,eH,eI,eJ,eK,eL,eM,eN,eO,eP,eQ,eS,eX,eY,eZ,fA,fB,fC,fD,fE,fJ,fK,fL,fM,fN,fO,fP,fQ,fR,fS,fT,fU,fV,fW,fX,fY,fZ,gA,gB,gC,gD,gE,gF,gG,gH,gR,gS,gT,gU,gV,gW,gX,gY,iN,iO,iP,iQ,iR,iS,iT,iV,iW,iX,iY,lE,lF,lG,lH] H1=some (u2,H2)/\Made H0 p H2 u2:=by
 intro q;induction q with
 |zero=>
  intro i k H1 nv1 hr hi hk hM hR hnew;intros;obtain⟨k,rfl⟩:=aB k (by omega)
  obtain rfl:n=i:=by omega
  have e:decide (((n:Nat):Int)<(n:Nat))=false:=by simp
  have l0:=eU hM.hb 0 _ rfl;rw[hpn] at l0;rw[dY,Vc];simp only[gsR,l0,e];rw[aFW];exact aG0 hM hR (λH2 g2 g3 g4 g5=>⟨ev,wv,nv1,rfl,g2,g3,g4,by rw[hpx];exact g5⟩) ..
 |succ q ih=>
  intro i k H1 nv1 hr hi hk hM hR hnew;intros;obtain⟨k,rfl⟩:=aB k (by omega)
  have e:decide ((i:Int)<(n:Nat))=true:=aPD (by omega)
  have e3:=aA (i:=i) (by omega)
  have l0:=eU hM.hb 0 _ rfl;rw[hpn] at l0;rw[dY,Vc];simp only[gsR,l0,e];have hz0:i*n=i*n+0:=rfl;rw[hz0];refine aG1 (H0:=H1) (b:=pb) (rb:=rb) (v:=i) (zs:=zs) (next:=next) (Q:=Made H0 p) hn6 (by omega) (hnx.ext hM.ext) hu8 hnl hpn hM.hr hM.hb ?_ n 0 m H1 (.slice none 0 0) (by omega) (by omega) (by omega) (Fr.nC _ _) (Rw.lQ (el:=inC)) (New.nP _) ..
  intro H2 u x2 hu hun;intros;have hM2:=hM.aGT x2;obtain⟨us,hi1,hap⟩:=hR;have hi:RowsI H2 nv1 ((List.range i).map (wG n next)) us:=hi1.Wa (λb hb=>x2.2 b (hi1.row.j8 hb) id) λu hu b hb=>x2.2 b (hi1.Wb hu hb) id
  have l10:=eU hM2.hb 10 _ rfl;obtain⟨s1,s2⟩:=Rw.zL hu;have s3:u.cells= #[u]:=Array.toList_inj.mp s1;obtain⟨su,rfl⟩: ∃su:SV,su.1=u:=⟨⟨u,s2,s3⟩,rfl⟩;have hb1:=aEE 25 (.slice none 0 0) su.1 s2 s3 H2;obtain⟨nv2,H3,H4,g1,g2,g3,g4,g5,g6,g7⟩:=Bq (by':=24) K7 K6 (by decide) (j:=10) (H0:=H0) su hM2.hb (by simp[plC]) hi.row hnew hM.lp hM2.ext (kM (n:=1000) (by decide) (by have:=hi.len;rw[aO8,aPo] at this;omega))
  have g1':app 25 1 24 nv1 (.slice (some ⟨H2.length,0,none⟩) 1 1) (H2++[.cells [su.1] 25 .row])=some (nv2,H3):=g1;have hb4:H4[pb]? =some (plB p ev wv nv2):=g6;have e5:IntKind.i64.wrap ((i:Int)+1)=((i+1:Nat):Int):=e3;unfold Kg;simp only[gsR,l10,hb1,g1',g2,cC,e5];have kI: ∀(w:Value)(xs:List Int),Iw H2 w xs->Iw H4 w xs:=λw xs hw=>Rw.zP hw g7 hM2.hb (by decide)
  refine ih (i+1) k H4 nv2 (by omega) (by omega) (by omega) ⟨g5,hb4,g7 _ _ hM.ne (λcs hh=>by cases hh) hM2.hr,Rw.zP hM2.e g7 hM2.hb (by decide),hM.en,kI _ _ hM2.w,hM.wn,hM.ne,hM.lp,hM.lr,hM.zl⟩ ⟨us++[su],⟨g3,?_,?_,?_⟩,?_⟩ g4 ..
  ·rw[aO6,hi.len]
   simp
  ·intro j w xs hw hxs
   rw[aPt,List.map_append] at hxs;by_cases hj:j<us.length
   ·rw[aOX hj] at hw
    rw[aOX (by rw[<-hi.len];exact hj)] at hxs
    exact kI _ _ (hi.el j w xs hw hxs)
   ·rw[aPe (by omega)] at hw
    rw[aPe (by rw[<-hi.len];omega),<-hi.len] at hxs
    by_cases h0:j-us.length=0
    ·rw[h0] at hw hxs
     cases hw;cases hxs;exact kI _ _ hu
    ·rw[aO5 (by simp;omega)] at hw
     cases hw
  ·intro j j' w w' hjj hw hw' bb hb1' hb2'
   by_cases hj':j'<us.length
   ·rw[aOX hj'] at hw'
    rw[aOX (by omega)] at hw
    exact hi.ap j j' w w' hjj hw hw' bb hb1' hb2'
   ·rw[aPe (by omega)] at hw'
    by_cases h0:j'-us.length=0
    ·rw[h0] at hw'
     cases hw';rw[aOX (by omega)] at hw
     have h1:=hi1.Wb (aO4 hw) hb1';have h2:=hun bb hb2';omega
    ·rw[aO5 (by simp;omega)] at hw'
     cases hw'
  ·intro w hw bb hb1'
   rcases List.mem_append.mp hw with hw|hw
   ·exact hap w hw bb hb1'
   ·have:w=su:=by simpa using hw
    subst this;have h1:=hun bb hb1';have h3:=hM.ext.1
    exact⟨λhb2'=>by have h2:=hM.w.j8 hb2';omega,by omega⟩
theorem Wd (a b:Nat): ∀(L:List (Nat×Nat))(bit:Nat),oJ bit (L++[(a,b)])=oJ bit L++(if bit/2 ^ L.length%2=1 then [((a:Int),(b:Int))] else [])
 |[],bit=>by
  simp only[List.nil_append,oJ,List.length_nil,Nat.pow_zero,Nat.div_one]
 |(c,d)::L,bit=>by
  have ih:=Wd a b L (bit/2);have hp:bit/2/2 ^ L.length=bit/2 ^ (L.length+1):=by rw[Nat.div_div_eq_div_mul,Nat.pow_succ,Nat.mul_comm]
  rw[hp] at ih;simp only[List.cons_append,oJ,aPg,ih];by_cases h:bit%2=1
  ·rw[if_pos h,if_pos h];rfl
  ·rw[if_neg h,if_neg h]
theorem K9: ∀(L:List (Nat×Nat))(bit:Nat),(oJ bit L).length<=L.length
 |[],_=>aOZ _
 |(c,d)::L,bit=>by
  have ih:=K9 L (bit/2);unfold oJ;split
  ·simp only[aPg];omega
  ·simp only[aPg];omega
theorem Ez (n:Nat):prs (n+1)=prs n++(List.range n).map λa=>(a,n):=by
 unfold prs;rw[aPt,List.flatMap_append];simp
theorem Wc: ∀n,(prs n).length<=n*n
 |0=>by simp[prs]
 |n+1=>by
  have:=Wc n;rw[Ez,aO6,aO8,aPo];have e:(n+1)*(n+1)=n*n+n+n+1:=by rw[Nat.succ_mul,Nat.mul_succ];omega
  omega
theorem aGW (bit k:Nat):bit/2 ^ k/2=bit/2 ^ (k+1):=by rw[Nat.div_div_eq_div_mul,Nat.pow_succ]
theorem aGX {H0:aC}{pb rb B joined:Nat}{a4:Value}{zs:List Value}{Wt:List Int}(hB:B<=6)(hj:joined<65536){Q:aC->Value->Prop}{K:Ex->K (Value×aC)}
  (hK: ∀(H':aC)(ev':Value),MS H0 H' pb rb zs p ev' wv nv (oJ joined (prs (B+1))) Wt-> ∀(x0 x1 x2 x5 x6 x7 x8 x9 bC aM aS bI aN bG bJ bL bH bE aT aU aV aW aX aY aZ bA bB bO bP bQ bR bS bT bU bV bX bY cD cG cH cK cQ cS cT cM cN cO cP cW cU cV cY dA dC dB dD dN dO dR dS dT dU dV dW dX eG eH eI eJ eK eL eM eN eO eP eQ eS eX eY eZ fA fB fC fD fE fJ fK fL fM fN fO fP fQ fR fS fT fU fV fW fX fY fZ gA gB gC gD gE gF gG gH gR gS gT gU gV gW gX gY iN iO iP iQ iR iS iT iV iW iX iY lE lF lG lH:Value),∃H2 u2,K .normal [x0,x1,x2,(.int .u16 joined),a4,x5,x6,x7,x8,x9,(.pointer (some ⟨rb,0,none⟩)),(.pointer (some ⟨pb,0,none⟩)),bC,(.int .u16 (joined/2 ^ (prs (B+1)).length:Nat)),(.int .i64 (IntKind.i64.wrap ((B:Int)+1))),aM,aS,bI,aN,bG,bJ,bL,bH,bE,aT,aU,aV,aW,aX,aY,aZ,bA,bB,bO,bP,bQ,bR,bS,bT,bU,bV,bX,bY,cD,cG,cH,cK,cQ,cS,cT,cM,cN,cO,cP,cW,cU,cV,cY,dA,dC,dB,dD,dN,dO,dR,dS,dT,dU,dV,dW,dX,eG,eH,eI,eJ,eK,eL,eM,eN,eO,eP,eQ,eS,eX,eY,eZ,fA,fB,fC,fD,fE,fJ,fK,fL,fM,fN,fO,fP,fQ,fR,fS,fT,fU,fV,fW,fX,fY,fZ,gA,gB,gC,gD,gE,gF,gG,gH,gR,gS,gT,gU,gV,gW,gX,gY,iN,iO,iP,iQ,iR,iS,iT,iV,iW,iX,iY,lE,lF,lG,lH] H'=some (u2,H2)/\Q H2 u2): ∀(q i k:Nat)(H1:aC)(ev1:Value),B-i=q->i<=B->q<k->MS H0 H1 pb rb zs p ev1 wv nv (oJ joined (prs B++(List.range i).map λa=>(a,B))) Wt-> ∀(x0 x1 x2 x5 x6 x7 x8 x9 bC aS bI aN bG bJ bL bH bE aT aU aV aW aX aY aZ bA bB bO bP bQ bR bS bT bU bV bX bY cD cG cH cK cQ cS cT cM cN cO cP cW cU cV cY dA dC dB dD dN dO dR dS dT dU dV dW dX eG eH eI eJ eK eL eM eN eO eP eQ eS eX eY eZ fA fB fC fD fE fJ fK fL fM fN fO fP fQ fR fS fT fU fV fW fX fY fZ gA gB gC gD gE gF gG gH gR gS gT gU gV gW gX gY iN iO iP iQ iR iS iT iV iW iX iY lE lF lG lH:Value),
  ∃H2 u2,aI k (aK prog (lvl prog cF m) (aI m) Kc) (Kj (lvl prog cF m) (aI m) K) [x0,x1,x2,(.int .u16 joined),a4,x5,x6,x7,x8,x9,(.pointer (some ⟨rb,0,none⟩)),(.pointer (some ⟨pb,0,none⟩)),bC,(.int .u16 (joined/2 ^ ((prs B).length+i):Nat)),(.int .i64 (B:Nat)),(.int .i64 (i:Nat)),aS,bI,aN,bG,bJ,bL,bH,bE,aT,aU,aV,aW,aX,aY,aZ,bA,bB,bO,bP,bQ,bR,bS,bT,bU,bV,bX,bY,cD,cG,cH,cK,cQ,cS,cT,cM,cN,cO,cP,cW,cU,cV,cY,dA,dC,dB,dD,dN,dO,dR,dS,dT,dU,dV,dW,dX,eG,eH,eI,eJ,eK,eL,eM,eN,eO,eP,eQ,eS,eX,eY,eZ,fA,fB,fC,fD,fE,fJ,fK,fL,fM,fN,fO,fP,fQ,fR,fS,fT,fU,fV,fW,fX,fY,fZ,gA,gB,gC,gD,gE,gF,gG,gH,gR,gS,gT,gU,gV,gW,gX,gY,iN,iO,iP,iQ,iR,iS,iT,iV,iW,iX,iY,lE,lF,lG,lH] H1=some (u2,H2)/\Q H2 u2:=by
 intro q;induction q with
 |zero=>
  intro i k H1 ev1 hr hi hk hM;intros;obtain⟨k,rfl⟩:=aB k (by omega)
  obtain rfl:B=i:=by omega
  have e:decide (((B:Nat):Int)<(B:Nat))=false:=by simp
  rw[<-Ez] at hM;have hl:(prs B).length+B=(prs (B+1)).length:=by rw[Ez,aO6,aO8,aPo]
  rw[hl];rw[dY,Vb];simp only[gsR,e];rw[aFV];simp only[gsR,cC];exact hK H1 ev1 hM ..
 |succ q ih=>
  intro i k H1 ev1 hr hi hk hM;intros;obtain⟨k,rfl⟩:=aB k (by omega)
  have e:decide ((i:Int)<(B:Nat))=true:=aPD (by omega)
  have e3:=aA (i:=i) (by omega)
  have hpl:=Wc B;have hpl2:B*B<=36:=Nat.mul_le_mul hB hB;have hbit:joined/2 ^ ((prs B).length+i)<65536:=Nat.lt_of_le_of_lt (Nat.div_le_self _ _) hj;have r2:=aG5 (joined/2 ^ ((prs B).length+i)) 2 2 rfl (by omega)
  have q2:=aG4 (joined/2 ^ ((prs B).length+i)) 2 2 rfl (by omega) hbit
  rw[aGW,Nat.add_assoc] at q2;have l1:=eU hM.hb 1 _ rfl;have hlen:(prs B++(List.range i).map λa=>(a,B)).length=(prs B).length+i:=by rw[aO6,aO8,aPo]
  have hsn:=Wd i B (prs B++(List.range i).map λa=>(a,B)) joined
  rw[hlen] at hsn;have hap:prs B++(List.range (i+1)).map (λa=>(a,B))=(prs B++(List.range i).map λa=>(a,B))++[(i,B)]:=by rw[aPt,List.map_append,aO1];rfl
  have hsl:=K9 (prs B++(List.range i).map λa=>(a,B)) joined
  rw[hlen] at hsl;rw[dY,Vb];by_cases c:joined/2 ^ ((prs B).length+i)%2=1
  ·have d:(((joined/2 ^ ((prs B).length+i)%2:Nat):Int)==1)=true:=by rw[c];rfl
   rw[if_pos c] at hsn;obtain⟨ev2,H3,H4,g1,g2,g3,g4,g5,g6,g7⟩:=Bq (by':=16) sZ Kx (by decide) (j:=1) (H0:=H0) ((i:Int),(B:Int)) hM.hb (by simp[plC]) hM.e hM.en hM.lp hM.ext (kM (n:=1000) (by decide) (by omega))
   have hb4:H4[pb]? =some (plB p ev2 wv nv):=g6;simp only[gsR,e,r2,d,l1,bEd,aGV,g1,g2,q2,cC,e3];exact ih (i+1) k H4 ev2 (by omega) (by omega) (by omega) ⟨g5,hb4,g7 _ _ hM.ne (λcs hh=>by cases hh) hM.hr,by rw[hap,hsn];exact g3,g4,Rw.zP hM.w g7 hM.hb (by decide),hM.wn,hM.ne,hM.lp,hM.lr,hM.zl⟩ ..
  ·have d:(((joined/2 ^ ((prs B).length+i)%2:Nat):Int)==1)=false:=beq_eq_false_iff_ne.mpr (λh=>c (Int.ofNat.inj h))
   rw[if_neg c,List.append_nil] at hsn;simp only[gsR,e,r2,d,q2,cC,e3];exact ih (i+1) k H1 ev1 (by omega) (by omega) (by omega) (by rw[hap,hsn];exact hM) ..
theorem aGY {H0:aC}{pb rb n joined:Nat}{a4:Value}{next:List Nat}{zs:List Value}(hn6:n<=6)(hnx:Us H0 a4 next)(hu8: ∀x∈next,x<256)(hnl:next.length<=72057594037927936)(hpn:p.nodes=(n:Int))(hm:50<m)(hj:joined<65536)(hpx:p.next=(List.range n).map (wG n next))(hpe:p.edges=oJ joined (prs n))(hn1:1<=n): ∀(q i k:Nat)(H1:aC)(ev1:Value),n-i=q->i<=n->q<k->1<=i->MS H0 H1 pb rb zs p ev1 wv (.slice none 0 0) (oJ joined (prs i)) p.weights-> ∀(x0 x1 x2 x5 x6 x7 x8 x9 bC aM aS bI aN bG bJ bL bH bE aT aU aV aW aX aY aZ bA bB bO bP bQ bR bS bT bU bV bX bY cD cG cH cK cQ cS cT cM cN cO cP cW cU cV cY dA dC dB dD dN dO dR dS dT dU dV dW dX eG eH eI eJ eK eL eM eN eO eP eQ eS eX eY eZ fA fB fC fD fE fJ fK fL fM fN fO fP fQ fR fS fT fU fV fW fX fY fZ gA gB gC gD gE gF gG gH gR gS gT gU gV gW gX gY iN iO iP iQ iR iS iT iV iW iX iY lE lF lG lH:Value),
  ∃H2 u2,aI k (aK prog (lvl prog cF m) (aI m) Kb) (Ki (lvl prog cF m) (aI m)) [x0,x1,x2,(.int .u16 joined),a4,x5,x6,x7,x8,x9,(.pointer (some ⟨rb,0,none⟩)),(.pointer (some ⟨pb,0,none⟩)),bC,(.int .u16 (joined/2 ^ (prs i).length:Nat)),(.int .i64 (i:Nat)),aM,aS,bI,aN,bG,bJ,bL,bH,bE,aT,aU,aV,aW,aX,aY,aZ,bA,bB,bO,bP,bQ,bR,bS,bT,bU,bV,bX,bY,cD,cG,cH,cK,cQ,cS,cT,cM,cN,cO,cP,cW,cU,cV,cY,dA,dC,dB,dD,dN,dO,dR,dS,dT,dU,dV,dW,dX,eG,eH,eI,eJ,eK,eL,eM,eN,eO,eP,eQ,eS,eX,eY,eZ,fA,fB,fC,fD,fE,fJ,fK,fL,fM,fN,fO,fP,fQ,fR,fS,fT,fU,fV,fW,fX,fY,fZ,gA,gB,gC,gD,gE,gF,gG,gH,gR,gS,gT,gU,gV,gW,gX,gY,iN,iO,iP,iQ,iR,iS,iT,iV,iW,iX,iY,lE,lF,lG,lH] H1=some (u2,H2)/\Made H0 p H2 u2:=by
 intro q;induction q with
 |zero=>
  intro i k H1 ev1 hr hi hk h1i hM;intros;obtain⟨k,rfl⟩:=aB k (by omega)
  obtain rfl:n=i:=by omega
  have e:decide (((n:Nat):Int)<(n:Nat))=false:=by simp
  have l0:=eU hM.hb 0 _ rfl;rw[hpn] at l0;rw[<-hpe] at hM;rw[dY,Va];simp only[gsR,l0,e];rw[aFU];have:=aG2 (m:=m) (pb:=pb) (rb:=rb) (zs:=zs) (wv:=wv) (ev:=ev1) (joined:=joined) hn6 hnx hu8 hnl hpn hm hpx n 0 m H1 (.slice none 0 0) (by omega) (by omega) (by omega) hM ⟨[],⟨Rw.lQ,rfl,λj u xs h=>by simp at h,λj j' u u' _ h=>by simp at h⟩,λu hu=>by cases hu⟩ (New.nP _)
  rw[Nat.zero_mul] at this;exact this ..
 |succ q ih=>
  intro i k H1 ev1 hr hi hk h1i hM;intros;obtain⟨k,rfl⟩:=aB k (by omega)
  have e:decide ((i:Int)<(n:Nat))=true:=aPD (by omega)
  have e3:=aA (i:=i) (by omega)
  have l0:=eU hM.hb 0 _ rfl;rw[hpn] at l0;rw[dY,Va];simp only[gsR,l0,e];refine aGX (H0:=H0) (pb:=pb) (rb:=rb) (B:=i) (joined:=joined) (zs:=zs) (wv:=wv) (Wt:=p.weights) (Q:=Made H0 p) (by omega) hj ?_ i 0 m H1 ev1 (by omega) (by omega) (by omega) (by simpa using hM) ..
  intro H2 ev2 hM2;intros;rw[again_normal,e3];exact ih (i+1) k H2 ev2 (by omega) (by omega) (by omega) (by omega) hM2 ..
theorem aG3 {H0:aC}{pb rb n joined:Nat}{a4:Value}{next:List Nat}{zs:List Value}(hn6:n<=6)(hnx:Us H0 a4 next)(hu8: ∀x∈next,x<256)(hnl:next.length<=72057594037927936)(hpn:p.nodes=(n:Int))(hm:50<m){more:Nat}(hmore:more<256)(hj:joined<65536)(hpx:p.next=(List.range n).map (wG n next))(hpe:p.edges=oJ joined (prs n))(hpw:p.weights=(List.range (1+more%3)).map (mkW more))(hpl:p.lanes=((1+more%3:Nat):Int))(hn1:1<=n): ∀(q i k:Nat)(H1:aC)(wv1:Value),(1+more%3)-i=q->i<=(1+more%3)->q<k->MS H0 H1 pb rb zs p (.slice none 0 0) wv1 (.slice none 0 0) [] ((List.range i).map (mkW more))-> ∀(x0 x1 x5 x6 x7 x8 x9 aO aP aM aS bI aN bG bJ bL bH bE aT aU aV aW aX aY aZ bA bB bO bP bQ bR bS bT bU bV bX bY cD cG cH cK cQ cS cT cM cN cO cP cW cU cV cY dA dC dB dD dN dO dR dS dT dU dV dW dX eG eH eI eJ eK eL eM eN eO eP eQ eS eX eY eZ fA fB fC fD fE fJ fK fL fM fN fO fP fQ fR fS fT fU fV fW fX fY fZ gA gB gC gD gE gF gG gH gR gS gT gU gV gW gX gY iN iO iP iQ iR iS iT iV iW iX iY lE lF lG lH:Value),
  ∃H2 u2,aI k (aK prog (lvl prog cF m) (aI m) Ka) (Kh (lvl prog cF m) (aI m)) [x0,x1,(.int .u8 more),(.int .u16 joined),a4,x5,x6,x7,x8,x9,(.pointer (some ⟨rb,0,none⟩)),(.pointer (some ⟨pb,0,none⟩)),(.int .i64 (i:Nat)),aO,aP,aM,aS,bI,aN,bG,bJ,bL,bH,bE,aT,aU,aV,aW,aX,aY,aZ,bA,bB,bO,bP,bQ,bR,bS,bT,bU,bV,bX,bY,cD,cG,cH,cK,cQ,cS,cT,cM,cN,cO,cP,cW,cU,cV,cY,dA,dC,dB,dD,dN,dO,dR,dS,dT,dU,dV,dW,dX,eG,eH,eI,eJ,eK,eL,eM,eN,eO,eP,eQ,eS,eX,eY,eZ,fA,fB,fC,fD,fE,fJ,fK,fL,fM,fN,fO,fP,fQ,fR,fS,fT,fU,fV,fW,fX,fY,fZ,gA,gB,gC,gD,gE,gF,gG,gH,gR,gS,gT,gU,gV,gW,gX,gY,iN,iO,iP,iQ,iR,iS,iT,iV,iW,iX,iY,lE,lF,lG,lH] H1=some (u2,H2)/\Made H0 p H2 u2:=by
 intro q;induction q with
 |zero=>
  intro i k H1 wv1 hr hi hk hM;intros;obtain⟨k,rfl⟩:=aB k (by omega)
  obtain rfl:(1+more%3)=i:=by omega
  have e:decide ((((1+more%3):Nat):Int)<((1+more%3):Nat))=false:=by simp
  have l2:=eU hM.hb 2 _ rfl;rw[hpl] at l2;rw[<-hpw] at hM;rw[dY,U9];simp only[gsR,l2,e];rw[aFT];have:=aGY (m:=m) (pb:=pb) (rb:=rb) (zs:=zs) (wv:=wv1) (joined:=joined) hn6 hnx hu8 hnl hpn hm hj hpx hpe hn1 (n-1) 1 m H1 (.slice none 0 0) rfl hn1 (by omega) (aOZ _) hM
  have hp1:joined/2 ^ (prs 1).length=joined:=by
   have:(prs 1).length=0:=rfl;rw[this,Nat.pow_zero,Nat.div_one]
  rw[hp1] at this;exact this ..
 |succ q ih=>
  intro i k H1 wv1 hr hi hk hM;intros;obtain⟨k,rfl⟩:=aB k (by omega)
  have e:decide ((i:Int)<((1+more%3):Nat))=true:=aPD (by omega)
  have e3:=aA (i:=i) (by omega)
  have l2:=eU hM.hb 2 _ rfl;rw[hpl] at l2;have l8:=eU hM.hb 8 _ rfl;have hcv:=λH=>cvU H more hmore
  have a1:IntKind.i64.wrap ((i:Int)+(more:Int))=((i+more:Nat):Int):=by rw[dG (by omega) (by omega)];omega
  have a2:=q9 (i+more) 5 5 rfl (by omega)
  have a3:IntKind.i64.wrap (1+((((i+more)%5:Nat)):Int))=mkW more i:=by unfold mkW;rw[dG (by omega) (by omega)];omega
  obtain⟨wv2,H2,H3,g1,g2,g3,g4,g5,g6,g7⟩:=Bq (by':=8) jK pC (by decide) (j:=8) (H0:=H0) (mkW more i) hM.hb (by simp[plC]) hM.w hM.wn hM.lp hM.ext (kM (n:=1000) (by decide) (by simp;omega))
  have hb3:H3[pb]? =some (plB p (.slice none 0 0) wv2 (.slice none 0 0)):=g6;rw[dY,U9];simp only[gsR,l2,e,l8,hcv,cC,a1,a2,a3,oW,g1,g2,e3];exact ih (i+1) k H3 wv2 (by omega) (by omega) (by omega) ⟨g5,hb3,g7 _ _ hM.ne (λcs hh=>by cases hh) hM.hr,Rw.lQ,New.nP _,by rw[aPt,List.map_append];exact g3,g4,hM.ne,hM.lp,hM.lr,hM.zl⟩ ..
theorem bPl (a b c d e f g h:Int):bld prog 28 [(0,.int .i64 a),(2,.int .i64 b),(3,.int .i64 c),(4,.int .i64 d),(5,.int .i64 e),(6,.int .i64 f),(7,.int .i64 g),(9,.int .u16 h)]=some (.agg #[.int .i64 a,.slice none 0 0,.int .i64 b,.int .i64 c,.int .i64 d,.int .i64 e,.int .i64 f,.int .i64 g,.slice none 0 0,.int .u16 h,.slice none 0 0]):=by kernel_rfl
theorem aGZ (nodes room more joined:Nat)(h1:nodes<256)(h2:room<256)(h3:more<256)(h4:joined<65536){a4:Value}{next:List Nat}(hnx:Us H a4 next)(hu8: ∀x∈next,x<256)(hnl:next.length<=72057594037927936)(hm:60<m):
  ∃H2 u,lvl prog cF m (.func 16) [.int .u8 nodes,.int .u8 room,.int .u8 more,.int .u16 joined,a4] H=some (u,H2)/\Made H (mkP nodes room more joined next) H2 u:=by
 obtain⟨p,hp⟩: ∃p,p=mkP nodes room more joined next:=⟨_,rfl⟩
 rw[<-hp];obtain⟨zs,hzs⟩: ∃zs,zs=[Value.int .i64 0,.slice none 0 0,.int .i64 0,.int .i64 0,.int .i64 0,.int .i64 0,.int .i64 0,.int .i64 0,.slice none 0 0,.int .u16 0,.slice none 0 0]:=⟨_,rfl⟩;obtain⟨H1,hH1⟩: ∃H1,H1=H++[Blk.cells zs 28 .fix]:=⟨_,rfl⟩;have x1:Ext H H1:=by rw[hH1];exact Fr.app _ _ _
 have n1:=uX nodes 5 5 rfl (by omega)
 have n2:=λH=>cvU H (nodes%5) (by omega)
 have n3:IntKind.i64.wrap (2+((nodes%5:Nat):Int))=p.nodes:=by rw[dG (by omega) (by omega),hp];simp[mkP,mkN]
 have n4:=uX more 3 3 rfl (by omega)
 have n5:=λH=>cvU H (more%3) (by omega)
 have n6:IntKind.i64.wrap (1+((more%3:Nat):Int))=p.lanes:=by rw[dG (by omega) (by omega),hp];simp[mkP]
 have r1:=uX room 8 8 rfl (by omega)
 have r2:=λH=>cvU H (room%8) (by omega)
 have r3:IntKind.i64.wrap (1+((room%8:Nat):Int))=p.room:=by rw[dG (by omega) (by omega),hp];simp[mkP]
 have r4:=E0 room 8 8 rfl (by omega) h2
 have r5:=uX (room/8) 8 8 rfl (by omega)
 have r6:=λH=>cvU H (room/8%8) (by omega)
 have r7:IntKind.i64.wrap (1+((room/8%8:Nat):Int))=p.queue:=by rw[dG (by omega) (by omega),hp];simp[mkP]
 have m1:=E0 more 3 3 rfl (by omega) h3
 have m2:=uX (more/3) 4 4 rfl (by omega)
 have m3:=λH=>cvU H (more/3%4) (by omega)
 have m4:IntKind.i64.wrap (1+((more/3%4:Nat):Int))=p.rounds:=by rw[dG (by omega) (by omega),hp];simp[mkP]
 have m5:=E0 more 12 12 rfl (by omega) h3
 have m6:=uX (more/12) 8 8 rfl (by omega)
 have m7:=λH=>cvU H (more/12%8) (by omega)
 have m8:IntKind.i64.wrap (1+((more/12%8:Nat):Int))=p.every:=by rw[dG (by omega) (by omega),hp];simp[mkP]
 have b64:p.bag=64:=by rw[hp];rfl
 have bst:p.start=joined:=by rw[hp];rfl
 obtain⟨H2,hH2⟩: ∃H2,H2=H1++[plB p (.slice none 0 0) (.slice none 0 0) (.slice none 0 0)]:=⟨_,rfl⟩;have x2:Ext H1 H2:=by rw[hH2];exact Fr.app _ _ _
 have st:stN 11 (.pointer (some ⟨H1.length,0,none⟩)) (.agg #[.int .i64 p.nodes,.slice none 0 0,.int .i64 p.lanes,.int .i64 p.room,.int .i64 p.queue,.int .i64 p.rounds,.int .i64 p.every,.int .i64 64,.slice none 0 0,.int .u16 joined,.slice none 0 0]) (H1++[.cells zs 28 .fix])=some (undef,H2):=by
  rw[mS 11 _ _ _ rfl,gZ,n9 _ _ _ _ _ _ (by decide) (by rw[hzs];simp[Value.cells]) rfl,hH2,hzs]
  simp[eT,Value.cells,plB,plC,b64,bst]
 have hr1:H1[H.length]? =some (.cells zs 28 .fix):=by rw[hH1];exact gZ _ _
 have hM:MS H H2 H1.length H.length zs p (.slice none 0 0) (.slice none 0 0) (.slice none 0 0) [] ((List.range 0).map (mkW more)):=
  ⟨x1.tr x2,by rw[hH2];exact gZ _ _,hZ hr1 x2,Rw.lQ,New.nP _,Rw.lQ,New.nP _,by rw[hH1,aO6];simp,x1.1,aOZ _,by rw[hzs];rfl⟩
 refine jJ (iH rfl rfl) (by omega) ?_
 rw[aFY];simp only[gsR,<-hzs,<-hH1,n1,n2,cC,n3,n4,n5,n6,r1,r2,r3,r4,r5,r6,r7,m1,m2,m3,m4,m5,m6,m7,m8,bPl,st];exact aG3 (m:=m-1) (n:=mkN nodes) (p:=p) (pb:=H1.length) (rb:=H.length) (zs:=zs) (by unfold mkN;omega) hnx hu8 hnl (by rw[hp];rfl) (by omega) h3 h4 (by rw[hp];rfl) (by rw[hp];rfl) (by rw[hp];rfl) (by rw[hp];rfl) (by unfold mkN;omega) (1+more%3) 0 (m-1) H2 (.slice none 0 0) (by omega) (by omega) (by omega) hM ..
end
def okE (n:Int)(e:Ed):Prop:=0<=e.1/\e.1<e.2/\e.2<n
structure VE (n:Int)(E:List Ed):Prop where
 ok: ∀e∈E,okE n e
 nd:E.Nodup
theorem Wi (n:Int): ∀(E old:List Ed),uV n old E=true↔((∀e∈E,okE n e)/\E.Nodup/\ ∀e∈E,e∉old)
 |[],old=>by simp[uV]
 |e::E,old=>by
  have ih:=Wi n E (old++[e]);have hany:(old.any λx=>x==e)=true↔e∈old:=by
   rw[List.any_eq_true];constructor
   ·rintro ⟨x,h1,h2⟩
    have:x=e:=by simpa using h2
    exact this▸h1
   ·intro h
    exact⟨e,h,by simp⟩
  unfold uV;rw[aO2,ih,Bool.not_eq_true',Bool.or_eq_false_iff,Bool.or_eq_false_iff,Bool.or_eq_false_iff];simp only[decide_eq_false_iff_not,List.nodup_cons,aPd,List.mem_append,aPk,or_false];have hany':(old.any λx=>x==e)=false↔e∉old:=by rw[<-Bool.not_eq_true,hany]
  rw[hany'];constructor
  ·rintro ⟨⟨h1,h2,h3,h4⟩,h5,h6,h7⟩
   refine⟨?_,⟨λhh=>(h7 e hh) (.inr rfl),h6⟩,?_⟩
   ·rintro x (rfl|hx)
    ·exact⟨by omega,by omega,by omega⟩
    ·exact h5 x hx
   ·rintro x (rfl|hx)
    ·exact h4
    ·exact λhh=>h7 x hx (.inl hh)
  ·rintro ⟨h1,⟨h2,h3⟩,h4⟩
   obtain⟨a1,a2,a3⟩:=h1 e (.inl rfl);refine⟨⟨by omega,by omega,by omega,h4 e (.inl rfl)⟩,λx hx=>h1 x (.inr hx),h3,λx hx=> ?_⟩
   rintro (hh|rfl)
   ·exact h4 x (.inr hx) hh
   ·exact h2 hx
theorem Wj (n:Int)(E:List Ed):uV n [] E=true↔VE n E:=by
 rw[Wi]
 exact⟨λh=>⟨h.1,h.2.1⟩,λh=>⟨h.ok,h.nd,λ_ _=>aPk⟩⟩
def zQ (p:Nat×Nat):Ed:=((p.1:Int),(p.2:Int))
theorem Lf: ∀(L:List (Nat×Nat))(bit:Nat),(oJ bit L).Sublist (L.map zQ)
 |[],_=>List.Sublist.slnil
 |(a,b)::L,bit=>by
  unfold oJ;split
  ·exact(Lf L (bit/2)).cons_cons _
  ·exact(Lf L (bit/2)).cons _
theorem Wm {n a b:Nat}:(a,b)∈prs n↔a<b/\b<n:=by
 unfold prs;rw[List.mem_flatMap];constructor
 ·rintro ⟨x,h1,h2⟩
  obtain⟨y,h3,h4⟩:=aPx.mp h2;cases h4
  exact⟨aPy.mp h3,aPy.mp h1⟩
 ·rintro ⟨h1,h2⟩
  exact⟨b,aPy.mpr h2,aPx.mpr ⟨a,aPy.mpr h1,rfl⟩⟩
theorem Wn: ∀n,(prs n).Nodup
 |0=>List.Pairwise.nil
 |n+1=>by
  rw[Ez];refine List.nodup_append.mpr ⟨Wn n,?_,?_⟩
  ·exact(List.nodup_range).map (λa=>(a,n)) λa b hab h=>hab (by cases h;rfl)
  ·intro x hx y hy
   obtain⟨a,_,rfl⟩:=aPx.mp hy;obtain⟨x1,x2⟩:=x;have:=(Wm.mp hx).2;intro hh;cases hh;omega
theorem aG7 {x y:Nat×Nat}(h:zQ x=zQ y):x=y:=by
 obtain⟨a,b⟩:=x;obtain⟨c,d⟩:=y;simp only[zQ,Prod.mk.injEq] at h;have h1:a=c:=by omega
 have h2:b=d:=by omega
 rw[h1,h2]
theorem aHa (bit n:Nat):VE n (oJ bit (prs n)):=by
 have hs:=Lf (prs n) bit;refine⟨λe he=> ?_,(((Wn n).map zQ λa b hab h=>hab (aG7 h)).sublist hs)⟩
 obtain⟨⟨a,b⟩,h1,rfl⟩:=aPx.mp (hs.subset he);obtain⟨h2,h3⟩:=Wm.mp h1;simp only[okE,zQ];omega
theorem aG9 {n:Nat}(h:n<=6):(prs n).length<=15:=by
 have:n=0∨n=1∨n=2∨n=3∨n=4∨n=5∨n=6:=by omega
 rcases this with rfl|rfl|rfl|rfl|rfl|rfl|rfl<;>decide
theorem E2 {v w:Int}{e:Ed}:w∈mU v e↔v≠w/\(e=(v,w)∨e=(w,v)):=by
 obtain⟨a,b⟩:=e;unfold mU;simp only[Prod.mk.injEq];by_cases h1:a=b
 ·rw[if_pos h1]
  constructor
  ·intro h;cases h
  ·rintro ⟨h,⟨h2,h3⟩|⟨h2,h3⟩⟩
   ·exact absurd (h2.symm.trans (h1.trans h3)) h
   ·exact absurd (h3.symm.trans (h1.symm.trans h2)) h
 ·rw[if_neg h1]
  by_cases h2:a=v
  ·rw[if_pos h2,List.mem_singleton]
   constructor
   ·rintro rfl
    exact⟨λhh=>h1 (h2.trans hh),.inl ⟨h2,rfl⟩⟩
   ·rintro ⟨h,⟨_,h3⟩|⟨h3,h4⟩⟩
    ·exact h3.symm
    ·exact absurd (h2.symm.trans h3) h
  ·rw[if_neg h2]
   by_cases h3:b=v
   ·rw[if_pos h3,List.mem_singleton]
    constructor
    ·rintro rfl
     exact⟨λhh=>h2 hh.symm,.inr ⟨rfl,h3⟩⟩
    ·rintro ⟨h,⟨h4,_⟩|⟨h4,_⟩⟩
     ·exact absurd h4 h2
     ·exact h4.symm
   ·rw[if_neg h3]
    constructor
    ·intro h;cases h
    ·rintro ⟨h,⟨h4,_⟩|⟨_,h4⟩⟩
     ·exact absurd h4 h2
     ·exact absurd h4 h3
theorem Wg {E:List Ed}{v w:Int}:w∈kH E v↔v≠w/\((v,w)∈E∨(w,v)∈E):=by
 unfold kH;rw[List.mem_flatMap];constructor
 ·rintro ⟨e,h1,h2⟩
  obtain⟨h3,h4⟩:=E2.mp h2;rcases h4 with rfl|rfl
  ·exact⟨h3,.inl h1⟩
  ·exact⟨h3,.inr h1⟩
 ·rintro ⟨h3,h4|h4⟩
  ·exact⟨_,h4,E2.mpr ⟨h3,.inl rfl⟩⟩
  ·exact⟨_,h4,E2.mpr ⟨h3,.inr rfl⟩⟩
theorem Wf {E:List Ed}{v w:Int}:w∈bes E v↔v≠w/\((v,w)∈E∨(w,v)∈E):=by rw[K4,Wg]
theorem E1 {n:Int}{E:List Ed}(hE:VE n E){v w:Int}(h:w∈bes E v):0<=w/\w<n/\0<=v/\v<n:=by
 obtain⟨_,h|h⟩:=Wf.mp h
 ·have:=hE.ok _ h
  simp only[okE] at this;omega
 ·have:=hE.ok _ h
  simp only[okE] at this;omega
theorem Wk (x:Int): ∀l:List Int,x∉l->(qH x l).length=l.length+1
 |[],_=>rfl
 |y::r,h=>by
  have ih:=Wk x r (λhh=>h (by simp[hh]))
  unfold qH;split
  ·simp only[aPg,ih]
  ·split
   ·rename_i hh
    exact absurd (by simp[hh]) h
   ·simp only[aPg]
theorem Wo: ∀(xs l:List Int),xs.Nodup->(∀x∈xs,x∉l)->(wF l xs).length=l.length+xs.length
 |[],l,_,_=>rfl
 |x::xs,l,h,hd=>by
  obtain⟨h1,h2⟩:=List.nodup_cons.mp h;have:=Wo xs (qH x l) h2 (λy hy hh=>by
   rcases(Ev x y l).mp hh with rfl|hh
   ·exact h1 hy
   ·exact hd y (by simp[hy]) hh)
  have h3:=Wk x l (hd x (by simp))
  unfold wF at*;rw[List.foldl_cons,this,h3,aPg];omega
theorem Wh {n:Int}: ∀(E:List Ed),VE n E-> ∀v,(kH E v).Nodup
 |[],_,v=>List.Pairwise.nil
 |e::E,h,v=>by
  have hE:VE n E:=⟨λx hx=>h.ok x (by simp[hx]),(List.nodup_cons.mp h.nd).2⟩
  have ih:=Wh E hE v;have hc:kH (e::E) v=mU v e++kH E v:=by unfold kH;rw[List.flatMap_cons]
  rw[hc];refine List.nodup_append.mpr ⟨?_,ih,?_⟩
  ·unfold mU
   split
   ·exact List.Pairwise.nil
   ·split
    ·simp
    ·split<;>simp
  ·intro x hx y hy hh
   subst hh;obtain⟨h1,h2⟩:=E2.mp hx;obtain⟨_,h3⟩:=Wg.mp hy;have he:=(List.nodup_cons.mp h.nd).1;have o1:=h.ok e (by simp)
   rcases h2 with rfl|rfl
   ·rcases h3 with h3|h3
    ·exact he h3
    ·have o2:=hE.ok _ h3
     simp only[okE] at o1 o2;omega
   ·rcases h3 with h3|h3
    ·have o2:=hE.ok _ h3
     simp only[okE] at o1 o2;omega
    ·exact he h3
theorem aG6 {n:Int}{E:List Ed}(h:VE n E)(v:Int):(bes E v).length=(kH E v).length:=by
 rw[aGS,Wo _ _ (Wh E h v) (λ_ _=>aPk)]
 simp
theorem Lc (nodes:Nat):2<=mkN nodes/\mkN nodes<=6:=by unfold mkN;omega
theorem aG8 (nodes room more joined:Nat)(next:List Nat):VE (mkP nodes room more joined next).nodes (mkP nodes room more joined next).edges:=aHa joined (mkN nodes)
theorem Wl (nodes room more joined:Nat)(next:List Nat):(mkP nodes room more joined next).edges.length<=15:=
 aPa (K9 _ _) (aG9 (Lc nodes).2)
theorem Ld (nodes room more joined:Nat)(next:List Nat):kY (mkP nodes room more joined next)=true:=by
 have hn:=Lc nodes;unfold kY;simp only[aO2,decide_eq_true_eq];refine⟨?_,by unfold xZ;rw[aO2,decide_eq_true_eq];exact⟨(Wj _ _).mpr (aG8 ..),by have:=Wl nodes room more joined next;omega⟩,?_,?_,?_,?_⟩
 ·unfold uW wi mkP
  simp only[aO2,decide_eq_true_eq];omega
 ·simp[mkP]
 ·unfold wOk
  simp only[mkP,aO8,aPo];rw[aPE (by omega),aPE (by omega)]
  simp only[Bool.false_or,Bool.not_eq_true',List.any_eq_false];intro x hx;obtain⟨i,_,rfl⟩:=aPx.mp hx;unfold q8 mkW;rw[aPE (by omega),aPE (by omega)]
  simp
 ·simp[mkP]
 ·unfold wE
  simp only[Bool.not_eq_true',List.any_eq_false];intro x hx;obtain⟨i,_,rfl⟩:=aPx.mp hx;simp[wG,mkP]
theorem Made.pv {H0 H2:aC}{nodes room more joined:Nat}{next:List Nat}{u:Value}(h:Made H0 (mkP nodes room more joined next) H2 u): ∃ev wv nv,u=plV (mkP nodes room more joined next) ev wv nv/\Ext H0 H2/\PV H2 (mkP nodes room more joined next) ev wv nv:=by
 obtain⟨ev,wv,nv,h1,h2,h3,h4,h5⟩:=h;have:=Wl nodes room more joined next
 have hn:=Lc nodes
 exact⟨ev,wv,nv,h1,h2,h3.rs,h4.rs,h5.rw.aGU,by omega,by simp[mkP];omega,by simp[mkP];omega⟩
def plZ:Blk:= .cells [Value.int .i64 0,.slice none 0 0,.int .i64 0,.int .i64 0,.int .i64 0,.int .i64 0,.int .i64 0,.int .i64 0,.slice none 0 0,.int .u16 0,.slice none 0 0] 28 .fix
theorem Bu:Blk.cells [Value.int .i64 0,.slice none 0 0,.int .i64 0,.int .i64 0,.int .i64 0,.int .i64 0,.int .i64 0,.int .i64 0,.slice none 0 0,.int .u16 0,.slice none 0 0] 28 .fix=plZ:=rfl
section
variable {H : aC} {m : Nat} {p : PlanD} {ev wv nv : Value}
theorem Rs.Bt {α:Type}{el:α->List Value}{e:TypeId}{v:Value}{xs:List α}(h:Rs el e H v xs):v.cells.toList=[v]/\dZ [v]=true/\veq 3 v v=true:=by
 rcases h with⟨rfl,_⟩|⟨b,o,cap,rfl,_⟩
 ·exact⟨rfl,rfl,rfl⟩
 ·exact⟨rfl,rfl,by simp[veq]⟩
theorem Rows.Wp {v:Value}{xss:List (List Int)}(h:Rows H v xss):v.cells.toList=[v]/\dZ [v]=true/\veq 3 v v=true:=by
 obtain⟨us,h1,_⟩:=h;exact Rs.Bt h1
theorem PV.Lg (h:PV H p ev wv nv):dZ (plC p ev wv nv)=true:=by
 have e1: ∀(v:Value)(vs:List Value),dZ [v]=true->dZ (v::vs)=dZ vs:=λv vs h=>by
  simp only[dZ,List.all_cons,List.all_nil,Bool.and_true] at h⊢;rw[h,aPh]
 simp only[plC,Sp,e1 _ _ (Rs.Bt h.e).2.1,e1 _ _ (Rs.Bt h.w).2.1,e1 _ _ (Rows.Wp h.n).2.1,Sq]
theorem PV.chk (h:PV H p ev wv nv)(H':aC):Go.Abs.chk (some (plV p ev wv nv,H')) (plV p ev wv nv)=true:=by
 have h1:=(Rs.Bt h.e).2.2;have h2:=(Rs.Bt h.w).2.2;have h3:=(Rows.Wp h.n).2.2;have hi: ∀(k:IntKind)(a:Int),veq 3 (.int k a) (.int k a)=true:=λk a=>by simp[veq]
 show veq 4 (plV p ev wv nv) (plV p ev wv nv)=true
 unfold plV plC;rw[veq];simp only[uK,hi,h1,h2,h3,Bool.and_self]
theorem E3 (h:PV H p ev wv nv)(H':aC):stN 11 (.pointer (some ⟨H'.length,0,none⟩)) (plV p ev wv nv) (H'++[plZ])=some (undef,H'++[plB p ev wv nv]):=by
 have e1:(plV p ev wv nv).cells.toList=plC p ev wv nv:=rfl;rw[mS 11 _ _ _ rfl,gZ,e1];unfold plZ;rw[n9 _ _ _ _ _ _ (by decide) (by simp[plC]) h.Lg]
 simp[eT,plC,plB]
theorem Bv {q q':PlanD}{ev' wv' nv' v:Value}{b j:Nat}(hb:H[b]? =some (plB q ev wv nv))(hv:v.cells.toList=[v])(ha:dZ [v]=true)(hj:j<11)(hq:(plC q ev wv nv).set j v=plC q' ev' wv' nv'):stN 1 (.pointer (some ⟨b,j,none⟩)) v H=some (undef,H.set b (plB q' ev' wv' nv')):=by
 rw[mS 1 _ _ _ (by rw[hv];rfl),hb]
 unfold plB;rw[hv,n9 _ _ _ _ _ _ (by decide) (by simp[plC];omega) ha]
 rw[<-hq];rfl
theorem s5 {H0 H1:aC}{b:Nat}{x:Blk}(he:Ext H0 H1)(hb:H0.length<=b):Ext H0 (H1.set b x):=⟨by rw[List.length_set];exact he.1,λc hc _=>by rw[aOV (by omega),he.2 c hc id]⟩
end
section
variable {H : aC} {m : Nat} {p : PlanD} {ev wv nv : Value}
theorem aHb (H:aC):Us H (.slice none 0 0) []:= .inl ⟨rfl,rfl⟩
end
section
variable {H : aC} {m : Nat} {p : PlanD} {ev wv nv : Value}
theorem E4 {n:Nat}{E:List Ed}(hE:VE n E)(hn:n<=6){v:Nat}{x:Ed}:x∈pD E v↔x.1=v/\x.2∈bes E v:=by
 unfold pD;simp only[aPx,List.mem_filter];constructor
 ·rintro ⟨w,⟨h1,_⟩,rfl⟩
  exact⟨rfl,h1⟩
 ·rintro ⟨h1,h2⟩
  obtain⟨a,b⟩:=x;simp only at h1 h2;refine⟨b,⟨h2,?_⟩,by rw[h1]⟩
  have:=E1 hE h2;unfold wi;simp;omega
theorem aHc {n:Nat}{E:List Ed}(hE:VE n E)(hn:n<=6){x:Ed}:x∈(List.range n).flatMap (pD E)↔x.2∈bes E x.1:=by
 rw[List.mem_flatMap];constructor
 ·rintro ⟨v,_,h2⟩
  obtain⟨h3,h4⟩:=(E4 hE hn).mp h2;rw[h3];exact h4
 ·intro h
  have:=E1 hE h;have e:((x.1.toNat:Nat):Int)=x.1:=by omega
  refine⟨x.1.toNat,aPy.mpr (by omega),(E4 hE hn).mpr ⟨e.symm,?_⟩⟩
  rw[e];exact h
theorem aHd {n:Nat}{E:List Ed}(hE:VE n E)(hn:n<=6):((List.range n).flatMap (pD E)).Pairwise (λa b=>a.1<b.1∨(a.1=b.1/\a.2<b.2)):=by
 rw[List.pairwise_flatMap];constructor
 ·intro v _
  unfold pD;rw[List.pairwise_map]
  exact(List.Pairwise.filter _ (Er E v)).imp λh=> .inr ⟨rfl,h⟩
 ·refine List.pairwise_lt_range.imp λ{a b} hab x hx y hy=> ?_
  have h1:=((E4 hE hn).mp hx).1;have h2:=((E4 hE hn).mp hy).1
  left;omega
end
section
variable {H : aC} {m : Nat} {p : PlanD} {ev wv nv : Value}
theorem aHe (H:aC)(x:Ed):dL 34 2 1 [.int .i64 0,.int .i64 0] [(0,edV x)] H=some (.slice (some ⟨H.length,0,none⟩) 1 1,H++[.cells (edC x) 34 .row]):=rfl
end
section
variable {H : aC} {m : Nat} {p : PlanD} {ev wv nv : Value}
theorem Rs.sv {α:Type}{el:α->List Value}{e:TypeId}{v:Value}{xs:List α}(h:Rs el e H v xs):dZ [v]=true/\v.cells= #[v]:=by
 rcases h with⟨rfl,_⟩|⟨b,o,cap,rfl,_⟩<;>exact⟨rfl,rfl⟩
theorem aHf {H0 H1:aC}{a u:Value}(he:Ext H0 H1)(h:ld1 a H0=some (u,H0)):ld1 a H1=some (u,H1):=by
 unfold ld1 at*;cases a with
 |pointer x=>
  cases x with
  |none=>simp at h
  |some ad=>
   obtain⟨b,o,s⟩:=ad;cases s with
   |some s=>simp at h
   |none=>
    simp only at h⊢;cases hb:H0[b]? with
    |none=>rw[hb] at h;simp at h
    |some y=>
     rw[hZ hb he];rw[hb] at h;cases y with
     |cells cs e k=>
      simp only at h⊢;cases hc:cs[o]? with
      |none=>rw[hc] at h;simp at h
      |some z=>
       rw[hc] at h;simp at h;subst h;rfl
     |map=>simp at h
     |dead=>simp at h
 |_=>simp at h
end
end Go.Proofs.YtkeilicinggjmaaGreatDoor
noncomputable section
namespace Go.Proofs.YtkeilicinggjmaaGreatDoor
open Go.Proofs.Tryz
open Go.Abs
variable (O:aE)(L:LV)(k:KV)(N P Q R S T U V W X Y Z a b c d e f g i j l m n o p q r s t u v w x y z A B C D E F G H I J zz zy zx zw zv zu zt zs zr zq zp zo zn zm zl zk zj zi zh zg zf ze zd zc zb za yz yy yx yw yv yu yt ys yr yq yp yo yn ym yl yk yj yi yh yg yf ye yd yc yb ya xz xy xx xw xv xu xt xs xr xq xp xo xn xm xl xk xj xi xh xg xf xe xd xc xb xa wz wy wx ww wv wu wt ws wr wq wp wo wn wm wl wk wj wi wh wg wf we wd wc wb wa vz vy vx vw vv vu vt vs vr vq vp vo vn vm vl vk vj vi vh vg vf ve vd vc vb va:Value)(h:aC)
theorem aHg:cE prog O L 10 [N,P,Q,R] h=ob (cX 28 [(.int .i64 0),(.slice none 0 0),(.int .i64 0),(.int .i64 0),(.int .i64 0),(.int .i64 0),(.int .i64 0),(.int .i64 0),(.slice none 0 0),(.int .u16 0),(.slice none 0 0)] .fix h) λaa h=>ob (O (.func 16) [(.int .u8 0),P,Q,R,(.slice none 0 0)] h) λab h=>ob (O (.func 33) [N] h) λac h=>ob (O (.func 32) [ab,ac] h) λad h=>ob (M.aD (ext 0 ad) h) λae h=>ob (M.aD (ext 1 ad) h) λaf h=>ob (cX 28 [(.int .i64 0),(.slice none 0 0),(.int .i64 0),(.int .i64 0),(.int .i64 0),(.int .i64 0),(.int .i64 0),(.int .i64 0),(.slice none 0 0),(.int .u16 0),(.slice none 0 0)] .fix h) λag h=>ob (stN 11 ag ae h) λah h=>ob (ldN 11 ag h) λai h=>ob (stN 11 aa ai h) λaj h=>ob (ldN 11 aa h) λw10 _=>some (aJ [w10],h):=by kernel_rfl
def Ll:Code:=b9 [1,1,1,1,1,1,1,1,1,1,0,1,0,0,1,0,0,1,0,1,0,0] (cB prog 32)
def Lp:KV:=(dQ 4 (eD prog O L (b9 [1,1,1,1,1,1,1,1,1,1,0,1,0,0,1,0,0,1,1] (cB prog 32)) (dQ 3 (eD prog O L (b9 [1,1,1,1,1,1,1,1,1,1,0,1,0,0,1,1] (cB prog 32)) k))))
def Lm (O:aE)(L:LV) (k:KV) (a b c d e f g i j l m n o p q r s t u v w x y z A B C D E F G H I J zz zy zx zw zv zu zt zs zr zq zp zo zn zm zl zk zj zi zh zg zf ze zd zc zb za yz yy yx yw yv yu yt ys yr yq yp yo yn ym yl yk yj yi yh yg yf ye yd:Value) (h:aC):OV:=ob (M.aD (aG 10 c) h) λaa h=>ob (ld1 aa h) λab h=>ob (dL 25 1 1 [(.slice none 0 0)] [(0,m)] h) λac h=>ob (app 25 1 24 ab ac h) λad h=>ob (M.aD (aG 10 c) h) λae h=>ob (stN 1 ae ad h) λaf h=>ob (M.aD (bin prog .add 3 l (.int .i64 1)) h) λag h=>k .normal [a,b,c,d,e,f,g,i,j,ag,m,n,o,p,q,r,s,t,u,v,w,x,y,z,A,B,C,D,E,F,G,H,I,J,zz,zy,zx,zw,zv,zu,zt,zs,zr,zq,zp,zo,zn,zm,zl,zk,zj,zi,zh,zg,zf,l,ag,zc,zb,za,yz,yy,yx,yw,yv,yu,yt,ys,yr,yq,yp,yo,yn,ym,yl,yk,aa,ab,m,ac,ad,ae,yd] h
theorem aHm:Lp O L k (.exit 4) [a,b,c,d,e,f,g,i,j,l,m,n,o,p,q,r,s,t,u,v,w,x,y,z,A,B,C,D,E,F,G,H,I,J,zz,zy,zx,zw,zv,zu,zt,zs,zr,zq,zp,zo,zn,zm,zl,zk,zj,zi,zh,zg,zf,ze,zd,zc,zb,za,yz,yy,yx,yw,yv,yu,yt,ys,yr,yq,yp,yo,yn,ym,yl,yk,yj,yi,yh,yg,yf,ye,yd] h=Lm O L k a b c d e f g i j l m n o p q r s t u v w x y z A B C D E F G H I J zz zy zx zw zv zu zt zs zr zq zp zo zn zm zl zk zj zi zh zg zf ze zd zc zb za yz yy yx yw yv yu yt ys yr yq yp yo yn ym yl yk yj yi yh yg yf ye yd h:=by kernel_rfl
theorem Ww:aK prog O L Ll k [a,b,c,d,e,f,g,i,j,l,m,n,o,p,q,r,s,t,u,v,w,x,y,z,A,B,C,D,E,F,G,H,I,J,zz,zy,zx,zw,zv,zu,zt,zs,zr,zq,zp,zo,zn,zm,zl,zk,zj,zi,zh,zg,zf,ze,zd,zc,zb,za,yz,yy,yx,yw,yv,yu,yt,ys,yr,yq,yp,yo,yn,ym,yl,yk,yj,yi,yh,yg,yf,ye,yd] h=ob (M.aD (bin prog .lss 3 n g) h) λaa h=>aL aa (ob (M.aD (bin prog .neq 3 l n) h) λab h=>aL ab (ob (O (.func 74) [b,l,n] h) λac h=>ob (M.aD (aR 1 ac (.int .i64 1)) h) λad h=>ob (ld1 ad h) λae h=>ob (dL 3 1 1 [(.int .i64 0)] [(0,ae)] h) λaf h=>ob (app 3 1 8 m af h) λag h=>ob (M.aD (bin prog .add 3 n (.int .i64 1)) h) λah h=>k .normal [a,b,c,d,e,f,g,i,j,l,ag,ah,ae,p,q,r,s,t,u,v,w,x,y,z,A,B,C,D,E,F,G,H,I,J,zz,zy,zx,zw,zv,zu,zt,zs,zr,zq,zp,zo,zn,zm,zl,zk,zj,zi,zh,zg,zf,ze,zd,n,g,aa,n,ah,l,l,n,ab,b,l,n,ac,ad,ae,m,ae,af,ag,yj,yi,yh,yg,yf,ye,yd] h) (ob (dL 3 1 1 [(.int .i64 0)] [(0,l)] h) λai h=>ob (app 3 1 8 m ai h) λaj h=>ob (M.aD (bin prog .add 3 n (.int .i64 1)) h) λak h=>k .normal [a,b,c,d,e,f,g,i,j,l,aj,ak,l,p,q,r,s,t,u,v,w,x,y,z,A,B,C,D,E,F,G,H,I,J,zz,zy,zx,zw,zv,zu,zt,zs,zr,zq,zp,zo,zn,zm,zl,zk,zj,zi,zh,zg,zf,ze,zd,n,g,aa,n,ak,l,l,n,ab,yt,ys,yr,yq,yp,yo,m,l,ai,aj,yj,yi,yh,yg,yf,ye,yd] h)) (k (.exit 4) [a,b,c,d,e,f,g,i,j,l,m,n,o,p,q,r,s,t,u,v,w,x,y,z,A,B,C,D,E,F,G,H,I,J,zz,zy,zx,zw,zv,zu,zt,zs,zr,zq,zp,zo,zn,zm,zl,zk,zj,zi,zh,zg,zf,ze,zd,n,g,aa,yz,yy,yx,yw,yv,yu,yt,ys,yr,yq,yp,yo,yn,ym,yl,yk,yj,yi,yh,yg,yf,ye,yd] h):=by kernel_rfl
def Lk:Code:=b9 [1,1,1,1,1,1,1,1,1,1,0,1,0,0] (cB prog 32)
def Lo:KV:=(dQ 2 (eD prog O L (b9 [1,1,1,1,1,1,1,1,1,1,1] (cB prog 32)) (fG prog Tryz.f32)))
theorem aHl:Lo O L (.exit 2) [a,b,c,d,e,f,g,i,j,l,m,n,o,p,q,r,s,t,u,v,w,x,y,z,A,B,C,D,E,F,G,H,I,J,zz,zy,zx,zw,zv,zu,zt,zs,zr,zq,zp,zo,zn,zm,zl,zk,zj,zi,zh,zg,zf,ze,zd,zc,zb,za,yz,yy,yx,yw,yv,yu,yt,ys,yr,yq,yp,yo,yn,ym,yl,yk,yj,yi,yh,yg,yf,ye,yd] h=ob (ldN 11 c h) λaa h=>ob (stN 11 e aa h) λab h=>ob (ldN 11 e h) λw39 _=>some (aJ [w39,(.int .i64 0)],h):=by kernel_rfl
theorem Wv:aK prog O L Lk k [a,b,c,d,e,f,g,i,j,l,m,n,o,p,q,r,s,t,u,v,w,x,y,z,A,B,C,D,E,F,G,H,I,J,zz,zy,zx,zw,zv,zu,zt,zs,zr,zq,zp,zo,zn,zm,zl,zk,zj,zi,zh,zg,zf,ze,zd,zc,zb,za,yz,yy,yx,yw,yv,yu,yt,ys,yr,yq,yp,yo,yn,ym,yl,yk,yj,yi,yh,yg,yf,ye,yd] h=ob (M.aD (bin prog .lss 3 l g) h) λaa h=>aL aa (L (aK prog O L Ll) (Lp O L k) [a,b,c,d,e,f,g,i,j,l,(.slice none 0 0),(.int .i64 0),o,p,q,r,s,t,u,v,w,x,y,z,A,B,C,D,E,F,G,H,I,J,zz,zy,zx,zw,zv,zu,zt,zs,zr,zq,zp,zo,zn,zm,zl,zk,zj,zi,l,g,aa,ze,zd,zc,zb,za,yz,yy,yx,yw,yv,yu,yt,ys,yr,yq,yp,yo,yn,ym,yl,yk,yj,yi,yh,yg,yf,ye,yd] h) (k (.exit 2) [a,b,c,d,e,f,g,i,j,l,m,n,o,p,q,r,s,t,u,v,w,x,y,z,A,B,C,D,E,F,G,H,I,J,zz,zy,zx,zw,zv,zu,zt,zs,zr,zq,zp,zo,zn,zm,zl,zk,zj,zi,l,g,aa,ze,zd,zc,zb,za,yz,yy,yx,yw,yv,yu,yt,ys,yr,yq,yp,yo,yn,ym,yl,yk,yj,yi,yh,yg,yf,ye,yd] h):=by kernel_rfl
def Lj:Code:=b9 [1,1,1,1,1,0,1,0,0] (cB prog 32)
def Ln:KV:=(dQ 0 (eD prog O L (b9 [1,1,1,1,1,1] (cB prog 32)) (fG prog Tryz.f32)))
theorem aHk:Ln O L (.exit 0) [a,b,c,d,e,f,g,i,j,l,m,n,o,p,q,r,s,t,u,v,w,x,y,z,A,B,C,D,E,F,G,H,I,J,zz,zy,zx,zw,zv,zu,zt,zs,zr,zq,zp,zo,zn,zm,zl,zk,zj,zi,zh,zg,zf,ze,zd,zc,zb,za,yz,yy,yx,yw,yv,yu,yt,ys,yr,yq,yp,yo,yn,ym,yl,yk,yj,yi,yh,yg,yf,ye,yd] h=ob (M.aD (aG 8 c) h) λaa h=>ob (ld1 aa h) λab h=>ob (app 3 1 8 (.slice none 0 0) ab h) λac h=>ob (M.aD (aG 8 c) h) λad h=>ob (stN 1 ad ac h) λae h=>ob (M.aD (aG 10 c) h) λaf h=>ob (stN 1 af (.slice none 0 0) h) λag h=>L (aK prog O L Lk) (Lo O L) [a,b,c,d,e,f,g,i,ac,(.int .i64 0),m,n,o,p,q,r,s,t,u,v,w,x,y,z,A,B,C,D,E,F,G,H,I,J,zz,zy,zx,zw,zv,zu,zt,zs,zr,zq,zp,(.slice none 0 0),aa,ab,ac,ac,ad,af,zh,zg,zf,ze,zd,zc,zb,za,yz,yy,yx,yw,yv,yu,yt,ys,yr,yq,yp,yo,yn,ym,yl,yk,yj,yi,yh,yg,yf,ye,yd] h:=by kernel_rfl
theorem Wu:aK prog O L Lj k [a,b,c,d,e,f,g,i,j,l,m,n,o,p,q,r,s,t,u,v,w,x,y,z,A,B,C,D,E,F,G,H,I,J,zz,zy,zx,zw,zv,zu,zt,zs,zr,zq,zp,zo,zn,zm,zl,zk,zj,zi,zh,zg,zf,ze,zd,zc,zb,za,yz,yy,yx,yw,yv,yu,yt,ys,yr,yq,yp,yo,yn,ym,yl,yk,yj,yi,yh,yg,yf,ye,yd] h=ob (M.aD (bin prog .lss 3 i g) h) λaa h=>aL aa (ob (M.aD (aG 1 c) h) λab h=>ob (ld1 ab h) λac h=>ifB (true) (ob (M.aD (bin prog .sub 3 i (.int .i64 1)) h) λad h=>ob (M.aD (aR 1 b ad) h) λae h=>ob (ld1 ae h) λaf h=>ifB (true) (ob (M.aD (bld prog 34 [(0,af),(1,i)]) h) λag h=>ob (dL 34 2 1 [(.int .i64 0),(.int .i64 0)] [(0,ag)] h) λah h=>ob (app 34 2 16 ac ah h) λai h=>ifB (true) (ob (M.aD (aG 1 c) h) λaj h=>ob (stN 1 aj ai h) λak h=>ifB (true) (ob (M.aD (bin prog .add 3 i (.int .i64 1)) h) λal h=>k .normal [a,b,c,d,e,f,g,al,j,l,m,n,o,p,q,r,s,t,u,v,w,x,y,z,A,B,C,D,i,g,aa,i,al,ab,ac,b,i,ad,ae,af,i,ag,ah,ai,aj,zo,zn,zm,zl,zk,zj,zi,zh,zg,zf,ze,zd,zc,zb,za,yz,yy,yx,yw,yv,yu,yt,ys,yr,yq,yp,yo,yn,ym,yl,yk,yj,yi,yh,yg,yf,ye,yd] h))))) (k (.exit 0) [a,b,c,d,e,f,g,i,j,l,m,n,o,p,q,r,s,t,u,v,w,x,y,z,A,B,C,D,i,g,aa,H,I,J,zz,zy,zx,zw,zv,zu,zt,zs,zr,zq,zp,zo,zn,zm,zl,zk,zj,zi,zh,zg,zf,ze,zd,zc,zb,za,yz,yy,yx,yw,yv,yu,yt,ys,yr,yq,yp,yo,yn,ym,yl,yk,yj,yi,yh,yg,yf,ye,yd] h):=by kernel_rfl
theorem aHn:cE prog O L 32 [N,P] h=ob (cX 28 (Value.cells N).toList .fix h) λaa h=>ob (cX 28 [(.int .i64 0),(.slice none 0 0),(.int .i64 0),(.int .i64 0),(.int .i64 0),(.int .i64 0),(.int .i64 0),(.int .i64 0),(.slice none 0 0),(.int .u16 0),(.slice none 0 0)] .fix h) λab h=>ob (O (.func 73) [P] h) λac h=>ob (M.aD (un prog .not ac) h) λad h=>ob (gd ad false (M.cA P) h) λae h=>ob (gd ad false (M.aD (bM ae)) h) λaf h=>ob (gd ad false (M.aD (bin prog .eql 3 af (.int .i64 0))) h) λag h=>ob (M.aD (cJ ad (.bool true) ag) h) λah h=>aL ah (ob (M.aD (bld prog 28 []) h) λai h=>ob (stN 11 ab ai h) λaj h=>ob (ldN 11 ab h) λw10 _=>some (aJ [w10,(.int .i64 120)],h)) (ob (M.aD (bM P) h) λak h=>ob (M.aD (bin prog .add 3 ak (.int .i64 1)) h) λal h=>ob (M.aD (aG 0 aa) h) λam h=>ob (stN 1 am al h) λan h=>ob (M.aD (aG 1 aa) h) λao h=>ob (stN 1 ao (.slice none 0 0) h) λap h=>L (aK prog O L Lj) (Ln O L) [N,P,aa,undef,ab,(.int .i64 0),al,(.int .i64 1),undef,undef,undef,undef,undef,P,ac,ad,ad,ae,af,ag,ah,undef,P,ak,al,al,am,ao,undef,undef,undef,undef,undef,undef,undef,undef,undef,undef,undef,undef,undef,undef,undef,undef,undef,undef,undef,undef,undef,undef,undef,undef,undef,undef,undef,undef,undef,undef,undef,undef,undef,undef,undef,undef,undef,undef,undef,undef,undef,undef,undef,undef,undef,undef,undef,undef,undef,undef,undef,undef,undef,undef,undef] h):=by kernel_rfl
def Lq:Code:=b9 [1,1,0,1,0,0] (cB prog 33)
def Ls:KV:=(dQ 0 (eD prog O L (b9 [1,1,1] (cB prog 33)) (fG prog Tryz.f33)))
def Lr (O:aE)(L:LV) (a b c d e f g i j l m n o p q r s t u v w x y z A B C D E F G H I:Value) (h:aC):OV:=ob (M.aD (bM d) h) λaa h=>ob (M.aD (bin prog .eql 3 aa (.int .i64 0)) h) λab h=>aL ab (ob (dL 3 1 1 [(.int .i64 0)] [(0,(.int .i64 0))] h) λac h=>ob (app 3 1 8 d ac h) λad h=>some (aJ [ad],h)) (some (aJ [d],h))
theorem Wy:Ls O L (.exit 0) [a,b,c,d,e,f,g,i,j,l,m,n,o,p,q,r,s,t,u,v,w,x,y,z,A,B,C,D,E,F,G,H,I] h=Lr O L a b c d e f g i j l m n o p q r s t u v w x y z A B C D E F G H I h:=by kernel_rfl
theorem Wx:aK prog O L Lq k [a,b,c,d,e,f,g,i,j,l,m,n,o,p,q,r,s,t,u,v,w,x,y,z,A,B,C,D,E,F,G,H,I] h=ob (M.aD (bM a) h) λaa h=>ob (M.aD (bin prog .lss 3 e aa) h) λab h=>ob (gd ab true (M.cA e) h) λac h=>ob (gd ab true (M.aD (bin prog .lss 3 ac (.int .i64 5))) h) λad h=>ob (M.aD (cJ ab ad (.bool false)) h) λae h=>aL ae (ob (M.aD (aR 1 a e) h) λaf h=>ob (ld1 af h) λag h=>ob (cI prog 5 3 ag h) λah h=>ob (M.aD (bin prog .add 3 e (.int .i64 1)) h) λai h=>ob (M.aD (bin prog .rem 3 ah ai) h) λaj h=>ob (dL 3 1 1 [(.int .i64 0)] [(0,aj)] h) λak h=>ob (app 3 1 8 d ak h) λal h=>ob (M.aD (bin prog .add 3 e (.int .i64 1)) h) λam h=>k .normal [a,b,c,al,am,e,a,aa,ab,ab,ac,ad,ae,e,am,d,a,e,af,ag,ah,e,ai,aj,ak,al,C,D,E,F,G,H,I] h) (k (.exit 0) [a,b,c,d,e,e,a,aa,ab,ab,ac,ad,ae,p,q,r,s,t,u,v,w,x,y,z,A,B,C,D,E,F,G,H,I] h):=by kernel_rfl
theorem aHo:cE prog O L 33 [N] h=L (aK prog O L Lq) (Ls O L) [N,undef,(.slice none 0 0),(.slice none 0 0),(.int .i64 0),undef,undef,undef,undef,undef,undef,undef,undef,undef,undef,undef,undef,undef,undef,undef,undef,undef,undef,undef,undef,undef,undef,undef,undef,undef,undef,undef,undef] h:=by kernel_rfl
def Lv:Code:=b9 [1,1,1,1,1,0,1,0,0] (cB prog 34)
def E9:KV:=(dQ 4 (eD prog O L (b9 [1,1,1,1,1,1] (cB prog 34)) (fG prog Tryz.f34)))
theorem aHr:E9 O L (.exit 4) [a,b,c,d,e,f,g,i,j,l,m,n,o,p,q,r,s,t,u,v,w,x,y,z,A,B,C,D,E,F,G,H,I,J,zz,zy,zx,zw,zv,zu,zt,zs,zr,zq,zp,zo,zn,zm,zl,zk,zj,zi,zh,zg,zf,ze,zd,zc,zb,za,yz,yy,yx,yw,yv,yu,yt,ys,yr,yq,yp] h=some (aJ [(.int .u16 0)],h):=by kernel_rfl
theorem aHv:E9 O L .ret [a,b,c,d,e,f,g,i,j,l,m,n,o,p,q,r,s,t,u,v,w,x,y,z,A,B,C,D,E,F,G,H,I,J,zz,zy,zx,zw,zv,zu,zt,zs,zr,zq,zp,zo,zn,zm,zl,zk,zj,zi,zh,zg,zf,ze,zd,zc,zb,za,yz,yy,yx,yw,yv,yu,yt,ys,yr,yq,yp] h=some (aJ [c],h):=by kernel_rfl
theorem W4:aK prog O L Lv k [a,b,c,d,e,f,g,i,j,l,m,n,o,p,q,r,s,t,u,v,w,x,y,z,A,B,C,D,E,F,G,H,I,J,zz,zy,zx,zw,zv,zu,zt,zs,zr,zq,zp,zo,zn,zm,zl,zk,zj,zi,zh,zg,zf,ze,zd,zc,zb,za,yz,yy,yx,yw,yv,yu,yt,ys,yr,yq,yp] h=ob (M.aD (bin prog .lss 3 zf zg) h) λaa h=>aL aa (ob (M.aD (aQ j) h) λab h=>ob (M.aD (aG 0 ab) h) λac h=>ob (ld1 ac h) λad h=>ob (M.aD (aR 1 ad zf) h) λae h=>ob (ld1 ae h) λaf h=>ob (M.aD (bin prog .eql 3 af (.int .i64 0)) h) λag h=>ob (gd ag true (M.cA j) h) λah h=>ob (gd ag true (M.cA zf) h) λai h=>ob (gd ag true (O (.func 78) [ah,ai]) h) λaj h=>ob (M.aD (cJ ag aj (.bool false)) h) λak h=>aL ak (k .ret [a,b,(.int .u16 140),d,e,f,g,i,j,zf,m,n,o,p,q,r,s,t,u,v,w,x,y,z,A,B,C,D,E,F,G,H,I,J,zz,zy,zx,zw,zv,zu,zt,zs,zr,zq,zp,zo,zn,zm,zl,zk,zj,zi,zh,zg,zf,aa,zf,j,ab,ac,ad,zf,ae,af,ag,ag,ah,ai,aj,ak,yp] h) (ob (M.aD (bin prog .add 3 zf (.int .i64 1)) h) λal h=>k .normal [a,b,c,d,e,f,g,i,j,zf,m,n,o,p,q,r,s,t,u,v,w,x,y,z,A,B,C,D,E,F,G,H,I,J,zz,zy,zx,zw,zv,zu,zt,zs,zr,zq,zp,zo,zn,zm,zl,zk,zj,zi,zh,zg,al,aa,zf,j,ab,ac,ad,zf,ae,af,ag,ag,ah,ai,aj,ak,al] h)) (k (.exit 4) [a,b,c,d,e,f,g,i,j,l,m,n,o,p,q,r,s,t,u,v,w,x,y,z,A,B,C,D,E,F,G,H,I,J,zz,zy,zx,zw,zv,zu,zt,zs,zr,zq,zp,zo,zn,zm,zl,zk,zj,zi,zh,zg,zf,aa,zd,zc,zb,za,yz,yy,yx,yw,yv,yu,yt,ys,yr,yq,yp] h):=by kernel_rfl
def Lu:Code:=b9 [1,1,0,1,0,0,1,1,0,0,1,1,0,0] (cB prog 34)
def E8:KV:=(dQ 2 (dQ 1 (eD prog O L (b9 [1,1,0,1,0,0,1,1,1] (cB prog 34)) k)))
theorem aHq:E8 O L k (.exit 2) [a,b,c,d,e,f,g,i,j,l,m,n,o,p,q,r,s,t,u,v,w,x,y,z,A,B,C,D,E,F,G,H,I,J,zz,zy,zx,zw,zv,zu,zt,zs,zr,zq,zp,zo,zn,zm,zl,zk,zj,zi,zh,zg,zf,ze,zd,zc,zb,za,yz,yy,yx,yw,yv,yu,yt,ys,yr,yq,yp] h=ob (M.aD (bin prog .add 3 t (.int .i64 1)) h) λaa h=>k .normal [a,b,c,d,e,f,g,i,j,l,m,n,o,p,q,r,s,aa,u,v,w,x,y,z,A,B,C,D,E,F,G,H,I,J,zz,aa,zx,zw,zv,zu,zt,zs,zr,zq,zp,zo,zn,zm,zl,zk,zj,zi,zh,zg,zf,ze,zd,zc,zb,za,yz,yy,yx,yw,yv,yu,yt,ys,yr,yq,yp] h:=by kernel_rfl
theorem aHu:E8 O L k .ret [a,b,c,d,e,f,g,i,j,l,m,n,o,p,q,r,s,t,u,v,w,x,y,z,A,B,C,D,E,F,G,H,I,J,zz,zy,zx,zw,zv,zu,zt,zs,zr,zq,zp,zo,zn,zm,zl,zk,zj,zi,zh,zg,zf,ze,zd,zc,zb,za,yz,yy,yx,yw,yv,yu,yt,ys,yr,yq,yp] h=k .ret [a,b,c,d,e,f,g,i,j,l,m,n,o,p,q,r,s,t,u,v,w,x,y,z,A,B,C,D,E,F,G,H,I,J,zz,zy,zx,zw,zv,zu,zt,zs,zr,zq,zp,zo,zn,zm,zl,zk,zj,zi,zh,zg,zf,ze,zd,zc,zb,za,yz,yy,yx,yw,yv,yu,yt,ys,yr,yq,yp] h:=by kernel_rfl
theorem W0:aK prog O L Lu k [a,b,c,d,e,f,g,i,j,l,m,n,o,p,q,r,s,t,u,v,w,x,y,z,A,B,C,D,E,F,G,H,I,J,zz,zy,zx,zw,zv,zu,zt,zs,zr,zq,zp,zo,zn,zm,zl,zk,zj,zi,zh,zg,zf,ze,zd,zc,zb,za,yz,yy,yx,yw,yv,yu,yt,ys,yr,yq,yp] h=ob (M.aD (bin prog .lss 3 y x) h) λaa h=>aL aa (ob (ldN 11 b h) λab h=>ob (O (.func 76) [ab,e,y] h) λac h=>ob (M.aD (ext 0 ac) h) λad h=>ob (M.aD (ext 1 ac) h) λae h=>ob (M.aD (un prog .not ae) h) λaf h=>aL af (k .ret [a,b,(.int .u16 140),d,e,y,ad,ae,j,l,m,n,o,p,q,r,s,t,u,v,w,x,y,aa,y,ac,ab,e,y,ac,ad,ae,ae,af,zz,zy,zx,zw,zv,zu,zt,zs,zr,zq,zp,zo,zn,zm,zl,zk,zj,zi,zh,zg,zf,ze,zd,zc,zb,za,yz,yy,yx,yw,yv,yu,yt,ys,yr,yq,yp] h) (ob (M.aD (bin prog .add 3 y (.int .i64 1)) h) λag h=>k .normal [a,b,c,d,e,y,ad,ae,j,l,m,n,o,p,q,r,s,t,u,v,w,x,ag,aa,y,ac,ab,e,y,ac,ad,ae,ae,af,ag,zy,zx,zw,zv,zu,zt,zs,zr,zq,zp,zo,zn,zm,zl,zk,zj,zi,zh,zg,zf,ze,zd,zc,zb,za,yz,yy,yx,yw,yv,yu,yt,ys,yr,yq,yp] h)) (k (.exit 2) [a,b,c,d,e,f,g,i,j,l,m,n,o,p,q,r,s,t,u,v,w,x,y,aa,A,B,C,D,E,F,G,H,I,J,zz,zy,zx,zw,zv,zu,zt,zs,zr,zq,zp,zo,zn,zm,zl,zk,zj,zi,zh,zg,zf,ze,zd,zc,zb,za,yz,yy,yx,yw,yv,yu,yt,ys,yr,yq,yp] h):=by kernel_rfl
def Lt:Code:=b9 [1,1,0,1,0,0] (cB prog 34)
def E7:KV:=(dQ 0 (eD prog O L (b9 [1,1,1] (cB prog 34)) (fG prog Tryz.f34)))
def Lw (O:aE)(L:LV) (a b c d e f g i j l m n o p q r s t u v w x y z A B C D E F G H I J zz zy zx zw zv zu zt zs zr zq zp zo zn zm zl zk zj zi zh zg zf ze zd zc zb za yz yy yx yw yv yu yt ys yr yq yp:Value) (h:aC):OV:=ob (ldN 11 b h) λaa h=>ob (O (.func 77) [aa] h) λab h=>ob (M.aD (bld prog 163 [(1,ab)]) h) λac h=>ob (cX 163 (Value.cells ac).toList .fix h) λad h=>ob (M.aD (aQ ad) h) λae h=>ob (M.aD (aG 1 ae) h) λaf h=>ob (ld1 af h) λag h=>ob (M.aD (bM ag) h) λah h=>ob (lO 3 1 8 [(.int .i64 0)] ah ah h) λai h=>ob (M.aD (aQ ad) h) λaj h=>ob (M.aD (aG 0 aj) h) λak h=>ob (stN 1 ak ai h) λal h=>ob (M.aD (aQ ad) h) λam h=>ob (M.aD (aG 0 am) h) λan h=>ob (ld1 an h) λao h=>ob (M.aD (bM ao) h) λap h=>L (aK prog O L Lv) (E9 O L) [a,b,c,d,e,f,g,i,ad,l,m,n,o,p,q,r,s,t,u,v,w,x,y,z,A,B,C,D,E,F,G,H,I,J,zz,zy,aa,ab,ac,ad,ad,ad,ae,af,ag,ah,ai,aj,ak,ad,am,an,ao,ap,(.int .i64 0),ze,zd,zc,zb,za,yz,yy,yx,yw,yv,yu,yt,ys,yr,yq,yp] h
theorem aHp:E7 O L (.exit 0) [a,b,c,d,e,f,g,i,j,l,m,n,o,p,q,r,s,t,u,v,w,x,y,z,A,B,C,D,E,F,G,H,I,J,zz,zy,zx,zw,zv,zu,zt,zs,zr,zq,zp,zo,zn,zm,zl,zk,zj,zi,zh,zg,zf,ze,zd,zc,zb,za,yz,yy,yx,yw,yv,yu,yt,ys,yr,yq,yp] h=Lw O L a b c d e f g i j l m n o p q r s t u v w x y z A B C D E F G H I J zz zy zx zw zv zu zt zs zr zq zp zo zn zm zl zk zj zi zh zg zf ze zd zc zb za yz yy yx yw yv yu yt ys yr yq yp h:=by kernel_rfl
theorem aHt:E7 O L .ret [a,b,c,d,e,f,g,i,j,l,m,n,o,p,q,r,s,t,u,v,w,x,y,z,A,B,C,D,E,F,G,H,I,J,zz,zy,zx,zw,zv,zu,zt,zs,zr,zq,zp,zo,zn,zm,zl,zk,zj,zi,zh,zg,zf,ze,zd,zc,zb,za,yz,yy,yx,yw,yv,yu,yt,ys,yr,yq,yp] h=some (aJ [c],h):=by kernel_rfl
theorem Wz:aK prog O L Lt k [a,b,c,d,e,f,g,i,j,l,m,n,o,p,q,r,s,t,u,v,w,x,y,z,A,B,C,D,E,F,G,H,I,J,zz,zy,zx,zw,zv,zu,zt,zs,zr,zq,zp,zo,zn,zm,zl,zk,zj,zi,zh,zg,zf,ze,zd,zc,zb,za,yz,yy,yx,yw,yv,yu,yt,ys,yr,yq,yp] h=ob (M.aD (bin prog .lss 3 t s) h) λaa h=>aL aa (ob (M.aD (aG 0 b) h) λab h=>ob (ld1 ab h) λac h=>L (aK prog O L Lu) (E8 O L k) [a,b,c,d,t,f,g,i,j,l,m,n,o,p,q,r,s,t,aa,t,ab,ac,(.int .i64 0),z,A,B,C,D,E,F,G,H,I,J,zz,zy,zx,zw,zv,zu,zt,zs,zr,zq,zp,zo,zn,zm,zl,zk,zj,zi,zh,zg,zf,ze,zd,zc,zb,za,yz,yy,yx,yw,yv,yu,yt,ys,yr,yq,yp] h) (k (.exit 0) [a,b,c,d,e,f,g,i,j,l,m,n,o,p,q,r,s,t,aa,v,w,x,y,z,A,B,C,D,E,F,G,H,I,J,zz,zy,zx,zw,zv,zu,zt,zs,zr,zq,zp,zo,zn,zm,zl,zk,zj,zi,zh,zg,zf,ze,zd,zc,zb,za,yz,yy,yx,yw,yv,yu,yt,ys,yr,yq,yp] h):=by kernel_rfl
theorem aHs:cE prog O L 34 [N] h=ob (cX 28 (Value.cells N).toList .fix h) λaa h=>ob (ldN 11 aa h) λab h=>ob (O (.func 75) [ab] h) λac h=>ob (M.aD (bin prog .neq 51 ac (.int .u16 0)) h) λad h=>aL ad (some (aJ [ac],h)) (ob (M.aD (aG 0 aa) h) λae h=>ob (ld1 ae h) λaf h=>L (aK prog O L Lt) (E7 O L) [N,aa,(.int .u16 0),ac,undef,undef,undef,undef,undef,undef,ab,ac,ac,ad,undef,ae,af,(.int .i64 0),undef,undef,undef,undef,undef,undef,undef,undef,undef,undef,undef,undef,undef,undef,undef,undef,undef,undef,undef,undef,undef,undef,undef,undef,undef,undef,undef,undef,undef,undef,undef,undef,undef,undef,undef,undef,undef,undef,undef,undef,undef,undef,undef,undef,undef,undef,undef,undef,undef,undef,undef,undef,undef] h):=by kernel_rfl
def Lx:Code:=b9 [1,0,1,0,0] (cB prog 73)
def Fc:KV:=(dQ 0 (eD prog O L (b9 [1,1] (cB prog 73)) (fG prog Tryz.f73)))
theorem aHw:Fc O L (.exit 0) [a,b,c,d,e,f,g,i,j,l,m,n,o,p,q,r,s,t,u,v,w,x,y,z,A,B] h=ob (M.aD (bM a) h) λaa h=>ob (M.aD (bin prog .leq 3 aa (.int .i64 5)) h) λab h=>some (aJ [ab],h):=by kernel_rfl
theorem W6:Fc O L .ret [a,b,c,d,e,f,g,i,j,l,m,n,o,p,q,r,s,t,u,v,w,x,y,z,A,B] h=some (aJ [c],h):=by kernel_rfl
theorem W5:aK prog O L Lx k [a,b,c,d,e,f,g,i,j,l,m,n,o,p,q,r,s,t,u,v,w,x,y,z,A,B] h=ob (M.aD (bM a) h) λaa h=>ob (M.aD (bin prog .lss 3 d aa) h) λab h=>aL ab (ob (M.aD (aR 1 a d) h) λac h=>ob (ld1 ac h) λad h=>ob (M.aD (bin prog .lss 3 ad (.int .i64 0)) h) λae h=>ob (gd ae false (M.cA a) h) λaf h=>ob (gd ae false (M.cA d) h) λag h=>ob (gd ae false (M.aD (aR 1 af ag)) h) λah h=>ob (gd ae false (ld1 ah) h) λai h=>ob (gd ae false (M.cA d) h) λaj h=>ob (gd ae false (M.aD (bin prog .gtr 3 ai aj)) h) λak h=>ob (M.aD (cJ ae (.bool true) ak) h) λal h=>aL al (k .ret [a,b,(.bool false),d,d,a,aa,ab,j,l,a,d,ac,ad,ae,ae,af,ag,ah,ai,aj,ak,al,z,A,B] h) (ob (M.aD (bin prog .add 3 d (.int .i64 1)) h) λam h=>k .normal [a,b,c,am,d,a,aa,ab,d,am,a,d,ac,ad,ae,ae,af,ag,ah,ai,aj,ak,al,z,A,B] h)) (k (.exit 0) [a,b,c,d,d,a,aa,ab,j,l,m,n,o,p,q,r,s,t,u,v,w,x,y,z,A,B] h):=by kernel_rfl
theorem aHx:cE prog O L 73 [N] h=L (aK prog O L Lx) (Fc O L) [N,undef,(.bool false),(.int .i64 0),undef,undef,undef,undef,undef,undef,undef,undef,undef,undef,undef,undef,undef,undef,undef,undef,undef,undef,undef,undef,undef,undef] h:=by kernel_rfl
def Lz:Code:=b9 [1,1,1,1,1,1,1,0,1,0,0] (cB prog 74)
def L3:KV:=(dQ 2 (eD prog O L (b9 [1,1,1,1,1,1,1,1] (cB prog 74)) (fG prog Tryz.f74)))
theorem aHz:L3 O L (.exit 2) [a,b,c,d,e,f,g,i,j,l,m,n,o,p,q,r,s,t,u,v,w,x,y,z,A,B,C,D,E,F,G,H,I,J,zz,zy,zx,zw,zv,zu,zt,zs,zr,zq,zp,zo,zn,zm,zl,zk,zj,zi,zh,zg,zf,ze,zd,zc,zb,za,yz,yy,yx,yw,yv,yu,yt,ys,yr,yq,yp,yo,yn,ym,yl,yk,yj,yi,yh,yg,yf,ye,yd,yc,yb,ya,xz,xy,xx,xw,xv] h=some (aJ [l],h):=by kernel_rfl
theorem W7:aK prog O L Lz k [a,b,c,d,e,f,g,i,j,l,m,n,o,p,q,r,s,t,u,v,w,x,y,z,A,B,C,D,E,F,G,H,I,J,zz,zy,zx,zw,zv,zu,zt,zs,zr,zq,zp,zo,zn,zm,zl,zk,zj,zi,zh,zg,zf,ze,zd,zc,zb,za,yz,yy,yx,yw,yv,yu,yt,ys,yr,yq,yp,yo,yn,ym,yl,yk,yj,yi,yh,yg,yf,ye,yd,yc,yb,ya,xz,xy,xx,xw,xv] h=ob (M.aD (bin prog .geq 3 m (.int .i64 0)) h) λaa h=>aL aa (ob (M.aD (aR 1 j m) h) λab h=>ob (ld1 ab h) λac h=>ob (dL 3 1 1 [(.int .i64 0)] [(0,ac)] h) λad h=>ob (app 3 1 8 l ad h) λae h=>ob (M.aD (bin prog .sub 3 m (.int .i64 1)) h) λaf h=>k .normal [a,b,c,d,e,f,g,i,j,ae,af,n,o,p,q,r,s,t,u,v,w,x,y,z,A,B,C,D,E,F,G,H,I,J,zz,zy,zx,zw,zv,zu,zt,zs,zr,zq,zp,zo,zn,zm,zl,zk,zj,zi,zh,zg,zf,ze,zd,zc,zb,za,yz,yy,yx,yw,yv,yu,yt,ys,yr,yq,yp,yo,yn,ym,yl,yk,yj,yi,yh,m,aa,m,af,l,j,m,ab,ac,ad,ae,xv] h) (k (.exit 2) [a,b,c,d,e,f,g,i,j,l,m,n,o,p,q,r,s,t,u,v,w,x,y,z,A,B,C,D,E,F,G,H,I,J,zz,zy,zx,zw,zv,zu,zt,zs,zr,zq,zp,zo,zn,zm,zl,zk,zj,zi,zh,zg,zf,ze,zd,zc,zb,za,yz,yy,yx,yw,yv,yu,yt,ys,yr,yq,yp,yo,yn,ym,yl,yk,yj,yi,yh,m,aa,ye,yd,yc,yb,ya,xz,xy,xx,xw,xv] h):=by kernel_rfl
def Ly:Code:=b9 [1,1,1,1,0,0,0] (cB prog 74)
def L2:KV:=(dQ 0 (eD prog O L (b9 [1,1,1,1,1] (cB prog 74)) (fG prog Tryz.f74)))
def L0 (O:aE)(L:LV) (a b c d e f g i j l m n o p q r s t u v w x y z A B C D E F G H I J zz zy zx zw zv zu zt zs zr zq zp zo zn zm zl zk zj zi zh zg zf ze zd zc zb za yz yy yx yw yv yu yt ys yr yq yp yo yn ym yl yk yj yi yh yg yf ye yd yc yb ya xz xy xx xw xv:Value) (h:aC):OV:=ob (app 3 1 8 (.slice none 0 0) i h) λaa h=>ob (M.aD (bM j) h) λab h=>ob (M.aD (bin prog .sub 3 ab (.int .i64 2)) h) λac h=>L (aK prog O L Lz) (L3 O L) [a,b,c,d,e,f,g,i,j,aa,ac,n,o,p,q,r,s,t,u,v,w,x,y,z,A,B,C,D,E,F,G,H,I,J,zz,zy,zx,zw,zv,zu,zt,zs,zr,zq,zp,zo,zn,zm,zl,zk,zj,zi,zh,zg,zf,ze,zd,zc,zb,za,yz,yy,yx,yw,yv,yu,yt,ys,yr,yq,yp,yo,yn,(.slice none 0 0),i,aa,j,ab,ac,yg,yf,ye,yd,yc,yb,ya,xz,xy,xx,xw,xv] h
theorem L1:L2 O L (.exit 0) [a,b,c,d,e,f,g,i,j,l,m,n,o,p,q,r,s,t,u,v,w,x,y,z,A,B,C,D,E,F,G,H,I,J,zz,zy,zx,zw,zv,zu,zt,zs,zr,zq,zp,zo,zn,zm,zl,zk,zj,zi,zh,zg,zf,ze,zd,zc,zb,za,yz,yy,yx,yw,yv,yu,yt,ys,yr,yq,yp,yo,yn,ym,yl,yk,yj,yi,yh,yg,yf,ye,yd,yc,yb,ya,xz,xy,xx,xw,xv] h=L0 O L a b c d e f g i j l m n o p q r s t u v w x y z A B C D E F G H I J zz zy zx zw zv zu zt zs zr zq zp zo zn zm zl zk zj zi zh zg zf ze zd zc zb za yz yy yx yw yv yu yt ys yr yq yp yo yn ym yl yk yj yi yh yg yf ye yd yc yb ya xz xy xx xw xv h:=by kernel_rfl
theorem aHy:aK prog O L Ly k [a,b,c,d,e,f,g,i,j,l,m,n,o,p,q,r,s,t,u,v,w,x,y,z,A,B,C,D,E,F,G,H,I,J,zz,zy,zx,zw,zv,zu,zt,zs,zr,zq,zp,zo,zn,zm,zl,zk,zj,zi,zh,zg,zf,ze,zd,zc,zb,za,yz,yy,yx,yw,yv,yu,yt,ys,yr,yq,yp,yo,yn,ym,yl,yk,yj,yi,yh,yg,yf,ye,yd,yc,yb,ya,xz,xy,xx,xw,xv] h=ob (M.aD (bM i) h) λaa h=>ob (M.aD (bin prog .gtr 3 aa (.int .i64 1)) h) λab h=>ob (gd ab true (M.cA j) h) λac h=>ob (gd ab true (M.aD (bM ac)) h) λad h=>ob (gd ab true (M.aD (bin prog .gtr 3 ad (.int .i64 1))) h) λae h=>ob (M.aD (cJ ab ae (.bool false)) h) λaf h=>ob (gd af true (M.cA i) h) λag h=>ob (gd af true (M.cA i) h) λah h=>ob (gd af true (M.aD (bM ah)) h) λai h=>ob (gd af true (M.aD (bin prog .sub 3 ai (.int .i64 2))) h) λaj h=>ob (gd af true (M.aD (aR 1 ag aj)) h) λak h=>ob (gd af true (ld1 ak) h) λal h=>ifB (true) (ob (gd af true (M.cA j) h) λam h=>ob (gd af true (M.cA j) h) λan h=>ob (gd af true (M.aD (bM an)) h) λao h=>ob (gd af true (M.aD (bin prog .sub 3 ao (.int .i64 2))) h) λap h=>ob (gd af true (M.aD (aR 1 am ap)) h) λaq h=>ob (gd af true (ld1 aq) h) λar h=>ifB (true) (ob (gd af true (M.aD (bin prog .eql 3 al ar)) h) λau h=>ob (M.aD (cJ af au (.bool false)) h) λav h=>aL av (ob (M.aD (bM i) h) λaw h=>ob (M.aD (bin prog .sub 3 aw (.int .i64 1)) h) λax h=>ob (slc prog 1 i none (some ax) none h) λay h=>ob (M.aD (bM j) h) λaz h=>ob (M.aD (bin prog .sub 3 az (.int .i64 1)) h) λba h=>ob (slc prog 1 j none (some ba) none h) λbb h=>k .normal [a,b,c,d,e,f,g,ay,bb,l,m,n,o,p,q,r,s,t,u,v,w,x,y,z,A,B,C,D,E,F,G,H,I,J,zz,zy,zx,zw,zv,zu,i,aa,ab,ab,ac,ad,ae,af,af,ag,ah,ai,aj,ak,al,am,an,ao,ap,aq,ar,au,av,i,i,aw,ax,ay,j,j,az,ba,bb,ym,yl,yk,yj,yi,yh,yg,yf,ye,yd,yc,yb,ya,xz,xy,xx,xw,xv] h) (k (.exit 0) [a,b,c,d,e,f,g,i,j,l,m,n,o,p,q,r,s,t,u,v,w,x,y,z,A,B,C,D,E,F,G,H,I,J,zz,zy,zx,zw,zv,zu,i,aa,ab,ab,ac,ad,ae,af,af,ag,ah,ai,aj,ak,al,am,an,ao,ap,aq,ar,au,av,yw,yv,yu,yt,ys,yr,yq,yp,yo,yn,ym,yl,yk,yj,yi,yh,yg,yf,ye,yd,yc,yb,ya,xz,xy,xx,xw,xv] h))):=by kernel_rfl
theorem aHA:cE prog O L 74 [N,P,Q] h=ob (O (.func 73) [N] h) λaa h=>ob (M.aD (un prog .not aa) h) λab h=>ob (gd ab false (M.cA P) h) λac h=>ob (gd ab false (M.aD (bin prog .lss 3 ac (.int .i64 0))) h) λad h=>ob (M.aD (cJ ab (.bool true) ad) h) λae h=>ob (gd ae false (M.cA P) h) λaf h=>ob (gd ae false (M.cA N) h) λag h=>ob (gd ae false (M.aD (bM ag)) h) λah h=>ob (gd ae false (M.aD (bin prog .gtr 3 af ah)) h) λai h=>ob (M.aD (cJ ae (.bool true) ai) h) λaj h=>ob (gd aj false (M.cA Q) h) λak h=>ob (gd aj false (M.aD (bin prog .lss 3 ak (.int .i64 0))) h) λal h=>ob (M.aD (cJ aj (.bool true) al) h) λam h=>ob (gd am false (M.cA Q) h) λan h=>ob (gd am false (M.cA N) h) λao h=>ob (gd am false (M.aD (bM ao)) h) λap h=>ob (gd am false (M.aD (bin prog .gtr 3 an ap)) h) λaq h=>ob (M.aD (cJ am (.bool true) aq) h) λar h=>aL ar (some (aJ [(.slice none 0 0)],h)) (ob (O (.func 126) [N,P] h) λau h=>ob (O (.func 126) [N,Q] h) λav h=>L (aK prog O L Ly) (L2 O L) [N,P,Q,undef,undef,undef,(.slice none 0 0),au,av,undef,undef,N,aa,ab,ab,ac,ad,ae,ae,af,ag,ah,ai,aj,aj,ak,al,am,am,an,ao,ap,aq,ar,N,P,au,N,Q,av,undef,undef,undef,undef,undef,undef,undef,undef,undef,undef,undef,undef,undef,undef,undef,undef,undef,undef,undef,undef,undef,undef,undef,undef,undef,undef,undef,undef,undef,undef,undef,undef,undef,undef,undef,undef,undef,undef,undef,undef,undef,undef,undef,undef,undef,undef,undef,undef,undef,undef,undef] h):=by kernel_rfl
def L4:Code:=b9 [1,1,0,0,0] (cB prog 76)
def Fe:KV:=(dQ 0 (eD prog O L (b9 [1,1,1] (cB prog 76)) (fG prog Tryz.f76)))
theorem aHC:Fe O L (.exit 0) [a,b,c,d,e,f,g,i,j,l,m,n,o,p,q,r,s,t,u,v,w,x,y,z,A,B,C,D,E,F,G,H,I,J,zz,zy,zx,zw,zv,zu,zt,zs] h=some (aJ [j,(.bool true)],h):=by kernel_rfl
theorem W8:Fe O L .ret [a,b,c,d,e,f,g,i,j,l,m,n,o,p,q,r,s,t,u,v,w,x,y,z,A,B,C,D,E,F,G,H,I,J,zz,zy,zx,zw,zv,zu,zt,zs] h=some (aJ [g,i],h):=by kernel_rfl
theorem aHB:aK prog O L L4 k [a,b,c,d,e,f,g,i,j,l,m,n,o,p,q,r,s,t,u,v,w,x,y,z,A,B,C,D,E,F,G,H,I,J,zz,zy,zx,zw,zv,zu,zt,zs] h=ob (M.aD (bin prog .neq 3 b c) h) λaa h=>aL aa (ob (M.aD (aG 10 d) h) λab h=>ob (ld1 ab h) λac h=>ob (M.aD (aR 1 ac b) h) λad h=>ob (ld1 ad h) λae h=>ob (M.aD (aR 1 ae c) h) λaf h=>ob (ld1 af h) λag h=>ob (M.aD (bM j) h) λah h=>ob (M.aD (aG 0 d) h) λai h=>ob (ld1 ai h) λaj h=>ob (M.aD (bin prog .eql 3 ah aj) h) λak h=>ob (gd ak false (ldN 11 d) h) λal h=>ob (gd ak false (M.cA b) h) λam h=>ob (gd ak false (O (.func 37) [al,am]) h) λan h=>ob (gd ak false (M.cA ag) h) λao h=>ob (gd ak false (O (.func 131) [an,ao]) h) λap h=>ob (gd ak false (M.aD (un prog .not ap)) h) λaq h=>ob (M.aD (cJ ak (.bool true) aq) h) λar h=>aL ar (k .ret [a,b,c,d,e,f,(.slice none 0 0),(.bool false),j,ag,m,n,b,c,aa,ab,ac,b,ad,ae,c,af,ag,j,ah,ai,aj,ak,ak,al,am,an,ao,ap,aq,ar,zx,zw,zv,zu,zt,zs] h) (ob (dL 3 1 1 [(.int .i64 0)] [(0,ag)] h) λau h=>ob (app 3 1 8 j au h) λav h=>k .normal [a,ag,c,d,e,f,g,i,av,ag,m,n,b,c,aa,ab,ac,b,ad,ae,c,af,ag,j,ah,ai,aj,ak,ak,al,am,an,ao,ap,aq,ar,j,ag,au,av,ag,zs] h)) (k (.exit 0) [a,b,c,d,e,f,g,i,j,l,m,n,b,c,aa,r,s,t,u,v,w,x,y,z,A,B,C,D,E,F,G,H,I,J,zz,zy,zx,zw,zv,zu,zt,zs] h):=by kernel_rfl
theorem aHD:cE prog O L 76 [N,P,Q] h=ob (cX 28 (Value.cells N).toList .fix h) λaa h=>ob (dL 3 1 1 [(.int .i64 0)] [(0,P)] h) λab h=>L (aK prog O L L4) (Fe O L) [N,P,Q,aa,undef,undef,(.slice none 0 0),(.bool false),ab,undef,P,ab,undef,undef,undef,undef,undef,undef,undef,undef,undef,undef,undef,undef,undef,undef,undef,undef,undef,undef,undef,undef,undef,undef,undef,undef,undef,undef,undef,undef,undef,undef] h:=by kernel_rfl
def L5:Code:=b9 [1,1,1,1,0,1,0,0] (cB prog 77)
def L6:KV:=(dQ 0 (eD prog O L (b9 [1,1,1,1,1] (cB prog 77)) (fG prog Tryz.f77)))
theorem aHE:L6 O L (.exit 0) [a,b,c,d,e,f,g,i,j,l,m,n,o,p,q,r,s,t,u,v,w,x,y,z,A,B,C,D,E,F,G] h=some (aJ [e],h):=by kernel_rfl
theorem W9:aK prog O L L5 k [a,b,c,d,e,f,g,i,j,l,m,n,o,p,q,r,s,t,u,v,w,x,y,z,A,B,C,D,E,F,G] h=ob (M.aD (bin prog .lss 3 t s) h) λaa h=>aL aa (ob (M.aD (aR 2 r t) h) λab h=>ob (ldN 2 ab h) λac h=>ob (cX 67 [(.int .i64 0),(.int .i64 0)] .fix h) λad h=>ob (stN 2 ad ac h) λae h=>ob (ldN 11 b h) λaf h=>ob (ldN 2 ad h) λag h=>ob (O (.func 132) [af,ag,d] h) λah h=>ob (M.aD (aR 1 e t) h) λai h=>ob (stN 1 ai ah h) λaj h=>ob (M.aD (bin prog .add 3 t (.int .i64 1)) h) λak h=>k .normal [a,b,c,d,e,t,ad,i,j,l,m,n,o,p,q,r,s,ak,aa,t,ab,ac,e,t,af,ag,d,ah,ai,ak,G] h) (k (.exit 0) [a,b,c,d,e,f,g,i,j,l,m,n,o,p,q,r,s,t,aa,v,w,x,y,z,A,B,C,D,E,F,G] h):=by kernel_rfl
theorem aHF:cE prog O L 77 [N] h=ob (cX 28 (Value.cells N).toList .fix h) λaa h=>ob (ldN 11 aa h) λab h=>ob (O (.func 75) [ab] h) λac h=>ob (M.aD (bin prog .neq 51 ac (.int .u16 0)) h) λad h=>aL ad (some (aJ [(.slice none 0 0)],h)) (ob (ldN 11 aa h) λae h=>ob (O (.func 66) [ae] h) λaf h=>ob (M.aD (bM af) h) λag h=>ob (lO 25 1 24 [(.slice none 0 0)] ag ag h) λah h=>ob (M.aD (bM af) h) λai h=>L (aK prog O L L5) (L6 O L) [N,aa,(.slice none 0 0),af,ah,undef,undef,ab,ac,ad,ae,af,af,ag,ah,af,ai,(.int .i64 0),undef,undef,undef,undef,undef,undef,undef,undef,undef,undef,undef,undef,undef] h):=by kernel_rfl
def Ff:Code:=b9 [1,0,1,1,0,1,0,0] (cB prog 78)
def Bw:KV:=(dQ 0 (eD prog O L (b9 [1,0,1,1,1] (cB prog 78)) (fG prog Tryz.f78)))
theorem aHG:Bw O L (.exit 0) [a,b,c,d,e,f,g,i,j,l,m,n,o,p,q,r,s,t,u,v,w,x,y,z,A,B,C,D,E,F,G,H,I,J,zz,zy,zx,zw,zv,zu,zt,zs,zr,zq,zp,zo,zn,zm,zl,zk,zj,zi,zh,zg] h=ob (M.aD (aQ a) h) λaa h=>ob (M.aD (aG 0 aa) h) λab h=>ob (ld1 ab h) λac h=>ob (M.aD (aR 1 ac b) h) λad h=>ob (stN 1 ad (.int .i64 2) h) λae h=>some (aJ [(.bool false)],h):=by kernel_rfl
theorem Xb:Bw O L .ret [a,b,c,d,e,f,g,i,j,l,m,n,o,p,q,r,s,t,u,v,w,x,y,z,A,B,C,D,E,F,G,H,I,J,zz,zy,zx,zw,zv,zu,zt,zs,zr,zq,zp,zo,zn,zm,zl,zk,zj,zi,zh,zg] h=some (aJ [e],h):=by kernel_rfl
theorem Xa:aK prog O L Ff k [a,b,c,d,e,f,g,i,j,l,m,n,o,p,q,r,s,t,u,v,w,x,y,z,A,B,C,D,E,F,G,H,I,J,zz,zy,zx,zw,zv,zu,zt,zs,zr,zq,zp,zo,zn,zm,zl,zk,zj,zi,zh,zg] h=ob (M.aD (bin prog .lss 3 x w) h) λaa h=>aL aa (ob (M.aD (aR 1 v x) h) λab h=>ob (ld1 ab h) λac h=>ob (M.aD (aQ a) h) λad h=>ob (M.aD (aG 0 ad) h) λae h=>ob (ld1 ae h) λaf h=>ob (M.aD (aR 1 af ac) h) λag h=>ob (ld1 ag h) λah h=>ob (M.aD (bin prog .eql 3 ah (.int .i64 1)) h) λai h=>aL ai (k .ret [a,b,c,d,(.bool true),f,ac,i,j,l,m,n,o,p,q,r,s,t,u,v,w,x,aa,ab,ac,ai,a,ad,ae,af,ac,ag,ah,ai,zz,zy,zx,zw,zv,zu,zt,zs,zr,zq,zp,zo,zn,zm,zl,zk,zj,zi,zh,zg] h) (ob (M.aD (aQ a) h) λaj h=>ob (M.aD (aG 0 aj) h) λak h=>ob (ld1 ak h) λal h=>ob (M.aD (aR 1 al ac) h) λam h=>ob (ld1 am h) λan h=>ob (M.aD (bin prog .eql 3 an (.int .i64 2)) h) λao h=>aL ao (ob (M.aD (bin prog .add 3 x (.int .i64 1)) h) λap h=>k .normal [a,b,c,d,e,f,ac,i,j,l,m,n,o,p,q,r,s,t,u,v,w,ap,aa,ab,ac,ai,a,ad,ae,af,ac,ag,ah,ai,ao,a,aj,ak,al,ac,am,an,ao,zq,zp,zo,zn,ap,zl,zk,zj,zi,zh,zg] h) (ob (O (.func 78) [a,ac] h) λaq h=>aL aq (k .ret [a,b,c,d,(.bool true),f,ac,i,j,l,m,n,o,p,q,r,s,t,u,v,w,x,aa,ab,ac,ai,a,ad,ae,af,ac,ag,ah,ai,ao,a,aj,ak,al,ac,am,an,ao,aq,a,ac,aq,zm,zl,zk,zj,zi,zh,zg] h) (ob (M.aD (bin prog .add 3 x (.int .i64 1)) h) λar h=>k .normal [a,b,c,d,e,f,ac,i,j,l,m,n,o,p,q,r,s,t,u,v,w,ar,aa,ab,ac,ai,a,ad,ae,af,ac,ag,ah,ai,ao,a,aj,ak,al,ac,am,an,ao,aq,a,ac,aq,ar,zl,zk,zj,zi,zh,zg] h)))) (k (.exit 0) [a,b,c,d,e,f,g,i,j,l,m,n,o,p,q,r,s,t,u,v,w,x,aa,z,A,B,C,D,E,F,G,H,I,J,zz,zy,zx,zw,zv,zu,zt,zs,zr,zq,zp,zo,zn,zm,zl,zk,zj,zi,zh,zg] h):=by kernel_rfl
theorem aHH:cE prog O L 78 [N,P] h=ob (M.aD (aQ N) h) λaa h=>ob (M.aD (aG 0 aa) h) λab h=>ob (ld1 ab h) λac h=>ob (M.aD (aR 1 ac P) h) λad h=>ob (stN 1 ad (.int .i64 1) h) λae h=>ob (M.aD (aQ N) h) λaf h=>ob (M.aD (aG 1 af) h) λag h=>ob (ld1 ag h) λah h=>ob (M.aD (aR 1 ah P) h) λai h=>ob (ld1 ai h) λaj h=>ob (M.aD (bM aj) h) λak h=>L (aK prog O L Ff) (Bw O L) [N,P,undef,undef,(.bool false),undef,undef,N,aa,ab,ac,P,ad,N,af,ag,ah,P,ai,aj,ak,(.int .i64 0),undef,undef,undef,undef,undef,undef,undef,undef,undef,undef,undef,undef,undef,undef,undef,undef,undef,undef,undef,undef,undef,undef,undef,undef,undef,undef,undef,undef,undef,undef,undef,undef] h:=by kernel_rfl
def Lh:Code:=b9 [1,1,0,0,0] (cB prog 126)
def Li:KV:=(dQ 0 (eD prog O L (b9 [1,1,1] (cB prog 126)) (fG prog Tryz.f126)))
theorem Wr:Li O L (.exit 0) [a,b,c,d,e,f,g,i,j,l,m,n,o,p,q,r,s,t,u,v] h=some (aJ [f],h):=by kernel_rfl
theorem Wq:aK prog O L Lh k [a,b,c,d,e,f,g,i,j,l,m,n,o,p,q,r,s,t,u,v] h=ob (M.aD (bin prog .gtr 3 b (.int .i64 0)) h) λaa h=>aL aa (ob (M.aD (bin prog .sub 3 b (.int .i64 1)) h) λab h=>ob (M.aD (aR 1 a ab) h) λac h=>ob (ld1 ac h) λad h=>ob (dL 3 1 1 [(.int .i64 0)] [(0,ad)] h) λae h=>ob (app 3 1 8 f ae h) λaf h=>k .normal [a,ad,c,d,e,af,g,i,b,aa,a,b,ab,ac,ad,f,ad,ae,af,v] h) (k (.exit 0) [a,b,c,d,e,f,g,i,b,aa,m,n,o,p,q,r,s,t,u,v] h):=by kernel_rfl
theorem aHh:cE prog O L 126 [N,P] h=ob (dL 3 1 1 [(.int .i64 0)] [(0,P)] h) λaa h=>L (aK prog O L Lh) (Li O L) [N,P,undef,undef,(.slice none 0 0),aa,P,aa,undef,undef,undef,undef,undef,undef,undef,undef,undef,undef,undef,undef] h:=by kernel_rfl
def E5:Code:=b9 [1,1,0,1,0,0] (cB prog 132)
def E6:KV:=(dQ 0 (eD prog O L (b9 [1,1,1] (cB prog 132)) (fG prog Tryz.f132)))
theorem aHi:E6 O L (.exit 0) [a,b,c,d,e,f,g,i,j,l,m,n,o,p,q,r,s,t,u,v,w,x,y,z,A,B,C,D,E,F,G,H,I,J,zz,zy,zx,zw,zv,zu,zt,zs,zr,zq,zp,zo,zn,zm,zl,zk,zj,zi,zh,zg,zf,ze,zd,zc,zb,za,yz,yy,yx,yw] h=ob (O (.func 82) [i] h) λaa h=>ob (O (.func 83) [i] h) λab h=>some (aJ [ab],h):=by kernel_rfl
theorem Ws:aK prog O L E5 k [a,b,c,d,e,f,g,i,j,l,m,n,o,p,q,r,s,t,u,v,w,x,y,z,A,B,C,D,E,F,G,H,I,J,zz,zy,zx,zw,zv,zu,zt,zs,zr,zq,zp,zo,zn,zm,zl,zk,zj,zi,zh,zg,zf,ze,zd,zc,zb,za,yz,yy,yx,yw] h=ob (M.aD (bin prog .lss 3 o n) h) λaa h=>aL aa (ob (M.aD (aG 0 e) h) λab h=>ob (ld1 ab h) λac h=>ifB (true) (ob (M.aD (bin prog .eql 3 o ac) h) λad h=>ob (gd ad false (M.cA o) h) λae h=>ob (gd ad false (M.aD (aG 1 e)) h) λaf h=>ob (gd ad false (ld1 af) h) λag h=>ifB (true) (ob (gd ad false (M.aD (bin prog .eql 3 ae ag)) h) λah h=>ob (M.aD (cJ ad (.bool true) ah) h) λai h=>ob (gd ai false (M.aD (aG 10 d)) h) λaj h=>ob (gd ai false (ld1 aj) h) λak h=>ifB (true) (ob (gd ai false (M.aD (aG 0 e)) h) λal h=>ob (gd ai false (ld1 al) h) λam h=>ifB (true) (ob (gd ai false (M.aD (aR 1 ak am)) h) λan h=>ob (gd ai false (ld1 an) h) λao h=>ifB (true) (ob (gd ai false (M.cA o) h) λap h=>ob (gd ai false (M.aD (aR 1 ao ap)) h) λaq h=>ob (gd ai false (ld1 aq) h) λar h=>ifB (true) (ob (gd ai false (M.aD (aG 1 e)) h) λau h=>ob (gd ai false (ld1 au) h) λav h=>ifB (true) (ob (gd ai false (M.aD (bin prog .neq 3 ar av)) h) λaw h=>ob (M.aD (cJ ai (.bool true) aw) h) λax h=>aL ax (ob (M.aD (bin prog .add 3 o (.int .i64 1)) h) λay h=>k .normal [a,b,c,d,e,f,g,i,o,l,m,n,ay,aa,o,o,ab,ac,ad,ad,ae,af,ag,ah,ai,ai,aj,ak,al,am,an,ao,ap,aq,ar,au,av,aw,ax,zu,zt,zs,zr,zq,zp,zo,zn,zm,zl,zk,zj,zi,zh,zg,zf,ze,zd,zc,zb,ay,yz,yy,yx,yw] h) (ob (M.aD (aG 1 e) h) λaz h=>ob (ld1 az h) λba h=>ifB (true) (ob (M.aD (aG 10 d) h) λbb h=>ob (ld1 bb h) λbc h=>ifB (true) (ob (M.aD (aG 1 e) h) λbd h=>ob (ld1 bd h) λbe h=>ifB (true) (ob (M.aD (aR 1 bc be) h) λbf h=>ob (ld1 bf h) λbg h=>ifB (true) (ob (M.aD (aR 1 bg o) h) λbh h=>ob (ld1 bh h) λbi h=>ifB (true) (ob (M.aD (bld prog 67 [(0,ba),(1,bi)]) h) λbj h=>ob (O (.func 162) [c,bj] h) λbk h=>ifB (true) (ob (M.aD (bin prog .geq 3 bk (.int .i64 0)) h) λbl h=>aL bl (ob (dL 3 1 1 [(.int .i64 0)] [(0,bk)] h) λbm h=>ob (app 3 1 8 i bm h) λbn h=>ob (M.aD (bin prog .add 3 o (.int .i64 1)) h) λbo h=>k .normal [a,b,c,d,e,f,g,bn,o,bk,m,n,bo,aa,o,o,ab,ac,ad,ad,ae,af,ag,ah,ai,ai,aj,ak,al,am,an,ao,ap,aq,ar,au,av,aw,ax,c,az,ba,bb,bc,bd,be,bf,bg,o,bh,bi,bj,bk,bk,bl,i,bk,bm,bn,bo,yz,yy,yx,yw] h) (ob (M.aD (bin prog .add 3 o (.int .i64 1)) h) λbp h=>k .normal [a,b,c,d,e,f,g,i,o,bk,m,n,bp,aa,o,o,ab,ac,ad,ad,ae,af,ag,ah,ai,ai,aj,ak,al,am,an,ao,ap,aq,ar,au,av,aw,ax,c,az,ba,bb,bc,bd,be,bf,bg,o,bh,bi,bj,bk,bk,bl,ze,zd,zc,zb,bp,yz,yy,yx,yw] h)))))))))))))))) (k (.exit 0) [a,b,c,d,e,f,g,i,j,l,m,n,o,aa,q,r,s,t,u,v,w,x,y,z,A,B,C,D,E,F,G,H,I,J,zz,zy,zx,zw,zv,zu,zt,zs,zr,zq,zp,zo,zn,zm,zl,zk,zj,zi,zh,zg,zf,ze,zd,zc,zb,za,yz,yy,yx,yw] h):=by kernel_rfl
theorem aHj:cE prog O L 132 [N,P,Q] h=ob (cX 28 (Value.cells N).toList .fix h) λaa h=>ob (cX 67 (Value.cells P).toList .fix h) λab h=>ob (M.aD (aG 0 aa) h) λac h=>ob (ld1 ac h) λad h=>L (aK prog O L E5) (E6 O L) [N,P,Q,aa,ab,undef,(.slice none 0 0),(.slice none 0 0),undef,undef,ac,ad,(.int .i64 0),undef,undef,undef,undef,undef,undef,undef,undef,undef,undef,undef,undef,undef,undef,undef,undef,undef,undef,undef,undef,undef,undef,undef,undef,undef,undef,undef,undef,undef,undef,undef,undef,undef,undef,undef,undef,undef,undef,undef,undef,undef,undef,undef,undef,undef,undef,undef,undef,undef,undef,undef] h:=by kernel_rfl
end Go.Proofs.YtkeilicinggjmaaGreatDoor
end
namespace Go.Proofs.YtkeilicinggjmaaGreatDoor
open Go.Proofs.Tryz
open Go.Abs
def nx (p:PlanD)(v w:Int):Int:=(p.next.getD v.toNat []).getD w.toNat 0
def yA (p:PlanD)(w:Int):Nat->List Int->Int->Option (List Int)
 |0,_,_=>none
 |q+1,l,v=>if v=w then some l else if((l.length:Int)=p.nodes∨(kH p.edges v).contains (nx p v w)=false) then none else yA p w q (l++[nx p v w]) (nx p v w)
def pE (p:PlanD)(v w:Int):Option (List Int):=yA p w p.nodes.toNat [v] v
def wH (p:PlanD)(v w:Int):List Int:=if kY p=true/\0<=v/\v<p.nodes/\0<=w/\w<p.nodes then(pE p v w).getD [] else []
structure OkP (p:PlanD)(n:Nat):Prop where
 hn:p.nodes=(n:Int)
 h2:2<=n
 h6:n<=6
 ve:VE n p.edges
 e15:p.edges.length<=15
 nl:p.next.length=n
 rl: ∀r∈p.next,r.length=n
theorem Fg {p:PlanD}(h:kY p=true): ∃n,OkP p n:=by
 unfold kY uW xZ wE wi at h;simp only[aO2,decide_eq_true_eq,Bool.not_eq_true'] at h;obtain⟨⟨⟨h1,h2⟩,_⟩,⟨h3,h4⟩,_,_,h5,h6⟩:=h;have hn:p.nodes=((p.nodes.toNat:Nat):Int):=by omega
 refine⟨p.nodes.toNat,hn,by omega,by omega,?_,by omega,by omega,λr hr=> ?_⟩
 ·rw[<-hn];exact(Wj _ _).mp h3
 ·rw[List.any_eq_false] at h6
  have:=h6 r hr;simp only[decide_eq_true_eq,ne_eq,Decidable.not_not] at this;omega
theorem aHI {E:List Ed}{v x:Int}:(bes E v).contains x=(kH E v).contains x:=by
 rw[Bool.eq_iff_iff,List.contains_iff_mem,List.contains_iff_mem,K4]
section
variable {H : aC} {m : Nat} {p : PlanD} {ev wv nv : Value}
theorem aHK (xs:List Int)(w:Int):decide (0<=K3 xs w)=xs.contains w:=by
 unfold K3;rw[Eo,Bm xs (λx=>x==w) _ (λi x hx=>by rw[hx];rfl)]
 rw[Bool.eq_iff_iff,List.any_eq_true,List.contains_iff_mem];constructor
 ·rintro ⟨x,h1,h2⟩
  have:x=w:=by simpa using h2
  exact this▸h1
 ·exact λh=>⟨w,h,by simp⟩
theorem aHJ {v:Value}{xs:List Int}(hx:Is H v xs)(w:Int)(hn:xs.length+20<m)(hm:m<=72057594037927936):lvl prog cF m (.func 131) [v,.int .i64 w] H=some (.bool (xs.contains w),H):=by
 have g:=aGP hx w (m:=m-1) (by omega) (by omega)
 refine dF (iH rfl rfl) (by omega) ?_
 rw[aFF];simp only[gsR,g,aHK]
theorem L7 {n:Nat}(hk:OkP p n)(hp:PV H p ev wv nv){v w:Int}(hv:0<=v/\v<n)(hw:0<=w/\w<n): ∃a u a2,aR 1 nv (.int .i64 v)=some a/\ld1 a H=some (u,H)/\aR 1 u (.int .i64 w)=some a2/\ld1 a2 H=some (.int .i64 (nx p v w),H):=by
 have ev':v=((v.toNat:Nat):Int):=by omega
 have ew':w=((w.toNat:Nat):Int):=by omega
 have h1:=hk.nl;obtain⟨r,hr⟩: ∃r,p.next[v.toNat]? =some r:=⟨_,aOW (by omega)⟩
 have h2:=hk.rl r (aO4 hr);obtain⟨x,hx⟩: ∃x,r[w.toNat]? =some x:=⟨_,aOW (by omega)⟩
 obtain⟨a,u,g1,g2,g3⟩:=hp.n.Em hr .i64;obtain⟨b,o,g4,_,g6⟩:=g3.iG jK hx .i64;rw[<-ev'] at g1;rw[<-ew'] at g4;have e:nx p v w=x:=by
  unfold nx;simp only[aOY,hr,hx,aPn]
 rw[e]
 exact⟨a,u,_,g1,g2,g4,(g6 H rfl).2.1 0 _ rfl⟩
def Xc (H0:aC)(o:Option (List Int))(H':aC)(u:Value):Prop:=Ext H0 H'/\ ∃lv,u= .tuple #[lv,.bool o.isSome]/\Iw H' lv (o.getD [])/\New H0 lv
theorem aHM {n:Nat}(hk:OkP p n){H0:aC}{a:Nat}{w:Int}(hw:0<=w/\w<n)(hp:PV H0 p ev wv nv)(hb:H0[a]? =some (plB p ev wv nv))(hm:200<m)(hm2:m<=72057594037927936):
  ∀(q k:Nat)(H1:aC)(u:Value)(l:List Int)(v:Int),q+l.length=n+1->l.length<=n->q<k->0<=v/\v<n->Ext H0 H1->Iw H1 u l->New H0 u-> ∀(x0 x4 x5 x6 x7 x9 bK bN bC aO aP aM aS bI aN bG bJ bL bH bE aT aU aV aW aX aY aZ bA bB bO bP bQ bR bS bT bU bV bX:Value),
  ∃H' r,aI k (aK prog (lvl prog cF m) (aI m) L4) (Fe (lvl prog cF m) (aI m)) [x0,(.int .i64 v),(.int .i64 w),(.pointer (some ⟨a,0,none⟩)),x4,x5,x6,x7,u,x9,bK,bN,bC,aO,aP,aM,aS,bI,aN,bG,bJ,bL,bH,bE,aT,aU,aV,aW,aX,aY,aZ,bA,bB,bO,bP,bQ,bR,bS,bT,bU,bV,bX] H1=some (r,H')/\Xc H0 (yA p w q l v) H' r:=by
 intro q;have h6:=hk.h6;have h15:=hk.e15;induction q with
 |zero=>intro k H1 u l v h1 h2;omega
 |succ q ih=>
  intro k H1 u l v hql hln hk2 hv he hu hnew;intros;obtain⟨k,rfl⟩:=aB k (by omega)
  rw[dY,aHB];unfold yA;by_cases hvw:v=w
  ·have d:(v !=w)=false:=by simp[hvw]
   rw[if_pos hvw];simp only[gsR,d];rw[aHC]
   exact⟨H1,_,rfl,he,u,rfl,hu,hnew⟩
  ·have d:(v !=w)=true:=by simp[hvw]
   rw[if_neg hvw];have b1:=hZ hb he;have p1:=hp.ext he;have l10:=eU b1 10 _ rfl;have l0:=eU b1 0 _ rfl;rw[hk.hn] at l0;obtain⟨a1,u1,a2,g1,g2,g3,g4⟩:=L7 hk p1 hv hw;have hlen:=hu.zK;obtain⟨x,hx⟩: ∃x,x=nx p v w:=⟨_,rfl⟩;rw[<-hx] at g4⊢;by_cases hl:l.length=n
   ·have dl:((l.length:Int)==(n:Int))=true:=by simp[hl]
    rw[if_pos (.inl (by rw[hk.hn];omega))]
    simp only[gsR,d,l10,g1,g2,g3,g4,hlen,l0,dl];rw[W8]
    exact⟨H1,_,rfl,he,.slice none 0 0,rfl,Rw.lQ,New.nP _⟩
   ·have dl:((l.length:Int)==(n:Int))=false:=by simp;omega
    have l11:=kX b1;obtain⟨H2,ub,g5,x2,q2,_⟩:=K0 p1 (m:=m) (by omega) (by omega) v
    have hbl:=V4 p.edges v;have g6:=aHJ q2.rs x (m:=m) (by omega) (by omega)
    rw[aHI] at g6;cases hc:(kH p.edges v).contains x with
    |false=>
     rw[hc] at g6;rw[if_pos (.inr rfl)];simp only[gsR,d,l10,g1,g2,g3,g4,hlen,l0,dl,l11,g5,g6];rw[W8]
     exact⟨H2,_,rfl,he.tr x2,.slice none 0 0,rfl,Rw.lQ,New.nP _⟩
    |true=>
     rw[hc] at g6;rw[if_neg (by rw[hk.hn];rintro (h|h);omega;cases h)]
     have hxin:=E1 hk.ve (K4 _ _ _ |>.mpr (List.contains_iff_mem.mp hc));have hu2:Iw H2 u l:=hu.iD λb hb=>x2.2 b (hu.j8 hb) id
     obtain⟨u2,H3,t1,t2,t3,t4⟩:=hu2.rW (by':=8) jK pC (by decide) x hnew (he.tr x2) (kM (n:=1000000) (by decide) (by omega))
     simp only[gsR,d,l10,g1,g2,g3,g4,hlen,l0,dl,l11,g5,g6,oW,t1];exact ih k H3 u2 (l++[x]) x (by simp;omega) (by simp;omega) (by omega) ⟨hxin.1,hxin.2.1⟩ t4 t2 t3 ..
theorem aHL {n:Nat}(hk:OkP p n)(hp:PV H p ev wv nv){v w:Int}(hv:0<=v/\v<n)(hw:0<=w/\w<n)(hm:300<m)(hm2:m<=72057594037927936):
  ∃H' r,lvl prog cF m (.func 76) [plV p ev wv nv,.int .i64 v,.int .i64 w] H=some (r,H')/\Xc H (pE p v w) H' r:=by
 obtain⟨H0,hH0⟩: ∃H0,H0=H++[plB p ev wv nv]:=⟨_,rfl⟩;have x0:Ext H H0:=by rw[hH0];exact Fr.app _ _ _
 have b0:H0[H.length]? =some (plB p ev wv nv):=by rw[hH0];exact gZ _ _
 have h6:=hk.h6;have h2:=hk.h2;have one:Iw (H0++[.cells (inC v) 3 .row]) (.slice (some ⟨H0.length,0,none⟩) 1 1) [v]:=⟨rfl,.inr ⟨_,1,[],rfl,by simp,rfl,by simp⟩⟩
 have hnew:New H0 (.slice (some ⟨H0.length,0,none⟩) 1 1):=λb ⟨_,_,_,hh⟩=>by cases hh;exact aOZ _
 have x1:Ext H0 (H0++[Blk.cells (inC v) 3 .row]):=Fr.app _ _ _;refine jJ (iH rfl rfl) (by omega) ?_
 rw[aHD];simp only[gsR,lS,<-hH0,oW];have hq:p.nodes.toNat=n:=by rw[hk.hn];rfl
 unfold pE;rw[hq];have:=aHM hk hw (hp.ext x0) b0 (m:=m-1) (by omega) (by omega) n (m-1) _ _ [v] v (by simp) (by simp;omega) (by omega) hv x1 one hnew
 refine Exists.imp (λH' h=>Exists.imp (λr h=>⟨h.1,x0.tr h.2.1,?_⟩) h) (this ..)
 obtain⟨lv,e1,e2,e3⟩:=h.2.2
 exact⟨lv,e1,e2,λb hb=>aPa x0.1 (e3 b hb)⟩
end
def Fi (p:PlanD)(a b:Ed)(w:Nat):Bool:=a.2==b.1&&((w:Int)!=a.2&&((w:Int)!=a.1&&(nx p a.1 w==a.2&&nx p a.2 w==b.2)))
def wt (p:PlanD)(n:Nat)(a b:Ed):Bool:=(List.range n).any (Fi p a b)
def oC (p:PlanD)(n:Nat)(hs:List Ed)(a:Ed):List Int:=((List.range hs.length).filter λk=>wt p n a (hs.getD k (0,0))).map (λk:Nat=>(k:Int))
def mH (p:PlanD):List (List Int):=if kY p=true then(lT p).map (oC p p.nodes.toNat (lT p)) else []
def qI (hs:List Ed)(y:Ed):Int:=fst (λj=>hs[j]? ==some y) hs.length 0
def nE (p:PlanD)(hs:List Ed)(h:Ed)(w:Nat):List Int:=
 if(w:Int)=h.1∨(w:Int)=h.2∨nx p h.1 w≠h.2 then [] else if 0<=qI hs (h.2,nx p h.2 w) then [qI hs (h.2,nx p h.2 w)] else []
def Fh (p:PlanD)(n:Nat)(hs:List Ed)(h:Ed):List Int:=(List.range n).flatMap (nE p hs h)
theorem Xf (p:Nat->Bool): ∀q i,0<=fst p q i->p (fst p q i).toNat=true
 |0,i=>by simp[fst]
 |q+1,i=>by
  unfold fst;split
  ·rename_i h
   intro _;simpa using h
  ·exact Xf p q (i+1)
theorem Xi {hs:List Ed}(hn:hs.Nodup)(y:Ed)(k:Nat):qI hs y=k↔hs[k]? =some y:=by
 have key:0<=qI hs y->hs[(qI hs y).toNat]? =some y:=λh=>by
  unfold qI at h⊢;have:=Xf _ _ _ h;simpa using this
 constructor
 ·intro h
  have:=key (by omega)
  rw[h] at this;simpa using this
 ·intro h
  have hk:=(aOU.mp h).1;have h0:0<=qI hs y:=(Ky _ _ _).mpr ⟨k,by omega,by omega,by rw[h];simp⟩
  have h1:=key h0;have hk1:=(aOU.mp h1).1;have:=(List.getElem_inj (h₀:=hk1) (h₁:=hk) hn).mp (by
   rw[(aOU.mp h1).2,(aOU.mp h).2])
  omega
theorem aHP (p:PlanD)(hs:List Ed)(h:Ed)(w:Nat):(nE p hs h w).length<=1:=by
 unfold nE;split
 ·simp
 ·split<;>simp
theorem L9 (p:PlanD)(hs:List Ed)(h:Ed): ∀i,((List.range i).flatMap (nE p hs h)).length<=i
 |0=>by simp
 |i+1=>by
  have:=L9 p hs h i;have:=aHP p hs h i;rw[aPt,List.flatMap_append];simp only[aO6,List.flatMap_cons,List.flatMap_nil,List.append_nil];omega
theorem Xk {p:PlanD}{n:Nat}{hs:List Ed}{a:Ed}{z:Int}:z∈oC p n hs a↔ ∃k b,z=(k:Nat)/\hs[k]? =some b/\wt p n a b=true:=by
 unfold oC;simp only[aPx,List.mem_filter,aPy];constructor
 ·rintro ⟨k,⟨h1,h2⟩,rfl⟩
  exact⟨k,hs[k],rfl,aOW h1,by rwa [aOY,aOW h1,aPn] at h2⟩
 ·rintro ⟨k,b,rfl,h1,h2⟩
  refine⟨k,⟨(aOU.mp h1).1,?_⟩,rfl⟩;rwa [aOY,h1,aPn]
theorem aHZ (p:PlanD)(n:Nat)(hs:List Ed)(a:Ed):(oC p n hs a).Pairwise (· < ·):=by
 unfold oC;rw[List.pairwise_map]
 exact(List.Pairwise.filter _ List.pairwise_lt_range).imp λh=>by omega
theorem aHY (z:Int)(l:List Int):z∈srt l↔z∈l:=(zF l).mem_iff
theorem aHQ {p:PlanD}{n:Nat}{hs:List Ed}(hn:hs.Nodup)(a:Ed):dd (srt (Fh p n hs a))=oC p n hs a:=by
 refine K5 _ _ (Et _ (A8 _)) (aHZ p n hs a) λz=> ?_
 rw[Bp,aHY,Xk];unfold Fh wt;simp only[List.mem_flatMap,aPy,List.any_eq_true];constructor
 ·rintro ⟨w,hw,hz⟩
  unfold nE at hz
  split at hz
  ·simp at hz
  ·rename_i hc
   split at hz
   ·rename_i h0
    simp only[List.mem_singleton] at hz;have e:qI hs (a.2,nx p a.2 w)=((qI hs (a.2,nx p a.2 w)).toNat:Nat):=by omega
    refine⟨_,_,by rw[hz];exact e,(Xi hn _ _).mp e,w,hw,?_⟩
    unfold Fi;simp only[aO2,bne_iff_ne,beq_iff_eq];refine⟨trivial,?_,?_,?_,trivial⟩<;>omega
   ·simp at hz
 ·rintro ⟨k,b,rfl,hk,w,hw,hz⟩
  unfold Fi at hz;simp only[aO2,bne_iff_ne,beq_iff_eq] at hz;obtain⟨h1,h2,h3,h4,h5⟩:=hz;refine⟨w,hw,?_⟩;unfold nE;rw[if_neg (by omega)]
  have:(a.2,nx p a.2 w)=b:=by rw[h5,h1]
  rw[this,(Xi hn b k).mpr hk,if_pos (by omega)]
  simp
theorem Xg {p:PlanD}{n:Nat}(hk:OkP p n):(lT p).Nodup/\lT p=(List.range n).flatMap (pD p.edges):=by
 have hN:mV p=n:=by have:=hk.h6;unfold mV;rw[hk.hn];omega
 have hho:lT p=(List.range n).flatMap (pD p.edges):=by unfold lT;rw[hN]
 refine⟨?_,hho⟩;rw[hho]
 exact(aHd hk.ve hk.h6).imp λh hh=>by subst hh;omega
theorem aHT {p:PlanD}{n:Nat}(hk:OkP p n){h:Ed}(hh:h∈lT p):0<=h.1/\h.1<n/\0<=h.2/\h.2<n:=by
 rw[(Xg hk).2] at hh;have:=E1 hk.ve ((aHc hk.ve hk.h6).mp hh);omega
section
variable {H : aC} {m : Nat} {p : PlanD} {ev wv nv : Value}
def hpB (h:Ed):Blk:= .cells (edC h) 67 .fix
theorem Xh (h:Ed):Blk.cells (edV h).cells.toList 67 .fix=hpB h:=rfl
theorem aHW {b:Nat}{h:Ed}(hb:H[b]? =some (hpB h)):ld1 (.pointer (some ⟨b,0,none⟩)) H=some (.int .i64 h.1,H):=A5 hb rfl
theorem aHX {b:Nat}{h:Ed}(hb:H[b]? =some (hpB h)):ld1 (.pointer (some ⟨b,1,none⟩)) H=some (.int .i64 h.2,H):=A5 hb rfl
theorem Xj {b:Nat}{h:Ed}(hb:H[b]? =some (hpB h)):ldN 2 (.pointer (some ⟨b,0,none⟩)) H=some (edV h,H):=by
 rw[rV,hb];unfold hpB;rw[sO _ _ _ _ _ (by simp[edC])]
 rfl
theorem Xe (a b:Ed):bin prog .eql 67 (edV a) (edV b)=some (.bool (a==b)):=by
 have k:sE prog 67=some [true,true]:=by kernel_rfl
 obtain⟨a1,a2⟩:=a;obtain⟨b1,b2⟩:=b;simp[bin,edV,eC,o9,k,eqT,edC];rfl
theorem aHV {v:Value}{xs:List Ed}{a:Nat}{y:Ed}(hx:Hs H v xs)(ha:H[a]? =some (hpB y))(hn:xs.length<=72057594037927936): ∀(q i k:Nat),xs.length-i=q->i<=xs.length->q<k-> ∀(x1 x2 x4 x5 x6 x9 bK bN bC aO aP aM aS bI aN:Value),
  aI k (aK prog (lvl prog cF m) (aI m) J9) (Ej (lvl prog cF m) (aI m)) [v,x1,x2,(.pointer (some ⟨a,0,none⟩)),x4,x5,x6,(.int .i64 xs.length),(.int .i64 (i:Nat)),x9,bK,bN,bC,aO,aP,aM,aS,bI,aN] H=some (.int .i64 (fst (λj=>xs[j]? ==some y) q i),H):=by
 intro q;have la:=Xj ha;induction q with
 |zero=>
  intro i k hr hi hk;intros;obtain⟨k,rfl⟩:=aB k (by omega)
  obtain rfl:i=xs.length:=by omega
  have e:decide ((xs.length:Int)<xs.length)=false:=by simp
  rw[dY,U8];simp only[gsR,e];rw[aFQ];rfl
 |succ q ih=>
  intro i k hr hi hk;intros;obtain⟨k,rfl⟩:=aB k (by omega)
  have e:decide ((i:Int)<xs.length)=true:=by simp;omega
  have e3:=aA (i:=i) (by omega)
  have hxi:xs[i]? =some xs[i]:=aOW (by omega)
  obtain⟨b,o,g1,g2,g3⟩:=hx.iG sZ hxi .i64;have l1:ldN 2 (.pointer (some ⟨b,o,none⟩)) H=some (edV xs[i],H):=(g3 H rfl).1;rw[dY,U8];unfold fst;by_cases h:y=xs[i]
  ·have d:(y==xs[i])=true:=by rw[h];simp
   have d2:(xs[i]? ==some y)=true:=by rw[hxi,h];simp
   simp only[gsR,e,la,g1,l1,Xe,d];rw[aFS,if_pos d2];rfl
  ·have d:(y==xs[i])=false:=by simpa using h
   have d2: ¬(xs[i]? ==some y)=true:=by rw[hxi];simpa using λhh=>h hh.symm
   simp only[gsR,e,la,g1,l1,Xe,d,cC,e3];rw[if_neg d2];exact ih (i+1) k (by omega) (by omega) (by omega) ..
theorem aHU {v:Value}{xs:List Ed}(hx:Hs H v xs)(y:Ed)(hn:xs.length+10<m)(hm:m<=72057594037927936): ∃H',lvl prog cF m (.func 162) [v,edV y] H=some (.int .i64 (qI xs y),H')/\Ext H H':=by
 have x2:Ext H (H++[hpB y]):=Fr.app _ _ _;have hlen:=hx.gO;refine⟨H++[hpB y],dF (iH rfl rfl) (by omega) ?_,x2⟩
 rw[aFR];simp only[gsR,Xh,hlen];exact aHV (hx.ext x2) (gZ H _) (by omega) xs.length 0 (m-1) (by omega) (by omega) (by omega) ..
theorem aHS {n:Nat}(hk:OkP p n){H0:aC}{a hb:Nat}{h:Ed}{u:Value}{hs:List Ed}(hh:0<=h.1/\h.1<n/\0<=h.2/\h.2<n)(hp:PV H0 p ev wv nv)(hb0:H0[a]? =some (plB p ev wv nv))(hhb:H0[hb]? =some (hpB h))(hu:Hs H0 u hs)(hsl:hs.length<=100)(hm:300<m)(hm2:m<=72057594037927936):
  ∀(q i k:Nat)(H1:aC)(acc:Value),n-i=q->i<=n->q<k->Ext H0 H1->Iw H1 acc ((List.range i).flatMap (nE p hs h))->New H0 acc-> ∀(x0 x1 x5 x6 x8 x9 bK aO aP aM aS bI aN bG bJ bL bH bE aT aU aV aW aX aY aZ bA bB bO bP bQ bR bS bT bU bV bX bY cD cG cH cK cQ cS cT cM cN cO cP cW cU cV cY dA dC dB dD dN dO:Value),
  ∃H' r,aI k (aK prog (lvl prog cF m) (aI m) E5) (E6 (lvl prog cF m) (aI m)) [x0,x1,u,(.pointer (some ⟨a,0,none⟩)),(.pointer (some ⟨hb,0,none⟩)),x5,x6,acc,x8,x9,bK,(.int .i64 n),(.int .i64 (i:Nat)),aO,aP,aM,aS,bI,aN,bG,bJ,bL,bH,bE,aT,aU,aV,aW,aX,aY,aZ,bA,bB,bO,bP,bQ,bR,bS,bT,bU,bV,bX,bY,cD,cG,cH,cK,cQ,cS,cT,cM,cN,cO,cP,cW,cU,cV,cY,dA,dC,dB,dD,dN,dO] H1=some (r,H')/\Ext H0 H'/\Iw H' r (dd (srt (Fh p n hs h)))/\New H0 r:=by
 intro q;have h6:=hk.h6;induction q with
 |zero=>
  intro i k H1 acc hr hi hk2 he ha hnew;intros;obtain⟨k,rfl⟩:=aB k (by omega)
  obtain rfl:i=n:=by omega
  have e:decide ((i:Int)<(i:Int))=false:=by simp
  have hal:=L9 p hs h i;obtain⟨H2,g1,g2,g3⟩:=Ud ha (by omega) hnew he
  have g1':=Vl m (by omega) [acc] H1
  rw[g1] at g1';have hsl:=qY ((List.range i).flatMap (nE p hs h));obtain⟨H3,r,q1,q2,q3,q4⟩:=Vy (m:=m) g2 hnew g3 (by omega) (by omega)
  refine⟨H3,r,?_,q2,q3,q4⟩;rw[dY,Ws];simp only[gsR,e];rw[aHi];simp only[gsR,g1',q1]
 |succ q ih=>
  intro i k H1 acc hr hi hk2 he ha hnew;intros;obtain⟨k,rfl⟩:=aB k (by omega)
  have e:decide ((i:Int)<(n:Int))=true:=aPD (by omega)
  have e3:=aA (i:=i) (by omega)
  have hb1:=hZ hhb he;have h0:=aHW hb1;have h1:=aHX hb1;have bp:=hZ hb0 he;have l10:=eU bp 10 _ rfl;have p1:=hp.ext he;have hran:(List.range (i+1)).flatMap (nE p hs h)=(List.range i).flatMap (nE p hs h)++nE p hs h i:=by
   rw[aPt,List.flatMap_append];simp
  have hal:=L9 p hs h i;have skip:nE p hs h i=[]-> ∀(x0 x1 x5 x6 x8 x9 bK aO aP aM aS bI aN bG bJ bL bH bE aT aU aV aW aX aY aZ bA bB bO bP bQ bR bS bT bU bV bX bY cD cG cH cK cQ cS cT cM cN cO cP cW cU cV cY dA dC dB dD dN dO:Value),∃H' r,aI k (aK prog (lvl prog cF m) (aI m) E5) (E6 (lvl prog cF m) (aI m)) [x0,x1,u,(.pointer (some ⟨a,0,none⟩)),(.pointer (some ⟨hb,0,none⟩)),x5,x6,acc,x8,x9,bK,(.int .i64 n),(.int .i64 (i+1:Nat)),aO,aP,aM,aS,bI,aN,bG,bJ,bL,bH,bE,aT,aU,aV,aW,aX,aY,aZ,bA,bB,bO,bP,bQ,bR,bS,bT,bU,bV,bX,bY,cD,cG,cH,cK,cQ,cS,cT,cM,cN,cO,cP,cW,cU,cV,cY,dA,dC,dB,dD,dN,dO] H1=some (r,H')/\Ext H0 H'/\Iw H' r (dd (srt (Fh p n hs h)))/\New H0 r:=by
   intro h0;exact ih (i+1) k H1 acc (by omega) (by omega) (by omega) he (by rw[hran,h0,List.append_nil];exact ha) hnew
  rw[dY,Ws];cases c1:((i:Int)==h.1) with
  |true=>
   simp only[gsR,e,h0,c1,cC,e3];exact skip (by unfold nE;rw[if_pos (.inl (by simpa using c1))]) ..
  |false=>
   cases c2:((i:Int)==h.2) with
   |true=>
    simp only[gsR,e,h0,h1,c1,c2,cC,e3];exact skip (by unfold nE;rw[if_pos (.inr (.inl (by simpa using c2)))]) ..
   |false=>
    obtain⟨a1,u1,a2,g1,g2,g3,g4⟩:=L7 hk p1 (v:=h.1) (w:=i) (by omega) (by omega)
    cases c3:(nx p h.1 i !=h.2) with
    |true=>
     simp only[gsR,e,h0,h1,c1,c2,l10,g1,g2,g3,g4,c3,cC,e3];exact skip (by unfold nE;rw[if_pos (.inr (.inr (by simpa using c3)))]) ..
    |false=>
     obtain⟨a3,u3,a4,k1,k2,k3,k4⟩:=L7 hk p1 (v:=h.2) (w:=i) (by omega) (by omega)
     have bh:bld prog 67 [(0,.int .i64 h.2),(1,.int .i64 (nx p h.2 i))]=some (edV (h.2,nx p h.2 i)):=V3 _ _;obtain⟨H2,x1,x2⟩:=aHU (hu.ext he) (h.2,nx p h.2 i) (m:=m) (by omega) (by omega)
     have hnot: ¬((i:Int)=h.1∨(i:Int)=h.2∨nx p h.1 i≠h.2):=by
      have c1': ¬(i:Int)=h.1:=by simpa using c1
      have c2': ¬(i:Int)=h.2:=by simpa using c2
      have c3':nx p h.1 i=h.2:=by simpa using c3
      rintro (hx|hx|hx)
      ·exact c1' hx
      ·exact c2' hx
      ·exact hx c3'
     have ha2:Iw H2 acc ((List.range i).flatMap (nE p hs h)):=ha.iD λb hb=>x2.2 b (ha.j8 hb) id
     cases c4:decide (0<=qI hs (h.2,nx p h.2 i)) with
     |true=>
      obtain⟨acc2,H3,t1,t2,t3,t4⟩:=ha2.rW (by':=8) jK pC (by decide) (qI hs (h.2,nx p h.2 i)) hnew (he.tr x2) (kM (n:=1000000) (by decide) (by omega))
      simp only[gsR,e,h0,h1,c1,c2,l10,g1,g2,g3,g4,c3,k1,k2,k3,k4,bh,x1,c4,oW,t1,cC,e3];refine ih (i+1) k H3 acc2 (by omega) (by omega) (by omega) t4 ?_ t3 ..
      have:nE p hs h i=[qI hs (h.2,nx p h.2 i)]:=by unfold nE;rw[if_neg hnot,if_pos (of_decide_eq_true c4)]
      rw[hran,this];exact t2
     |false=>
      simp only[gsR,e,h0,h1,c1,c2,l10,g1,g2,g3,g4,c3,k1,k2,k3,k4,bh,x1,c4,cC,e3];refine ih (i+1) k H2 acc (by omega) (by omega) (by omega) (he.tr x2) ?_ hnew ..
      have:nE p hs h i=[]:=by unfold nE;rw[if_neg hnot,if_neg (of_decide_eq_false c4)]
      rw[hran,this,List.append_nil];exact ha2
theorem aHR {n:Nat}(hk:OkP p n){h:Ed}{u:Value}{hs:List Ed}(hh:0<=h.1/\h.1<n/\0<=h.2/\h.2<n)(hp:PV H p ev wv nv)(hu:Hs H u hs)(hsl:hs.length<=100)(hnd:hs.Nodup)(hm:400<m)(hm2:m<=72057594037927936):
  ∃H' r,lvl prog cF m (.func 132) [plV p ev wv nv,edV h,u] H=some (r,H')/\Ext H H'/\Iw H' r (oC p n hs h)/\New H r:=by
 obtain⟨H0,hH0⟩: ∃H0,H0=H++[plB p ev wv nv]:=⟨_,rfl⟩;have x0:Ext H H0:=by rw[hH0];exact Fr.app _ _ _
 have b0:H0[H.length]? =some (plB p ev wv nv):=by rw[hH0];exact gZ _ _
 obtain⟨H1,hH1⟩: ∃H1,H1=H0++[hpB h]:=⟨_,rfl⟩;have x1:Ext H0 H1:=by rw[hH1];exact Fr.app _ _ _
 have b1:H1[H0.length]? =some (hpB h):=by rw[hH1];exact gZ _ _
 have l0:=eU (hZ b0 x1) 0 _ rfl;rw[hk.hn] at l0;have x01:=x0.tr x1;have h6:=hk.h6;refine jJ (iH rfl rfl) (by omega) ?_
 rw[aHj];simp only[gsR,lS,<-hH0,Xh,<-hH1,l0];rw[<-aHQ hnd];exact Exists.imp (λH' h=>Exists.imp (λr h=>⟨h.1,x01.tr h.2.1,h.2.2.1,λb hb=>aPa x01.1 (h.2.2.2 b hb)⟩) h) (aHS hk hh (hp.ext x01) (hZ b0 x1) b1 (hu.ext x01) hsl (m:=m-1) (by omega) (by omega) n 0 (m-1) H1 (.slice none 0 0) (by omega) (by omega) (by omega) (Fr.nC _ _) Rw.lQ (New.nP _) ..)
structure WR (H:aC)(us:List SV)(xss:List (List Int)):Prop where
 len:us.length=xss.length
 row: ∀(j:Nat)(s:SV)(xs:List Int),us[j]? =some s->xss[j]? =some xs->Iw H s.1 xs
theorem WR.Bx {us:List SV}{xss:List (List Int)}{H':aC}(h:WR H us xss)(hk: ∀(b:Nat)(cs:List Value),H[b]? =some (.cells cs 3 .row)->H'[b]? =H[b]?):WR H' us xss:=
 ⟨h.len,λj s xs h1 h2=>(h.row j s xs h1 h2).iD λb hb=>by
  obtain⟨cs,hc⟩:=(h.row j s xs h1 h2).blk hb;exact hk b cs hc⟩
theorem WR.Xd {us:List SV}{xss:List (List Int)}{s:SV}{xs:List Int}(h:WR H us xss)(hs:Iw H s.1 xs):WR H (us++[s]) (xss++[xs]):=by
 refine⟨by simp[h.len],λj s' xs' h1 h2=> ?_⟩
 by_cases hj:j<us.length
 ·rw[aOX hj] at h1
  rw[aOX (by have:=h.len;omega)] at h2
  exact h.row j s' xs' h1 h2
 ·have hj2:j=us.length:=by
   have:=(aOU.mp h1).1;simp at this;omega
  subst hj2;simp at h1;rw[h.len] at h2;simp at h2;subst h1 h2;exact hs
theorem WR.L8 {us:List SV}{xss:List (List Int)}{v:Value}(h:WR H us xss)(hv:Rs sC 25 H v us):Rows H v xss:=by
 refine⟨us.map (·.1),?_,by simp[h.len],λj u xs h1 h2=> ?_⟩
 ·rcases hv with⟨h1,h2⟩|⟨b,o,cap,h1,h2,h3⟩
  ·exact .inl ⟨h1,by rw[h2];rfl⟩
  ·refine .inr ⟨b,o,cap,by rw[aO8];exact h1,by rw[aO8];exact h2,λhne=> ?_⟩
   rw[<-K8];exact h3 λhh=>hne (by rw[hh];rfl)
 ·rw[aO7] at h1
  obtain⟨s,hs,rfl⟩:=aPq.mp h1
  exact(h.row j s xs hs h2).rs
def qJ {u:Value}{xs:List Int}(h:Iw H u xs):SV:=⟨u,Rs.sv h.rs⟩
def Ma:SV:=⟨.slice none 0 0,rfl,rfl⟩
theorem aHO {n:Nat}(hk:OkP p n){H0:aC}{a ob:Nat}{u:Value}{hs:List Ed}(hin: ∀h∈hs,0<=h.1/\h.1<n/\0<=h.2/\h.2<n)(hsl:hs.length<=100)(hnd:hs.Nodup)(hm:500<m)(hm2:m<=72057594037927936)(hp:PV H0 p ev wv nv)(hb0:H0[a]? =some (plB p ev wv nv))(hu:Hs H0 u hs)(hob:H0.length=ob):
  ∀(q i k:Nat)(H1:aC)(us:List SV),hs.length-i=q->i<=hs.length->q<k->Ext H0 H1->OwS sC 25 H1 (.slice (some ⟨ob,0,none⟩) hs.length hs.length) ob us->us.length=hs.length->WR H1 (us.take i) ((hs.take i).map (oC p n hs))-> ∀(x0 x2 x5 x6 x7 x8 x9 bK bN bC aO aP aN bG bJ bL bH bE aT aU aV aW aX aY aZ:Value),
  ∃H' r,aI k (aK prog (lvl prog cF m) (aI m) L5) (L6 (lvl prog cF m) (aI m)) [x0,(.pointer (some ⟨a,0,none⟩)),x2,u,(.slice (some ⟨ob,0,none⟩) hs.length hs.length),x5,x6,x7,x8,x9,bK,bN,bC,aO,aP,u,(.int .i64 hs.length),(.int .i64 (i:Nat)),aN,bG,bJ,bL,bH,bE,aT,aU,aV,aW,aX,aY,aZ] H1=some (r,H')/\Ext H0 H'/\Rows H' r (hs.map (oC p n hs)):=by
 intro q;induction q with
 |zero=>
  intro i k H1 us hr hi hk2 he ho hul hwr;intros;obtain⟨k,rfl⟩:=aB k (by omega)
  obtain rfl:i=hs.length:=by omega
  have e:decide ((hs.length:Int)<(hs.length:Int))=false:=by simp
  rw[dY,W9];simp only[gsR,e];rw[aHE];rw[List.take_of_length_le (aOZ _),List.take_of_length_le (by omega)] at hwr
  refine⟨H1,.slice (some ⟨ob,0,none⟩) hs.length hs.length,rfl,he,hwr.L8 (.inr ⟨ob,0,hs.length,by rw[hul],by omega,λ_=>⟨25,.row,[],[],rfl,λ_=>rfl,?_⟩⟩)⟩
  rw[ho.blk];simp
 |succ q ih=>
  intro i k H1 us hr hi hk2 he ho hul hwr;intros;obtain⟨k,rfl⟩:=aB k (by omega)
  have e:decide ((i:Int)<(hs.length:Int))=true:=aPD (by omega)
  have e3:=aA (i:=i) (by omega)
  obtain⟨h,hh⟩: ∃h,hs[i]? =some h:=⟨_,aOW (by omega)⟩
  obtain⟨b,o,g1,_,g3⟩:=(hu.ext he).iG sZ hh .i64;have g4:ldN 2 (.pointer (some ⟨b,o,none⟩)) H1=some (edV h,H1):=(g3 H1 rfl).1;obtain⟨H2,hH2⟩: ∃H2,H2=H1++[hpB h]:=⟨_,rfl⟩;have x2:Ext H1 H2:=by rw[hH2];exact Fr.app _ _ _
  have b2:H2[H1.length]? =some (hpB h):=by rw[hH2];exact gZ _ _
  have st:stN 2 (.pointer (some ⟨H1.length,0,none⟩)) (edV h) (H1++[.cells [.int .i64 0,.int .i64 0] 67 .fix])=some (undef,H2):=by
   rw[mS 2 _ _ _ rfl,gZ,n9 _ _ _ _ _ _ (by decide) (by show 0+2<=2;omega) rfl,hH2]
   simp[eT,edV,edC,Value.cells,hpB]
  have l11:=kX (hZ hb0 (he.tr x2));have l2:=Xj b2;obtain⟨H3,r,g5,x3,g6,g7⟩:=aHR hk (hin h (aO4 hh)) (hp.ext (he.tr x2)) (hu.ext (he.tr x2)) hsl hnd (m:=m) (by omega) (by omega)
  have aO:Ext H1 H3:=x2.tr x3;have ho3:OwS sC 25 H3 (.slice (some ⟨ob,0,none⟩) hs.length hs.length) ob us:=⟨ho.val,by rw[aO.2 ob (aOU.mp ho.blk).1 id];exact ho.blk⟩
  have ga:=ho3.aDJ 1 i .i64 (by omega)
  obtain⟨s1,s2⟩:=ho3.st (sz:=1) K7 K6 (i:=i) (by omega) (qJ g6)
  have st2:stN 1 (.pointer (some ⟨ob,i*1,none⟩)) r H3=some (undef,H3.set ob (.cells ((us.set i (qJ g6)).map sC).flatten 25 .row)):=by
   have hcl:r.cells.toList=sC (qJ g6):=by
    have:=(qJ g6).2.2;show r.cells.toList=[r]
    rw[show r.cells= #[r] from this]
   rw[mS 1 _ _ _ (by rw[hcl];rfl),hcl]
   exact s1
  rw[dY,W9];simp only[gsR,e,g1,g4,st,l11,l2,g5,ga,st2,cC,e3];obtain⟨H4,hH4⟩: ∃H4,H4=H3.set ob (.cells ((us.set i (qJ g6)).map sC).flatten 25 .row):=⟨_,rfl⟩;rw[<-hH4] at s2⊢;have x04:Ext H0 H4:=by rw[hH4];exact s5 (he.tr aO) (by omega)
  have kp: ∀(b:Nat)(cs:List Value),H3[b]? =some (.cells cs 3 .row)->H4[b]? =H3[b]? :=λb cs hb=>by
   rw[hH4];refine aOV λhh=> ?_
   subst hh;rw[ho3.blk] at hb;simp at hb
  have w3:WR H3 (us.take i) ((hs.take i).map (oC p n hs)):=hwr.Bx λb cs hb=>by rw[aO.2 b (aOU.mp hb).1 id]
  have w4:=(w3.Xd (s:=qJ g6) g6).Bx kp;refine ih (i+1) k H4 (us.set i (qJ g6)) (by omega) (by omega) (by omega) x04 s2 (by simp[hul]) ?_ ..
  have e1:(us.set i (qJ g6)).take (i+1)=us.take i++[qJ g6]:=by
   rw[List.take_add_one,aO0 (by omega),List.take_set_of_le (aOZ _)]
   rfl
  have e2:(hs.take (i+1)).map (oC p n hs)=(hs.take i).map (oC p n hs)++[oC p n hs h]:=by
   rw[List.take_add_one,hh,List.map_append];rfl
  rw[e1,e2];exact w4
theorem aHN (hp:PV H p ev wv nv)(hm:17592186045200<m)(hm2:m<=72057594037927936):
  ∃H' r,lvl prog cF m (.func 77) [plV p ev wv nv] H=some (r,H')/\Ext H H'/\Rows H' r (mH p):=by
 obtain⟨H0,hH0⟩: ∃H0,H0=H++[plB p ev wv nv]:=⟨_,rfl⟩;have x0:Ext H H0:=by rw[hH0];exact Fr.app _ _ _
 have b0:H0[H.length]? =some (plB p ev wv nv):=by rw[hH0];exact gZ _ _
 have p0:=hp.ext x0;have l11:=kX b0;obtain⟨H1,g1,x1⟩:=Vu p0 (m:=m-1) (by omega) (by omega)
 have b1:=hZ b0 x1;have p1:=p0.ext x1;have l12:=kX b1;refine jJ (iH rfl rfl) (by omega) ?_
 rw[aHF];cases hc:kY p with
 |false=>
  rw[hc] at g1;have en:(wD false !=0)=true:=rfl;have e:mH p=[]:=by unfold mH;rw[if_neg (by simp[hc])]
  simp only[gsR,lS,<-hH0,l11,g1,en]
  exact⟨H1,_,rfl,x0.tr x1,by rw[e];exact⟨[],.inl ⟨rfl,rfl⟩,rfl,λi u xs h=>by simp at h⟩⟩
 |true=>
  rw[hc] at g1;have en:(wD true !=0)=false:=rfl;obtain⟨n,hk⟩:=Fg hc;have h15:=hk.e15;obtain⟨H2,u,g2,x2,q2,_⟩:=aGM p1 (m:=m-1) (by omega) (by omega)
  have hlen:=q2.zK;have hhl:=K2 p;have mk:=xN (H:=H2) 25 1 24 [.slice none 0 0] .i64 .i64 ((lT p).length:Int) (by omega) (by omega) (by omega) rfl
  simp only[aPm] at mk;have e:mH p=(lT p).map (oC p n (lT p)):=by unfold mH;rw[if_pos hc,hk.hn];rfl
  have hfl:(List.replicate (lT p).length [Value.slice none 0 0]).flatten=((List.replicate (lT p).length Ma).map sC).flatten:=by rw[List.map_replicate];rfl
  simp only[gsR,lS,<-hH0,l11,g1,en,l12,g2,hlen,mk];rw[e,hfl];have hx:Ext H2 (H2++[Blk.cells ((List.replicate (lT p).length Ma).map sC).flatten 25 .row]):=Fr.app _ _ _;exact Exists.imp (λH' h=>Exists.imp (λr h=>⟨h.1,((x0.tr x1).tr x2).tr h.2.1,h.2.2⟩) h) (aHO hk (λh hh=>aHT hk hh) (by omega) (Xg hk).1 (m:=m-1) (by omega) (by omega) (p1.ext x2) (hZ b1 x2) q2.rs rfl (lT p).length 0 (m-1) _ (List.replicate (lT p).length Ma) (by omega) (by omega) (by omega) hx ⟨by simp,gZ _ _⟩ (by simp) ⟨by simp,λj s xs h=>by simp at h⟩ ..)
end
end Go.Proofs.YtkeilicinggjmaaGreatDoor
namespace Go.Abs
def Eg (g:List (List Int))(i k:Nat):Prop:= ∃r,g[i]? =some r/\(k:Int)∈r
inductive Rch (g:List (List Int)):Nat->Nat->Prop
 |one {i k:Nat}:Eg g i k->Rch g i k
 |step {i j k:Nat}:Rch g i j->Eg g j k->Rch g i k
def Cyc (g:List (List Int)):Prop:= ∃i,Rch g i i
def Inn (g:List (List Int)):Prop:= ∀r∈g,∀z∈r,0<=z/\z<(g.length:Int)
def Dn (g:List (List Int))(C:List Int):Prop:= ∀u:Nat,C[u]? =some 2->(∀k:Nat,Eg g u k->C[k]? =some 2)/\ ¬Rch g u u
theorem Dn.aH1 {g:List (List Int)}{D:List Int}(h:Dn g D){i:Nat}{r:List Int}(hi:D[i]? =some 1)(hr:g[i]? =some r)(hall: ∀k:Nat,(k:Int)∈r->D[k]? =some 2):Dn g (D.set i 2):=by
 have hl:=(aOU.mp hi).1;have up: ∀k:Nat,D[k]? =some 2->(D.set i 2)[k]? =some 2:=λk hk=>by
  rw[List.getElem?_set];split
  ·rename_i h
   subst h;simp[hl]
  ·exact hk
 intro u hu;by_cases hui:u=i
 ·subst hui
  refine⟨λk ⟨r',h1,h2⟩=> ?_,λhc=> ?_⟩
  ·rw[hr] at h1
   cases h1;exact up k (hall k h2)
  ·have key: ∀k:Nat,Rch g u k->D[k]? =some 2:=by
    intro k hk;induction hk with
    |one e=>
     obtain⟨r',h1,h2⟩:=e;rw[hr] at h1;cases h1;exact hall _ h2
    |step _ e ih=>exact(h _ ih).1 _ e
   have:=key u hc;rw[hi] at this;cases this
 ·rw[aOV (Ne.symm hui)] at hu
  exact⟨λk hk=>up k ((h u hu).1 k hk),(h u hu).2⟩
def B0 (s r:List Int):List Int:=r.foldl (λs k=>s.set k.toNat 1) s
def nR (g:List (List Int))(a:Nat)(s:List Int)(i:Nat):List Int:=if i≠a/\s.getD i 0=0 then s else B0 s (g.getD i [])
def s9 (g:List (List Int))(a:Nat)(s:List Int):List Int:=(List.range g.length).foldl (nR g a) s
def kO (g:List (List Int))(a:Nat):Nat->List Int
 |0=>List.replicate g.length 0
 |n+1=>s9 g a (kO g a n)
def s6 (g:List (List Int)):Bool:=(List.range g.length).any λi=>(kO g i g.length).getD i 0==1
def Le (s s':List Int):Prop:=s.length=s'.length/\ ∀k:Nat,s[k]? =some 1->s'[k]? =some 1
def Bin (s:List Int):Prop:= ∀x∈s,x=0∨x=1
theorem Le.Mb (s:List Int):Le s s:=⟨rfl,λ_ h=>h⟩
theorem Le.Xl {a b c:List Int}(h:Le a b)(h':Le b c):Le a c:=⟨h.1.trans h'.1,λk hk=>h'.2 k (h.2 k hk)⟩
theorem aH6 (s:List Int)(k:Nat):Le s (s.set k 1):=⟨by simp,λj hj=>by
 rw[List.getElem?_set];split
 ·rename_i h
  subst h;simp[(aOU.mp hj).1]
 ·exact hj⟩
theorem Bin.aH0 {s:List Int}(h:Bin s)(k:Nat):Bin (s.set k 1):=λx hx=>by
 rcases List.mem_or_eq_of_mem_set hx with h1|h1
 ·exact h x h1
 ·exact .inr h1
theorem Mc: ∀(r s:List Int),Le s (B0 s r)
 |[],s=>Le.Mb s
 |k::r,s=>(aH6 s k.toNat).Xl (Mc r (s.set k.toNat 1))
theorem Xp: ∀(r s:List Int),Bin s->Bin (B0 s r)
 |[],s,h=>h
 |k::r,s,h=>Xp r _ (h.aH0 _)
theorem Xq: ∀(r s:List Int)(k:Nat),(k:Int)∈r->k<s.length->(B0 s r)[k]? =some 1
 |[],s,k,h,_=>by cases h
 |z::r,s,k,h,hk=>by
  rcases aPd.mp h with h|h
  ·subst h
   refine(Mc r (s.set (k:Int).toNat 1)).2 k ?_;simp[hk]
  ·exact Xq r _ k h (by simpa using hk)
theorem Md: ∀(r s:List Int)(k:Nat),(∀z∈r,0<=z)->(B0 s r)[k]? =some 1->s[k]? =some 1∨(k:Int)∈r
 |[],s,k,_,h=> .inl h
 |z::r,s,k,hz,h=>by
  rcases Md r _ k (λy hy=>hz y (by simp[hy])) h with h1|h1
  ·rw[List.getElem?_set] at h1
   split at h1
   ·rename_i hh
    have:=hz z (by simp)
    exact .inr (by rw[aPd];left;omega)
   ·exact .inl h1
  ·exact .inr (by simp[h1])
theorem Fl (g:List (List Int))(a:Nat)(s:List Int)(i:Nat):Le s (nR g a s i):=by
 unfold nR;split
 ·exact Le.Mb s
 ·exact Mc _ _
theorem Mf (g:List (List Int))(a:Nat): ∀(l:List Nat)(s:List Int),Le s (l.foldl (nR g a) s)
 |[],s=>Le.Mb s
 |i::l,s=>(Fl g a s i).Xl (Mf g a l _)
theorem B2 (g:List (List Int))(a:Nat): ∀(l:List Nat)(s:List Int),Bin s->Bin (l.foldl (nR g a) s)
 |[],s,h=>h
 |i::l,s,h=>B2 g a l _ (by
  unfold nR;split
  ·exact h
  ·exact Xp _ _ h)
theorem Me (g:List (List Int))(a:Nat)(s:List Int):Le s (s9 g a s):=Mf g a _ s
theorem Xu (g:List (List Int))(a:Nat)(s:List Int)(h:Bin s):Bin (s9 g a s):=B2 g a _ s h
def Bz (g:List (List Int))(a:Nat)(s:List Int):Prop:= ∀k:Nat,s[k]? =some 1->Rch g a k
theorem Xm {s:List Int}(h:Bin s){i:Nat}(hi: ¬s.getD i 0=0):s[i]? =some 1:=by
 rw[aOY] at hi;cases hs:s[i]? with
 |none=>rw[hs] at hi;simp at hi
 |some x=>
  rw[hs] at hi;simp at hi;rcases h x (aO4 hs) with h|h
  ·exact absurd h hi
  ·rw[h]
theorem aH7 {g:List (List Int)}{a:Nat}{s:List Int}{i:Nat}(hg:Inn g)(hb:Bin s)(h:Bz g a s):Bz g a (nR g a s i):=by
 unfold nR;split
 ·exact h
 ·rename_i hc
  intro k hk;have hz: ∀z∈g.getD i [],0<=z:=λz hz=>by
   rw[aOY] at hz;cases hg':g[i]? with
   |none=>rw[hg'] at hz;simp at hz
   |some r=>rw[hg'] at hz;exact(hg r (aO4 hg') z hz).1
  rcases Md _ _ k hz hk with h1|h1
  ·exact h k h1
  ·rw[aOY] at h1
   cases hg':g[i]? with
   |none=>rw[hg'] at h1;simp at h1
   |some r=>
    rw[hg'] at h1;have e:Eg g i k:=⟨r,hg',h1⟩;by_cases hia:i=a
    ·rw[<-hia];exact .one e
    ·have: ¬s.getD i 0=0:=λhh=>hc ⟨hia,hh⟩
     exact .step (h i (Xm hb this)) e
theorem Xv {g:List (List Int)}{a:Nat}(hg:Inn g): ∀(l:List Nat)(s:List Int),Bin s->Bz g a s->Bz g a (l.foldl (nR g a) s)
 |[],s,_,h=>h
 |i::l,s,hb,h=>Xv hg l _ (B2 g a [i] s hb) (aH7 hg hb h)
def pR (s:List Int):Nat:=s.countP (· ==1)
theorem B1: ∀(s s':List Int),Le s s'->pR s<=pR s'
 |[],[],_=>aOZ _
 |[],_::_,h=>absurd h.1 (by simp)
 |_::_,[],h=>absurd h.1 (by simp)
 |x::s,y::s',h=>by
  have ih:=B1 s s' ⟨by simpa using h.1,λk hk=>by have:=h.2 (k+1) (by simpa using hk);simpa using this⟩
  have h0:=h.2 0;simp only[List.getElem?_cons_zero,aPl] at h0;unfold pR at*;simp only[List.countP_cons];by_cases hx:x=1
  ·rw[hx,h0 hx];simp;exact ih
  ·have:(x==1)=false:=by simp[hx]
   rw[this];simp only[Bool.false_eq_true,if_false];omega
theorem Fj: ∀(s s':List Int),Le s s'->Bin s->Bin s'->pR s'<=pR s->s=s'
 |[],[],_,_,_,_=>rfl
 |[],_::_,h,_,_,_=>absurd h.1 (by simp)
 |_::_,[],h,_,_,_=>absurd h.1 (by simp)
 |x::s,y::s',h,hb,hb',hc=>by
  have hle:Le s s':=⟨by simpa using h.1,λk hk=>by have:=h.2 (k+1) (by simpa using hk);simpa using this⟩
  have h1:=B1 s s' hle;have h0:=h.2 0;simp only[List.getElem?_cons_zero,aPl] at h0;have bx:=hb x (by simp)
  have by':=hb' y (by simp)
  unfold pR at*;simp only[List.countP_cons] at hc;have e:x=y:=by
   rcases bx with bx|bx
   ·rcases by' with by'|by'
    ·rw[bx,by']
    ·rw[bx,by'] at hc
     simp at hc;omega
   ·rw[bx,h0 bx]
  subst e;rw[Fj s s' hle (λz hz=>hb z (by simp[hz])) (λz hz=>hb' z (by simp[hz])) (by unfold pR;omega)]
theorem aH5 (s:List Int):pR s<=s.length:=List.countP_le_length
theorem aH4 (s:List Int)(h:pR s=s.length): ∀k:Nat,k<s.length->s[k]? =some 1:=by
 intro k hk;have:=(List.countP_eq_length.mp h) s[k] (List.getElem_mem hk);rw[aOW hk];simpa using this
def Clo (g:List (List Int))(a:Nat)(s:List Int):Prop:= ∀i k:Nat,(i=a∨s[i]? =some 1)->Eg g i k->s[k]? =some 1
theorem Xo {g:List (List Int)}{a:Nat}: ∀(l:List Nat)(s:List Int),Bin s->l.foldl (nR g a) s=s-> ∀i∈l,nR g a s i=s
 |[],s,_,_,i,h=>by cases h
 |j::l,s,hb,h,i,hi=>by
  have h1:Le s (nR g a s j):=Fl g a s j;have h2:Le (nR g a s j) s:=by
   have:=Mf g a l (nR g a s j);rw[List.foldl_cons] at h;rw[h] at this;exact this
  have e:nR g a s j=s:=(Fj _ _ h1 hb (B2 g a [j] s hb) (B1 _ _ h2)).symm;rcases aPd.mp hi with rfl|hi
  ·exact e
  ·rw[List.foldl_cons,e] at h
   exact Xo l s hb h i hi
theorem aH2 {g:List (List Int)}{a:Nat}{s:List Int}(hg:Inn g)(hl:s.length=g.length)(hb:Bin s)(h:s9 g a s=s):Clo g a s:=by
 rintro i k hi ⟨r,hr,hk⟩
 have hil:=(aOU.mp hr).1;have:=Xo _ s hb h i (aPy.mpr hil);unfold nR at this;have hc: ¬(i≠a/\s.getD i 0=0):=by
  rintro ⟨h1,h2⟩
  rcases hi with hi|hi
  ·exact h1 hi
  ·rw[aOY,hi] at h2
   simp at h2
 rw[if_neg hc] at this;have hkl:=(hg r (aO4 hr) k hk).2;have h1:=Xq (g.getD i []) s k (by rw[aOY,hr];exact hk) (by omega)
 rw[this] at h1;exact h1
theorem aH3 {g:List (List Int)}{a:Nat}{s:List Int}(hg:Inn g)(hl:s.length=g.length)(h:pR s=s.length):Clo g a s:=by
 rintro i k _ ⟨r,hr,hk⟩
 have hkl:=(hg r (aO4 hr) k hk).2;exact aH4 s h k (by omega)
theorem Fk (g:List (List Int))(a:Nat): ∀n,(kO g a n).length=g.length
 |0=>by simp[kO]
 |n+1=>by
  have:=(Me g a (kO g a n)).1;rw[Fk g a n] at this;exact this.symm
theorem wI (g:List (List Int))(a:Nat): ∀n,Bin (kO g a n)
 |0=>λx hx=> .inl (by simp[kO] at hx;exact hx.2)
 |n+1=>Xu g a _ (wI g a n)
theorem Xt {g:List (List Int)}(a:Nat)(hg:Inn g): ∀n,Bz g a (kO g a n)
 |0=>λk hk=>by
  simp only[kO,aPA] at hk
  split at hk<;>simp at hk
 |n+1=>Xv hg _ _ (wI g a n) (Xt a hg n)
theorem Xr {g:List (List Int)}(a:Nat)(hg:Inn g): ∀n,Clo g a (kO g a n)∨n<=pR (kO g a n)
 |0=> .inr (Nat.zero_le _)
 |n+1=>by
  rcases Xr a hg n with h|h
  ·left
   have e: ∀l:List Nat,l.foldl (nR g a) (kO g a n)=kO g a n:=by
    intro l;induction l with
    |nil=>rfl
    |cons i l ih=>
     rw[List.foldl_cons];have:nR g a (kO g a n) i=kO g a n:=by
      refine(Fj _ _ (Fl g a _ i) (wI g a n) (B2 g a [i] _ (wI g a n)) ?_).symm;refine B1 _ _ ⟨(Fl g a _ i).1.symm,λk hk=> ?_⟩
      unfold nR at hk
      split at hk
      ·exact hk
      ·rename_i hc
       have hz: ∀z∈g.getD i [],0<=z:=λz hz=>by
        rw[aOY] at hz;cases hg':g[i]? with
        |none=>rw[hg'] at hz;simp at hz
        |some r=>rw[hg'] at hz;exact(hg r (aO4 hg') z hz).1
       rcases Md _ _ k hz hk with h1|h1
       ·exact h1
       ·rw[aOY] at h1
        cases hg':g[i]? with
        |none=>rw[hg'] at h1;simp at h1
        |some r=>
         rw[hg'] at h1;refine h i k ?_ ⟨r,hg',h1⟩;by_cases hia:i=a
         ·exact .inl hia
         ·exact .inr (Xm (wI g a n) λhh=>hc ⟨hia,hh⟩)
     rw[this];exact ih
   show Clo g a (s9 g a (kO g a n))
   unfold s9;rw[e];exact h
  ·by_cases hx:s9 g a (kO g a n)=kO g a n
   ·left
    show Clo g a (s9 g a (kO g a n))
    rw[hx];exact aH2 hg (Fk g a n) (wI g a n) hx
   ·right
    show n+1<=pR (s9 g a (kO g a n))
    have h1:=B1 _ _ (Me g a (kO g a n));by_cases h2:pR (s9 g a (kO g a n))<=pR (kO g a n)
    ·exact absurd (Fj _ _ (Me g a _) (wI g a n) (Xu g a _ (wI g a n)) h2).symm hx
    ·omega
theorem Xs {g:List (List Int)}(hg:Inn g)(a k:Nat):(kO g a g.length)[k]? =some 1↔Rch g a k:=by
 constructor
 ·exact Xt a hg g.length k
 ·have hc:Clo g a (kO g a g.length):=by
   rcases Xr a hg g.length with h|h
   ·exact h
   ·refine aH3 hg (Fk g a _) ?_
    have:=aH5 (kO g a g.length);rw[Fk] at*;omega
  intro hr;induction hr with
  |one e=>exact hc _ _ (.inl rfl) e
  |step _ e ih=>exact hc _ _ (.inr ih) e
theorem Xn {g:List (List Int)}(hg:Inn g):s6 g=true↔Cyc g:=by
 unfold s6;rw[List.any_eq_true];constructor
 ·rintro ⟨i,hi,h⟩
  refine⟨i,(Xs hg i i).mp ?_⟩;rw[aOY] at h;cases hh:(kO g i g.length)[i]? with
  |none=>rw[hh] at h;simp at h
  |some x=>rw[hh] at h;simp at h;rw[h]
 ·rintro ⟨i,h⟩
  have hil:i<g.length:=by
   cases h with
   |one e=>obtain⟨r,h1,_⟩:=e;exact(aOU.mp h1).1
   |step h1 e=>
    obtain⟨r,h2,h3⟩:=e;have:=(hg r (aO4 h2) i h3).2;omega
  refine⟨i,aPy.mpr hil,?_⟩;rw[aOY,(Xs hg i i).mpr h];rfl
end Go.Abs
namespace Go.Proofs.YtkeilicinggjmaaGreatDoor
open Go.Proofs.Tryz
open Go.Abs
section
variable {H : aC} {m : Nat} {p : PlanD} {ev wv nv : Value}
theorem aH8 (p:PlanD):Inn (mH p):=by
 unfold mH;split
 ·intro r hr z hz
  obtain⟨h,hh,rfl⟩:=aPx.mp hr;rw[aO8];obtain⟨k,b,rfl,h1,_⟩:=Xk.mp hz;have:=(aOU.mp h1).1;omega
 ·intro r hr;cases hr
theorem aH9 (p:PlanD):(mH p).length<=36:=by
 unfold mH;split
 ·rw[aO8];exact K2 p
 ·simp
theorem aIa (p:PlanD): ∀r∈mH p,r.length<=36:=by
 unfold mH;split
 ·intro r hr
  obtain⟨h,hh,rfl⟩:=aPx.mp hr;unfold oC;rw[aO8];have:=K2 p;exact aPa (List.length_filter_le _ _) (by rw[aPo];exact this)
 ·intro r hr;cases hr
end
section
variable {H : aC} {m : Nat} {p : PlanD} {ev wv nv : Value}
def atV (ab n:Nat):Value:= .slice (some ⟨ab,0,none⟩) n n
def mkB (ab n:Nat)(wv:Value):Blk:= .cells [atV ab n,wv] 163 .fix
theorem B3 {mb ab n:Nat}(h:H[mb]? =some (mkB ab n wv)):ld1 (.pointer (some ⟨mb,0,none⟩)) H=some (atV ab n,H):=A5 h rfl
theorem aIh {mb ab n:Nat}(h:H[mb]? =some (mkB ab n wv)):ld1 (.pointer (some ⟨mb,1,none⟩)) H=some (wv,H):=A5 h rfl
theorem Fm {ab n k:Nat}(h:k<n):aR 1 (atV ab n) (.int .i64 (k:Nat))=some (.pointer (some ⟨ab,k,none⟩)):=by
 have:=ia (c:=ab) (o:=0) (cap:=n) h;rw[aPf] at this;exact this
def Col (C:List Int):Prop:= ∀x∈C,x=0∨x=1∨x=2
theorem Col.aIf {C:List Int}(h:Col C)(i:Nat){y:Int}(hy:y=0∨y=1∨y=2):Col (C.set i y):=λx hx=>by
 rcases List.mem_or_eq_of_mem_set hx with h1|h1
 ·exact h x h1
 ·rw[h1];exact hy
structure Srch (g:List (List Int))(Hw:aC)(mb ab:Nat)(wv:Value)(H:aC)(C:List Int):Prop where
 ext:Ext Hw H
 mrk:H[mb]? =some (mkB ab g.length wv)
 row:H[ab]? =some (oX C [])
 len:C.length=g.length
 col:Col C
theorem Srch.st {g:List (List Int)}{Hw:aC}{mb ab:Nat}{C:List Int}(h:Srch g Hw mb ab wv H C)(hne:mb≠ab)(hab:Hw.length<=ab){i:Nat}(hi:i<g.length)(y:Int)(hy:y=0∨y=1∨y=2):
  ∃H',stN 1 (.pointer (some ⟨ab,i,none⟩)) (.int .i64 y) H=some (undef,H')/\Srch g Hw mb ab wv H' (C.set i y):=
 ⟨_,V2 y h.row (by have:=h.len;omega),s5 h.ext hab,by rw[aOV (Ne.symm hne)];exact h.mrk,aO0 (aOU.mp h.row).1,by simp[h.len],h.col.aIf i hy⟩
structure Dne (g:List (List Int))(C C':List Int)(i:Nat):Prop where
 i2:C'[i]? =some 2
 dn:Dn g C'
 gr: ∀u:Nat,C'[u]? =some 1↔C[u]? =some 1
 bl: ∀u:Nat,C[u]? =some 2->C'[u]? =some 2
def Mg (g:List (List Int))(Hw:aC)(mb ab:Nat)(wv:Value)(m q:Nat):Prop:=
 ∀(H:aC)(C:List Int)(i:Nat),Srch g Hw mb ab wv H C->C[i]? =some 0->Dn g C->(∀u:Nat,C[u]? =some 1->Rch g u i)->(∃L:List Nat,L.length=q/\ ∀u:Nat,C[u]? =some 0->u∈L)->
  ∃H' b C',lvl prog cF m (.func 78) [.pointer (some ⟨mb,0,none⟩),.int .i64 (i:Nat)] H=some (.bool b,H')/\Srch g Hw mb ab wv H' C'/\(b=true->Cyc g)/\(b=false->Dne g C C' i)
theorem aIj {g:List (List Int)}{Hw:aC}{mb ab:Nat}{q':Nat}(hrd:Mg g Hw mb ab wv m q')(hinn:Inn g)(hne:mb≠ab)(hab:Hw.length<=ab){C:List Int}{i:Nat}{r:List Int}{rv:Value}(hr:g[i]? =some r)(hrl:r.length<=100)(hrv:Is Hw rv r)(hgr: ∀u:Nat,C[u]? =some 1->Rch g u i)(hci:C[i]? =some 0){L:List Nat}(hL:L.length=q'):
  ∀(q j k:Nat)(H:aC)(D:List Int),r.length-j=q->j<=r.length->q<k->Srch g Hw mb ab wv H D->D[i]? =some 1->Dn g D->(∀u:Nat,D[u]? =some 1↔(u=i∨C[u]? =some 1))->(∀u:Nat,C[u]? =some 2->D[u]? =some 2)->(∀z∈r.take j,D[z.toNat]? =some 2)->(∀u:Nat,D[u]? =some 0->u∈L)-> ∀(x2 x3 x4 x5 x6 x7 x8 x9 bK bN bC aO aP aM aS bI aN bH bE aT aU aV aW aX aY aZ bA bB bO bP bQ bR bS bT bU bV bX bY cD cG cH cK cQ cS cT cM cN cO cP:Value),
  ∃H' b C',aI k (aK prog (lvl prog cF m) (aI m) Ff) (Bw (lvl prog cF m) (aI m)) [(.pointer (some ⟨mb,0,none⟩)),(.int .i64 (i:Nat)),x2,x3,x4,x5,x6,x7,x8,x9,bK,bN,bC,aO,aP,aM,aS,bI,aN,rv,(.int .i64 r.length),(.int .i64 (j:Nat)),bH,bE,aT,aU,aV,aW,aX,aY,aZ,bA,bB,bO,bP,bQ,bR,bS,bT,bU,bV,bX,bY,cD,cG,cH,cK,cQ,cS,cT,cM,cN,cO,cP] H=some (.bool b,H')/\Srch g Hw mb ab wv H' C'/\(b=true->Cyc g)/\(b=false->Dne g C C' i):=by
 intro q;have hil:=(aOU.mp hr).1;induction q with
 |zero=>
  intro j k H D hq hj hk hs hi1 hdn hgray hbl htake hwh;intros;obtain⟨k,rfl⟩:=aB k (by omega)
  obtain rfl:r.length=j:=by omega
  have e:decide ((r.length:Int)<(r.length:Int))=false:=by simp
  rw[List.take_of_length_le (aOZ _)] at htake;have l0:=B3 hs.mrk;have a0:=Fm (ab:=ab) hil;obtain⟨H',st,hs'⟩:=hs.st hne hab hil 2 (.inr (.inr rfl));have fin:=hdn.aH1 hi1 hr (λk hk=>by have:=htake k hk;simpa using this)
  refine⟨H',false,D.set i 2,?_,hs',λh=>(by cases h),λ_=>⟨?_,fin,λu=> ?_,λu hu=> ?_⟩⟩
  ·rw[dY,Xa]
   simp only[gsR,e];rw[aHG];simp only[gsR,l0,a0,st]
  ·exact aO0 (by have:=hs.len;omega)
  ·by_cases hui:u=i
   ·subst hui
    rw[aO0 (by have:=hs.len;omega),hci]
    simp
   ·rw[aOV (Ne.symm hui),hgray u]
    simp[hui]
  ·have:=hbl u hu
   by_cases hui:u=i
   ·subst hui
    rw[hi1] at this;cases this
   ·rw[aOV (Ne.symm hui)]
    exact this
 |succ q ih=>
  intro j k H D hq hj hk hs hi1 hdn hgray hbl htake hwh;intros;obtain⟨k,rfl⟩:=aB k (by omega)
  have e:decide ((j:Int)<(r.length:Int))=true:=aPD (by omega)
  have e3:=aA (i:=j) (by omega)
  obtain⟨z,hz⟩: ∃z,r[j]? =some z:=⟨_,aOW (by omega)⟩
  have hzin:=hinn r (aO4 hr) z (aO4 hz);obtain⟨b,o,g1,_,g3⟩:=(hrv.ext hs.ext).iG jK hz .i64;have g4:ld1 (.pointer (some ⟨b,o,none⟩)) H=some (.int .i64 z,H):=(g3 H rfl).2.1 0 _ rfl;obtain⟨t,rfl⟩: ∃t:Nat,z=t:=⟨z.toNat,by omega⟩
  have htl:t<g.length:=by omega
  have edge:Eg g i t:=⟨r,hr,aO4 hz⟩;have l0:=B3 hs.mrk;have a0:=Fm (ab:=ab) htl;obtain⟨x,hx⟩: ∃x,D[t]? =some x:=⟨_,aOW (by have:=hs.len;omega)⟩
  have lx:=zO hs.row hx;have grs: ∀u:Nat,D[u]? =some 1->Rch g u t:=λu hu=>by
   rcases(hgray u).mp hu with h|h
   ·rw[h];exact .one edge
   ·exact .step (hgr u h) edge
  have htk:r.take (j+1)=r.take j++[(t:Int)]:=by rw[List.take_add_one,hz];rfl
  have next: ∀(H2:aC)(D2:List Int),Srch g Hw mb ab wv H2 D2->D2[i]? =some 1->Dn g D2->(∀u:Nat,D2[u]? =some 1↔(u=i∨C[u]? =some 1))->(∀u:Nat,C[u]? =some 2->D2[u]? =some 2)->(∀z∈r.take j,D2[z.toNat]? =some 2)->D2[t]? =some 2->(∀u:Nat,D2[u]? =some 0->u∈L)-> ∀(x2 x3 x4 x5 x6 x7 x8 x9 bK bN bC aO aP aM aS bI aN bH bE aT aU aV aW aX aY aZ bA bB bO bP bQ bR bS bT bU bV bX bY cD cG cH cK cQ cS cT cM cN cO cP:Value),
    ∃H' b C',aI k (aK prog (lvl prog cF m) (aI m) Ff) (Bw (lvl prog cF m) (aI m)) [(.pointer (some ⟨mb,0,none⟩)),(.int .i64 (i:Nat)),x2,x3,x4,x5,x6,x7,x8,x9,bK,bN,bC,aO,aP,aM,aS,bI,aN,rv,(.int .i64 r.length),(.int .i64 (j+1:Nat)),bH,bE,aT,aU,aV,aW,aX,aY,aZ,bA,bB,bO,bP,bQ,bR,bS,bT,bU,bV,bX,bY,cD,cG,cH,cK,cQ,cS,cT,cM,cN,cO,cP] H2=some (.bool b,H')/\Srch g Hw mb ab wv H' C'/\(b=true->Cyc g)/\(b=false->Dne g C C' i):=by
   intro H2 D2 h1 h2 h3 h4 h5 h6 h7 h8;refine ih (j+1) k H2 D2 (by omega) (by omega) (by omega) h1 h2 h3 h4 h5 (λz hz=> ?_) h8
   rw[htk,List.mem_append] at hz;rcases hz with hz|hz
   ·exact h6 z hz
   ·have:z=(t:Int):=by simpa using hz
    rw[this];simpa using h7
  rw[dY,Xa];rcases hs.col x (aO4 hx) with rfl|rfl|rfl
  ·have d1:((0:Int)==1)=false:=rfl
   have d2:((0:Int)==2)=false:=rfl;obtain⟨H2,bb,D2,c1,hs2,hcyc,hdne⟩:=hrd H D t hs hx hdn grs ⟨L,hL,hwh⟩;cases bb with
   |true=>
    refine⟨H2,true,D2,?_,hs2,λ_=>hcyc rfl,λh=>(by cases h)⟩
    simp only[gsR,e,g1,g4,l0,a0,lx,d1,d2,c1];rw[Xb];rfl
   |false=>
    have hd:=hdne rfl;simp only[gsR,e,g1,g4,l0,a0,lx,d1,d2,c1,cC,e3];refine next H2 D2 hs2 ((hd.gr i).mpr hi1) hd.dn (λu=>by rw[hd.gr u];exact hgray u) (λu hu=>hd.bl u (hbl u hu)) (λz hz=>hd.bl _ (htake z hz)) hd.i2 (λu hu=>hwh u ?_) ..
    have hul:u<g.length:=by have:=(aOU.mp hu).1;have:=hs2.len;omega
    obtain⟨y,hy⟩: ∃y,D[u]? =some y:=⟨_,aOW (by have:=hs.len;omega)⟩
    rcases hs.col y (aO4 hy) with rfl|rfl|rfl
    ·exact hy
    ·have:=(hd.gr u).mpr hy
     rw[hu] at this;cases this
    ·have:=hd.bl u hy
     rw[hu] at this;cases this
  ·have d1:((1:Int)==1)=true:=rfl
   refine⟨H,true,D,?_,hs,λ_=>⟨t,grs t hx⟩,λh=>(by cases h)⟩
   simp only[gsR,e,g1,g4,l0,a0,lx,d1];rw[Xb];rfl
  ·have d1:((2:Int)==1)=false:=rfl
   have d2:((2:Int)==2)=true:=rfl;simp only[gsR,e,g1,g4,l0,a0,lx,d1,d2,cC,e3];exact next H D hs hi1 hdn hgray hbl htake hx hwh ..
theorem aIi {g:List (List Int)}{Hw:aC}{mb ab:Nat}(hg:Rows Hw wv g)(hinn:Inn g)(hrl: ∀r∈g,r.length<=100)(hne:mb≠ab)(hab:Hw.length<=ab): ∀(q m:Nat),200+q<m->Mg g Hw mb ab wv m q:=by
 intro q;induction q with
 |zero=>
  intro m hm H C i hs hi hdn hgr ⟨L,hL,hw⟩;have:=hw i hi;rw[aPc.mp hL] at this;cases this
 |succ q ih=>
  intro m hm H C i hs hi hdn hgr ⟨L,hL,hw⟩;have hil:i<g.length:=by have:=(aOU.mp hi).1;have:=hs.len;omega
  have l0:=B3 hs.mrk;have a0:=Fm (ab:=ab) hil;obtain⟨H1,st,hs1⟩:=hs.st hne hab hil 1 (.inr (.inl rfl));have l1:=aIh hs1.mrk;obtain⟨r,hr⟩: ∃r,g[i]? =some r:=⟨_,aOW hil⟩;obtain⟨a1,rv,g1,g2,g3⟩:=hg.Em hr .i64;have g2':=aHf hs1.ext g2;have hlen:=g3.gO;have hr100:=hrl r (aO4 hr);have hcl:C.length=g.length:=hs.len;have other: ∀u:Nat,u≠i->(C.set i 1)[u]? =C[u]? :=λu hu=>aOV (Ne.symm hu)
  have self:(C.set i 1)[i]? =some 1:=aO0 (by omega)
  obtain⟨m,rfl⟩:=aB m (by omega)
  rw[Sg (iH rfl rfl),aHH];simp only[gsR,l0,a0,st,l1,g1,g2',hlen];have hiL:=hw i hi;refine aIj (ih m (by omega)) hinn hne hab hr hr100 g3 hgr hi (L:=L.erase i) (by rw[List.length_erase_of_mem hiL];omega) r.length 0 m H1 (C.set i 1) (by omega) (by omega) (by omega) hs1 self ?_ (λu=> ?_) (λu hu=> ?_) (λz hz=>by simp at hz) (λu hu=> ?_) ..
  ·intro u hu
   have hui:u≠i:=λhh=>by rw[hh,self] at hu;cases hu
   rw[other u hui] at hu;refine⟨λk hk=> ?_,(hdn u hu).2⟩
   have:=(hdn u hu).1 k hk;have hki:k≠i:=λhh=>by rw[hh,hi] at this;cases this
   rw[other k hki];exact this
  ·by_cases hui:u=i
   ·rw[hui,self];simp
   ·rw[other u hui];simp[hui]
  ·have hui:u≠i:=λhh=>by rw[hh,hi] at hu;cases hu
   rw[other u hui];exact hu
  ·have hui:u≠i:=λhh=>by rw[hh,self] at hu;cases hu
   rw[other u hui] at hu
   exact(List.mem_erase_of_ne hui).mpr (hw u hu)
def tA (p:PlanD)(n:Nat):Bool:=(List.range n).all λv=>(List.range n).all λw=>(pE p v w).isSome
def Mh (p:PlanD):Bool:=kY p&&(tA p p.nodes.toNat&& !s6 (mH p))
def mI (p:PlanD):Int:=if kY p=true then(if Mh p=true then 0 else 140) else 120
theorem aIe {g:List (List Int)}{Hw:aC}{mb ab:Nat}(hrd:Mg g Hw mb ab wv m g.length)(hgl:g.length<=100)(hinn:Inn g):
  ∀(q i k:Nat)(H:aC)(C:List Int),g.length-i=q->i<=g.length->q<k->Srch g Hw mb ab wv H C->Dn g C->(∀u:Nat,C[u]? ≠some 1)->(∀u:Nat,u<i->C[u]? =some 2)-> ∀(x0 x1 x2 x3 x4 x5 x6 x7 x9 bK bN bC aO aP aM aS bI aN bG bJ bL bH bE aT aU aV aW aX aY aZ bA bB bO bP bQ bR bS bT bU bV bX bY cD cG cH cK cQ cS cT cM cN cO cU cV cY dA dC dB dD dN dO dR dS dT dU dV dW dX:Value),
  ∃H',aI k (aK prog (lvl prog cF m) (aI m) Lv) (E9 (lvl prog cF m) (aI m)) [x0,x1,x2,x3,x4,x5,x6,x7,(.pointer (some ⟨mb,0,none⟩)),x9,bK,bN,bC,aO,aP,aM,aS,bI,aN,bG,bJ,bL,bH,bE,aT,aU,aV,aW,aX,aY,aZ,bA,bB,bO,bP,bQ,bR,bS,bT,bU,bV,bX,bY,cD,cG,cH,cK,cQ,cS,cT,cM,cN,cO,(.int .i64 g.length),(.int .i64 (i:Nat)),cU,cV,cY,dA,dC,dB,dD,dN,dO,dR,dS,dT,dU,dV,dW,dX] H=some (.int .u16 (if s6 g=true then 140 else 0),H')/\Ext Hw H':=by
 intro q;induction q with
 |zero=>
  intro i k H C hq hi hk hs hdn hgr hbl;intros;obtain⟨k,rfl⟩:=aB k (by omega)
  obtain rfl:g.length=i:=by omega
  have e:decide ((g.length:Int)<(g.length:Int))=false:=by simp
  have hno: ¬s6 g=true:=by
   rw[Xn hinn];rintro ⟨i,hc⟩
   have hil:i<g.length:=by
    cases hc with
    |one e=>obtain⟨r,h1,_⟩:=e;exact(aOU.mp h1).1
    |step h1 e=>
     obtain⟨r,h2,h3⟩:=e;have:=(hinn r (aO4 h2) i h3).2;omega
   exact(hdn i (hbl i hil)).2 hc
  rw[if_neg hno,dY,W4];simp only[gsR,e];rw[aHr]
  exact⟨H,rfl,hs.ext⟩
 |succ q ih=>
  intro i k H C hq hi hk hs hdn hgr hbl;intros;obtain⟨k,rfl⟩:=aB k (by omega)
  have hil:i<g.length:=by omega
  have e:decide ((i:Int)<(g.length:Int))=true:=aPD (by omega)
  have e3:=aA (i:=i) (by omega)
  have l0:=B3 hs.mrk;have a0:=Fm (ab:=ab) hil;obtain⟨x,hx⟩: ∃x,C[i]? =some x:=⟨_,aOW (by have:=hs.len;omega)⟩
  have lx:=zO hs.row hx;rw[dY,W4];rcases hs.col x (aO4 hx) with rfl|rfl|rfl
  ·have d1:((0:Int)==0)=true:=rfl
   obtain⟨H2,bb,D2,c1,hs2,hcyc,hdne⟩:=hrd H C i hs hx hdn (λu hu=>absurd hu (hgr u)) ⟨List.range g.length,by simp,λu hu=>aPy.mpr (by have:=(aOU.mp hu).1;have:=hs.len;omega)⟩
   cases bb with
   |true=>
    have hyes:s6 g=true:=(Xn hinn).mpr (hcyc rfl);rw[if_pos hyes];simp only[gsR,e,l0,a0,lx,d1,c1];rw[aHv]
    exact⟨H2,rfl,hs2.ext⟩
   |false=>
    have hd:=hdne rfl;simp only[gsR,e,l0,a0,lx,d1,c1,cC,e3];refine ih (i+1) k H2 D2 (by omega) (by omega) (by omega) hs2 hd.dn (λu hu=>hgr u ((hd.gr u).mp hu)) (λu hu=> ?_) ..
    by_cases hui:u=i
    ·rw[hui];exact hd.i2
    ·exact hd.bl u (hbl u (by omega))
  ·exact absurd hx (hgr i)
  ·have d1:((2:Int)==0)=false:=rfl
   simp only[gsR,e,l0,a0,lx,d1,cC,e3];refine ih (i+1) k H C (by omega) (by omega) (by omega) hs hdn hgr (λu hu=> ?_) ..
   by_cases hui:u=i
   ·rw[hui];exact hx
   ·exact hbl u (by omega)
theorem aId {n:Nat}(hk:OkP p n){H0:aC}{a v:Nat}(hv:v<n){K:Ex->K (Value×aC)}{Q:aC->Value->Prop}(hp:PV H0 p ev wv nv)(hb:H0[a]? =some (plB p ev wv nv))(hm:400<m)(hm2:m<=72057594037927936):
  ∀(q i k:Nat)(H1:aC),n-i=q->i<=n->q<k->Ext H0 H1->
  (∀H',Ext H0 H'->((List.range' i q).all λw=>(pE p v w).isSome)=true-> ∀(x0 x2 x3 x4 x5 x6 x7 x8 x9 bK bN bC aO aP aM aN bG bJ bL bH bE aT aU aV aW aX aY aZ bA bB bO bP bQ bR bS bT bU bV bX bY cD cG cH cK cQ cS cT cM cN cO cP cW cU cV cY dA dC dB dD dN dO dR dS dT dU dV dW dX:Value),∃H2 r,K .normal [x0,(.pointer (some ⟨a,0,none⟩)),x2,x3,x4,x5,x6,x7,x8,x9,bK,bN,bC,aO,aP,aM,(.int .i64 n),(.int .i64 (v+1:Nat)),aN,bG,bJ,bL,bH,bE,aT,aU,aV,aW,aX,aY,aZ,bA,bB,bO,bP,bQ,bR,bS,bT,bU,bV,bX,bY,cD,cG,cH,cK,cQ,cS,cT,cM,cN,cO,cP,cW,cU,cV,cY,dA,dC,dB,dD,dN,dO,dR,dS,dT,dU,dV,dW,dX] H'=some (r,H2)/\Q H2 r)->
  (∀H',Ext H0 H'->((List.range' i q).all λw=>(pE p v w).isSome)=false-> ∀(x0 x1 x3 x4 x5 x6 x7 x8 x9 bK bN bC aO aP aM aS bI aN bG bJ bL bH bE aT aU aV aW aX aY aZ bA bB bO bP bQ bR bS bT bU bV bX bY cD cG cH cK cQ cS cT cM cN cO cP cW cU cV cY dA dC dB dD dN dO dR dS dT dU dV dW dX:Value),∃H2 r,K .ret [x0,x1,(.int .u16 140),x3,x4,x5,x6,x7,x8,x9,bK,bN,bC,aO,aP,aM,aS,bI,aN,bG,bJ,bL,bH,bE,aT,aU,aV,aW,aX,aY,aZ,bA,bB,bO,bP,bQ,bR,bS,bT,bU,bV,bX,bY,cD,cG,cH,cK,cQ,cS,cT,cM,cN,cO,cP,cW,cU,cV,cY,dA,dC,dB,dD,dN,dO,dR,dS,dT,dU,dV,dW,dX] H'=some (r,H2)/\Q H2 r)-> ∀(x0 x2 x3 x5 x6 x7 x8 x9 bK bN bC aO aP aM aN bG bJ bE aT aU aV aW aX aY aZ bA bB bO bP bQ bR bS bT bU bV bX bY cD cG cH cK cQ cS cT cM cN cO cP cW cU cV cY dA dC dB dD dN dO dR dS dT dU dV dW dX:Value),
  ∃H' r,aI k (aK prog (lvl prog cF m) (aI m) Lu) (E8 (lvl prog cF m) (aI m) K) [x0,(.pointer (some ⟨a,0,none⟩)),x2,x3,(.int .i64 (v:Nat)),x5,x6,x7,x8,x9,bK,bN,bC,aO,aP,aM,(.int .i64 n),(.int .i64 (v:Nat)),aN,bG,bJ,(.int .i64 n),(.int .i64 (i:Nat)),bE,aT,aU,aV,aW,aX,aY,aZ,bA,bB,bO,bP,bQ,bR,bS,bT,bU,bV,bX,bY,cD,cG,cH,cK,cQ,cS,cT,cM,cN,cO,cP,cW,cU,cV,cY,dA,dC,dB,dD,dN,dO,dR,dS,dT,dU,dV,dW,dX] H1=some (r,H')/\Q H' r:=by
 intro q;have h6:=hk.h6;induction q with
 |zero=>
  intro i k H1 hr hi hk2 he hK hR;intros;obtain⟨k,rfl⟩:=aB k (by omega)
  have e:decide ((i:Int)<(n:Int))=false:=aPE (by omega)
  have e3:=aA (i:=v) (by omega)
  rw[dY,W0];simp only[gsR,e];rw[aHq];simp only[gsR,cC,e3];exact hK H1 he rfl ..
 |succ q ih=>
  intro i k H1 hr hi hk2 he hK hR;intros;obtain⟨k,rfl⟩:=aB k (by omega)
  have e:decide ((i:Int)<(n:Int))=true:=aPD (by omega)
  have e3:=aA (i:=i) (by omega)
  have l11:=kX (hZ hb he);obtain⟨H2,r,g1,x2,lv,rfl,_,_⟩:=aHL hk (hp.ext he) (v:=v) (w:=i) (by omega) (by omega) (m:=m) (by omega) (by omega)
  rw[dY,W0];rw[List.range'_succ,List.all_cons] at hK hR;cases c:(pE p v i).isSome with
  |true=>
   rw[c] at g1 hK hR;simp only[gsR,e,l11,g1,cC,e3];exact ih (i+1) k H2 (by omega) (by omega) (by omega) (he.tr x2) (λH' h1 h2=>hK H' h1 (by simpa using h2)) (λH' h1 h2=>hR H' h1 (by simpa using h2)) ..
  |false=>
   rw[c] at g1 hR;simp only[gsR,e,l11,g1];rw[aHu];exact hR H2 (he.tr x2) rfl ..
theorem aIk (n:Nat):Blk.cells (List.replicate n [Value.int .i64 0]).flatten 3 .row=oX (List.replicate n 0) []:=by
 unfold oX
 congr 1
 rw[List.append_nil,List.map_replicate];induction n with
 |zero=>rfl
 |succ n ih=>rw[List.replicate_succ,List.replicate_succ,aPu,ih];rfl
theorem aIg {v:Value}{us:List Value}(h:Rs vC 25 H v us):bld prog 163 [(1,v)]=some (.agg #[.slice none 0 0,v])/\Blk.cells (Value.agg #[.slice none 0 0,v]).cells.toList 163 .fix= .cells [.slice none 0 0,v] 163 .fix:=by
 rcases h with⟨rfl,_⟩|⟨b,o,cap,rfl,_⟩
 ·exact⟨by kernel_rfl,rfl⟩
 ·have: ∀b o n c:Nat,bld prog 163 [(1,.slice (some ⟨b,o,none⟩) n c)]=some (.agg #[.slice none 0 0,.slice (some ⟨b,o,none⟩) n c]):=λb o n c=>by kernel_rfl
  exact⟨this _ _ _ _,rfl⟩
theorem aIb {n:Nat}(hk:OkP p n){H0:aC}{a:Nat}(hp:PV H0 p ev wv nv)(hb:H0[a]? =some (plB p ev wv nv))(hm:17592186045300<m)(hm2:m<=72057594037927936)(x0 x2 x3 x4 x5 x6 x7 x8 x9 bK bN bC aO aP aM aS bI aN bG bJ bL bH bE aT aU aV aW aX aY aZ bA bB bO bP bQ bR bS bT bU bV bX bY cD cG cH cK cQ cS cT cM cN cO cP cW cU cV cY dA dC dB dD dN dO dR dS dT dU dV dW dX:Value):
  ∃H',Lw (lvl prog cF m) (aI m) x0 (.pointer (some ⟨a,0,none⟩)) x2 x3 x4 x5 x6 x7 x8 x9 bK bN bC aO aP aM aS bI aN bG bJ bL bH bE aT aU aV aW aX aY aZ bA bB bO bP bQ bR bS bT bU bV bX bY cD cG cH cK cQ cS cT cM cN cO cP cW cU cV cY dA dC dB dD dN dO dR dS dT dU dV dW dX H0=some (.int .u16 (if s6 (mH p)=true then 140 else 0),H')/\Ext H0 H':=by
 have l11:=kX hb;obtain⟨H1,wvv,g1,x1,hg⟩:=aHN hp (m:=m) (by omega) (by omega)
 have hgl:=aH9 p;obtain⟨us,hus,hul,_⟩:=id hg;obtain⟨bm,bc⟩:=aIg hus;obtain⟨g,hgg⟩: ∃g,g=mH p:=⟨_,rfl⟩;have hinn:=aH8 p;have hrow:=aIa p;rw[<-hgg] at hg hgl hinn hrow⊢;obtain⟨H2,hH2⟩: ∃H2,H2=H1++[Blk.cells [.slice none 0 0,wvv] 163 .fix]:=⟨_,rfl⟩;have x2:Ext H1 H2:=by rw[hH2];exact Fr.app _ _ _
 have b2:H2[H1.length]? =some (.cells [.slice none 0 0,wvv] 163 .fix):=by rw[hH2];exact gZ _ _
 have l2:ld1 (.pointer (some ⟨H1.length,1,none⟩)) H2=some (wvv,H2):=A5 b2 rfl;have hlen:=hg.Vp;have mk:=xN (H:=H2) 3 1 8 [.int .i64 0] .i64 .i64 (g.length:Int) (by omega) (by omega) (by omega) rfl
 simp only[aPm] at mk;rw[aIk] at mk;obtain⟨H3,hH3⟩: ∃H3,H3=H2++[oX (List.replicate g.length 0) []]:=⟨_,rfl⟩;rw[<-hH3] at mk;have x3:Ext H2 H3:=by rw[hH3];exact Fr.app _ _ _
 have b3:=hZ b2 x3;have st:stN 1 (.pointer (some ⟨H1.length,0,none⟩)) (.slice (some ⟨H2.length,0,none⟩) g.length g.length) H3=some (undef,H3.set H1.length (mkB H2.length g.length wvv)):=by
  rw[mS 1 _ _ _ rfl,b3,n9 _ _ _ _ _ _ (by decide) (by show 0+1<=2;omega) rfl]
  rfl
 obtain⟨H4,hH4⟩: ∃H4,H4=H3.set H1.length (mkB H2.length g.length wvv):=⟨_,rfl⟩;rw[<-hH4] at st;have h12:H2.length=H1.length+1:=by rw[hH2];simp
 have hs:Srch g H1 H1.length H2.length wvv H4 (List.replicate g.length 0):=by
  refine⟨?_,?_,?_,by simp,λx hx=> .inl (by simp at hx;exact hx.2)⟩
  ·rw[hH4];exact s5 (x2.tr x3) (aOZ _)
  ·rw[hH4];exact aO0 (aOU.mp b3).1
  ·rw[hH4,aOV (by omega),hH3];exact gZ _ _
 have l4:=B3 hs.mrk;have hlen4:bM (atV H2.length g.length)=some (.int .i64 g.length):=rfl;have hrd:=aIi hg hinn (λr hr=>by have:=hrow r hr;omega) (show H1.length≠H2.length by omega) (show H1.length<=H2.length by omega) g.length m (by omega)
 unfold Lw;simp only[gsR,l11,g1,bm,bc,<-hH2,l2,hlen,mk,st,l4,hlen4];exact Exists.imp (λH' h=>⟨h.1,x1.tr h.2⟩) (aIe hrd (by omega) hinn g.length 0 m H4 (List.replicate g.length 0) (by omega) (by omega) (by omega) hs (λu hu=>by simp[aPA] at hu) (λu hu=>by simp[aPA] at hu) (λu hu=>absurd hu (by omega)) ..)
theorem aIc {n:Nat}(hk:OkP p n){H0:aC}{a:Nat}{Q:aC->Value->Prop}(hp:PV H0 p ev wv nv)(hb:H0[a]? =some (plB p ev wv nv))(hm:17592186045300<m)(hm2:m<=72057594037927936)(hQ: ∀H',Ext H0 H'->Q H' (.int .u16 (if tA p n=true/\s6 (mH p)=false then 0 else 140))):
  ∀(q i k:Nat)(H1:aC),n-i=q->i<=n->q<k->Ext H0 H1->(∀v,v<i->((List.range n).all λw=>(pE p v w).isSome)=true)-> ∀(x0 x2 x3 x4 x5 x6 x7 x8 x9 bK bN bC aO aP aM aN bG bJ bL bH bE aT aU aV aW aX aY aZ bA bB bO bP bQ bR bS bT bU bV bX bY cD cG cH cK cQ cS cT cM cN cO cP cW cU cV cY dA dC dB dD dN dO dR dS dT dU dV dW dX:Value),
  ∃H' r,aI k (aK prog (lvl prog cF m) (aI m) Lt) (E7 (lvl prog cF m) (aI m)) [x0,(.pointer (some ⟨a,0,none⟩)),x2,x3,x4,x5,x6,x7,x8,x9,bK,bN,bC,aO,aP,aM,(.int .i64 n),(.int .i64 (i:Nat)),aN,bG,bJ,bL,bH,bE,aT,aU,aV,aW,aX,aY,aZ,bA,bB,bO,bP,bQ,bR,bS,bT,bU,bV,bX,bY,cD,cG,cH,cK,cQ,cS,cT,cM,cN,cO,cP,cW,cU,cV,cY,dA,dC,dB,dD,dN,dO,dR,dS,dT,dU,dV,dW,dX] H1=some (r,H')/\Q H' r:=by
 intro q;have h6:=hk.h6;induction q with
 |zero=>
  intro i k H1 hr hi hk2 he hpre;intros;obtain⟨k,rfl⟩:=aB k (by omega)
  have e:decide ((i:Int)<(n:Int))=false:=aPE (by omega)
  have hall:tA p n=true:=by
   unfold tA;rw[aPz];intro v hv;exact hpre v (by have:=aPy.mp hv;omega)
  rw[dY,Wz];simp only[gsR,e];rw[aHp];refine Exists.imp (λH' h=>⟨_,h.1,?_⟩) (aIb hk (hp.ext he) (hZ hb he) hm hm2 ..)
  have:=hQ H' (he.tr h.2);rw[hall] at this;cases hc:s6 (mH p) with
  |true=>rw[hc] at this;simpa using this
  |false=>rw[hc] at this;simpa using this
 |succ q ih=>
  intro i k H1 hr hi hk2 he hpre;intros;obtain⟨k,rfl⟩:=aB k (by omega)
  have e:decide ((i:Int)<(n:Int))=true:=aPD (by omega)
  have b1:=hZ hb he;have l0:=eU b1 0 _ rfl;rw[hk.hn] at l0;have hrr: ∀v:Nat,((List.range' 0 n).all λw=>(pE p v w).isSome)=((List.range n).all λw=>(pE p v w).isSome):=λv=>by rw[List.range_eq_range']
  rw[dY,Wz];simp only[gsR,e,l0];refine aId hk (v:=i) (by omega) (hp.ext he) b1 (Q:=Q) (by omega) hm2 n 0 m H1 (by omega) (by omega) (by omega) (Fr.nC _ _) (λH' hx hall=> ?_) (λH' hx hall=> ?_) ..
  ·rw[hrr] at hall
   intros;simp only[gsR];refine ih (i+1) k H' (by omega) (by omega) (by omega) (he.tr hx) (λv hv=> ?_) ..
   by_cases hvi:v=i
   ·rw[hvi];exact hall
   ·exact hpre v (by omega)
  ·rw[hrr] at hall
   intros;simp only[gsR];rw[aHt];refine⟨H',_,rfl,?_⟩;have hno:tA p n=false:=by
    rw[<-Bool.not_eq_true];unfold tA;rw[aPz];intro hh;rw[hh i (aPy.mpr (by omega))] at hall
    cases hall
   have:=hQ H' (he.tr hx);rw[hno] at this;simpa using this
theorem Xw (hp:PV H p ev wv nv)(hm:17592186045400<m)(hm2:m<=72057594037927936):
  ∃H',lvl prog cF m (.func 34) [plV p ev wv nv] H=some (.int .u16 (mI p),H')/\Ext H H':=by
 obtain⟨H0,hH0⟩: ∃H0,H0=H++[plB p ev wv nv]:=⟨_,rfl⟩;have x0:Ext H H0:=by rw[hH0];exact Fr.app _ _ _
 have b0:H0[H.length]? =some (plB p ev wv nv):=by rw[hH0];exact gZ _ _
 have p0:=hp.ext x0;have l11:=kX b0;obtain⟨H1,g1,x1⟩:=Vu p0 (m:=m-1) (by omega) (by omega)
 have b1:=hZ b0 x1;have p1:=p0.ext x1;have main: ∃H' r,lvl prog cF m (.func 34) [plV p ev wv nv] H=some (r,H')/\(r= .int .u16 (mI p)/\Ext H H'):=by
  refine jJ (Q:=λH' r=>r= .int .u16 (mI p)/\Ext H H') (iH rfl rfl) (by omega) ?_
  rw[aHs];cases hc:kY p with
  |false=>
   rw[hc] at g1;have en:(wD false !=0)=true:=rfl;have e:mI p=wD false:=by unfold mI;rw[if_neg (by simp[hc])];rfl
   simp only[gsR,lS,<-hH0,l11,g1,en]
   exact⟨H1,_,rfl,by rw[e],x0.tr x1⟩
  |true=>
   rw[hc] at g1;have en:(wD true !=0)=false:=rfl;obtain⟨n,hk⟩:=Fg hc;have h6:=hk.h6;have l0:=eU b1 0 _ rfl;rw[hk.hn] at l0;simp only[gsR,lS,<-hH0,l11,g1,en,l0];refine aIc hk (Q:=λH' r=>r= .int .u16 (mI p)/\Ext H H') p1 b1 (m:=m-1) (by omega) (by omega) (λH' hx=>⟨?_,(x0.tr x1).tr hx⟩) n 0 (m-1) H1 (by omega) (by omega) (by omega) (Fr.nC _ _) (λv hv=>absurd hv (by omega)) ..
   congr 1
   unfold mI Mh;have hq:p.nodes.toNat=n:=by rw[hk.hn];rfl
   rw[if_pos hc,hc,hq];cases s6 (mH p)<;>cases tA p n<;>simp
 obtain⟨H',r,h1,rfl,h2⟩:=main
 exact⟨H',h1,h2⟩
end
theorem aIm {a:Int}(h:(Lit.int .u16 a).wf=true):0<=a/\a<65536:=by
 have e: ∀z:Int,(Lit.int .u16 z).wf=(decide (0<=z)&&decide (z<=65535)):=λz=>rfl
 rw[e] at h;simp only[aO2,decide_eq_true_eq] at h
 exact⟨h.1,by omega⟩
theorem zR {a:Int}(h:(Lit.int .u8 a).wf=true): ∃n:Nat,a=n/\n<256:=by
 have:=aDR h
 exact⟨a.toNat,by omega,by omega⟩
theorem Xx {a:Int}(h:(Lit.int .u16 a).wf=true): ∃n:Nat,a=n/\n<65536:=by
 have:=aIm h
 exact⟨a.toNat,by omega,by omega⟩
def tB (r:List Value):Nat:=match r with
 |[.int _ i]=>i.toNat
 |_=>0
theorem Us.aIl {G:aC}{n:Nat}{u:Value}(h:Rp prog G n 22 [u]): ∃next,Us G u next/\(∀x∈next,x<256)/\next.length<=72057594037927936:=by
 obtain⟨m,u',b,rows,h1,h2,h3,h4,h5⟩:=h.S0 (e:=5) (by kernel_rfl)
 cases h1;have hc:prog.cellsOf 5=1:=by kernel_rfl
 have hb:prog.bytesOf 5=1:=by kernel_rfl
 rw[hc] at h2;rw[hb] at h3;have hr: ∀r∈rows,u8C (tB r)=r/\tB r<256:=λr hr=>by
  obtain⟨i,hi,hw⟩:=(h5 r hr).2.Sz (k:= .u8) (by kernel_rfl)
  obtain⟨k,rfl,hk⟩:=zR hw;subst hi
  exact⟨rfl,by simpa[tB] using hk⟩
 have hm:(rows.map tB).map u8C=rows:=by
  rw[List.map_map]
  conv=>rhs;rw[<-List.map_id rows]
  exact List.map_congr_left λr hr'=>(hr r hr').1
 refine⟨rows.map tB,?_,λx hx=> ?_,?_⟩
 ·rw[<-hm] at h2
  rcases h4 with rfl|⟨c,rfl⟩
  ·have h0:rows=[]:=by
    have:=h2.len;have hl:bM (Value.slice none 0 0)=some (.int .i64 0):=rfl;rw[hl,hm] at this;simp at this;exact aPc.mp (by omega)
   subst h0;exact .inl ⟨rfl,rfl⟩
  ·exact h2.rs La (c:=c) (.inr (by rw[aO8]))
 ·obtain⟨r,hr1,rfl⟩:=aPx.mp hx
  exact(hr r hr1).2
 ·have:reachBytes=140737488351232:=rfl
  rw[aO8];omega
section
variable {H H0 : aC} {m : Nat} {p : PlanD} {ev wv nv : Value}
def tab (n:Nat)(F:Nat->Nat->Int):List (List Int):=(List.range n).map λv=>(List.range n).map (F v)
theorem aIn (n:Nat)(F:Nat->Nat->Int):(tab n F).length=n:=by simp[tab]
variable {a : Nat}
end
def cpP (n:Nat)(E:List Ed)(N:List (List Int)):PlanD:=⟨n,E,1,1,1,1,1,1,[1],0,N⟩
theorem Xy {p:PlanD}{n:Nat}{E:List Ed}{N:List (List Int)}(h1:p.nodes=(n:Int))(h2:p.edges=E)(h3:p.next=N)(w:Int): ∀(q:Nat)(l:List Int)(v:Int),yA p w q l v=yA (cpP n E N) w q l v
 |0,_,_=>rfl
 |q+1,l,v=>by
  have e:nx p v w=nx (cpP n E N) v w:=by unfold nx cpP;rw[h3]
  unfold yA;rw[e,h1,h2,Xy h1 h2 h3 w q];rfl
theorem aIo {p:PlanD}{n:Nat}{E:List Ed}{N:List (List Int)}(h:kY p=true)(hc:kY (cpP n E N)=true)(h1:p.nodes=(n:Int))(h2:p.edges=E)(h3:p.next=N):
  (∀v w,pE p v w=pE (cpP n E N) v w)/\(∀v w,wH p v w=wH (cpP n E N) v w)/\mH p=mH (cpP n E N)/\mI p=mI (cpP n E N):=by
 have a1: ∀v w,pE p v w=pE (cpP n E N) v w:=λv w=>by
  unfold pE;rw[Xy h1 h2 h3,h1];rfl
 have a2: ∀v w,wH p v w=wH (cpP n E N) v w:=λv w=>by
  unfold wH;rw[a1,h,hc,h1];rfl
 have e: ∀v w,nx p v w=nx (cpP n E N) v w:=λv w=>by unfold nx cpP;rw[h3]
 have e2: ∀a b,wt p n a b=wt (cpP n E N) n a b:=λa b=>by
  unfold wt
  congr 1
  funext w
  unfold Fi;rw[e,e]
 have e3:lT p=lT (cpP n E N):=by
  unfold lT mV;rw[h1,h2];rfl
 have a3:mH p=mH (cpP n E N):=by
  unfold mH;rw[h,hc,e3,h1];simp only[if_true];refine List.map_congr_left λa _=> ?_
  show oC p n _ a=oC (cpP n E N) n _ a
  unfold oC;simp only[e2]
 refine⟨a1,a2,a3,?_⟩;unfold mI Mh;rw[a3,h,hc,h1];have: ∀m,tA p m=tA (cpP n E N) m:=λm=>by
  unfold tA;simp only[a1]
 rw[this];rfl
section
variable {H : aC} {m : Nat} {p : PlanD} {ev wv nv : Value}
end
end Go.Proofs.YtkeilicinggjmaaGreatDoor
