/-
  PARTS OF THIS CLAIM'S PROOF, laid together by a program of mine.
-/
import Derived.Ground.NamesProg
import Derived.Shelf.Sort.Plain
import Derived.Shelf.Slices.In.SortNone
import Derived.Test.YtkeilicinggjmaaGreatDoorAbsM3
set_option linter.unusedVariables false
set_option linter.unusedSimpArgs false
set_option linter.unusedSectionVars false
namespace Go.Proofs.YtkeilicinggjmaaGreatDoor
open Go.Proofs.Tryz
open Go.Shelf
def Tryz.aGQ:Go.Shelf.Ren:=⟨λ|189=>82|125=>135|257=>134|128=>172|129=>173|294=>163|295=>164|296=>165|297=>166|298=>167|299=>168|216=>169|300=>170|301=>171|328=>183|329=>184|330=>185|331=>186|332=>187|215=>188|343=>189|n=>n,λ|28=>25|3=>3|46=>116|0=>0|51=>37|53=>55|4=>4|183=>276|182=>275|131=>258|5=>5|9=>9|218=>293|222=>296|228=>299|229=>300|n=>n,λ|n=>n⟩
theorem Tryz.Vi:Go.Proofs.Lays.n189 prog Tryz.aGQ:={
 mixed:=by kernel_rfl
 f125:=Tryz.func135.trans (congrArg some (by kernel_rfl))
 f128:=Tryz.func172.trans (congrArg some (by kernel_rfl))
 f129:=Tryz.func173.trans (congrArg some (by kernel_rfl))
 f189:=Tryz.func82.trans (congrArg some (by kernel_rfl))
 f215:=Tryz.func188.trans (congrArg some (by kernel_rfl))
 f216:=Tryz.func169.trans (congrArg some (by kernel_rfl))
 f257:=Tryz.func134.trans (congrArg some (by kernel_rfl))
 f294:=Tryz.func163.trans (congrArg some (by kernel_rfl))
 f295:=Tryz.func164.trans (congrArg some (by kernel_rfl))
 f296:=Tryz.func165.trans (congrArg some (by kernel_rfl))
 f297:=Tryz.func166.trans (congrArg some (by kernel_rfl))
 f298:=Tryz.func167.trans (congrArg some (by kernel_rfl))
 f299:=Tryz.func168.trans (congrArg some (by kernel_rfl))
 f300:=Tryz.func170.trans (congrArg some (by kernel_rfl))
 f301:=Tryz.func171.trans (congrArg some (by kernel_rfl))
 f328:=Tryz.func183.trans (congrArg some (by kernel_rfl))
 f329:=Tryz.func184.trans (congrArg some (by kernel_rfl))
 f330:=Tryz.func185.trans (congrArg some (by kernel_rfl))
 f331:=Tryz.func186.trans (congrArg some (by kernel_rfl))
 f332:=Tryz.func187.trans (congrArg some (by kernel_rfl))
 f343:=Tryz.func189.trans (congrArg some (by kernel_rfl))
 t0:=Tryz.underlying0
 a0:=Tryz.isAgg0
 z0:=Tryz.sizeOf0
 v0:=Tryz.zeroValue0
 t3:=Tryz.underlying3
 a3:=Tryz.isAgg3
 z3:=Tryz.sizeOf3
 v3:=Tryz.zeroValue3
 t4:=Tryz.underlying4
 a4:=Tryz.isAgg4
 z4:=Tryz.sizeOf4
 v4:=Tryz.zeroValue4
 t5:=Tryz.underlying5
 a5:=Tryz.isAgg5
 z5:=Tryz.sizeOf5
 v5:=Tryz.zeroValue5
 t9:=Tryz.underlying9
 a9:=Tryz.isAgg9
 z9:=Tryz.sizeOf9
 v9:=Tryz.zeroValue9
 t28:=Tryz.underlying25
 a28:=Tryz.isAgg25
 z28:=Tryz.sizeOf25
 v28:=Tryz.zeroValue25
 t46:=Tryz.underlying116
 a46:=Tryz.isAgg116
 z46:=Tryz.sizeOf116
 v46:=Tryz.zeroValue116
 t51:=Tryz.underlying37
 a51:=Tryz.isAgg37
 z51:=Tryz.sizeOf37
 v51:=Tryz.zeroValue37
 t53:=Tryz.underlying55
 a53:=Tryz.isAgg55
 z53:=Tryz.sizeOf55
 v53:=Tryz.zeroValue55
 t131:=Tryz.underlying258
 a131:=Tryz.isAgg258
 z131:=Tryz.sizeOf258
 v131:=Tryz.zeroValue258
 t182:=Tryz.underlying275
 a182:=Tryz.isAgg275
 z182:=Tryz.sizeOf275
 v182:=Tryz.zeroValue275
 t183:=Tryz.underlying276
 a183:=Tryz.isAgg276
 z183:=Tryz.sizeOf276
 v183:=Tryz.zeroValue276
 t218:=Tryz.underlying293
 a218:=Tryz.isAgg293
 z218:=Tryz.sizeOf293
 v218:=Tryz.zeroValue293
 t222:=Tryz.underlying296
 a222:=Tryz.isAgg296
 z222:=Tryz.sizeOf296
 v222:=Tryz.zeroValue296
 t228:=Tryz.underlying299
 a228:=Tryz.isAgg299
 z228:=Tryz.sizeOf299
 v228:=Tryz.zeroValue299
 t229:=Tryz.underlying300
 a229:=Tryz.isAgg300
 z229:=Tryz.sizeOf300
 v229:=Tryz.zeroValue300}
end Go.Proofs.YtkeilicinggjmaaGreatDoor
namespace Go.Abs
open M
theorem gsR:type_of%(And.intro @r_opt (And.intro @r_ret (And.intro @ob_some (And.intro @ifB_true (And.intro @iteV_true (And.intro @iteV_false (And.intro @r_gdt (And.intro @r_gdt2 (And.intro @r_gdtf (And.intro @r_gdtf2 (And.intro @r_gdff (And.intro @r_gdff2 (And.intro @r_gdft (And.intro @r_gdft2 (And.intro @r_gdu (And.intro @r_gdu2 (And.intro @pick_t (And.intro @pick_f (And.intro @ext_0 (And.intro @ext_1 (And.intro @x_newB (And.intro @r_nil (And.intro @r_fAddr (And.intro @Nat.zero_add (And.intro @b_lss (And.intro @b_leq (And.intro @b_gtr (And.intro @b_geq (And.intro @b_eql (And.intro @b_neq (And.intro @u_not (And.intro @Bool.not_true (And.intro @Bool.not_false (And.intro @oneOf_one (And.intro @oneOf_two (And.intro @again_normal (And.intro @again_exit (And.intro @again_ret @Bool.and_true)))))))))))))))))))))))))))))))))))))):=And.intro @r_opt (And.intro @r_ret (And.intro @ob_some (And.intro @ifB_true (And.intro @iteV_true (And.intro @iteV_false (And.intro @r_gdt (And.intro @r_gdt2 (And.intro @r_gdtf (And.intro @r_gdtf2 (And.intro @r_gdff (And.intro @r_gdff2 (And.intro @r_gdft (And.intro @r_gdft2 (And.intro @r_gdu (And.intro @r_gdu2 (And.intro @pick_t (And.intro @pick_f (And.intro @ext_0 (And.intro @ext_1 (And.intro @x_newB (And.intro @r_nil (And.intro @r_fAddr (And.intro @Nat.zero_add (And.intro @b_lss (And.intro @b_leq (And.intro @b_gtr (And.intro @b_geq (And.intro @b_eql (And.intro @b_neq (And.intro @u_not (And.intro @Bool.not_true (And.intro @Bool.not_false (And.intro @oneOf_one (And.intro @oneOf_two (And.intro @again_normal (And.intro @again_exit (And.intro @again_ret @Bool.and_true)))))))))))))))))))))))))))))))))))))
end Go.Abs
set_option maxRecDepth 100000
namespace Go.Proofs.YtkeilicinggjmaaGreatDoor
open Go.Proofs.Tryz
open Go.Abs Go.Abs.M
theorem aGS:SortOk prog 82:=⟨enters_of Tryz.func82 (by kernel_rfl) rfl,Any.slices_Sort_int_none Tryz.Vi,Any.slices_Sort_int Tryz.Vi⟩
theorem Vj:prog.follows .mixedOrders=true:=by kernel_rfl
theorem aGR:PrimsOk prog (sS []):=aDx Vj λg hg=>by simp at hg
theorem aGT:PrimsOk prog (qA [] 82):=aEj aGR aGS
abbrev pkN:jA:=qC 103 tC (qC 101 (tU 23) (qA [] 82))
abbrev bL:jA:=pkN
theorem sA:FrP pkN:=T9 aFn (T9 (aFo _) (aE8 _ _))
theorem fB {k:FuncId}(h:((k==103)||(k==101))=false)(h2:(k==82)=false):pkN (.func k)=none:=by
 rw[Bool.or_eq_false_iff] at h;rw[pkN,An h.1,An h.2];exact aEi h2 rfl
theorem cT {k:FuncId}(h:((k==103)||(k==101)||(k==82))=false):pkN (.func k)=none:=by
 rw[Bool.or_eq_false_iff] at h;exact fB h.1 h.2
theorem Vk (n:Nat)(hn:0<n)(args:List Value)(H:aE):lvl prog bL n (.func 82) args H=qX args H:=
 Jh (((An rfl).trans (An rfl)).trans aEk) hn args H
theorem K5 (n:Nat)(hn:0<n)(args:List Value)(H:aE):lvl prog pkN n (.func 103) args H=tC args H:=Jh Ud hn args H
theorem aGU (n:Nat)(hn:0<n)(args:List Value)(H:aE):lvl prog pkN n (.func 101) args H=tU 23 args H:=Jh ((An rfl).trans Ud) hn args H
end Go.Proofs.YtkeilicinggjmaaGreatDoor
namespace Go.Proofs.YtkeilicinggjmaaGreatDoor
open Go.Proofs.Tryz
open Go Go.RowKit Go.Abs Go.Abs.M
theorem aGZ:Hg prog=some 0:=by kernel_rfl
theorem aG0:vX=Lib.deBruijn32tab.map Int.ofNat:=by decide+kernel
theorem Vl {w:World}(h:zO prog w):TabC w:=by
 obtain⟨cs,e,r,h1,h2⟩:=h 0 aGZ;intro j hj;unfold World.cell?;rw[h1];show cs[j]? =_
 rw[<-Array.getElem?_toList,h2,aG0,List.map_map,aP0];have hl:Lib.deBruijn32tab.length=32:=by decide+kernel
 rw[aPP U,aPR,aPP U]
 rfl
theorem aGV {args:List Value}{H H':aE}{v:Value}(h:tC args H=some (v,H')):H'=H:=by
 unfold tC at h
 split at h
 ·split at h
  ·cases h
   rfl
  ·cases h
 ·cases h
theorem aG1 {t:TypeId}{args:List Value}{H H':aE}{v:Value}(h:tU t args H=some (v,H')):H.length<=H'.length:=by
 unfold tU at h
 split at h
 ·split at h
  ·split at h
   ·split at h
    ·split at h
     ·cases h
      simp
     ·cases h
    ·cases h
   ·cases h
  ·cases h
 ·cases h
theorem aGW {args:List Value}{H H':aE}{v:Value}(h:tC args H=some (v,H')){ρ:Ren}{w:World}{args':List Value}(hr:Rel prog ρ (dN H) w)(ha:Vrs ρ args args'):
  wB prog (.func 103) args'.toArray w (Post prog ρ H w v H'):=by
 have he:(callFunc 103 args'.toArray).run prog w= .ok (.enter 103 args'.toArray) w:=enters_of Tryz.func103 (by kernel_rfl) rfl _ _
 refine⟨he,?_⟩;unfold tC at h
 split at h
 ·rename_i m fr n
  split at h
  ·rename_i hm
   cases h;obtain⟨hl,h1⟩:=ha
   match args',hl with
   |[a',b',c'],_=>
    obtain rfl:=(h1 0 _ a' rfl rfl).kV rfl
    obtain rfl:=(h1 1 _ b' rfl rfl).kV rfl
    obtain rfl:=(h1 2 _ c' rfl rfl).kV rfl
    exact(aFv m fr n hm.1 hm.2 w (Vl hr.He)).mono λe w' ⟨h2,hB⟩=>⟨_,h2,ρ,.oO rfl,Step.Se hr hB.size (λc hc=>hB.block c hc) hB.os hB.tape hB.output⟩
  ·cases h
 ·cases h
theorem aGY (rows:List Nat)(n:Nat):(kD (λk=>dJ (λi=>(rows.getD i 0).testBit k) rows.length) n).toList=(jX rows n).map λz:Nat=>Value.int .u16 (z:Int):=by
 unfold kD jX;rw[List.map_map];rfl
theorem aG2 {args:List Value}{H H':aE}{v:Value}(h:tU 23 args H=some (v,H')){ρ:Ren}{w:World}{args':List Value}(hr:Rel prog ρ (dN H) w)(ha:Vrs ρ args args')
  (hfree: ∀b,H.length<=b->b<H'.length->ρ b=none):wB prog (.func 101) args'.toArray w (Post prog ρ H w v H'):=by
 have he:(callFunc 101 args'.toArray).run prog w= .ok (.enter 101 args'.toArray) w:=enters_of Tryz.func101 (by kernel_rfl) rfl _ _
 refine⟨he,?_⟩;unfold tU at h
 split at h
 ·rename_i b o len cap n
  try dsimp only at h
  split at h
  ·rename_i hc
   try dsimp only at h
   split at h
   ·rename_i cs e k hb
    try dsimp only at h
    split at h
    ·rename_i hlen
     try dsimp only at h
     split at h
     ·rename_i rows hrows
      cases h;obtain⟨hl,h1⟩:=ha
      match args',hl with
      |[a',b'],_=>
       obtain rfl:=(h1 1 _ b' rfl rfl).kV rfl
       have hv:=h1 0 _ a' rfl rfl;cases hv with
       |same hls=>simp[fH] at hls
       |slice0=>omega
       | @slice _ _ _ _ cap' pl hpl hn hcc hroom=>
        obtain⟨ccs,ce,lo,hi,ho,hcv,_,_,_⟩:=hr.blk b pl _ hpl hb;obtain⟨hz,h16⟩:=Uc _ _ hrows;have hzl:rows.length=len:=by
         have:=congrArg List.length hz;simp at this;omega
        obtain⟨n',rfl⟩: ∃n':Nat,n=n':=⟨n.toNat,by omega⟩
        have hin: ∀i,i<len->w.cell? ⟨pl.c,pl.base+o+i,none⟩=some (.int .u16 (rows.getD i 0:Nat)):=by
         intro i hi;have hzi:rows[i]? =some rows[i]:=aPP U
         have h2:cs[o+i]? =some (.int .u16 (rows[i]:Nat)):=by
          have:=congrArg (·[i]?) hz
          simp only[List.getElem?_take,List.getElem?_drop,aP0,hzi,if_pos hi,Option.map_some] at this;exact this
         obtain⟨v',h3,h4⟩:=hcv (o+i) _ h2;have h5:=h4.kV rfl;subst h5;rw[zR ho,aPR,hzi,Nat.add_assoc];exact h3
        have hcall:=(callsIn_wide (n:=6)).1 (aFP pl.c (pl.base+o) len cap' n' U U U U U w (Vl hr.He) rows hzl h16 (hr.lt b pl hpl) hin)
        refine hcall.mono λe w' ⟨h2,hB,hrow⟩=>⟨_,h2,ρ.upd H.length ⟨w.heap.size,0,some (1,n')⟩,?_,?_⟩
        ·have:=Vr.slice (ρ:=ρ.upd H.length ⟨w.heap.size,0,some (1,n')⟩) (o:=0) (n:=n') (cap:=n') (cap':=n') (Ren.oP _ _ _) (aPS _) (aPS _) (by
          intro e' T hT;simp only[aQe,Prod.mk.injEq] at hT;obtain⟨rfl,rfl⟩:=hT;simp)
         simpa using this
        ·have hlt:w.heap.size<w'.heap.size:=(aQc.mp hrow).1
         have hcell:prog.cellsOf 23=1:=by kernel_rfl
         refine Step.Hl hr (hfree _ (aPS _) (by simp)) (aPS _) hB.size hlt (λc hc=>hB.block c hc) ?_ (by simp) hB.os hB.tape hB.output
         refine⟨_,_,0,0,hrow,λi v hi=> ?_,λ_ off _=>by omega,λ_=> ?_,λhk=>absurd rfl hk⟩
         ·refine⟨v,?_,?_⟩
          ·rw[<-hi,aQf,<-aGY,<-hzl,Array.getElem?_toList]
           simp
          ·rw[aP0] at hi
           cases hx:(jX rows (n':Int).toNat)[i]? with
           |none=>rw[hx] at hi;cases hi
           |some z=>
            rw[hx] at hi;cases hi;exact .oO rfl
         ·show some (1,n')=some (prog.cellsOf 23,_)
          rw[hcell,Uk]
     ·cases h
    ·cases h
   ·cases h
  ·cases h
 ·cases h
theorem Vm {P:Program}{g:FuncId}{p:List Value->aE->Option (Value×aE)}{pr:jA}(h:PrimsOk P pr)(hm: ∀args H v H',p args H=some (v,H')->H.length<=H'.length)
  (hs: ∀args H v H',p args H=some (v,H')-> ∀ρ w args',Rel P ρ (dN H) w->Vrs ρ args args'->(∀b,H.length<=b->b<H'.length->ρ b=none)->wB P (.func g) args'.toArray w (Post P ρ H w v H')):PrimsOk P (qC g p pr):=by
 constructor
 ·intro f q hf args H v H' hp
  cases f with
  |func k=>
   by_cases hk:k=g
   ·simp only[qC,if_pos hk] at hf
    cases hf;exact hm _ _ _ _ hp
   ·simp only[qC,if_neg hk] at hf
    exact h.mono _ _ hf _ _ _ _ hp
  |_=>cases hf
 ·intro f q hf args H v H' hp ρ w args' hr ha hfree
  cases f with
  |func k=>
   by_cases hk:k=g
   ·simp only[qC,if_pos hk] at hf
    cases hf;subst hk;exact hs _ _ _ _ hp _ _ _ hr ha hfree
   ·simp only[qC,if_neg hk] at hf
    exact h.sound _ _ hf _ _ _ _ hp _ _ _ hr ha hfree
  |_=>cases hf
theorem aGX:PrimsOk prog pkN:=
 Vm (Vm aGT (λ_ _ _ _ h=>aG1 h) λ_ _ _ _ h _ _ _ hr ha hf=>aG2 h hr ha hf) (λ_ _ _ _ h=>by rw[aGV h];exact aPS _) λ_ _ _ _ h _ _ _ hr ha _=>aGW h hr ha
end Go.Proofs.YtkeilicinggjmaaGreatDoor
namespace Go.Proofs.YtkeilicinggjmaaGreatDoor
open Go.Proofs.Tryz
open Go.Abs Go.Abs.M
theorem szI:prog.cellsOf 3=1:=by kernel_rfl
theorem K7:prog.cellsOf 34=2:=by kernel_rfl
abbrev Ed:=Int×Int
def edC (e:Ed):List Value:=[.I e.1,.I e.2]
theorem oS (e:Ed):(edC e).length=2:=rfl
theorem Dv (e:Ed):dV (edC e)=true:=rfl
def edV (e:Ed):Value:= .agg ⟨edC e⟩
abbrev Is (H:aE)(v:Value)(xs:List Int):=Rs inC 3 H v xs
abbrev Iw (H:aE)(v:Value)(xs:List Int):=Rw inC 3 1 H v xs
abbrev Es (H:aE)(v:Value)(xs:List Ed):=Rs edC 34 H v xs
abbrev Ew (H:aE)(v:Value)(xs:List Ed):=Rw edC 34 2 H v xs
def vC (u:Value):List Value:=[u]
theorem Vo (u:Value):(vC u).length=1:=rfl
def Rows (H:aE)(v:Value)(xss:List (List Int)):Prop:= ∃us,Rs vC 25 H v us/\us.length=xss.length/\ ∀(i:Nat)(u:Value)(xs:List Int),us[i]? =some u->xss[i]? =some xs->Is H u xs
theorem Rows.ext {H H':aE}{v:Value}{xss:List (List Int)}(h:Rows H v xss)(he:Ext H H'):Rows H' v xss:=by
 obtain⟨us,h1,h2,h3⟩:=h
 exact⟨us,h1.ext he,h2,λi u xs hu hx=>(h3 i u xs hu hx).ext he⟩
theorem Rows.sB {H:aE}{v:Value}{xss:List (List Int)}(h:Rows H v xss):cH v=some (.I xss.length):=by
 obtain⟨us,h1,h2,h3⟩:=h;rw[h1.fD,h2]
theorem Rows.wS {H:aE}{v:Value}{xss:List (List Int)}(h:Rows H v xss){i:Nat}{xs:List Int}(hx:xss[i]? =some xs)(k:IntKind): ∃p u,cB 1 v (.int k i)=some p/\ld1 p H=some (u,H)/\Is H u xs:=by
 obtain⟨us,h1,h2,h3⟩:=h;have hi:=(aPN.mp hx).1;have hu:us[i]? =some us[i]:=aPP U
 obtain⟨b,o,g1,g2,g3⟩:=h1.fZ Vo hu k;have:=(g3 H rfl).2.1 0 us[i] rfl
 exact⟨_,_,g1,this,h3 i _ _ hu hx⟩
structure PlanD where
 nodes:Int
 edges:List Ed
 lanes:Int
 room:Int
 queue:Int
 rounds:Int
 every:Int
 bag:Int
 weights:List Int
 start:Int
 next:List (List Int)
def plC (p:PlanD)(ev wv nv:Value):List Value:=[.I p.nodes,ev,.I p.lanes,.I p.room,.I p.queue,.I p.rounds,.I p.every,.I p.bag,wv,.int .u16 p.start,nv]
def plV (p:PlanD)(ev wv nv:Value):Value:= .agg ⟨plC p ev wv nv⟩
def plB (p:PlanD)(ev wv nv:Value):Blk:= .cells (plC p ev wv nv) 28 .fix
structure PV (H:aE)(p:PlanD)(ev wv nv:Value):Prop where
 e:Es H ev p.edges
 w:Is H wv p.weights
 n:Rows H nv p.next
 be:p.edges.length<=17592186043000
 bw:p.weights.length<=17592186044500
 bn:p.next.length<=17592186043000
theorem PV.ext {H H':aE}{p:PlanD}{ev wv nv:Value}(h:PV H p ev wv nv)(he:Ext H H'):PV H' p ev wv nv:=⟨h.e.ext he,h.w.ext he,h.n.ext he,h.be,h.bw,h.bn⟩
theorem eZ (p:PlanD)(ev wv nv:Value):Blk.cells (plV p ev wv nv).cells.toList 28 .fix=plB p ev wv nv:=rfl
theorem dE {H:aE}{b:Nat}{p:PlanD}{ev wv nv:Value}(h:H[b]? =some (plB p ev wv nv))(j:Nat)(v:Value)(hv:(plC p ev wv nv)[j]? =some v):ld1 (.Q b j) H=some (v,H):=by
 rw[kC,h];unfold plB;rw[tR,hv,wI]
theorem fL {H:aE}{b:Nat}{p:PlanD}{ev wv nv:Value}(h:H[b]? =some (plB p ev wv nv)):ldN 11 (.Q b 0) H=some (plV p ev wv nv,H):=by
 rw[qU,h];unfold plB;rw[rW _ _ _ _ _ (by simp[plC])]
 rfl
theorem eL (H:aE)(x:Blk):(H++[x])[H.length]? =some x:=by simp
theorem dT {H H':aE}{b:Nat}{x:Blk}(h:H[b]? =some x)(he:Ext H H'):H'[b]? =some x:=by
 rw[he.2 b (aPN.mp h).1 id,h]
def wi (x lo hi:Int):Bool:=decide (lo<=x)&&decide (x<=hi)
def u7 (p:PlanD):Bool:=wi p.nodes 2 6&&(wi p.lanes 1 3&&(wi p.room 1 8&&(wi p.queue 1 8&&(wi p.rounds 1 4&&(wi p.every 1 8&&wi p.bag 1 64)))))
section
variable {H : aE} {m : Nat} {p : PlanD} {ev wv nv : Value}
theorem Vp (hm:0<m)(x lo hi:Int)(H:aE):lvl prog bL m (.func 121) [.I x,.I lo,.I hi] H=some (.bool (wi x lo hi),H):=by
 refine dI (fB rfl rfl) hm ?_;rw[aFU];unfold wi;by_cases h:lo<=x
 ·simp only[gsR,h,decide_true,aQa]
 ·simp only[gsR,h,decide_false,Bool.false_and]
theorem aHa (hm:1<m)(p:PlanD)(ev wv nv:Value):lvl prog bL m (.func 128) [plV p ev wv nv] H=some (.bool (u7 p),H++[plB p ev wv nv]):=by
 refine dI (fB rfl rfl) U ?_
 have w:=λx lo hi H=>Vp (m:=m-1) U x lo hi H
 have hb:=eL H (plB p ev wv nv);have l0:=dE hb 0 _ rfl;have l2:=dE hb 2 _ rfl;have l3:=dE hb 3 _ rfl;have l4:=dE hb 4 _ rfl;have l5:=dE hb 5 _ rfl;have l6:=dE hb 6 _ rfl;have l7:=dE hb 7 _ rfl;rw[aFW];unfold u7;cases c1:wi p.nodes 2 6 with
 |false=>simp only[gsR,eZ,w,l0,l2,l3,l4,l5,l6,c1,Bool.false_and,aQa]
 |true=>
   cases c2:wi p.lanes 1 3 with
   |false=>simp only[gsR,eZ,w,l0,l2,l3,l4,l5,l6,c1,c2,Bool.false_and,aQa]
   |true=>
     cases c3:wi p.room 1 8 with
     |false=>simp only[gsR,eZ,w,l0,l2,l3,l4,l5,l6,c1,c2,c3,Bool.false_and,aQa]
     |true=>
       cases c4:wi p.queue 1 8 with
       |false=>simp only[gsR,eZ,w,l0,l2,l3,l4,l5,l6,c1,c2,c3,c4,Bool.false_and,aQa]
       |true=>
         cases c5:wi p.rounds 1 4 with
         |false=>simp only[gsR,eZ,w,l0,l2,l3,l4,l5,l6,c1,c2,c3,c4,c5,Bool.false_and,aQa]
         |true=>
           cases c6:wi p.every 1 8 with
           |false=>simp only[gsR,eZ,w,l0,l2,l3,l4,l5,l6,c1,c2,c3,c4,c5,c6,Bool.false_and,aQa]
           |true=>
             simp only[gsR,eZ,w,l0,l2,l3,l4,l5,l6,l7,c1,c2,c3,c4,c5,c6,aQa]
def fst (p:Nat->Bool):Nat->Nat->Int
 |0,_=> -1
 |q+1,i=>if p i=true then i else fst p q (i+1)
theorem K6 (p:Nat->Bool): ∀q i,(0<=fst p q i)↔ ∃j,i<=j/\j<i+q/\p j=true
 |0,i=>by simp[fst];omega
 |q+1,i=>by
  unfold fst;by_cases h:p i=true
  ·rw[if_pos h]
   exact⟨λ_=>⟨i,by omega,by omega,h⟩,λ_=>by omega⟩
  ·rw[if_neg h,K6 p q (i+1)]
   constructor
   ·rintro ⟨j,h1,h2,h3⟩
    exact⟨j,by omega,by omega,h3⟩
   ·rintro ⟨j,h1,h2,h3⟩
    have:j≠i:=λhh=>h (hh▸h3)
    exact⟨j,by omega,by omega,h3⟩
theorem Dw (p:Nat->Bool)(n:Nat):decide (0<=fst p n 0)=(List.range n).any p:=by
 rw[Bool.eq_iff_iff,decide_eq_true_iff,K6,List.any_eq_true];constructor
 ·rintro ⟨j,h1,h2,h3⟩
  exact⟨j,aQr.mpr U,h3⟩
 ·rintro ⟨j,h1,h2⟩
  exact⟨j,by omega,by have:=aQr.mp h1;omega,h2⟩
theorem As {α:Type}(xs:List α)(q:α->Bool)(p:Nat->Bool)(h: ∀i x,xs[i]? =some x->p i=q x):(List.range xs.length).any p=xs.any q:=by
 rw[Bool.eq_iff_iff,List.any_eq_true,List.any_eq_true];constructor
 ·rintro ⟨i,h1,h2⟩
  have hi:=aQr.mp h1;have hx:xs[i]? =some xs[i]:=aPP hi
  exact⟨xs[i],List.getElem_mem hi,by rw[<-h i _ hx];exact h2⟩
 ·rintro ⟨x,h1,h2⟩
  obtain⟨i,hi⟩:=List.getElem?_of_mem h1
  exact⟨i,aQr.mpr (aPN.mp hi).1,by rw[h i x hi];exact h2⟩
theorem aG7 {v fv:Value}{n:Nat}(p:Nat->Bool)(hd: ∀i,i<n-> ∃a u,cB 1 v (.I (i:Nat))=some a/\ld1 a H=some (u,H)/\oA (lvl prog bL m) fv [u] H=some (.bool (p i),H))(hn:n<=72057594037927936): ∀(q i k:Nat),n-i=q->i<=n->q<k-> ∀(x2 x3 x4 x5 x6 x9 bG b9 aS aP aQ aO aT aU aR:Value),
  aJ k (aM prog (lvl prog bL m) (aJ m) J4) (Di (lvl prog bL m) (aJ m)) [v,fv,x2,x3,x4,x5,x6,(.I n),(.I (i:Nat)),x9,bG,b9,aS,aP,aQ,aO,aT,aU,aR] H=some (.I (fst p q i),H):=by
 intro q;induction q with
 |zero=>
  intro i k hr hi hk;intros;obtain⟨k,rfl⟩:=aB k U
  obtain rfl:i=n:=U
  have e:decide ((i:Int)<i)=false:=by simp
  rw[cU,Ut];simp only[gsR,e];rw[aF1];rfl
 |succ q ih=>
  intro i k hr hi hk;intros;obtain⟨k,rfl⟩:=aB k U
  have e:decide ((i:Int)<n)=true:=by simp;omega
  have e3:=aA (i:=i) U
  obtain⟨a,u,g1,g2,g3⟩:=hd i U
  rw[cU,Ut];unfold fst;cases h:p i with
  |true=>
   rw[h] at g3;simp only[gsR,e,g1,g2,g3,if_true];rw[aF3];rfl
  |false=>
   rw[h] at g3;simp only[gsR,e,g1,g2,g3,cO,e3,Bool.false_eq_true,if_false];exact ih (i+1) k U U U ..
theorem Vn {v fv:Value}{n:Nat}(p:Nat->Bool)(hl:cH v=some (.I n))(hn:n+10<m)(hm:m<=72057594037927936)(hd: ∀i,i<n-> ∃a u,cB 1 v (.I (i:Nat))=some a/\ld1 a H=some (u,H)/\oA (lvl prog bL (m-1-1)) fv [u] H=some (.bool (p i),H)):
  lvl prog bL m (.func 80) [v,fv] H=some (.bool ((List.range n).any p),H):=by
 have g:lvl prog bL (m-1) (.func 133) [v,fv] H=some (.I (fst p n 0),H):=by
  refine dI (fB rfl rfl) U ?_
  rw[aF2];simp only[gsR,hl];exact aG7 p hd U n 0 (m-1-1) U U U ..
 refine dI (fB rfl rfl) U ?_
 rw[aGK];simp only[gsR,g,Dw]
theorem aG8 {v fv:Value}{n:Nat}(p:Nat->Bool)(hd: ∀i,i<n-> ∃a u,cB 1 v (.I (i:Nat))=some a/\ld1 a H=some (u,H)/\oA (lvl prog bL m) fv [u] H=some (.bool (p i),H))(hn:n<=72057594037927936): ∀(q i k:Nat),n-i=q->i<=n->q<k-> ∀(x2 x3 x4 x5 x6 x9 bG b9 aS aP aQ aO aT aU aR:Value),
  aJ k (aM prog (lvl prog bL m) (aJ m) Kd) (Dm (lvl prog bL m) (aJ m)) [v,fv,x2,x3,x4,x5,x6,(.I n),(.I (i:Nat)),x9,bG,b9,aS,aP,aQ,aO,aT,aU,aR] H=some (.I (fst p q i),H):=by
 intro q;induction q with
 |zero=>
  intro i k hr hi hk;intros;obtain⟨k,rfl⟩:=aB k U
  obtain rfl:i=n:=U
  have e:decide ((i:Int)<i)=false:=by simp
  rw[cU,U1];simp only[gsR,e];rw[aGh];rfl
 |succ q ih=>
  intro i k hr hi hk;intros;obtain⟨k,rfl⟩:=aB k U
  have e:decide ((i:Int)<n)=true:=by simp;omega
  have e3:=aA (i:=i) U
  obtain⟨a,u,g1,g2,g3⟩:=hd i U
  rw[cU,U1];unfold fst;cases h:p i with
  |true=>
   rw[h] at g3;simp only[gsR,e,g1,g2,g3,if_true];rw[aGj];rfl
  |false=>
   rw[h] at g3;simp only[gsR,e,g1,g2,g3,cO,e3,Bool.false_eq_true,if_false];exact ih (i+1) k U U U ..
theorem aG3 {v fv:Value}{n:Nat}(p:Nat->Bool)(hl:cH v=some (.I n))(hn:n+10<m)(hm:m<=72057594037927936)(hd: ∀i,i<n-> ∃a u,cB 1 v (.I (i:Nat))=some a/\ld1 a H=some (u,H)/\oA (lvl prog bL (m-1-1)) fv [u] H=some (.bool (p i),H)):
  lvl prog bL m (.func 130) [v,fv] H=some (.bool ((List.range n).any p),H):=by
 have g:lvl prog bL (m-1) (.func 160) [v,fv] H=some (.I (fst p n 0),H):=by
  refine dI (fB rfl rfl) U ?_
  rw[aGi];simp only[gsR,hl];exact aG8 p hd U n 0 (m-1-1) U U U ..
 refine dI (fB rfl rfl) U ?_
 rw[aFZ];simp only[gsR,g,Dw]
theorem Du (a b:Ed):bin prog .eql 34 (edV a) (edV b)=some (.bool (a==b)):=by
 have k:sK prog 34=some [true,true]:=by kernel_rfl
 obtain⟨a1,a2⟩:=a;obtain⟨b1,b2⟩:=b;simp[bin,edV,eG,o5,k,eqT,edC];rfl
theorem aG9 {v:Value}{xs:List Ed}{a:Nat}{y:Ed}(hx:Es H v xs)(ha:H[a]? =some (.cells (edC y) 34 .fix))(hn:xs.length<=72057594037927936): ∀(q i k:Nat),xs.length-i=q->i<=xs.length->q<k-> ∀(x1 x2 x4 x5 x6 x9 bG b9 aS aP aQ aO aT aU aR:Value),
  aJ k (aM prog (lvl prog bL m) (aJ m) Ks) (Dq (lvl prog bL m) (aJ m)) [v,x1,x2,(.pointer (some ⟨a,0,none⟩)),x4,x5,x6,(.int .i64 xs.length),(.int .i64 (i:Nat)),x9,bG,b9,aS,aP,aQ,aO,aT,aU,aR] H=some (.int .i64 (fst (λj=>xs[j]? ==some y) q i),H):=by
 intro q;have la:ldN 2 (.Q a 0) H=some (edV y,H):=by
  rw[qU,ha,rW _ _ _ _ _ (by simp[edC])]
  rfl
 induction q with
 |zero=>
  intro i k hr hi hk;intros;obtain⟨k,rfl⟩:=aB k U
  obtain rfl:i=xs.length:=U
  have e:decide ((xs.length:Int)<xs.length)=false:=by simp
  rw[cU,U9];simp only[gsR,e];rw[aGw];rfl
 |succ q ih=>
  intro i k hr hi hk;intros;obtain⟨k,rfl⟩:=aB k U
  have e:decide ((i:Int)<xs.length)=true:=by simp;omega
  have e3:=aA (i:=i) U
  have hxi:xs[i]? =some xs[i]:=aPP U
  obtain⟨b,o,g1,g2,g3⟩:=hx.fZ oS hxi .i64;have l1:ldN 2 (.Q b o) H=some (edV xs[i],H):=(g3 H rfl).1;rw[cU,U9];unfold fst;by_cases h:y=xs[i]
  ·have d:(y==xs[i])=true:=by rw[h];simp
   have d2:(xs[i]? ==some y)=true:=by rw[hxi,h];simp
   simp only[gsR,e,la,g1,l1,Du,d];rw[aGy,if_pos d2];rfl
  ·have d:(y==xs[i])=false:=by simpa using h
   have d2: ¬(xs[i]? ==some y)=true:=by rw[hxi];simpa using λhh=>h hh.symm
   simp only[gsR,e,la,g1,l1,Du,d,cO,e3];rw[if_neg d2];exact ih (i+1) k U U U ..
theorem aG6 {v:Value}{xs:List Ed}(hx:Es H v xs)(y:Ed)(hn:xs.length+10<m)(hm:m<=72057594037927936): ∃H',lvl prog bL m (.func 159) [v,edV y] H=some (.bool (xs.any λx=>x==y),H')/\Ext H H':=by
 have c:Blk.cells (edV y).cells.toList 34 .fix= .cells (edC y) 34 .fix:=rfl;have b0:=eL H (.cells (edC y) 34 .fix);have l0:ldN 2 (.pointer (some ⟨H.length,0,none⟩)) (H++[.cells (edC y) 34 .fix])=some (edV y,H++[.cells (edC y) 34 .fix]):=by
  rw[qU,b0,rW _ _ _ _ _ (by simp[edC])]
  rfl
 obtain⟨H1,hH1⟩:=aD (H++[Blk.cells (edC y) 34 .fix]);have x1:Ext H H1:=by rw[hH1];exact Fr.app _ _ _
 have x2:Ext H (H1++[.cells (edC y) 34 .fix]):=x1.tr (Fr.app _ _ _);have hx2:=hx.ext x2;have hlen:=hx.fD;have g:lvl prog bL (m-1) (.func 182) [v,edV y] H1=some (.I (fst (λj=>xs[j]? ==some y) xs.length 0),H1++[.cells (edC y) 34 .fix]):=by
  refine dI (fB rfl rfl) U ?_
  rw[aGx];simp only[gsR,c,hlen];exact aG9 hx2 (eL H1 _) U xs.length 0 (m-1-1) U U U ..
 refine⟨_,dI (fB rfl rfl) U ?_,x2⟩
 rw[aGe];have hb:decide (0<=fst (λj=>xs[j]? ==some y) xs.length 0)=xs.any λx=>x==y:=by
  rw[Dw];exact As xs _ _ λi x h=>by rw[h];rfl
 rw[<-hH1] at l0;simp only[gsR,c,<-hH1,l0,g,hb]
def qD (n:Int):List Ed->List Ed->Bool
 |_,[]=>true
 |old,e::r=>(!(decide (e.1<0)||(decide (e.2<=e.1)||(decide (n<=e.2)||old.any λx=>x==e))))&&qD n (old++[e]) r
def tV (p:PlanD):Bool:=qD p.nodes [] p.edges&&decide ((p.edges.length:Int)<=15)
theorem aG5 {a:Nat}(hx:Es H ev p.edges)(hn:p.edges.length+20<m)(hm:m<=72057594037927936): ∀(q i k:Nat)(H':aE),p.edges.length-i=q->i<=p.edges.length->q<k->Ext H H'->H'[a]? =some (plB p ev wv nv)-> ∀(x0 x3 x4 x5 x9 bG b9 aS aP aQ aO aT aU aR bA bK bX bJ bE aV aW aX aY aZ bB bC bH bI bM bN bO bP bQ bR bS bT bU bY:Value),
  ∃H2,aJ k (aM prog (lvl prog bL m) (aJ m) J3) (Dg (lvl prog bL m) (aJ m)) [x0,(.Q a 0),(.bool false),x3,x4,x5,ev,(.I p.edges.length),(.I (i:Nat)),x9,bG,b9,aS,aP,aQ,aO,aT,aU,aR,bA,bK,bX,bJ,bE,aV,aW,aX,aY,aZ,bB,bC,bH,bI,bM,bN,bO,bP,bQ,bR,bS,bT,bU,bY] H'=some (.bool (qD p.nodes (p.edges.take i) (p.edges.drop i)&&decide ((p.edges.length:Int)<=15)),H2)/\Ext H H2:=by
 intro q;induction q with
 |zero=>
  intro i k H' hr hi hk he ha;intros;obtain⟨k,rfl⟩:=aB k U
  obtain rfl:i=p.edges.length:=U
  have e:decide ((p.edges.length:Int)<p.edges.length)=false:=by simp
  have l1:=dE ha 1 _ rfl;have hlen:=hx.fD;refine⟨H',?_,he⟩;rw[cU,Ur];simp only[gsR,e];rw[aFX];rw[List.drop_length,qD,aQa];simp only[gsR,l1,hlen]
 |succ q ih=>
  intro i k H' hr hi hk he ha;intros;obtain⟨k,rfl⟩:=aB k U
  have e:decide ((i:Int)<p.edges.length)=true:=by simp;omega
  have e3:=aA (i:=i) U
  have hxi:p.edges[i]? =some p.edges[i]:=aPP U
  obtain⟨b,o,g1,g2,g3⟩:=(hx.ext he).fZ oS hxi .i64;obtain⟨y,hy⟩:=aD (p.edges[i]);have l1:ldN 2 (.Q b o) H'=some (edV y,H'):=by rw[hy];exact(g3 H' rfl).1
  have hdrop:p.edges.drop i=y::p.edges.drop (i+1):=by rw[hy];exact List.drop_eq_getElem_cons U
  have htake:p.edges.take i++[y]=p.edges.take (i+1):=by rw[List.take_add_one,hxi,hy];rfl
  have z:Blk.cells [Value.int .i64 0,.int .i64 0] 34 .fix= .cells (edC (0,0)) 34 .fix:=rfl;have st:stN 2 (.pointer (some ⟨H'.length,0,none⟩)) (edV y) (H'++[.cells (edC (0,0)) 34 .fix])=some (undef,H'++[.cells (edC y) 34 .fix]):=by
   rw[mB 2 _ _ _ rfl,eL,nG _ _ _ _ _ _ aC (by simp[edC,edV,Value.cells]) rfl]
   simp[edC,edV,Value.cells,eK]
  obtain⟨H1,hH1⟩:=aD (H'++[Blk.cells (edC y) 34 .fix]);rw[<-hH1] at st;have x1:Ext H' H1:=by rw[hH1];exact Fr.app _ _ _
  have hb1:H1[H'.length]? =some (.cells (edC y) 34 .fix):=by rw[hH1];exact eL _ _
  have la:ld1 (.Q H'.length 0) H1=some (.I y.1,H1):=by rw[kC,hb1];rfl
  have lb:ld1 (.Q H'.length 1) H1=some (.I y.2,H1):=by rw[kC,hb1];rfl
  have lab:ldN 2 (.Q H'.length 0) H1=some (edV y,H1):=by
   rw[qU,hb1,rW _ _ _ _ _ (by simp[edC])]
   rfl
  have ha1:=dT ha x1;have p0:=dE ha1 0 _ rfl;have p1:=dE ha1 1 _ rfl;obtain⟨v',s1,s2,s3⟩:=((hx.ext he).ext x1).C6 (P:=prog) oS K7 (λh=>by have:=congrArg List.length h;simp only[List.length_nil] at this;omega) (lo:=none) rfl (mN p.edges.length .i64 i) (Nat.zero_le _) U
  rw[List.drop_zero] at s2;obtain⟨H2,t1,t2⟩:=aG6 s2 y (m:=m) (by rw[List.length_take];omega) hm
  rw[cU,Ur,hdrop,qD,htake];by_cases c1:y.1<0
  ·refine⟨H1,?_,he.tr x1⟩
   simp only[gsR,e,g1,l1,z,st,la,lb,c1,decide_true,Bool.true_or,Bool.false_and];rw[Dh];rfl
  ·by_cases c2:y.2<=y.1
   ·refine⟨H1,?_,he.tr x1⟩
    simp only[gsR,e,g1,l1,z,st,la,lb,c1,c2,decide_true,decide_false,Bool.false_or,Bool.true_or,Bool.false_and];rw[Dh];rfl
   ·by_cases c3:p.nodes<=y.2
    ·refine⟨H1,?_,he.tr x1⟩
     simp only[gsR,e,g1,l1,z,st,la,lb,p0,c1,c2,c3,decide_true,decide_false,Bool.false_or,Bool.true_or,Bool.false_and];rw[Dh];rfl
    ·cases c4:(p.edges.take i).any λx=>x==y with
     |true=>
      rw[c4] at t1;refine⟨H2,?_,(he.tr x1).tr t2⟩;simp only[gsR,e,g1,l1,z,st,la,lb,lab,p0,p1,s1,t1,c1,c2,c3,decide_true,decide_false,Bool.false_or,Bool.false_and];rw[Dh];rfl
     |false=>
      rw[c4] at t1;simp only[gsR,e,g1,l1,z,st,la,lb,lab,p0,p1,s1,t1,c1,c2,c3,decide_false,Bool.false_or,aQa,cO,e3];exact ih (i+1) k H2 U U U ((he.tr x1).tr t2) (dT ha1 t2) ..
theorem aG4 (hp:PV H p ev wv nv)(hn:p.edges.length+20<m-1)(hm:m<=72057594037927936): ∃H',lvl prog bL m (.func 129) [plV p ev wv nv] H=some (.bool (tV p),H')/\Ext H H':=by
 refine jQ (fB rfl rfl) U ?_
 have hb:=eL H (plB p ev wv nv);have l1:=dE hb 1 _ rfl;have hlen:=hp.e.fD;rw[aFY];simp only[gsR,eZ,l1,hlen];exact aG5 hp.e (m:=m-1) hn U p.edges.length 0 (m-1) _ U U U (Fr.app _ _ _) hb ..
end
def mY (n:Int):Bool:=decide (n<1)||decide (5<n)
def wOk (ws:List Int):Bool:= !(decide ((ws.length:Int)=0)||(decide ((3:Int)<ws.length)||ws.any mY))
def u9 (p:PlanD):Bool:= !(p.next.any λr=>decide ((r.length:Int)≠p.nodes))
def kM (p:PlanD):Bool:=u7 p&&(tV p&&(decide ((p.weights.length:Int)=p.lanes)&&(wOk p.weights&&(decide ((p.next.length:Int)=p.nodes)&&u9 p))))
def nI (b:Bool):Int:=if b=true then 0 else 120
section
variable {H : aE} {m : Nat} {p : PlanD} {ev wv nv : Value}
theorem Vs (hm:0<m)(n:Int)(H:aE):lvl prog bL m (.func 79) [.I n] H=some (.bool (mY n),H):=by
 refine dI (fB rfl rfl) hm ?_;rw[aGJ];unfold mY;by_cases h:n<1
 ·simp only[gsR,h,decide_true,Bool.true_or]
 ·simp only[gsR,h,decide_false,Bool.false_or]
theorem aHb (b o n c:Nat):bin prog .eql 25 (.slice (some ⟨b,o,none⟩) n c) (.slice none 0 0)=some (.bool false):=by
 have h1:prog.underlying 25=some (.slice 3):=by kernel_rfl
 simp[bin,eG,o5,nF,eqV,h1]
theorem Dx {v:Value}{xs:List Int}(hx:Is H v xs)(hne:xs≠[])(hl:xs.length<=1000)(hm:0<m): ∃H' u,lvl prog bL m (.func 81) [v] H=some (u,H')/\Ext H H'/\Iw H' u xs/\New H u:=by
 have hv: ∃b o c,v= .slice (some ⟨b,o,none⟩) xs.length c:=by
  rcases hx with⟨_,h⟩|⟨b,o,cap,h,_⟩
  ·exact absurd h hne
  ·exact⟨b,o,cap,h⟩
 have b0:dG 3 1 0 [.I 0] [] H=some (.slice (some ⟨H.length,0,none⟩) 0 0,H++[.cells [] 3 .row]):=rfl;have h0:Iw (H++[.cells [] 3 .row]) (.slice (some ⟨H.length,0,none⟩) 0 0) []:=⟨rfl,.inr ⟨H.length,0,[],rfl,aPS _,rfl,by simp⟩⟩
 obtain⟨u,H',g1,g2,g3,g4⟩:=h0.rY fA lD aC (by':=8) (H0:=H) (hx.ext (Fr.app _ _ _)) (λb ⟨_,_,_,h⟩=>by cases h;exact aPS _) (Fr.app _ _ _) (fV (n:=1000) aC (by simp;omega))
 refine fJ (fB rfl rfl) U ⟨H',u,?_,g4,g2,g3⟩
 obtain⟨b,o,c,rfl⟩:=hv;rw[aGL];simp only[gsR,aHb,b0,g1]
theorem ePW (a:Addr):bin prog .eql 90 (.pointer (some a)) (.pointer none)=some (.bool false):=zY 90 171 (by kernel_rfl) a
theorem K8:bin prog .eql 90 (.pointer none) (.pointer none)=some (.bool true):=I6 90 171 (by kernel_rfl)
theorem aHc {v:Value}{ws:List Int}(hw:Is H v ws)(hl:ws.length<=17592186044500)(hm:ws.length+100<m)(hm2:m<=72057594037927936): ∃H' u,lvl prog bL m (.func 36) [v] H=some (u,H')/\Ext H H'/\bin prog .eql 90 u (.pointer none)=some (.bool (!wOk ws)):=by
 have hlen:=hw.fD;have hcf:lvl prog bL (m-1) (.func 80) [v,.func (.func 79) #[] #[]] H=some (.bool (ws.any mY),H):=by
  have:=Vn (H:=H) (m:=m-1) (v:=v) (fv:= .func (.func 79) #[] #[]) (n:=ws.length) (λi=>(ws[i]?.map mY).getD false) hlen U U (λi hi=>by
   have hx:ws[i]? =some ws[i]:=aPP hi;obtain⟨b,o,g1,g2,g3⟩:=hw.fZ fA hx .i64;have l1:=(g3 H rfl).2.1 0 _ rfl;refine⟨_,_,g1,l1,?_⟩;have:=Vs (m:=m-1-1-1) U ws[i] H
   rw[hx];exact this)
  rw[this,As ws mY _ λi x h=>by rw[h];rfl]
 by_cases c1:(ws.length:Int)=0
 ·have e1:((ws.length:Int)==0)=true:=by simpa using c1
  have hno:wOk ws=false:=by unfold wOk;simp only[c1,decide_true,Bool.true_or,Bool.not_true]
  refine fJ (fB rfl rfl) U ⟨H,.pointer none,?_,Fr.iQ _ _,by rw[hno];exact K8⟩
  rw[Aq];simp only[gsR,hlen,e1]
 ·have e1:((ws.length:Int)==0)=false:=by simpa using c1
  by_cases c2:(3:Int)<ws.length
  ·have hno:wOk ws=false:=by unfold wOk;simp only[c2,decide_true,Bool.true_or,Bool.or_true,Bool.not_true]
   refine fJ (fB rfl rfl) U ⟨H,.pointer none,?_,Fr.iQ _ _,by rw[hno];exact K8⟩
   rw[Aq];simp only[gsR,hlen,e1,c2,decide_true]
  ·cases c3:ws.any mY with
   |true=>
    have hno:wOk ws=false:=by unfold wOk;simp only[c3,Bool.or_true,Bool.not_true]
    rw[c3] at hcf;refine fJ (fB rfl rfl) U ⟨H,.pointer none,?_,Fr.iQ _ _,by rw[hno];exact K8⟩
    rw[Aq];simp only[gsR,hlen,e1,c2,decide_false,hcf]
   |false=>
    have hyes:wOk ws=true:=by unfold wOk;simp only[c1,c2,c3,decide_false,Bool.or_false,Bool.not_false]
    rw[c3] at hcf;obtain⟨H1,u1,g1,g2,g3,g4⟩:=Dx (m:=m-1) hw (λh=>c1 (by rw[h];rfl)) U U
    obtain⟨H2,u2,q1,q2,q3,q4⟩:=Dx (m:=m-1) (hw.ext g2) (λh=>c1 (by rw[h];rfl)) U U
    have hb:bld prog 171 [(0,u1),(1,u2)]=some (.agg #[u1,u2,.I 0]):=by
     rcases g3 with⟨_,⟨rfl,_⟩|⟨_,_,_,rfl,_⟩⟩<;>rcases q3 with⟨_,⟨rfl,_⟩|⟨_,_,_,rfl,_⟩⟩<;>rfl
    refine fJ (fB rfl rfl) U ⟨H2++[.cells (Value.agg #[u1,u2,.I 0]).cells.toList 171 .fix],.Q H2.length 0,?_,(g2.tr q2).tr (Fr.app _ _ _),by rw[hyes];exact ePW _⟩
    rw[Aq];simp only[gsR,hlen,e1,c2,decide_false,hcf,g1,q1,hb]
theorem Vq (hp:PV H p ev wv nv)(hm:17592186045000<m)(hm2:m<=72057594037927936): ∃H',lvl prog bL m (.func 75) [plV p ev wv nv] H=some (.int .u16 (nI (kM p)),H')/\Ext H H':=by
 have h1:=hp.be;have h2:=hp.bw;have h3:=hp.bn;obtain⟨H0,hH0⟩:=aD (H++[plB p ev wv nv]);have x0:Ext H H0:=by rw[hH0];exact Fr.app _ _ _
 have b0:H0[H.length]? =some (plB p ev wv nv):=by rw[hH0];exact eL _ _
 have l11:=fL b0;have g1:=aHa (H:=H0) (m:=m-1) U p ev wv nv
 obtain⟨H1,hH1⟩:=aD (H0++[plB p ev wv nv]);have x1:Ext H0 H1:=by rw[hH1];exact Fr.app _ _ _
 rw[<-hH1] at g1;have b1:=dT b0 x1;have l11':=fL b1;obtain⟨H2,g2,x2⟩:=aG4 (m:=m-1) (hp.ext (x0.tr x1)) U U
 have b2:=dT b1 x2;have w2:=dE b2 8 _ rfl;have la2:=dE b2 2 _ rfl;have p2:=hp.ext ((x0.tr x1).tr x2);have wl:=p2.w.fD;obtain⟨H3,u3,g3,x3,g4⟩:=aHc p2.w (m:=m-1) U U U
 have b3:=dT b2 x3;have n3:=dE b3 10 _ rfl;have no3:=dE b3 0 _ rfl;have p3:=p2.ext x3;have nl:=p3.n.sB;have hcf:lvl prog bL (m-1) (.func 130) [nv,.func (.func 127) #[] #[.pointer (some ⟨H.length,0,none⟩)]] H3=some (.bool (p.next.any λr=>decide ((r.length:Int)≠p.nodes)),H3):=by
  have:=aG3 (H:=H3) (m:=m-1) (v:=nv) (fv:= .func (.func 127) #[] #[.pointer (some ⟨H.length,0,none⟩)]) (n:=p.next.length) (λi=>(p.next[i]?.map λr=>decide ((r.length:Int)≠p.nodes)).getD false) nl U U (λi hi=>by
   have hx:p.next[i]? =some p.next[i]:=aPP hi;obtain⟨a,u,q1,q2,q3⟩:=p3.n.wS hx .i64;refine⟨a,u,q1,q2,?_⟩;have hlen:=q3.fD;have:lvl prog bL (m-1-1-1+0) (.func 127) [u,.Q H.length 0] H3=some (.bool (decide ((p.next[i].length:Int)≠p.nodes)),H3):=by
    refine dI (fB rfl rfl) U ?_
    rw[aFV];have e:(((p.next[i].length:Nat):Int)!=p.nodes)=decide ((p.next[i].length:Int)≠p.nodes):=by
     rw[Bool.eq_iff_iff];simp
    simp only[gsR,hlen,no3,e]
   rw[hx];exact this)
  rw[this,As p.next (λr=>decide ((r.length:Int)≠p.nodes)) _ λi x h=>by rw[h];rfl]
 have hn1:((p.weights.length:Int)!=p.lanes)= !decide ((p.weights.length:Int)=p.lanes):=by rw[Bool.eq_iff_iff];simp
 have hn2:((p.next.length:Int)!=p.nodes)= !decide ((p.next.length:Int)=p.nodes):=by rw[Bool.eq_iff_iff];simp
 have hr:(p.next.any λr=>decide ((r.length:Int)≠p.nodes))= !u9 p:=by unfold u9;rw[Bool.not_not]
 rw[hr] at hcf;have hz:nI false=120:=rfl;have hz1:nI true=0:=rfl;refine jQ (fB rfl rfl) U ?_
 rw[aGI];unfold kM;cases c1:u7 p with
 |false=>exact⟨H1,by simp only[gsR,eZ,<-hH0,l11,g1,c1,hz,hz1,Bool.false_and,aQa],x0.tr x1⟩
 |true=>
   cases c2:tV p with
   |false=>exact⟨H2,by simp only[gsR,eZ,<-hH0,l11,g1,l11',g2,c1,c2,hz,hz1,Bool.false_and,aQa],(x0.tr x1).tr x2⟩
   |true=>
     cases c3:decide ((p.weights.length:Int)=p.lanes) with
     |false=>exact⟨H2,by simp only[gsR,eZ,<-hH0,l11,g1,l11',g2,w2,wl,la2,hn1,c1,c2,c3,hz,hz1,Bool.false_and,aQa],(x0.tr x1).tr x2⟩
     |true=>
       cases c4:wOk p.weights with
       |false=>exact⟨H3,by simp only[gsR,eZ,<-hH0,l11,g1,l11',g2,w2,wl,la2,hn1,g3,g4,c1,c2,c3,c4,hz,hz1,Bool.false_and,aQa],((x0.tr x1).tr x2).tr x3⟩
       |true=>
         cases c5:decide ((p.next.length:Int)=p.nodes) with
         |false=>exact⟨H3,by simp only[gsR,eZ,<-hH0,l11,g1,l11',g2,w2,wl,la2,hn1,g3,g4,n3,nl,no3,hn2,c1,c2,c3,c4,c5,hz,hz1,Bool.false_and,aQa],((x0.tr x1).tr x2).tr x3⟩
         |true=>
           cases c6:u9 p with
           |false=>exact⟨H3,by simp only[gsR,eZ,<-hH0,l11,g1,l11',g2,w2,wl,la2,hn1,g3,g4,n3,nl,no3,hn2,hcf,c1,c2,c3,c4,c5,c6,hz,hz1,Bool.false_and,aQa],((x0.tr x1).tr x2).tr x3⟩
           |true=>
             exact⟨H3,by simp only[gsR,eZ,<-hH0,l11,g1,l11',g2,w2,wl,la2,hn1,g3,g4,n3,nl,no3,hn2,hcf,c1,c2,c3,c4,c5,c6,hz,hz1,Bool.false_and,aQa],((x0.tr x1).tr x2).tr x3⟩
end
def dd:List Int->List Int
 |[]=>[]
 |[x]=>[x]
 |x::y::r=>if x=y then dd (y::r) else x::dd (y::r)
theorem Vx: ∀(l:List Int)(a b:Int),dd (l++[a,b])=if a=b then dd (l++[a]) else dd (l++[a])++[b]
 |[],a,b=>by
  by_cases h:a=b<;>simp[dd,h]
 |[x],a,b=>by
  by_cases h:a=b<;>by_cases h2:x=a<;>simp[dd,h,h2]<;>simp_all
 |x::y::l,a,b=>by
  have ih:=Vx (y::l) a b;simp only[List.cons_append] at ih⊢;simp only[dd];by_cases h2:x=y
  ·rw[if_pos h2,if_pos h2,ih]
  ·rw[if_neg h2,if_neg h2,ih]
   by_cases h:a=b
   ·rw[if_pos h,if_pos h]
   ·rw[if_neg h,if_neg h]
    rfl
theorem Vy {zs:List Int}{j:Nat}{a b:Int}(h0:0<j)(ha:zs[j-1]? =some a)(hb:zs[j]? =some b):dd (zs.take (j+1))=if b=a then dd (zs.take j) else dd (zs.take j)++[b]:=by
 have e1:zs.take j=zs.take (j-1)++[a]:=by
  have:=List.take_add_one (l:=zs) (i:=j-1);rw[ha,show j-1+1=j by omega] at this
  simpa using this
 have e2:zs.take (j+1)=zs.take (j-1)++[a,b]:=by
  rw[List.take_add_one,hb,e1];simp
 rw[e2,Vx,<-e1];by_cases h:a=b
 ·rw[if_pos h,if_pos h.symm]
 ·rw[if_neg h,if_neg (Ne.symm h)]
theorem Vw: ∀l:List Int,(dd l).length<=l.length
 |[]=>aPS _
 |[x]=>aPS _
 |x::y::r=>by
  have:=Vw (y::r);unfold dd;split
  ·simp only[aP9] at *; omega
  ·simp only[aP9] at *; omega
section
variable {H : aE} {m c cap : Nat} {ys rest : List Value}
theorem ia {o n i:Nat}(h:i<n):cB 1 (.slice (some ⟨c,o,none⟩) n cap) (.I (i:Nat))=some (.Q c (o+i)):=by
 rw[p9 _ _ _ _ _ _ _ U U]
 simp
def nT (ys:List Int)(rest:List Value):Blk:= .cells (ys.map (Value.int .i64)++rest) 3 .row
theorem vA {ys:List Int}{i:Nat}{y:Int}(hc:H[c]? =some (nT ys rest))(hi:ys[i]? =some y):ld1 (.Q c i) H=some (.I y,H):=by
 have:=(aPN.mp hi).1;rw[kC,hc];unfold nT;rw[tR,aPQ (by rw[aP1];exact this),aP0,hi]
 rfl
theorem Lb {ys:List Int}{i:Nat}(y:Int)(hc:H[c]? =some (nT ys rest))(hi:i<ys.length):stN 1 (.Q c i) (.I y) H=some (undef,H.set c (nT (ys.set i y) rest)):=by
 rw[mB 1 _ _ _ rfl,hc];unfold nT;have e:(Value.I y).cells.toList=[.I y]:=rfl;rw[e,nG _ _ _ _ _ _ aC (by simp;omega) rfl]
 congr 3
 simp only[eK];rw[List.set_append_left _ _ (by rw[aP1];exact hi),<-List.map_set]
theorem aHe {zs ys:List Int}{k:Nat}(hc:H[c]? =some (nT ys rest))(hy:ys.length=zs.length)(hk:k<zs.length)(hcap:zs.length<=cap)(hrest:rest.length=cap-zs.length)(hd:ys.take k=dd zs):
  ∃w H',slc prog 1 (.slice (some ⟨c,0,none⟩) zs.length cap) (some (.I (k:Nat))) none none H=some (w,H)/\clr 1 [.I 0] w H=some (.tuple #[],H')/\
   slc prog 1 (.slice (some ⟨c,0,none⟩) zs.length cap) none (some (.I (k:Nat))) none H'=some (.slice (some ⟨c,0,none⟩) k cap,H')/\Iw H' (.slice (some ⟨c,0,none⟩) k cap) (dd zs)/\H'.length=H.length/\ ∀b,b≠c->H'[b]? =H[b]? :=by
 have hlt:=(aPN.mp hc).1;have g1:=sY (P:=prog) (H:=H) (o:=0) (sz:=1) (len:=zs.length) (cap:=cap) (lo:=some (.I (k:Nat))) (hi:=none) (mx:=none) (h:=zs.length) (m:=cap) (l:=k) hc (λ_=>szI) (mN 0 .i64 k) rfl rfl U U (aPS _)
 rw[aP8,Nat.mul_one] at g1;obtain⟨H',hH'⟩: ∃H',H'=H.set c (nT (ys.take k) ((List.replicate (zs.length-k) [Value.I 0]).flatten++rest)):=⟨_,rfl⟩;have hc':H'[c]? =some (nT (ys.take k) ((List.replicate (zs.length-k) [Value.I 0]).flatten++rest)):=by rw[hH'];exact aPT hlt
 have hyk:(ys.take k).length=k:=by rw[List.length_take];omega
 have g2:clr 1 [.I 0] (.slice (some ⟨c,k,none⟩) (zs.length-k) (cap-k)) H=some (.tuple #[],H'):=by
  unfold clr;simp only;rw[if_neg U,hc]
  unfold nT;simp only;rw[if_pos ⟨by decide,by simp;omega,rfl,rfl⟩,hH']
  congr 3
  unfold nT
  congr 1
  have hsplit:ys.map (Value.int .i64)=(ys.take k).map (Value.int .i64)++(ys.drop k).map (Value.int .i64):=by rw[<-List.map_append,List.take_append_drop]
  have hl:((List.replicate (zs.length-k) [Value.I 0]).flatten).length=zs.length-k:=by simp
  rw[hsplit];have:=uX ((List.replicate (zs.length-k) [Value.I 0]).flatten) ((ys.drop k).map (Value.int .i64)) ((ys.take k).map (Value.int .i64)) rest (by rw[hl,aP1,List.length_drop];omega)
  rw[aP1,hyk] at this;rw[this,aPU]
 have g3:=sY (P:=prog) (H:=H') (o:=0) (sz:=1) (len:=zs.length) (cap:=cap) (lo:=none) (hi:=some (.I (k:Nat))) (mx:=none) (h:=k) (m:=cap) (l:=0) hc' (λ_=>szI) rfl (mN _ .i64 k) rfl U U (aPS _)
 rw[Nat.zero_mul,aP8,Nat.sub_zero,Nat.sub_zero] at g3;refine⟨_,H',g1,g2,g3,?_,by rw[hH'];simp,λb hb=>by rw[hH'];exact aPO (Ne.symm hb)⟩
 have hdl:(dd zs).length=k:=by rw[<-hd,hyk]
 refine⟨by rw[tT,aP1,Nat.mul_one],.inr ⟨c,cap,(List.replicate (zs.length-k) [Value.I 0]).flatten++rest,by rw[hdl],by omega,?_,by rw[tT,hc',hd];rfl⟩⟩
 simp[hdl];omega
def Vt (H0:aE)(c cap:Nat)(zs:List Int)(v:Value)(H':aE):Prop:=Iw H' v (dd zs)/\(∀b,cV v b->b=c)/\H'.length=H0.length/\ ∀b,b≠c->H'[b]? =H0[b]?
theorem aHg {zs:List Int}{rest:List Value}{k0 kk:Nat}{H0:aE}{Q:aE->Value->Prop}(hQ: ∀H' v,Vt H0 c cap zs v H'->Q H' v)(hcap:zs.length<=cap)(hrest:rest.length=cap-zs.length)(hn:zs.length<=72057594037927936)(h1:1<=k0):
  ∀(q j t k:Nat)(H:aE)(ys:List Int),zs.length-j=q->j<=zs.length->q<k->k0<j->t<j->H[c]? =some (nT ys rest)->ys.length=zs.length->ys.take t=dd (zs.take j)->ys.drop t=zs.drop t->H.length=H0.length->(∀b,b≠c->H[b]? =H0[b]?)-> ∀(x1 x2 x6 x7 x8 x9 bG b9 aS aP aQ aO aT aU aR bA bK bX bJ bE aV aW aX aY aZ bB bC bH bI bM bN bO bP bQ bR bS bT bU bY cA cD cE cI cJ cN cP cK cQ cR cW dA cX cY dD dF dL dH:Value),
  ∃H' v,aJ k (aM prog (lvl prog bL m) (aJ m) K3) (K4 (lvl prog bL m) (aJ m) (wH kk (aM prog (lvl prog bL m) (aJ m) Dt) (Ar (lvl prog bL m) (aJ m)))) [(.slice (some ⟨c,0,none⟩) zs.length cap),x1,x2,(.I (t:Nat)),(.slice (some ⟨c,k0,none⟩) (zs.length-k0) (cap-k0)),(.I (j-k0:Nat)),x6,x7,x8,x9,bG,b9,aS,aP,aQ,aO,aT,aU,aR,bA,bK,bX,bJ,bE,aV,aW,aX,aY,aZ,bB,bC,bH,bI,bM,bN,bO,bP,bQ,bR,bS,bT,bU,bY,cA,cD,cE,cI,cJ,cN,cP,cK,cQ,cR,cW,dA,cX,cY,dD,dF,dL,dH] H=some (v,H')/\Q H' v:=by
 intro q;induction q with
 |zero=>
  intro j t k H ys hr hj hk hkj htj hc hy hd hdr hl hf;intros;obtain⟨k,rfl⟩:=aB k U
  obtain rfl:j=zs.length:=U
  rw[List.take_of_length_le (aPS _)] at hd;obtain⟨w,H',g1,g2,g3,g4,g5,g6⟩:=aHe hc hy htj hcap hrest hd;have e:decide (((zs.length-k0:Nat):Int)<(zs.length-k0:Nat))=false:=by simp
  refine⟨H',.slice (some ⟨c,0,none⟩) t cap,?_,hQ _ _ ⟨g4,λb ⟨_,_,_,h⟩=>by cases h;rfl,by omega,λb hb=>by rw[g6 b hb,hf b hb]⟩⟩
  rw[cU,Vh];simp only[gsR,uU,e];rw[aGN];simp only[gsR,g1,g2,g3];rw[aGP];rfl
 |succ q ih=>
  intro j t k H ys hr hj hk hkj htj hc hy hd hdr hl hf;intros;obtain⟨k,rfl⟩:=aB k U
  have e:decide (((j-k0:Nat):Int)<(zs.length-k0:Nat))=true:=by simp;omega
  have e3:IntKind.i64.wrap (((j-k0:Nat):Int)+1)=((j+1-k0:Nat):Int):=by rw[cZ U U];omega
  have e4:IntKind.i64.wrap (((j-k0:Nat):Int)-1)=((j-1-k0:Nat):Int):=by rw[cZ U U];omega
  have e5:=aA (i:=t) U
  have get: ∀i,t<=i->ys[i]? =zs[i]? :=λi hi=>by
   have:=congrArg (·[i-t]?) hdr
   simp only[List.getElem?_drop] at this;rwa [show t+(i-t)=i by omega] at this
  have ga:ys[j-1]? =some (zs[j-1]' U):=by rw[get _ U];exact aPP U
  have gb:ys[j]? =some (zs[j]' U):=by rw[get _ U];exact aPP U
  have i1:cB 1 (.slice (some ⟨c,k0,none⟩) (zs.length-k0) (cap-k0)) (.I (j-k0:Nat))=some (.Q c j):=by rw[ia U,show k0+(j-k0)=j by omega]
  have i2:cB 1 (.slice (some ⟨c,k0,none⟩) (zs.length-k0) (cap-k0)) (.I (j-1-k0:Nat))=some (.Q c (j-1)):=by rw[ia U,show k0+(j-1-k0)=j-1 by omega]
  have i3:cB 1 (.slice (some ⟨c,0,none⟩) zs.length cap) (.I (t:Nat))=some (.Q c t):=by rw[ia U,aP8]
  have l1:=vA hc gb;have l2:=vA hc ga;have s1:=Lb (i:=t) (zs[j]' U) hc U
  have hdt:=Vy (zs:=zs) (j:=j) U (aPP (show j-1<zs.length by omega)) (aPP (show j<zs.length by omega))
  rw[cU,Vh];by_cases hx:zs[j]' U=zs[j-1]' U
  ·have d:((zs[j]' U)!=(zs[j-1]' U))=false:=by simp[hx]
   rw[if_pos hx] at hdt;simp only[gsR,uU,e,i1,l1,iV,e4,i2,l2,d,cO,e3];exact ih (j+1) t k H ys U U U U U hc hy (by rw[hdt];exact hd) hdr hl hf ..
  ·have d:((zs[j]' U)!=(zs[j-1]' U))=true:=by simp[hx]
   rw[if_neg hx] at hdt;simp only[gsR,uU,e,i1,l1,iV,e4,i2,l2,d,i3,s1,cO,e3,e5];refine ih (j+1) (t+1) k _ (ys.set t (zs[j]' U)) U U U U U (aPT (aPN.mp hc).1) (by rw[List.length_set];exact hy) ?_ ?_ (by rw[List.length_set];exact hl) (λb hb=>by rw[aPO (Ne.symm hb)];exact hf b hb) ..
   ·rw[hdt,<-hd,List.take_add_one,aPT U,List.take_set_of_le (aPS _)]
    rfl
   ·rw[List.drop_set_of_lt U,<-aQv (i:=1),hdr,aQv]
theorem aHf {zs:List Int}{rest:List Value}{Q:aE->Value->Prop}(hQ: ∀H' v,Vt H c cap zs v H'->Q H' v)(hcap:zs.length<=cap)(hrest:rest.length=cap-zs.length)(hn:zs.length+10<m)(hm:m<=72057594037927936)(hc:H[c]? =some (nT zs rest)):
  ∀(q j k:Nat),zs.length-j=q->1<=j->j<=zs.length->q<k->dd (zs.take j)=zs.take j-> ∀(x1 x2 x4 x5 x6 x7 x8 x9 bG b9 aS aP aQ aO aT aU aR bA bK bX bJ bE aV aW aX aY aZ bB bC bH bI bM bN bO bP bQ bR bS bT bU bY cA cD cE cI cJ cN cP cK cQ cR cW dA cX cY dD dF dL dH:Value),
  ∃H' v,aJ k (aM prog (lvl prog bL m) (aJ m) Dt) (Ar (lvl prog bL m) (aJ m)) [(.slice (some ⟨c,0,none⟩) zs.length cap),x1,x2,(.I (j:Nat)),x4,x5,x6,x7,x8,x9,bG,b9,aS,aP,aQ,aO,aT,aU,aR,bA,bK,bX,bJ,bE,aV,aW,aX,aY,aZ,bB,bC,bH,bI,bM,bN,bO,bP,bQ,bR,bS,bT,bU,bY,cA,cD,cE,cI,cJ,cN,cP,cK,cQ,cR,cW,dA,cX,cY,dD,dF,dL,dH] H=some (v,H')/\Q H' v:=by
 intro q;induction q with
 |zero=>
  intro j k hr h1 hj hk hd;intros;obtain⟨k,rfl⟩:=aB k U
  obtain rfl:j=zs.length:=U
  rw[List.take_of_length_le (aPS _)] at hd;have e:decide ((zs.length:Int)<zs.length)=false:=by simp
  refine⟨H,.slice (some ⟨c,0,none⟩) zs.length cap,?_,hQ _ _ ⟨?_,λb ⟨_,_,_,h⟩=>by cases h;rfl,rfl,λb hb=>rfl⟩⟩
  ·rw[cU,Vg]
   simp only[gsR,uU,e];rw[aGM];rfl
  ·rw[hd]
   exact⟨by rw[tT,aP1,Nat.mul_one],.inr ⟨c,cap,rest,rfl,hcap,by rw[hrest,Nat.mul_one],by rw[tT,hc];rfl⟩⟩
 |succ q ih=>
  intro j k hr h1 hj hk hd;intros;obtain⟨k,rfl⟩:=aB k U
  have e:decide ((j:Int)<zs.length)=true:=by simp;omega
  have e3:=aA (i:=j) U
  have e4:IntKind.i64.wrap ((j:Int)-1)=((j-1:Nat):Int):=by rw[cZ U U];omega
  have i1:cB 1 (.slice (some ⟨c,0,none⟩) zs.length cap) (.I (j:Nat))=some (.Q c j):=by rw[ia U,aP8]
  have i2:cB 1 (.slice (some ⟨c,0,none⟩) zs.length cap) (.I (j-1:Nat))=some (.Q c (j-1)):=by rw[ia U,aP8]
  have ga:zs[j-1]? =some (zs[j-1]' U):=aPP U
  have gb:zs[j]? =some (zs[j]' U):=aPP U
  have l1:=vA hc gb;have l2:=vA hc ga;have hdt:=Vy (zs:=zs) (j:=j) U ga gb
  rw[cU,Vg];by_cases hx:zs[j]' U=zs[j-1]' U
  ·have d:((zs[j]' U)==(zs[j-1]' U))=true:=by simp[hx]
   have g1:=sY (P:=prog) (H:=H) (o:=0) (sz:=1) (len:=zs.length) (cap:=cap) (lo:=some (.I (j:Nat))) (hi:=none) (mx:=none) (h:=zs.length) (m:=cap) (l:=j) hc (λ_=>szI) (mN 0 .i64 j) rfl rfl U U (aPS _)
   rw[aP8,Nat.mul_one] at g1;rw[if_pos hx] at hdt;have e1:(1:Int)=((j+1-j:Nat):Int):=U
   simp only[gsR,uU,e,i1,l1,iV,e4,i2,l2,d,g1];have:=aHg (m:=m) (kk:=k) (H0:=H) (cap:=cap) (c:=c) (k0:=j) hQ hcap hrest U h1 (zs.length-(j+1)) (j+1) j m H zs rfl U U U U hc rfl (by rw[hdt,hd]) rfl rfl (λ_ _=>rfl)
   rw[<-e1] at this;exact this ..
  ·have d:((zs[j]' U)==(zs[j-1]' U))=false:=by simp[hx]
   rw[if_neg hx] at hdt;simp only[gsR,uU,e,i1,l1,iV,e4,i2,l2,d,cO,e3];exact ih (j+1) k U U U U (by rw[hdt,hd,List.take_add_one,gb];rfl) ..
theorem Vv {v:Value}{zs:List Int}{H0:aE}(hv:Iw H v zs)(hnew:New H0 v)(he:Ext H0 H)(hn:zs.length+20<m)(hm:m<=72057594037927936): ∃H' u,lvl prog bL m (.func 83) [v] H=some (u,H')/\Ext H0 H'/\Iw H' u (dd zs)/\New H0 u:=by
 have hlen:=hv.qZ;refine fJ (fB rfl rfl) U ?_
 rw[aGO];by_cases h2:zs.length<2
 ·have e:decide ((zs.length:Int)<2)=true:=by simp;omega
  have hd:dd zs=zs:=by
   match zs,h2 with
   |[],_=>rfl
   |[x],_=>rfl
   |x::y::r,h=>exact absurd h (by simp only[aP9];omega)
  refine⟨H,v,?_,he,by rw[hd];exact hv,hnew⟩
  simp only[gsR,hlen,e]
 ·have e:decide ((zs.length:Int)<2)=false:=by simp;omega
  obtain⟨hcs,⟨rfl,h0⟩|⟨c,cap,rest,rfl,h1,h2',h3⟩⟩:=hv
  ·omega
  ·rw[tT] at h3
   rw[Nat.mul_one] at h2';have hcl:=hnew c ⟨_,_,_,rfl⟩;simp only[gsR,hlen,e];have hd1:dd (zs.take 1)=zs.take 1:=by
    match zs with
    |[]=>rfl
    |x::r=>rfl
   refine aHf (λH' u hC=> ?_) h1 h2' U U h3 (zs.length-1) 1 (m-1) rfl (aPS _) U U hd1 ..
   obtain⟨g2,g3,g4,g5⟩:=hC;refine⟨⟨by rw[g4];exact he.1,λb hb _=> ?_⟩,g2,λb hb=>by rw[g3 b hb];exact hcl⟩
   rw[g5 b U,he.2 b hb id]
end
def mO (v:Int)(e:Ed):List Int:=if e.1=e.2 then [] else if e.1=v then [e.2] else if e.2=v then [e.1] else []
def kZ (es:List Ed)(v:Int):List Int:=es.flatMap (mO v)
def bes (es:List Ed)(v:Int):List Int:=dd (srt (kZ es v))
theorem Au (v:Int): ∀es:List Ed,(kZ es v).length<=es.length
 |[]=>aPS _
 |e::es=>by
  have:=Au v es;unfold kZ at*;rw[List.flatMap_cons,aPZ];have h1:(mO v e).length<=1:=by
   unfold mO;split
   ·simp
   ·split
    ·simp
    ·split<;>simp
  simp only[aP9];omega
theorem Vu {es:List Ed}{i:Nat}{e:Ed}(v:Int)(h:es[i]? =some e):kZ (es.take (i+1)) v=kZ (es.take i) v++mO v e:=by
 unfold kZ;rw[List.take_add_one,h];simp
theorem lU (H:aE)(k:Int):dG 3 1 1 [.I 0] [(0,.I k)] H=some (.slice (some ⟨H.length,0,none⟩) 1 1,H++[.cells (inC k) 3 .row]):=rfl
theorem zEd:Blk.cells [Value.int .i64 0,.int .i64 0] 34 .fix= .cells (edC (0,0)) 34 .fix:=rfl
def edB (y:Ed):Blk:= .cells (edC y) 34 .fix
theorem La (y:Ed)(H:aE):stN 2 (.Q H.length 0) (edV y) (H++[.cells (edC (0,0)) 34 .fix])=some (undef,H++[edB y]):=by
 rw[mB 2 _ _ _ rfl,eL,nG _ _ _ _ _ _ aC (by simp[edC,edV,Value.cells]) rfl]
 simp[edC,edV,Value.cells,eK,edB]
theorem Dy {H:aE}{b:Nat}{y:Ed}(h:H[b]? =some (edB y)):ld1 (.Q b 0) H=some (.I y.1,H):=by rw[kC,h];rfl
theorem Dz {H:aE}{b:Nat}{y:Ed}(h:H[b]? =some (edB y)):ld1 (.Q b 1) H=some (.I y.2,H):=by rw[kC,h];rfl
section
variable {H : aE} {m : Nat} {p : PlanD} {ev wv nv : Value}
theorem aHd {v:Int}{Q:aE->Value->Prop}(hQ: ∀H' u,Ext H H'->Iw H' u (bes p.edges v)->New H u->Q H' u)(hx:Es H ev p.edges)(hL:p.edges.length<=17592186043000)(hn:p.edges.length+30<m)(hm:m<=72057594037927936): ∀(q i k:Nat)(H1:aE)(acc:Value),p.edges.length-i=q->i<=p.edges.length->q<k->Ext H H1->Iw H1 acc (kZ (p.edges.take i) v)->New H acc-> ∀(x0 x2 x3 x4 x6 x7 x8 aS aP aQ aO aT aU aR bA bK bX bJ bE aV aW aX aY aZ bB bC bH bI bM bN bO bP bQ bR bS bT bU bY cA cD cE:Value),
  ∃H' u,aJ k (aM prog (lvl prog bL m) (aJ m) Kt) (Ku (lvl prog bL m) (aJ m)) [x0,(.I v),x2,x3,x4,acc,x6,x7,x8,ev,(.I p.edges.length),(.I (i:Nat)),aS,aP,aQ,aO,aT,aU,aR,bA,bK,bX,bJ,bE,aV,aW,aX,aY,aZ,bB,bC,bH,bI,bM,bN,bO,bP,bQ,bR,bS,bT,bU,bY,cA,cD,cE] H1=some (u,H')/\Q H' u:=by
 intro q;induction q with
 |zero=>
  intro i k H1 acc hr hi hk he ha hnew;intros;obtain⟨k,rfl⟩:=aB k U
  obtain rfl:i=p.edges.length:=U
  have e:decide ((p.edges.length:Int)<p.edges.length)=false:=by simp
  rw[List.take_of_length_le (aPS _)] at ha;have hcl:=Au v p.edges;obtain⟨H2,g1,g2,g3⟩:=Tu ha U hnew he
  have g1':=Vk m U [acc] H1
  rw[g1] at g1';have hsl:=qY (kZ p.edges v);obtain⟨H3,u,q1,q2,q3,q4⟩:=Vv (m:=m) g2 hnew g3 U U
  refine⟨H3,u,?_,hQ _ _ q2 q3 q4⟩;rw[cU,Va];simp only[gsR,e];rw[aGz];simp only[gsR,g1',q1]
 |succ q ih=>
  intro i k H1 acc hr hi hk he ha hnew;intros;obtain⟨k,rfl⟩:=aB k U
  have e:decide ((i:Int)<p.edges.length)=true:=by simp;omega
  have e3:=aA (i:=i) U
  have hxi:p.edges[i]? =some p.edges[i]:=aPP U
  obtain⟨b,o,g1,g2,g3⟩:=(hx.ext he).fZ oS hxi .i64;obtain⟨y,hy⟩:=aD (p.edges[i]);have l1:ldN 2 (.Q b o) H1=some (edV y,H1):=by rw[hy];exact(g3 H1 rfl).1
  rw[<-hy] at hxi;have hct:=Vu v hxi;have hcl:=Au v (p.edges.take i);rw[List.length_take] at hcl;have st:=La y H1;obtain⟨H2,hH2⟩:=aD (H1++[edB y]);rw[<-hH2] at st;have x1:Ext H1 H2:=by rw[hH2];exact Fr.app _ _ _
  have hb:H2[H1.length]? =some (edB y):=by rw[hH2];exact eL _ _
  have la:=Dy hb;have lb:=Dz hb;have ha2:Iw H2 acc (kZ (p.edges.take i) v):=by rw[hH2];exact ha.tS _
  rw[cU,Va];by_cases c1:y.1=y.2
  ·have d1:(y.1==y.2)=true:=by simpa using c1
   have hc0:mO v y=[]:=if_pos c1;rw[hc0,List.append_nil] at hct;simp only[gsR,e,g1,l1,zEd,st,la,lb,d1,cO,e3];exact ih (i+1) k H2 acc U U U (he.tr x1) (by rw[hct];exact ha2) hnew ..
  ·have d1:(y.1==y.2)=false:=by simpa using c1
   by_cases c2:y.1=v
   ·have d2:(y.1==v)=true:=by simpa using c2
    have hc0:mO v y=[y.2]:=by unfold mO;rw[if_neg c1,if_pos c2]
    rw[hc0] at hct;obtain⟨u,H3,t1,t2,t3,t4⟩:=ha2.o8 (by':=8) fA lD aC y.2 hnew (he.tr x1) (fV (n:=17592186044100) aC U)
    simp only[gsR,e,g1,l1,zEd,st,la,lb,d1,d2,lU,t1,cO,e3];exact ih (i+1) k H3 u U U U t4 (by rw[hct];exact t2) t3 ..
   ·have d2:(y.1==v)=false:=by simpa using c2
    by_cases c3:y.2=v
    ·have d3:(y.2==v)=true:=by simpa using c3
     have hc0:mO v y=[y.1]:=by unfold mO;rw[if_neg c1,if_neg c2,if_pos c3]
     rw[hc0] at hct;obtain⟨u,H3,t1,t2,t3,t4⟩:=ha2.o8 (by':=8) fA lD aC y.1 hnew (he.tr x1) (fV (n:=17592186044100) aC U)
     simp only[gsR,e,g1,l1,zEd,st,la,lb,d1,d2,d3,lU,t1,cO,e3];exact ih (i+1) k H3 u U U U t4 (by rw[hct];exact t2) t3 ..
    ·have d3:(y.2==v)=false:=by simpa using c3
     have hc0:mO v y=[]:=by unfold mO;rw[if_neg c1,if_neg c2,if_neg c3]
     rw[hc0,List.append_nil] at hct;simp only[gsR,e,g1,l1,zEd,st,la,lb,d1,d2,d3,cO,e3];exact ih (i+1) k H2 acc U U U (he.tr x1) (by rw[hct];exact ha2) hnew ..
theorem K9 (hp:PV H p ev wv nv)(hn:p.edges.length+40<m)(hm:m<=72057594037927936)(v:Int): ∃H' u,lvl prog bL m (.func 37) [plV p ev wv nv,.I v] H=some (u,H')/\Ext H H'/\Iw H' u (bes p.edges v)/\New H u:=by
 refine fJ (fB rfl rfl) U ?_
 have hb:=eL H (plB p ev wv nv);have l1:=dE hb 1 _ rfl;have hlen:=hp.e.fD;rw[aGA];simp only[gsR,eZ,l1,hlen];exact aHd (λH' u h1 h2 h3=>⟨h1,h2,h3⟩) hp.e hp.be (m:=m-1) U U p.edges.length 0 (m-1) _ _ U U U (Fr.app _ _ _) (Rw.fW (el:=inC)) (New.iI _) ..
end
def yP (xs:List Int)(w:Int):Int:=fst (λj=>xs[j]? ==some w) xs.length 0
def D7 (es:List Ed)(v w:Int):Int:=if yP (bes es v) w<0 then yP (bes es v) w else yP (bes es v) w+1
def nJ (es:List Ed)(v:Nat):List Ed:=((bes es v).filter λw=>wi w 0 5).map λw=>((v:Int),w)
def iN (p:PlanD):Nat:=(min (max p.nodes 0) 6).toNat
def kE (p:PlanD):List Ed:=(List.range (iN p)).flatMap (nJ p.edges)
abbrev Hs (H:aE)(v:Value)(xs:List Ed):=Rs edC 67 H v xs
abbrev Hw (H:aE)(v:Value)(xs:List Ed):=Rw edC 67 2 H v xs
theorem Aw (z:Int): ∀l,z∈dd l↔z∈l
 |[]=>Iff.rfl
 |[x]=>Iff.rfl
 |x::y::r=>by
  have ih:=Aw z (y::r);unfold dd;split
  ·rename_i h
   subst h;rw[ih];simp
  ·simp only[aP6] at ih⊢
   rw[ih]
theorem D4: ∀l:List Int,l.Pairwise (· <= ·)->(dd l).Pairwise (· < ·)
 |[],_=>List.Pairwise.nil
 |[x],_=>by simp[dd]
 |x::y::r,h=>by
  obtain⟨h1,h2⟩:=List.pairwise_cons.mp h;have ih:=D4 (y::r) h2;unfold dd;split
  ·exact ih
  ·rename_i hne
   refine List.pairwise_cons.mpr ⟨λz hz=> ?_,ih⟩
   have hz':=(Aw z _).mp hz;have h3:=h1 y (by simp)
   have h4:y<=z:=by
    rcases aP6.mp hz' with rfl|hz'
    ·exact Int.le_refl _
    ·exact(List.pairwise_cons.mp h2).1 z hz'
   omega
theorem Av (es:List Ed)(v:Int):(bes es v).Pairwise (· < ·):=D4 _ (Ad _)
theorem D8: ∀(l:List Int)(lo hi:Int),l.Pairwise (· < ·)->(∀x∈l,lo<=x/\x<=hi)->lo<=hi+1->(l.length:Int)<=hi+1-lo
 |[],lo,hi,_,_,h=>by simp;omega
 |x::r,lo,hi,hp,hb,h=>by
  obtain⟨h1,h2⟩:=List.pairwise_cons.mp hp;have hx:=hb x (by simp)
  have:=D8 r (x+1) hi h2 (λy hy=>⟨by have:=h1 y hy;omega,(hb y (by simp[hy])).2⟩) U
  simp only[aP9];omega
theorem Ld (l:List Int)(h:l.Pairwise (· < ·)):(l.filter λw=>wi w 0 5).length<=6:=by
 have:=D8 (l.filter λw=>wi w 0 5) 0 5 (h.sublist (List.filter_sublist)) (λx hx=>by
  have:=(List.mem_filter.mp hx).2;unfold wi at this;simpa using this) U
 omega
section
variable {H : aE} {m : Nat} {p : PlanD} {ev wv nv : Value}
theorem aHm {v:Value}{xs:List Int}{w:Int}(hx:Is H v xs)(hn:xs.length<=72057594037927936): ∀(q i k:Nat),xs.length-i=q->i<=xs.length->q<k-> ∀(x2 x3 x4 x5 x6 x9 bG b9 aS aP aQ aO aT aU aR:Value),
  aJ k (aM prog (lvl prog bL m) (aJ m) Ke) (Do (lvl prog bL m) (aJ m)) [v,(.I w),x2,x3,x4,x5,x6,(.I xs.length),(.I (i:Nat)),x9,bG,b9,aS,aP,aQ,aO,aT,aU,aR] H=some (.I (fst (λj=>xs[j]? ==some w) q i),H):=by
 intro q;induction q with
 |zero=>
  intro i k hr hi hk;intros;obtain⟨k,rfl⟩:=aB k U
  obtain rfl:xs.length=i:=U
  have e:decide (((xs.length:Nat):Int)<(xs.length:Nat))=false:=by simp
  rw[cU,U2];simp only[gsR,e];rw[aGk];rfl
 |succ q ih=>
  intro i k hr hi hk;intros;obtain⟨k,rfl⟩:=aB k U
  have e:decide ((i:Int)<(xs.length:Nat))=true:=aQw U
  have e3:=aA (i:=i) U
  have hxi:xs[i]? =some xs[i]:=aPP U
  obtain⟨b,o,g1,g2,g3⟩:=hx.fZ fA hxi .i64;have l1:ld1 (.Q b o) H=some (.I xs[i],H):=(g3 H rfl).2.1 0 _ rfl;rw[cU,U2];unfold fst;by_cases h:w=xs[i]
  ·have d:(w==xs[i])=true:=by rw[h];simp
   have d2:(xs[i]? ==some w)=true:=by rw[hxi,h];simp
   simp only[gsR,e,g1,l1,d];rw[aGm,if_pos d2];rfl
  ·have d:(w==xs[i])=false:=by simpa using h
   have d2: ¬(xs[i]? ==some w)=true:=by rw[hxi];simpa using λhh=>h hh.symm
   simp only[gsR,e,g1,l1,d,cO,e3];rw[if_neg d2];exact ih (i+1) k U U U ..
theorem aHl {v:Value}{xs:List Int}(hx:Is H v xs)(w:Int)(hn:xs.length+10<m)(hm:m<=72057594037927936):lvl prog bL m (.func 161) [v,.I w] H=some (.I (yP xs w),H):=by
 have hlen:=hx.fD;refine dI (fB rfl rfl) U ?_
 rw[aGl];simp only[gsR,hlen];exact aHm hx U xs.length 0 (m-1) U U U ..
theorem D0 (es:List Ed)(v:Int):(bes es v).length<=es.length:=by
 have h1:=Vw (srt (kZ es v));have h2:=qY (kZ es v);have h3:=Au v es;unfold bes;omega
theorem Lc (a b:Int):bld prog 67 [(0,.I a),(1,.I b)]=some (edV (a,b)):=rfl
theorem Vz (H:aE)(y:Ed):dG 67 2 1 [.I 0,.I 0] [(0,edV y)] H=some (.slice (some ⟨H.length,0,none⟩) 1 1,H++[.cells (edC y) 67 .row]):=rfl
theorem aHk {H0:aE}{a:Nat}{v:Nat}{ws:List Int}{hs:List Ed}{Q:aE->Value->Prop}{K:Ex->K (Value×aE)}{bn:Int}{u:Value}(hs1:hs.length+(ws.filter λw=>wi w 0 5).length<=1000)(hws:ws.length<=72057594037927936)(hm:0<m)
  (hK: ∀(H':aE)(acc:Value),Ext H0 H'->Hw H' acc (hs++(ws.filter λw=>wi w 0 5).map λw=>((v:Int),w))->New H0 acc-> ∀(x0 x2 x4 x5 x6 x7 x8 x9 aS aP aQ aO aT aU aR bA bK bX bJ bE aV aW aX aY aZ bB bC bH bI:Value),∃H2 u2,K .normal [x0,(.pointer (some ⟨a,0,none⟩)),x2,acc,x4,x5,x6,x7,x8,x9,(.int .i64 bn),(.int .i64 (IntKind.i64.wrap ((v:Int)+1))),aS,aP,aQ,aO,aT,aU,aR,bA,bK,bX,bJ,bE,aV,aW,aX,aY,aZ,bB,bC,bH,bI] H'=some (u2,H2)/\Q H2 u2): ∀(q i k:Nat)(H1:aE)(acc:Value),ws.length-i=q->i<=ws.length->q<k->Ext H0 H1->Is H1 u ws->Apart H1 u acc->Hw H1 acc (hs++((ws.take i).filter λw=>wi w 0 5).map λw=>((v:Int),w))->New H0 acc-> ∀(x0 x2 x5 x6 x7 x8 x9 aS aP aQ aO bA bK bX bJ bE aV aW aX aY aZ bB bC bH bI:Value),
  ∃H' u2,aJ k (aM prog (lvl prog bL m) (aJ m) K0) (K2 (lvl prog bL m) (aJ m) K) [x0,(.Q a 0),x2,acc,(.I (v:Nat)),x5,x6,x7,x8,x9,(.I bn),(.I (v:Nat)),aS,aP,aQ,aO,u,(.I ws.length),(.I (i:Nat)),bA,bK,bX,bJ,bE,aV,aW,aX,aY,aZ,bB,bC,bH,bI] H1=some (u2,H')/\Q H' u2:=by
 intro q;induction q with
 |zero=>
  intro i k H1 acc hr hi hk he hu hap ha hnew;intros;obtain⟨k,rfl⟩:=aB k U
  obtain rfl:ws.length=i:=U
  have e:decide (((ws.length:Nat):Int)<(ws.length:Nat))=false:=by simp
  rw[List.take_of_length_le (aPS _)] at ha;rw[cU,Vf];simp only[gsR,e];rw[aGG];simp only[gsR,cO];exact hK H1 acc he ha hnew ..
 |succ q ih=>
  intro i k H1 acc hr hi hk he hu hap ha hnew;intros;obtain⟨k,rfl⟩:=aB k U
  have e:decide ((i:Int)<(ws.length:Nat))=true:=aQw U
  have e3:=aA (i:=i) U
  have hxi:ws[i]? =some ws[i]:=aPP U
  obtain⟨b,o,g1,g2,g3⟩:=hu.fZ fA hxi .i64;have l1:ld1 (.Q b o) H1=some (.I ws[i],H1):=(g3 H1 rfl).2.1 0 _ rfl;have htake:ws.take (i+1)=ws.take i++[ws[i]]:=by rw[List.take_add_one,hxi];rfl
  have w1:=Vp (m:=m) hm ws[i] 0 5 H1;have hfl:((ws.take i).filter λw=>wi w 0 5).length<=(ws.filter λw=>wi w 0 5).length:=(List.Sublist.filter _ (List.take_sublist i ws)).length_le
  rw[cU,Vf];cases c:wi ws[i] 0 5 with
  |true=>
   rw[c] at w1;obtain⟨acc2,H2,t1,t2,t3,t4,t5,t6⟩:=ha.yK (by':=16) oS Dv aC ((v:Int),ws[i]) hnew he (fV (n:=1000000) aC (by simp only[aPZ,aP1];omega))
   simp only[gsR,e,g1,l1,w1,Lc,Vz,t1,cO,e3];refine ih (i+1) k H2 acc2 U U U t4 (hu.Ts hap t5) (hap.up t5 t6) ?_ t3 ..
   ·rw[htake,List.filter_append,List.map_append,<-aPU]
    have:([ws[i]].filter λw=>wi w 0 5)=[ws[i]]:=by rw[List.filter_cons,if_pos c];rfl
    rw[this];exact t2
  |false=>
   rw[c] at w1;simp only[gsR,e,g1,l1,w1,cO,e3];refine ih (i+1) k H1 acc U U U he hu hap ?_ hnew ..
   have:([ws[i]].filter λw=>wi w 0 5)=[]:=by rw[List.filter_cons,if_neg (by rw[c];decide)];rfl
   rw[htake,List.filter_append,this,List.append_nil];exact ha
theorem aHh (es:List Ed)(v:Nat):(nJ es v).length<=6:=by
 have h2:=Ld _ (Av es v);unfold nJ;rw[aP1];omega
theorem D5 (es:List Ed): ∀i,((List.range i).flatMap (nJ es)).length<=i*6
 |0=>by simp
 |i+1=>by
  have:=D5 es i;have:=aHh es i;rw[aQm,List.flatMap_append,aPZ,Nat.succ_mul];simp only[List.flatMap_cons,List.flatMap_nil,List.append_nil];omega
theorem D6 (p:PlanD):(kE p).length<=36:=by
 have:=D5 p.edges (iN p);have h6:iN p<=6:=by unfold iN;omega
 unfold kE;omega
theorem aHo (a b:Int):lZ prog false [.I a,.I b]=some (.I (min a b)):=by
 simp[lZ,eG,iZ,pur,Builtin.min_,Builtin.min2,pure,bind,Sem.bind]
 split<;>omega
theorem aHn (a b:Int):lZ prog true [.I a,.I b]=some (.I (max a b)):=by
 simp[lZ,eG,iZ,pur,Builtin.max_,Builtin.max2,pure,bind,Sem.bind]
 split<;>omega
theorem aHj {H0:aE}{a:Nat}(hp:PV H0 p ev wv nv)(hn:p.edges.length+60<m)(hm:m<=72057594037927936): ∀(q i k:Nat)(H1:aE)(acc:Value),(iN p)-i=q->i<=(iN p)->q<k->Ext H0 H1->H0[a]? =some (plB p ev wv nv)->Hw H1 acc ((List.range i).flatMap (nJ p.edges))->New H0 acc-> ∀(x0 x2 x4 x5 x6 x7 x8 x9 aS aP aQ aO aT aU aR bA bK bX bJ bE aV aW aX aY aZ bB bC bH bI:Value),
  ∃H' u2,aJ k (aM prog (lvl prog bL m) (aJ m) Kz) (K1 (lvl prog bL m) (aJ m)) [x0,(.Q a 0),x2,acc,x4,x5,x6,x7,x8,x9,(.I (iN p)),(.I (i:Nat)),aS,aP,aQ,aO,aT,aU,aR,bA,bK,bX,bJ,bE,aV,aW,aX,aY,aZ,bB,bC,bH,bI] H1=some (u2,H')/\Ext H0 H'/\Hw H' u2 (kE p)/\New H0 u2:=by
 intro q;have h6:iN p<=6:=by unfold iN;omega
 induction q with
 |zero=>
  intro i k H1 acc hr hi hk he hb0 ha hnew;intros;obtain⟨k,rfl⟩:=aB k U
  obtain rfl:(iN p)=i:=U
  have e:decide ((((iN p):Nat):Int)<((iN p):Nat))=false:=by simp
  refine⟨H1,acc,?_,he,ha,hnew⟩;rw[cU,Ve];simp only[gsR,e];rw[aGF];rfl
 |succ q ih=>
  intro i k H1 acc hr hi hk he hb0 ha hnew;intros;obtain⟨k,rfl⟩:=aB k U
  have e:decide ((i:Int)<((iN p):Nat))=true:=aQw U
  have e3:=aA (i:=i) U
  have hb:=dT hb0 he;have l11:=fL hb;obtain⟨H2,u,g1,g2,g3,g4⟩:=K9 (hp.ext he) (m:=m) U U (i:Int)
  have hlen:=g3.qZ;have hble:=D0 p.edges (i:Int);have hol:=D5 p.edges i;have hff:=Ld _ (Av p.edges (i:Int));have hL:=hp.be;have hap:Apart H2 u acc:=λb hb=>⟨g3.fY hb,λhc=>by have:=g4 b hb;have:=ha.fY hc;omega⟩
  have ha2:Hw H2 acc ((List.range i).flatMap (nJ p.edges)):=ha.fG λb hb=>g2.2 b (ha.fY hb) id
  rw[cU,Ve];simp only[gsR,e,l11,g1,hlen];refine aHk (H0:=H0) (a:=a) (v:=i) (ws:=bes p.edges (i:Int)) (hs:=(List.range i).flatMap (nJ p.edges)) (Q:=λH' u2=>Ext H0 H'/\Hw H' u2 (kE p)/\New H0 u2) U U U ?_ (bes p.edges (i:Int)).length 0 m H2 acc U U U (he.tr g2) g3.rs hap (by simpa using ha2) hnew ..
  intro H3 acc3 k1 k2 k3;intros;rw[again_normal,e3];refine ih (i+1) k H3 acc3 U U U k1 hb0 ?_ k3 ..
  rw[aQm,List.flatMap_append];simpa[nJ] using k2
theorem aHi (hp:PV H p ev wv nv)(hn:p.edges.length+70<m)(hm:m<=72057594037927936): ∃H' u,lvl prog bL m (.func 66) [plV p ev wv nv] H=some (u,H')/\Ext H H'/\Hw H' u (kE p)/\New H u:=by
 have hL:=hp.be;obtain⟨H0,hH0⟩:=aD (H++[plB p ev wv nv]);have x0:Ext H H0:=by rw[hH0];exact Fr.app _ _ _
 have b0:H0[H.length]? =some (plB p ev wv nv):=by rw[hH0];exact eL _ _
 have l0:=dE b0 0 _ rfl;have h6:iN p<=6:=by unfold iN;omega
 have e1:lZ prog true [.I p.nodes,.I 0]=some (.I (max p.nodes 0)):=aHn p.nodes 0;have e2:lZ prog false [.I (max p.nodes 0),.I 6]=some (.I (iN p)):=by
  rw[aHo]
  congr 2
  unfold iN;omega
 obtain⟨H',u,g1,g2,g3,g4⟩: ∃H' u,lvl prog bL m (.func 66) [plV p ev wv nv] H=some (u,H')/\Ext H0 H'/\Hw H' u (kE p)/\New H0 u:=by
  refine fJ (fB rfl rfl) U ?_
  rw[aGH];simp only[gsR,eZ,<-hH0,l0,e1,e2];exact aHj (hp.ext x0) (m:=m-1) U U (iN p) 0 (m-1) H0 _ U U U (Fr.iQ _ _) b0 (Rw.fW (el:=edC)) (New.iI _) ..
 exact⟨H',u,g1,x0.tr g2,g3,λb hb=>aP3 x0.1 (g4 b hb)⟩
end
def lV (x:Int):List Int->List Int
 |[]=>[x]
 |y::r=>if y<x then y::lV x r else if y=x then x::r else x::y::r
theorem Lf (x z:Int): ∀l,z∈lV x l↔z=x∨z∈l
 |[]=>by simp[lV]
 |y::r=>by
  unfold lV;split
  ·simp only[aP6,Lf x z r]
   constructor
   ·rintro (h|h|h)
    ·exact .inr (.inl h)
    ·exact .inl h
    ·exact .inr (.inr h)
   ·rintro (h|h|h)
    ·exact .inr (.inl h)
    ·exact .inl h
    ·exact .inr (.inr h)
  ·split
   ·rename_i h
    subst h;simp
   ·simp
theorem V0 (x:Int): ∀l,(lV x l).length<=l.length+1
 |[]=>by simp[lV]
 |y::r=>by
  have:=V0 x r;unfold lV;split
  ·simp only[aP9];omega
  ·split<;>simp only[aP9]<;>omega
theorem V1 (x:Int): ∀l,l.Pairwise (· < ·)->(lV x l).Pairwise (· < ·)
 |[],_=>by simp[lV]
 |y::r,h=>by
  obtain⟨h1,h2⟩:=List.pairwise_cons.mp h;unfold lV;split
  ·rename_i hyx
   refine List.pairwise_cons.mpr ⟨λz hz=> ?_,V1 x r h2⟩
   rcases(Lf x z r).mp hz with rfl|hz
   ·exact hyx
   ·exact h1 z hz
  ·rename_i hyx
   split
   ·rename_i hh
    subst hh;exact h
   ·rename_i hne
    refine List.pairwise_cons.mpr ⟨λz hz=> ?_,h⟩
    rcases aP6.mp hz with rfl|hz
    ·omega
    ·have:=h1 z hz
     omega
theorem Lg: ∀(l l':List Int),l.Pairwise (· < ·)->l'.Pairwise (· < ·)->(∀z,z∈l↔z∈l')->l=l'
 |[],[],_,_,_=>rfl
 |[],y::r,_,_,h=>absurd ((h y).mpr (by simp)) (by simp)
 |x::l,[],_,_,h=>absurd ((h x).mp (by simp)) (by simp)
 |x::l,y::r,h1,h2,h=>by
  obtain⟨a1,a2⟩:=List.pairwise_cons.mp h1;obtain⟨b1,b2⟩:=List.pairwise_cons.mp h2;have hxy:x=y:=by
   have h3:=(h x).mp (by simp)
   have h4:=(h y).mpr (by simp)
   rcases aP6.mp h3 with h3|h3
   ·exact h3
   ·rcases aP6.mp h4 with h4|h4
    ·exact h4.symm
    ·have:=b1 x h3
     have:=a1 y h4;omega
  subst hxy;rw[Lg l r a2 b2 λz=> ?_]
  constructor
  ·intro hz
   rcases aP6.mp ((h z).mp (by simp[hz])) with h3|h3
   ·have:=a1 z hz
    omega
   ·exact h3
  ·intro hz
   rcases aP6.mp ((h z).mpr (by simp[hz])) with h3|h3
   ·have:=b1 z hz
    omega
   ·exact h3
def pK (l xs:List Int):List Int:=xs.foldl (λl x=>lV x l) l
theorem V6 (z:Int): ∀(xs l:List Int),z∈pK l xs↔z∈l∨z∈xs
 |[],l=>by simp[pK]
 |x::xs,l=>by
  have:=V6 z xs (lV x l);unfold pK at*;rw[List.foldl_cons,this,Lf,aP6];constructor
  ·rintro ((h|h)|h)
   ·exact .inr (.inl h)
   ·exact .inl h
   ·exact .inr (.inr h)
  ·rintro (h|h|h)
   ·exact .inl (.inr h)
   ·exact .inl (.inl h)
   ·exact .inr h
theorem V7: ∀(xs l:List Int),l.Pairwise (· < ·)->(pK l xs).Pairwise (· < ·)
 |[],l,h=>h
 |x::xs,l,h=>by
  unfold pK;exact V7 xs (lV x l) (V1 x l h)
theorem V5: ∀(xs l:List Int),(pK l xs).length<=l.length+xs.length
 |[],l=>by simp[pK]
 |x::xs,l=>by
  have h1:=V5 xs (lV x l);have h2:=V0 x l;unfold pK at*;rw[List.foldl_cons];simp only[aP9];omega
theorem aHp (es:List Ed)(v:Int):bes es v=pK [] (kZ es v):=by
 refine Lg _ _ (D4 _ (Ad _)) (V7 _ _ List.Pairwise.nil) λz=> ?_
 rw[V6];unfold bes;rw[Aw,(yG _).mem_iff];simp
theorem D9 (es:List Ed)(v z:Int):z∈bes es v↔z∈kZ es v:=by
 unfold bes;rw[Aw,(yG _).mem_iff]
theorem V2 (x:Int): ∀(i:Nat)(l:List Int),(∀j y,j<i->l[j]? =some y->y<x)->i<=l.length->lV x l=l.take i++lV x (l.drop i)
 |0,l,_,_=>by simp
 |i+1,[],_,h=>by simp at h
 |i+1,y::r,h,hl=>by
  have h0:y<x:=h 0 y U rfl
  have ih:=V2 x i r (λj z hj hz=>h (j+1) z U (by simpa using hz)) (by simpa using hl)
  rw[lV,if_pos h0,List.take_succ_cons,List.drop_succ_cons,List.cons_append,ih]
theorem aHq (x:Int): ∀(l:List Int),(∀y,l[0]? =some y-> ¬y<x)->lV x l=x::(if l[0]? =some x then l.drop 1 else l)
 |[],_=>rfl
 |y::r,h=>by
  have h0:=h y rfl;rw[lV,if_neg h0];by_cases hy:y=x
  ·subst hy
   simp
  ·rw[if_neg hy,if_neg (by simpa using hy)]
section
variable {H : aE} {m : Nat} {p : PlanD} {ev wv nv : Value}
theorem V4 {H0 H1:aE}{v acc:Value}{xs:List Int}{x:Int}{i:Nat}(hv:Iw H0 v xs)(hl:xs.length<=17592186043000)(he:Ext H0 H1)(ha:Iw H1 acc (xs.take i))(hnew:New H0 acc)(hi:i<=xs.length)(hlt: ∀j y,j<i->xs[j]? =some y->y<x)(hstop: ∀y,xs[i]? =some y-> ¬y<x)(x2 x3 x4 x7 x8 x9 bG b9 aS aP aQ aO aT aU aR bA bK bX bJ bE aV aW aX aY aZ bB bC bH bI bM bN bO bP bQ bR bS bT bU bY cA cD cE cI cJ cN cP cK cQ:Value):
  ∃H' u,J1 (lvl prog bL m) (aJ m) v (.I x) x2 x3 x4 acc (.I (i:Nat)) x7 x8 x9 bG b9 aS aP aQ aO aT aU aR bA bK bX bJ bE aV aW aX aY aZ bB bC bH bI bM bN bO bP bQ bR bS bT bU bY cA cD cE cI cJ cN cP cK cQ H1=some (u,H')/\Ext H0 H'/\Iw H' u (lV x xs)/\New H0 u:=by
 have hsp:=V2 x i xs hlt hi;have hst:=aHq x (xs.drop i) (λy hy=>hstop y (by rw[List.getElem?_drop,Nat.add_zero] at hy;exact hy))
 rw[List.getElem?_drop,Nat.add_zero] at hst;have hv1:Iw H1 v xs:=hv.fG λb hb=>he.2 b (hv.fY hb) id
 have hlen:=hv1.qZ;obtain⟨a2,H2,t1,t2,t3,t4⟩:=ha.o8 (by':=8) fA lD aC x hnew he (fV (n:=17592186044100) aC (by rw[List.length_take];omega))
 have hv2:Iw H2 v xs:=hv.fG λb hb=>t4.2 b (hv.fY hb) id
 unfold J1;by_cases hil:i<xs.length
 ·have hxi:xs[i]? =some xs[i]:=aPP hil
  have e1:decide ((i:Int)<xs.length)=true:=aQw U
  obtain⟨b,o,g1,g2,g3⟩:=hv1.rr.Jp fA hxi .i64;have l1:ld1 (.Q b o) H1=some (.I xs[i],H1):=(g3 H1 rfl).2.1 0 _ rfl;by_cases hx:xs[i]=x
  ·have d:(xs[i]==x)=true:=by simpa using hx
   have e3:=aA (i:=i) U
   obtain⟨w,s1,s2,s3⟩:=hv2.rr.Jq (P:=prog) fA szI (hi:=none) (mN 0 .i64 (i+1)) (r:=xs.length) rfl U (aPS _)
   rw[List.take_of_length_le (aPS _)] at s2;obtain⟨a3,H3,q1,q2,q3,q4⟩:=t2.rY fA lD aC (by':=8) s2.rs t3 t4 (fV (n:=17592186044100) aC (by simp only[aPZ,List.length_take,List.length_drop,aP9,List.length_nil];omega))
   refine⟨H3,a3,?_,q4,?_,q3⟩
   ·simp only[gsR,hlen,e1,g1,l1,d,cO,e3,lU,t1,s1,q1]
   ·rw[hsp,hst,if_pos (by rw[hxi,hx]),aQv]
    simpa using q2
  ·have d:(xs[i]==x)=false:=by simpa using hx
   obtain⟨w,s1,s2,s3⟩:=hv2.rr.Jq (P:=prog) fA szI (hi:=none) (mN 0 .i64 i) (r:=xs.length) rfl U (aPS _)
   rw[List.take_of_length_le (aPS _)] at s2;obtain⟨a3,H3,q1,q2,q3,q4⟩:=t2.rY fA lD aC (by':=8) s2.rs t3 t4 (fV (n:=17592186044100) aC (by simp only[aPZ,List.length_take,List.length_drop,aP9,List.length_nil];omega))
   refine⟨H3,a3,?_,q4,?_,q3⟩
   ·simp only[gsR,hlen,e1,g1,l1,d,lU,t1,s1,q1]
   ·rw[hsp,hst,if_neg (by rw[hxi];simpa using hx)]
    simpa using q2
 ·have e1:decide ((i:Int)<xs.length)=false:=aQx U
  obtain⟨w,s1,s2,s3⟩:=hv2.rr.Jq (P:=prog) fA szI (hi:=none) (mN 0 .i64 i) (r:=xs.length) rfl U (aPS _)
  rw[List.take_of_length_le (aPS _)] at s2;obtain⟨a3,H3,q1,q2,q3,q4⟩:=t2.rY fA lD aC (by':=8) s2.rs t3 t4 (fV (n:=17592186044100) aC (by simp only[aPZ,List.length_take,List.length_drop,aP9,List.length_nil];omega))
  refine⟨H3,a3,?_,q4,?_,q3⟩
  ·simp only[gsR,hlen,e1,lU,t1,s1,q1]
  ·rw[hsp,hst,if_neg (by rw[aPY U];simp)]
   simpa using q2
theorem aHr {H0:aE}{v:Value}{xs:List Int}{x:Int}(hv:Iw H0 v xs)(hl:xs.length<=17592186043000): ∀(q i k:Nat)(H1:aE)(acc:Value),xs.length-i=q->i<=xs.length->q<k->Ext H0 H1->Iw H1 acc (xs.take i)->New H0 acc->(∀j y,j<i->xs[j]? =some y->y<x)-> ∀(x2 x3 x4 x7 x8 x9 bG b9 aS aP aQ aO aT aU aR bA bK bX bJ bE aV aW aX aY aZ bB bC bH bI bM bN bO bP bQ bR bS bT bU bY cA cD cE cI cJ cN cP cK cQ:Value),
  ∃H' u,aJ k (aM prog (lvl prog bL m) (aJ m) J0) (J2 (lvl prog bL m) (aJ m)) [v,(.I x),x2,x3,x4,acc,(.I (i:Nat)),x7,x8,x9,bG,b9,aS,aP,aQ,aO,aT,aU,aR,bA,bK,bX,bJ,bE,aV,aW,aX,aY,aZ,bB,bC,bH,bI,bM,bN,bO,bP,bQ,bR,bS,bT,bU,bY,cA,cD,cE,cI,cJ,cN,cP,cK,cQ] H1=some (u,H')/\Ext H0 H'/\Iw H' u (lV x xs)/\New H0 u:=by
 intro q;induction q with
 |zero=>
  intro i k H1 acc hr hi hk he ha hnew hlt;intros;obtain⟨k,rfl⟩:=aB k U
  obtain rfl:xs.length=i:=U
  have e:decide (((xs.length:Nat):Int)<(xs.length:Nat))=false:=by simp
  have hlen:=hv.qZ;rw[cU,Uo];simp only[gsR,hlen,e];rw[Uq];exact V4 hv hl he ha hnew (aPS _) hlt (λy hy=>by rw[aPY (aPS _)] at hy;cases hy) ..
 |succ q ih=>
  intro i k H1 acc hr hi hk he ha hnew hlt;intros;obtain⟨k,rfl⟩:=aB k U
  have e:decide ((i:Int)<(xs.length:Nat))=true:=aQw U
  have e3:=aA (i:=i) U
  have hlen:=hv.qZ;have hv1:Iw H1 v xs:=hv.fG λb hb=>he.2 b (hv.fY hb) id
  have hxi:xs[i]? =some xs[i]:=aPP U
  obtain⟨b,o,g1,g2,g3⟩:=hv1.rr.Jp fA hxi .i64;have l1:ld1 (.Q b o) H1=some (.I xs[i],H1):=(g3 H1 rfl).2.1 0 _ rfl;rw[cU,Uo];by_cases c:xs[i]<x
  ·obtain⟨a2,H2,t1,t2,t3,t4⟩:=ha.o8 (by':=8) fA lD aC xs[i] hnew he (fV (n:=17592186044100) aC (by rw[List.length_take];omega))
   simp only[gsR,hlen,e,g1,l1,c,decide_true,lU,t1,cO,e3];refine ih (i+1) k H2 a2 U U U t4 (by rw[List.take_add_one,hxi];exact t2) t3 (λj y hj hy=> ?_) ..
   by_cases hji:j=i
   ·subst hji
    rw[hxi] at hy;cases hy;exact c
   ·exact hlt j y U hy
  ·simp only[gsR,hlen,e,g1,l1,c,decide_false]
   rw[Uq];exact V4 hv hl he ha hnew U hlt (λy hy=>by rw[hxi] at hy;cases hy;exact c) ..
theorem V3 {v:Value}{xs:List Int}(hv:Iw H v xs)(x:Int)(hl:xs.length<=17592186043000)(hn:xs.length+10<m)(hm:m<=72057594037927936): ∃H' u,lvl prog bL m (.func 117) [v,.I x] H=some (u,H')/\Ext H H'/\Iw H' u (lV x xs)/\New H u:=by
 refine fJ (fB rfl rfl) U ?_
 rw[aFT];exact aHr hv U xs.length 0 (m-1) H _ U U U (Fr.iQ _ _) (Rw.fW (el:=inC)) (New.iI _) (λj y h=>by omega) ..
theorem aHs {H0:aE}{a:Nat}{v:Int}(hp:Es H0 ev p.edges)(hL:p.edges.length<=17592186043000)(hn:p.edges.length+50<m)(hm:m<=72057594037927936): ∀(q i k:Nat)(H1:aE)(acc:Value),p.edges.length-i=q->i<=p.edges.length->q<k->Ext H0 H1->H0[a]? =some (plB p ev wv nv)->Iw H1 acc (pK [] (kZ (p.edges.take i) v))->New H0 acc-> ∀(x0 x3 x4 x7 x8 x9 bG b9 aS aP aQ aO aT aU aR bA bK bX bJ bE aV aW aX aY aZ bB bC bH bI bM bN bO bP bQ bR bS bT bU bY cA cD cE cI cJ cN:Value),
  ∃H' u,aJ k (aM prog (lvl prog bL m) (aJ m) Kv) (Kw (lvl prog bL m) (aJ m)) [x0,(.I v),(.Q a 0),x3,x4,acc,(.I (i:Nat)),x7,x8,x9,bG,b9,aS,aP,aQ,aO,aT,aU,aR,bA,bK,bX,bJ,bE,aV,aW,aX,aY,aZ,bB,bC,bH,bI,bM,bN,bO,bP,bQ,bR,bS,bT,bU,bY,cA,cD,cE,cI,cJ,cN] H1=some (u,H')/\Ext H0 H'/\Iw H' u (bes p.edges v)/\New H0 u:=by
 intro q;induction q with
 |zero=>
  intro i k H1 acc hr hi hk he hb0 ha hnew;intros;obtain⟨k,rfl⟩:=aB k U
  obtain rfl:p.edges.length=i:=U
  have e:decide (((p.edges.length:Nat):Int)<(p.edges.length:Nat))=false:=by simp
  have hb:=dT hb0 he;have l1:=dE hb 1 _ rfl;have hlen:=(hp.ext he).fD;rw[List.take_of_length_le (aPS _),<-aHp] at ha;refine⟨H1,acc,?_,he,ha,hnew⟩;rw[cU,Vb];simp only[gsR,l1,hlen,e];rw[aGB];rfl
 |succ q ih=>
  intro i k H1 acc hr hi hk he hb0 ha hnew;intros;obtain⟨k,rfl⟩:=aB k U
  have e:decide ((i:Int)<(p.edges.length:Nat))=true:=aQw U
  have e3:=aA (i:=i) U
  have hb:=dT hb0 he;have l1:=dE hb 1 _ rfl;have hlen:=(hp.ext he).fD;have hxi:p.edges[i]? =some p.edges[i]:=aPP U
  obtain⟨b,o,g1,g2,g3⟩:=(hp.ext he).fZ oS hxi .i64;obtain⟨y,hy⟩:=aD (p.edges[i]);have le:ldN 2 (.Q b o) H1=some (edV y,H1):=by rw[hy];exact(g3 H1 rfl).1
  rw[<-hy] at hxi;have hct:=Vu v hxi;have hcl:=Au v (p.edges.take i);rw[List.length_take] at hcl;have hrl:=V5 (kZ (p.edges.take i) v) [];simp only[List.length_nil] at hrl;have st:=La y H1;obtain⟨H2,hH2⟩:=aD (H1++[edB y]);rw[<-hH2] at st;have x1:Ext H1 H2:=by rw[hH2];exact Fr.app _ _ _
  have hb2:H2[H1.length]? =some (edB y):=by rw[hH2];exact eL _ _
  have la:=Dy hb2;have lb:=Dz hb2;have ha2:Iw H2 acc (pK [] (kZ (p.edges.take i) v)):=by rw[hH2];exact ha.tS _
  have rapp: ∀z,pK [] (kZ (p.edges.take i) v++[z])=lV z (pK [] (kZ (p.edges.take i) v)):=λz=>by unfold pK;rw[List.foldl_append];rfl
  rw[cU,Vb];by_cases c1:y.1=v
  ·have d1:(y.1==v)=true:=by simpa using c1
   by_cases c2:y.2=v
   ·have d2:(y.2 !=v)=false:=by simpa using c2
    have d3:(y.2==v)=true:=by simpa using c2
    have d4:(y.1 !=v)=false:=by simpa using c1
    have hc0:mO v y=[]:=by unfold mO;rw[if_pos (by rw[c1,c2])]
    rw[hc0,List.append_nil] at hct;simp only[gsR,l1,hlen,e,g1,le,zEd,st,la,lb,d1,d2,d3,d4,cO,e3];exact ih (i+1) k H2 acc U U U (he.tr x1) hb0 (by rw[hct];exact ha2) hnew ..
   ·have d2:(y.2 !=v)=true:=by simpa using c2
    have d3:(y.2==v)=false:=by simpa using c2
    have hc0:mO v y=[y.2]:=by unfold mO;rw[if_neg (by rw[c1];exact λh=>c2 h.symm),if_pos c1]
    rw[hc0] at hct;obtain⟨H3,u,q1,q2,q3,q4⟩:=V3 ha2 y.2 (m:=m) U U hm
    have hb3:=dT hb2 q2;have la3:=Dy hb3;have lb3:=Dz hb3;simp only[gsR,l1,hlen,e,g1,le,zEd,st,la,lb,d1,d2,q1,la3,lb3,d3,cO,e3];exact ih (i+1) k H3 u U U U ((he.tr x1).tr q2) hb0 (by rw[hct,rapp];exact q3) (λb' hb'=>aP3 (he.tr x1).1 (q4 b' hb')) ..
  ·have d1:(y.1==v)=false:=by simpa using c1
   have d4:(y.1 !=v)=true:=by simpa using c1
   by_cases c2:y.2=v
   ·have d3:(y.2==v)=true:=by simpa using c2
    have hc0:mO v y=[y.1]:=by unfold mO;rw[if_neg (by rw[c2];exact c1),if_neg c1,if_pos c2]
    rw[hc0] at hct;obtain⟨H3,u,q1,q2,q3,q4⟩:=V3 ha2 y.1 (m:=m) U U hm
    simp only[gsR,l1,hlen,e,g1,le,zEd,st,la,lb,d1,d3,d4,q1,cO,e3];exact ih (i+1) k H3 u U U U ((he.tr x1).tr q2) hb0 (by rw[hct,rapp];exact q3) (λb' hb'=>aP3 (he.tr x1).1 (q4 b' hb')) ..
   ·have d3:(y.2==v)=false:=by simpa using c2
    have hc0:mO v y=[]:=by
     unfold mO;rw[if_neg c1,if_neg c2]
     split<;>rfl
    rw[hc0,List.append_nil] at hct;simp only[gsR,l1,hlen,e,g1,le,zEd,st,la,lb,d1,d3,cO,e3];exact ih (i+1) k H2 acc U U U (he.tr x1) hb0 (by rw[hct];exact ha2) hnew ..
theorem Lh (hp:PV H p ev wv nv)(hn:p.edges.length+60<m)(hm:m<=72057594037927936)(v:Int): ∃H' u,lvl prog bL m (.func 56) [plV p ev wv nv,.I v] H=some (u,H')/\Ext H H'/\Iw H' u (bes p.edges v)/\New H u:=by
 have hL:=hp.be;obtain⟨H0,hH0⟩:=aD (H++[plB p ev wv nv]);have x0:Ext H H0:=by rw[hH0];exact Fr.app _ _ _
 have b0:H0[H.length]? =some (plB p ev wv nv):=by rw[hH0];exact eL _ _
 obtain⟨H',u,g1,g2,g3,g4⟩: ∃H' u,lvl prog bL m (.func 56) [plV p ev wv nv,.I v] H=some (u,H')/\Ext H0 H'/\Iw H' u (bes p.edges v)/\New H0 u:=by
  refine fJ (fB rfl rfl) U ?_
  rw[aGC];simp only[gsR,eZ,<-hH0];exact aHs (hp.e.ext x0) hp.be (m:=m-1) U U p.edges.length 0 (m-1) H0 _ U U U (Fr.iQ _ _) b0 (Rw.fW (el:=inC)) (New.iI _) ..
 exact⟨H',u,g1,x0.tr g2,g3,λb hb=>aP3 x0.1 (g4 b hb)⟩
theorem aHu {u:Value}{xs:List Int}{w:Int}(hx:Is H u xs)(hl:xs.length<=17592186043000): ∀(q i k:Nat),xs.length-i=q->i<=xs.length->q<k-> ∀(x0 x1 x3 x4 x5 x6 x9 bG b9 aS aP aQ aO aT aU aR bA bK bX bJ bE aV aW:Value),
  aJ k (aM prog (lvl prog bL m) (aJ m) J6) (Dl (lvl prog bL m) (aJ m)) [x0,x1,(.I w),x3,x4,x5,x6,u,(.I (i:Nat)),x9,bG,b9,aS,aP,aQ,aO,aT,aU,aR,bA,bK,bX,bJ,bE,aV,aW] H=some (.I (if fst (λj=>xs[j]? ==some w) q i<0 then fst (λj=>xs[j]? ==some w) q i else fst (λj=>xs[j]? ==some w) q i+1),H):=by
 intro q;induction q with
 |zero=>
  intro i k hr hi hk;intros;obtain⟨k,rfl⟩:=aB k U
  obtain rfl:xs.length=i:=U
  have e:decide (((xs.length:Nat):Int)<(xs.length:Nat))=false:=by simp
  have hlen:=hx.fD;rw[cU,Uw];simp only[gsR,hlen,e];rw[aF9];rfl
 |succ q ih=>
  intro i k hr hi hk;intros;obtain⟨k,rfl⟩:=aB k U
  have e:decide ((i:Int)<(xs.length:Nat))=true:=aQw U
  have e3:=aA (i:=i) U
  have hlen:=hx.fD;have hxi:xs[i]? =some xs[i]:=aPP U
  obtain⟨b,o,g1,g2,g3⟩:=hx.fZ fA hxi .i64;have l1:ld1 (.Q b o) H=some (.I xs[i],H):=(g3 H rfl).2.1 0 _ rfl;rw[cU,Uw];unfold fst;by_cases h:xs[i]=w
  ·have d:(xs[i]==w)=true:=by rw[h];simp
   have d2:(xs[i]? ==some w)=true:=by rw[hxi,h];simp
   have d3: ¬((i:Nat):Int)<0:=U
   simp only[gsR,hlen,e,g1,l1,d,cO,e3];rw[aGb];rw[if_pos d2,if_neg d3,oneOf_one];rfl
  ·have d:(xs[i]==w)=false:=by simpa using h
   have d2: ¬(xs[i]? ==some w)=true:=by rw[hxi];simpa using h
   simp only[gsR,hlen,e,g1,l1,d,cO,e3];rw[if_neg d2];exact ih (i+1) k U U U ..
theorem aHt (hp:PV H p ev wv nv)(hn:p.edges.length+70<m)(hm:m<=72057594037927936)(v w:Int): ∃H',lvl prog bL m (.func 156) [plV p ev wv nv,.I v,.I w] H=some (.I (D7 p.edges v w),H')/\Ext H H':=by
 have hL:=hp.be;obtain⟨H0,hH0⟩:=aD (H++[plB p ev wv nv]);have x0:Ext H H0:=by rw[hH0];exact Fr.app _ _ _
 have b0:H0[H.length]? =some (plB p ev wv nv):=by rw[hH0];exact eL _ _
 have l11:=fL b0;obtain⟨H1,u,g1,g2,g3,g4⟩:=Lh (hp.ext x0) (m:=m-1) U U v
 have hb:=D0 p.edges v;refine jQ (fB rfl rfl) U ⟨H1,?_,x0.tr g2⟩
 rw[aGa];unfold D7;simp only[gsR,eZ,<-hH0,l11,g1];exact aHu g3.rs U (bes p.edges v).length 0 (m-1) U U U ..
end
section
variable {H : aE} {m : Nat} {p : PlanD} {ev wv nv : Value}
theorem aHF (hm:0<m)(x lo hi:Int)(H:aE):lvl prog bL m (.func 154) [.I x,.I lo,.I hi] H=some (.bool (wi x lo hi),H):=by
 refine dI (fB rfl rfl) hm ?_;rw[aF4];unfold wi;by_cases h:lo<=x
 ·simp only[gsR,h,decide_true,aQa]
 ·simp only[gsR,h,decide_false,Bool.false_and]
theorem aHv {H:aE}{b:Nat}{y:Ed}(h:H[b]? =some (edB y)):ldN 2 (.Q b 0) H=some (edV y,H):=by
 rw[qU,h];unfold edB;rw[rW _ _ _ _ _ (by simp[edC])]
 rfl
theorem aHz {H0:aE}{a eb i0 kk:Nat}{y:Ed}{R:Bool}(hp:Es H ev p.edges)(hb:H[a]? =some (plB p ev wv nv))(he0:H[eb]? =some (edB y))(hi0:i0<=p.edges.length)(hn:p.edges.length<=72057594037927936)(hx:Ext H0 H)
  (hK: ∀(x0 x4 x5 x6 x7 x8 x9 bG b9 aS aP aQ aO aT aU aR bA bK bX bJ bE aV aW aX aY aZ bB bC bH bI bM bN bO bP bQ bR bS bT bU bY cA cD cE cI cJ cN cP cK:Value),∃H2,aJ kk (aM prog (lvl prog bL m) (aJ m) Ap) (yO (lvl prog bL m) (aJ m)) [x0,(.Q a 0),(.bool false),(.I (IntKind.i64.wrap ((i0:Int)+1))),x4,x5,x6,x7,x8,x9,bG,b9,aS,aP,aQ,aO,aT,aU,aR,bA,bK,bX,bJ,bE,aV,aW,aX,aY,aZ,bB,bC,bH,bI,bM,bN,bO,bP,bQ,bR,bS,bT,bU,bY,cA,cD,cE,cI,cJ,cN,cP,cK] H=some (.bool R,H2)/\Ext H0 H2): ∀(q i k:Nat),i0-i=q->i<=i0->q<k-> ∀(x0 x6 x7 x8 x9 bG b9 aS aP aQ aO aT aU aR bA bK bX bJ bE aV aW aX aY aZ bB bC bH bI bM bN bO bP bQ bR bS bT bU bY cA cD cE cI cJ cN cP cK:Value),
  ∃H2,aJ k (aM prog (lvl prog bL m) (aJ m) J5) (Dj (lvl prog bL m) (aJ m) (wH kk (aM prog (lvl prog bL m) (aJ m) Ap) (yO (lvl prog bL m) (aJ m)))) [x0,(.pointer (some ⟨a,0,none⟩)),(.bool false),(.int .i64 (i0:Nat)),(.pointer (some ⟨eb,0,none⟩)),(.int .i64 (i:Nat)),x6,x7,x8,x9,bG,b9,aS,aP,aQ,aO,aT,aU,aR,bA,bK,bX,bJ,bE,aV,aW,aX,aY,aZ,bB,bC,bH,bI,bM,bN,bO,bP,bQ,bR,bS,bT,bU,bY,cA,cD,cE,cI,cJ,cN,cP,cK] H=some (.bool (!(((p.edges.take i0).drop i).any λx=>x==y)&&R),H2)/\Ext H0 H2:=by
 intro q;induction q with
 |zero=>
  intro i k hr hi hk;intros;obtain⟨k,rfl⟩:=aB k U
  obtain rfl:i0=i:=U
  have e:decide (((i0:Nat):Int)<(i0:Nat))=false:=by simp
  have hd0:(p.edges.take i0).drop i0=[]:=List.drop_eq_nil_of_le (by rw[List.length_take];omega)
  rw[hd0,List.any_nil,Bool.not_false,aQa];rw[cU,Uv];simp only[gsR,e];rw[aF6];simp only[gsR,cO];exact hK ..
 |succ q ih=>
  intro i k hr hi hk;intros;obtain⟨k,rfl⟩:=aB k U
  have e:decide ((i:Int)<(i0:Nat))=true:=aQw U
  have e3:=aA (i:=i) U
  have l1:=dE hb 1 _ rfl;have lab:=aHv he0;have hxi:p.edges[i]? =some (p.edges[i]' U):=aPP U
  obtain⟨b,o,g1,g2,g3⟩:=hp.fZ oS hxi .i64;have le:ldN 2 (.Q b o) H=some (edV (p.edges[i]' U),H):=(g3 H rfl).1
  have hdrop:(p.edges.take i0).drop i=p.edges[i]' U::(p.edges.take i0).drop (i+1):=by
   rw[List.drop_eq_getElem_cons (by rw[List.length_take];omega),List.getElem_take]
  rw[hdrop,List.any_cons];rw[cU,Uv];cases c:(p.edges[i]' U)==y with
  |true=>
   refine⟨H,?_,hx⟩;simp only[gsR,e,l1,g1,le,lab,Du,c,Bool.true_or,Bool.not_true,Bool.false_and];rw[aF8];rw[again_ret,Dk];rfl
  |false=>
   simp only[gsR,e,l1,g1,le,lab,Du,c,Bool.false_or,cO,e3];exact ih (i+1) k U U U ..
theorem aHy {H0:aE}{a:Nat}(hp:Es H0 ev p.edges)(hn:p.edges.length+20<m)(hm:m<=72057594037927936): ∀(q i k:Nat)(H1:aE),p.edges.length-i=q->i<=p.edges.length->q<k->Ext H0 H1->H0[a]? =some (plB p ev wv nv)-> ∀(x0 x4 x5 x6 x7 x8 x9 bG b9 aS aP aQ aO aT aU aR bA bK bX bJ bE aV aW aX aY aZ bB bC bH bI bM bN bO bP bQ bR bS bT bU bY cA cD cE cI cJ cN cP cK:Value),
  ∃H2,aJ k (aM prog (lvl prog bL m) (aJ m) Ap) (yO (lvl prog bL m) (aJ m)) [x0,(.Q a 0),(.bool false),(.I (i:Nat)),x4,x5,x6,x7,x8,x9,bG,b9,aS,aP,aQ,aO,aT,aU,aR,bA,bK,bX,bJ,bE,aV,aW,aX,aY,aZ,bB,bC,bH,bI,bM,bN,bO,bP,bQ,bR,bS,bT,bU,bY,cA,cD,cE,cI,cJ,cN,cP,cK] H1=some (.bool (qD p.nodes (p.edges.take i) (p.edges.drop i)&&decide ((p.edges.length:Int)<=15)),H2)/\Ext H0 H2:=by
 intro q;induction q with
 |zero=>
  intro i k H1 hr hi hk he hb0;intros;obtain⟨k,rfl⟩:=aB k U
  obtain rfl:p.edges.length=i:=U
  have e:decide (((p.edges.length:Nat):Int)<(p.edges.length:Nat))=false:=by simp
  have hb:=dT hb0 he;have l1:=dE hb 1 _ rfl;have hlen:=(hp.ext he).fD;refine⟨H1,?_,he⟩;rw[cU,Uu];simp only[gsR,l1,hlen,e];rw[aF5,List.drop_length,qD,aQa];simp only[gsR,l1,hlen]
 |succ q ih=>
  intro i k H1 hr hi hk he hb0;intros;obtain⟨k,rfl⟩:=aB k U
  have e:decide ((i:Int)<(p.edges.length:Nat))=true:=aQw U
  have e3:=aA (i:=i) U
  have hb:=dT hb0 he;have l1:=dE hb 1 _ rfl;have hlen:=(hp.ext he).fD;have hxi:p.edges[i]? =some p.edges[i]:=aPP U
  obtain⟨b,o,g1,g2,g3⟩:=(hp.ext he).fZ oS hxi .i64;obtain⟨y,hy⟩:=aD (p.edges[i]);have le:ldN 2 (.Q b o) H1=some (edV y,H1):=by rw[hy];exact(g3 H1 rfl).1
  have hdrop:p.edges.drop i=y::p.edges.drop (i+1):=by rw[hy];exact List.drop_eq_getElem_cons U
  have htake:p.edges.take i++[y]=p.edges.take (i+1):=by rw[List.take_add_one,hxi,hy];rfl
  have st:=La y H1;obtain⟨H2,hH2⟩:=aD (H1++[edB y]);rw[<-hH2] at st;have x1:Ext H1 H2:=by rw[hH2];exact Fr.app _ _ _
  have hb2:H2[H1.length]? =some (edB y):=by rw[hH2];exact eL _ _
  have la:=Dy hb2;have lb:=Dz hb2;have hb3:=dT hb x1;have l0:=dE hb3 0 _ rfl;rw[hdrop,qD,htake];rw[cU,Uu];by_cases c1:y.1<0
  ·refine⟨H2,?_,he.tr x1⟩
   simp only[gsR,l1,hlen,e,g1,le,zEd,st,la,lb,c1,decide_true,Bool.true_or,Bool.not_true,Bool.false_and];rw[Dk];rfl
  ·by_cases c2:y.2<=y.1
   ·refine⟨H2,?_,he.tr x1⟩
    simp only[gsR,l1,hlen,e,g1,le,zEd,st,la,lb,c1,c2,decide_true,decide_false,Bool.false_or,Bool.true_or,Bool.not_true,Bool.false_and];rw[Dk];rfl
   ·by_cases c3:p.nodes<=y.2
    ·refine⟨H2,?_,he.tr x1⟩
     simp only[gsR,l1,hlen,e,g1,le,zEd,st,la,lb,l0,c1,c2,c3,decide_true,decide_false,Bool.false_or,Bool.true_or,Bool.not_true,Bool.false_and];rw[Dk];rfl
    ·simp only[gsR,l1,hlen,e,g1,le,zEd,st,la,lb,l0,c1,c2,c3,decide_false,Bool.false_or]
     rw[Bool.and_assoc];refine aHz (H:=H2) (H0:=H0) (a:=a) (eb:=H1.length) (i0:=i) (kk:=k) (y:=y) (R:=qD p.nodes (p.edges.take (i+1)) (p.edges.drop (i+1))&&decide ((p.edges.length:Int)<=15)) ((hp.ext he).ext x1) hb3 hb2 U U (he.tr x1) ?_ i 0 m U U U ..
     intros;rw[e3];exact ih (i+1) k H2 U U U (he.tr x1) hb0 ..
theorem aHx (hp:PV H p ev wv nv)(hn:p.edges.length+30<m)(hm:m<=72057594037927936): ∃H',lvl prog bL m (.func 155) [plV p ev wv nv] H=some (.bool (tV p),H')/\Ext H H':=by
 have h1:=hp.be;have h2:=hp.bw;have h3:=hp.bn;obtain⟨H0,hH0⟩:=aD (H++[plB p ev wv nv]);have x0:Ext H H0:=by rw[hH0];exact Fr.app _ _ _
 have b0:H0[H.length]? =some (plB p ev wv nv):=by rw[hH0];exact eL _ _
 obtain⟨H',g1,g2⟩: ∃H',lvl prog bL m (.func 155) [plV p ev wv nv] H=some (.bool (tV p),H')/\Ext H0 H':=by
  refine jQ (fB rfl rfl) U ?_
  rw[aF7];simp only[gsR,eZ,<-hH0];exact aHy (hp.e.ext x0) (m:=m-1) U U p.edges.length 0 (m-1) H0 U U U (Fr.iQ _ _) b0 ..
 exact⟨H',g1,x0.tr g2⟩
theorem ePR (a:Addr):bin prog .eql 136 (.pointer (some a)) (.pointer none)=some (.bool false):=zY 136 225 (by kernel_rfl) a
theorem Ea:bin prog .eql 136 (.pointer none) (.pointer none)=some (.bool true):=I6 136 225 (by kernel_rfl)
theorem bRW:bld prog 225 []=some (.agg #[.slice none 0 0,.slice none 0 0,.I 0]):=by kernel_rfl
theorem V8 {u:Value}{xs:List Int}(h:Iw H u xs):u.cells.toList=[u]/\dV [u]=true:=by
 rcases h with⟨_,⟨rfl,_⟩|⟨_,_,_,rfl,_⟩⟩<;>exact⟨rfl,rfl⟩
theorem aHE {H:aE}{v:Value}{ws:List Int}(hw:Is H v ws)(hl:ws.length<=17592186044500)(hok:ws.any mY=false)(x1 x2 x3 x4 x5 x6 x7 x8 x9 bG b9 aS aP aQ aO aT aU aR bA bK bX bJ bE aV aW aX aY aZ bB bC bH bI bM bN bO bP bQ bR bS bT bU bY cA cD cE cI cJ cN cP cK cQ:Value):
  ∃H' u,Ky (lvl prog bL m) (aJ m) v x1 x2 x3 x4 x5 x6 x7 x8 x9 bG b9 aS aP aQ aO aT aU aR bA bK bX bJ bE aV aW aX aY aZ bB bC bH bI bM bN bO bP bQ bR bS bT bU bY cA cD cE cI cJ cN cP cK cQ H=some (u,H')/\Ext H H'/\(bin prog .eql 136 u (.pointer none)=some (.bool (!wOk ws))/\ ∃a,u= .pointer a):=by
 have hlen:=hw.fD;unfold Ky;by_cases c1:(ws.length:Int)<1
 ·have hno:wOk ws=false:=by unfold wOk;rw[aQw (show(ws.length:Int)=0 by omega)];rfl
  refine⟨H,.pointer none,?_,Fr.iQ _ _,⟨by rw[hno];exact Ea,_,rfl⟩⟩
  simp only[gsR,hlen,c1,decide_true]
 ·by_cases c2:(3:Int)<ws.length
  ·have hno:wOk ws=false:=by unfold wOk;rw[aQw c2];simp
   refine⟨H,.pointer none,?_,Fr.iQ _ _,⟨by rw[hno];exact Ea,_,rfl⟩⟩
   simp only[gsR,hlen,c1,c2,decide_true,decide_false]
  ·have hyes:wOk ws=true:=by unfold wOk;rw[aQx (show¬(ws.length:Int)=0 by omega),aQx c2,hok];rfl
   obtain⟨H1,hH1⟩:=aD (H++[Blk.cells (Value.agg #[.slice none 0 0,.slice none 0 0,.int .i64 0]).cells.toList 225 .fix]);have x1:Ext H H1:=by rw[hH1];exact Fr.app _ _ _
   have b1:H1[H.length]? =some (.cells [.slice none 0 0,.slice none 0 0,.I 0] 225 .fix):=by rw[hH1];exact eL _ _
   have l0:ld1 (.Q H.length 0) H1=some (.slice none 0 0,H1):=by rw[kC,b1];rfl
   obtain⟨u1,H2,g1,g2,g3,g4⟩:=(Rw.fW (el:=inC) (e:=3) (sz:=1) (H:=H1)).rY fA lD aC (by':=8) (H0:=H1) (hw.ext x1) (New.iI _) (Fr.iQ _ _) (fV (n:=1000) aC (by simp;omega))
   obtain⟨s1,s2⟩:=V8 g2;have b2:=dT b1 g4;have st1:stN 1 (.Q H.length 0) u1 H2=some (undef,H2.set H.length (.cells [u1,.slice none 0 0,.I 0] 225 .fix)):=by
    rw[mB 1 _ _ _ (by rw[s1];rfl),b2,s1,nG _ _ _ _ _ _ aC (by simp) s2]
    rfl
   obtain⟨H3,hH3⟩:=aD (H2.set H.length (.cells [u1,.slice none 0 0,.I 0] 225 .fix));rw[<-hH3] at st1;have hl2:H.length<H2.length:=(aPN.mp b2).1;have b3:H3[H.length]? =some (.cells [u1,.slice none 0 0,.I 0] 225 .fix):=by rw[hH3];exact aPT hl2
   have x3:Ext H H3:=⟨by rw[hH3,List.length_set];omega,λb hb _=>by rw[hH3,aPO U,g4.2 b (by have:=x1.1;omega) id,x1.2 b hb id]⟩
   have l3:ld1 (.Q H.length 1) H3=some (.slice none 0 0,H3):=by rw[kC,b3];rfl
   obtain⟨u2,H4,q1,q2,q3,q4⟩:=(Rw.fW (el:=inC) (e:=3) (sz:=1) (H:=H3)).rY fA lD aC (by':=8) (H0:=H3) (hw.ext x3) (New.iI _) (Fr.iQ _ _) (fV (n:=1000) aC (by simp;omega))
   obtain⟨s3,s4⟩:=V8 q2;have b4:=dT b3 q4;have st2:stN 1 (.Q H.length 1) u2 H4=some (undef,H4.set H.length (.cells [u1,u2,.I 0] 225 .fix)):=by
    rw[mB 1 _ _ _ (by rw[s3];rfl),b4,s3,nG _ _ _ _ _ _ aC (by simp) s4]
    rfl
   have hl4:H.length<H4.length:=(aPN.mp b4).1;refine⟨H4.set H.length (.cells [u1,u2,.int .i64 0] 225 .fix),.pointer (some ⟨H.length,0,none⟩),?_,⟨by rw[List.length_set];omega,λb hb _=> ?_⟩,⟨by rw[hyes];exact ePR _,_,rfl⟩⟩
   ·simp only[gsR,hlen,c1,c2,decide_false,bRW,<-hH1,l0,g1,st1,l3,q1,st2]
   ·rw[aPO U,q4.2 b (by have:=x3.1;omega) id,x3.2 b hb id]
theorem aHD {v:Value}{ws:List Int}(hw:Is H v ws)(hl:ws.length<=17592186044500): ∀(q i k:Nat),ws.length-i=q->i<=ws.length->q<k->(ws.take i).any mY=false-> ∀(x1 x4 x5 x6 x7 x8 x9 bG b9 aS aP aQ aO aT aU aR bA bK bX bJ bE aV aW aX aY aZ bB bC bH bI bM bN bO bP bQ bR bS bT bU bY cA cD cE cI cJ cN cP cK cQ:Value),
  ∃H' u,aJ k (aM prog (lvl prog bL m) (aJ m) Kx) (Dr (lvl prog bL m) (aJ m)) [v,x1,(.pointer none),(.I (i:Nat)),x4,x5,x6,x7,x8,x9,bG,b9,aS,aP,aQ,aO,aT,aU,aR,bA,bK,bX,bJ,bE,aV,aW,aX,aY,aZ,bB,bC,bH,bI,bM,bN,bO,bP,bQ,bR,bS,bT,bU,bY,cA,cD,cE,cI,cJ,cN,cP,cK,cQ] H=some (u,H')/\Ext H H'/\(bin prog .eql 136 u (.pointer none)=some (.bool (!wOk ws))/\ ∃a,u= .pointer a):=by
 intro q;induction q with
 |zero=>
  intro i k hr hi hk hok;intros;obtain⟨k,rfl⟩:=aB k U
  obtain rfl:ws.length=i:=U
  have e:decide (((ws.length:Nat):Int)<(ws.length:Nat))=false:=by simp
  have hlen:=hw.fD;rw[List.take_of_length_le (aPS _)] at hok;rw[cU,Vc];simp only[gsR,hlen,e];rw[aGD];exact aHE hw hl hok ..
 |succ q ih=>
  intro i k hr hi hk hok;intros;obtain⟨k,rfl⟩:=aB k U
  have e:decide ((i:Int)<(ws.length:Nat))=true:=aQw U
  have e3:=aA (i:=i) U
  have hlen:=hw.fD;have hxi:ws[i]? =some ws[i]:=aPP U
  obtain⟨b,o,g1,g2,g3⟩:=hw.fZ fA hxi .i64;have l1:ld1 (.Q b o) H=some (.I ws[i],H):=(g3 H rfl).2.1 0 _ rfl;have htake:ws.take (i+1)=ws.take i++[ws[i]]:=by rw[List.take_add_one,hxi];rfl
  have hbad:mY ws[i]=true->wOk ws=false:=λh=>by
   have:ws.any mY=true:=List.any_eq_true.mpr ⟨ws[i],List.getElem_mem U,h⟩
   unfold wOk;rw[this];simp
  rw[cU,Vc];by_cases c1:ws[i]<1
  ·have hno:=hbad (by unfold mY;rw[aQw c1];rfl)
   refine⟨H,.pointer none,?_,Fr.iQ _ _,⟨by rw[hno];exact Ea,_,rfl⟩⟩
   simp only[gsR,hlen,e,g1,l1,c1,decide_true];rw[Vd];rfl
  ·by_cases c2:5<ws[i]
   ·have hno:=hbad (by unfold mY;rw[aQw c2];simp)
    refine⟨H,.pointer none,?_,Fr.iQ _ _,⟨by rw[hno];exact Ea,_,rfl⟩⟩
    simp only[gsR,hlen,e,g1,l1,c1,c2,decide_true,decide_false];rw[Vd];rfl
   ·have hgood:mY ws[i]=false:=by unfold mY;rw[aQx c1,aQx c2];rfl
    simp only[gsR,hlen,e,g1,l1,c1,c2,decide_false,cO,e3];exact ih (i+1) k U U U (by rw[htake,List.any_append,hok];simp[hgood]) ..
theorem V9 {v:Value}{ws:List Int}(hw:Is H v ws)(hl:ws.length<=17592186044500)(hm:ws.length+100<m): ∃H' u,lvl prog bL m (.func 62) [v] H=some (u,H')/\Ext H H'/\(bin prog .eql 136 u (.pointer none)=some (.bool (!wOk ws))/\ ∃a,u= .pointer a):=by
 refine fJ (fB rfl rfl) U ?_
 rw[aGE];exact aHD hw hl ws.length 0 (m-1) U U U (by simp) ..
theorem aHw {a:Nat}(hp:Rows H nv p.next)(hb:H[a]? =some (plB p ev wv nv))(hl:p.next.length<=17592186043000): ∀(q i k:Nat),p.next.length-i=q->i<=p.next.length->q<k-> ∀(x0 x2 x3 x5 x6 x7 x8 x9 bG b9 aS aP aQ aO aT aU aR bA bK bX bJ bE aV aW aX aY aZ bB bC bH bI bM bN bO bP bQ bR bS bT bU bY cA cD cE cI cJ cN cP cK cQ cR cW dA cX cY dD dF dL dH dM dU dW dY dZ eA eC eD eE eF eM eN eO eP eQ eS eT eU eV eW eX eY:Value),
  aJ k (aM prog (lvl prog bL m) (aJ m) Jz) (Df (lvl prog bL m) (aJ m)) [x0,(.pointer (some ⟨a,0,none⟩)),x2,x3,(.int .i64 (i:Nat)),x5,x6,x7,x8,x9,bG,b9,aS,aP,aQ,aO,aT,aU,aR,bA,bK,bX,bJ,bE,aV,aW,aX,aY,aZ,bB,bC,bH,bI,bM,bN,bO,bP,bQ,bR,bS,bT,bU,bY,cA,cD,cE,cI,cJ,cN,cP,cK,cQ,cR,cW,dA,cX,cY,dD,dF,dL,dH,dM,dU,dW,dY,dZ,eA,eC,eD,eE,eF,eM,eN,eO,eP,eQ,eS,eT,eU,eV,eW,eX,eY] H=some (.int .i64 (nI (!((p.next.drop i).any λr=>decide ((r.length:Int)≠p.nodes)))),H):=by
 intro q;induction q with
 |zero=>
  intro i k hr hi hk;intros;obtain⟨k,rfl⟩:=aB k U
  obtain rfl:p.next.length=i:=U
  have e:decide (((p.next.length:Nat):Int)<(p.next.length:Nat))=false:=by simp
  have l10:=dE hb 10 _ rfl;have hlen:=hp.sB;rw[cU,Um];simp only[gsR,l10,hlen,e];rw[aFQ,List.drop_length];rfl
 |succ q ih=>
  intro i k hr hi hk;intros;obtain⟨k,rfl⟩:=aB k U
  have e:decide ((i:Int)<(p.next.length:Nat))=true:=aQw U
  have e3:=aA (i:=i) U
  have l10:=dE hb 10 _ rfl;have l0:=dE hb 0 _ rfl;have hlen:=hp.sB;have hxi:p.next[i]? =some p.next[i]:=aPP U
  obtain⟨a1,u,g1,g2,g3⟩:=hp.wS hxi .i64;have hul:=g3.fD;rw[List.drop_eq_getElem_cons U,List.any_cons]
  rw[cU,Um];by_cases c:(p.next[i].length:Int)=p.nodes
  ·have d:((p.next[i].length:Int)!=p.nodes)=false:=by simpa using c
   have d2:decide ((p.next[i].length:Int)≠p.nodes)=false:=aQx λh=>h c
   simp only[gsR,l10,hlen,e,g1,g2,hul,l0,d,cO,e3];rw[d2,Bool.false_or];exact ih (i+1) k U U U ..
  ·have d:((p.next[i].length:Int)!=p.nodes)=true:=by simpa using c
   have d2:decide ((p.next[i].length:Int)≠p.nodes)=true:=aQw c;simp only[gsR,l10,hlen,e,g1,g2,hul,l0,d];rw[aFS,d2];rfl
theorem Li (hp:PV H p ev wv nv)(hm:17592186045000<m)(hm2:m<=72057594037927936): ∃H',lvl prog bL m (.func 113) [plV p ev wv nv] H=some (.I (nI (kM p)),H')/\Ext H H':=by
 have h1:=hp.be;have h2:=hp.bw;have h3:=hp.bn;obtain⟨H0,hH0⟩:=aD (H++[plB p ev wv nv]);have x0:Ext H H0:=by rw[hH0];exact Fr.app _ _ _
 have b0:H0[H.length]? =some (plB p ev wv nv):=by rw[hH0];exact eL _ _
 have l11:=fL b0;have w:=λx lo hi H=>aHF (m:=m-1) U x lo hi H
 have q0:=dE b0 0 _ rfl;have q2:=dE b0 2 _ rfl;have q3:=dE b0 3 _ rfl;have q4:=dE b0 4 _ rfl;have q5:=dE b0 5 _ rfl;have q6:=dE b0 6 _ rfl;have q7:=dE b0 7 _ rfl;obtain⟨H2,g2,x2⟩:=aHx (m:=m-1) (hp.ext x0) U U
 have b2:=dT b0 x2;have w2:=dE b2 8 _ rfl;have la2:=dE b2 2 _ rfl;have p2:=hp.ext (x0.tr x2);have wl:=p2.w.fD;obtain⟨H3,u3,g3,x3,g4,_⟩:=V9 p2.w (m:=m-1) U U
 have b3:=dT b2 x3;have n3:=dE b3 10 _ rfl;have no3:=dE b3 0 _ rfl;have p3:=p2.ext x3;have nl:=p3.n.sB;have hn1:((p.weights.length:Int)!=p.lanes)= !decide ((p.weights.length:Int)=p.lanes):=by rw[Bool.eq_iff_iff];simp
 have hn2:((p.next.length:Int)!=p.nodes)= !decide ((p.next.length:Int)=p.nodes):=by rw[Bool.eq_iff_iff];simp
 have hz:nI false=120:=rfl;have hz1:nI true=0:=rfl;refine jQ (fB rfl rfl) U ?_
 rw[aFR];unfold kM u7;cases c1:wi p.nodes 2 6 with
 |false=>exact⟨H0,by simp only[gsR,eZ,<-hH0,w,q0,c1,hz,hz1,Bool.false_and,aQa],x0⟩
 |true=>
  cases c2:wi p.lanes 1 3 with
  |false=>exact⟨H0,by simp only[gsR,eZ,<-hH0,w,q0,q2,c1,c2,hz,hz1,Bool.false_and,aQa],x0⟩
  |true=>
   cases c3:wi p.room 1 8 with
   |false=>exact⟨H0,by simp only[gsR,eZ,<-hH0,w,q0,q2,q3,c1,c2,c3,hz,hz1,Bool.false_and,aQa],x0⟩
   |true=>
    cases c4:wi p.queue 1 8 with
    |false=>exact⟨H0,by simp only[gsR,eZ,<-hH0,w,q0,q2,q3,q4,c1,c2,c3,c4,hz,hz1,Bool.false_and,aQa],x0⟩
    |true=>
     cases c5:wi p.rounds 1 4 with
     |false=>exact⟨H0,by simp only[gsR,eZ,<-hH0,w,q0,q2,q3,q4,q5,c1,c2,c3,c4,c5,hz,hz1,Bool.false_and,aQa],x0⟩
     |true=>
      cases c6:wi p.every 1 8 with
      |false=>exact⟨H0,by simp only[gsR,eZ,<-hH0,w,q0,q2,q3,q4,q5,q6,c1,c2,c3,c4,c5,c6,hz,hz1,Bool.false_and,aQa],x0⟩
      |true=>
       cases c7:wi p.bag 1 64 with
       |false=>exact⟨H0,by simp only[gsR,eZ,<-hH0,w,q0,q2,q3,q4,q5,q6,q7,c1,c2,c3,c4,c5,c6,c7,hz,hz1,Bool.false_and,aQa],x0⟩
       |true=>
        cases c8:tV p with
        |false=>exact⟨H2,by simp only[gsR,eZ,<-hH0,w,q0,q2,q3,q4,q5,q6,q7,l11,g2,c1,c2,c3,c4,c5,c6,c7,c8,hz,hz1,Bool.false_and,aQa],x0.tr x2⟩
        |true=>
         cases c9:decide ((p.weights.length:Int)=p.lanes) with
         |false=>exact⟨H2,by simp only[gsR,eZ,<-hH0,w,q0,q2,q3,q4,q5,q6,q7,l11,g2,w2,wl,la2,hn1,c1,c2,c3,c4,c5,c6,c7,c8,c9,hz,hz1,Bool.false_and,aQa],x0.tr x2⟩
         |true=>
          cases c10:wOk p.weights with
          |false=>exact⟨H3,by simp only[gsR,eZ,<-hH0,w,q0,q2,q3,q4,q5,q6,q7,l11,g2,w2,wl,la2,hn1,g3,g4,c1,c2,c3,c4,c5,c6,c7,c8,c9,c10,hz,hz1,Bool.false_and,aQa],(x0.tr x2).tr x3⟩
          |true=>
           cases c11:decide ((p.next.length:Int)=p.nodes) with
           |false=>exact⟨H3,by simp only[gsR,eZ,<-hH0,w,q0,q2,q3,q4,q5,q6,q7,l11,g2,w2,wl,la2,hn1,g3,g4,n3,nl,no3,hn2,c1,c2,c3,c4,c5,c6,c7,c8,c9,c10,c11,hz,hz1,Bool.false_and,aQa],(x0.tr x2).tr x3⟩
           |true=>
            refine⟨H3,?_,(x0.tr x2).tr x3⟩;simp only[gsR,eZ,<-hH0,w,q0,q2,q3,q4,q5,q6,q7,l11,g2,w2,wl,la2,hn1,g3,g4,n3,nl,no3,hn2,c1,c2,c3,c4,c5,c6,c7,c8,c9,c10,c11,aQa];unfold u9;exact aHw p3.n b3 U p.next.length 0 (m-1) U U U ..
theorem aHC {H0:aE}{a:Nat}{v:Nat}{ws:List Int}{hs:List Ed}{Q:aE->Value->Prop}{K:Ex->K (Value×aE)}{u:Value}(hs1:hs.length+(ws.filter λw=>wi w 0 5).length<=1000)(hws:ws.length<=72057594037927936)(hm:0<m)
  (hK: ∀(H':aE)(acc:Value),Ext H0 H'->Hw H' acc (hs++(ws.filter λw=>wi w 0 5).map λw=>((v:Int),w))->New H0 acc-> ∀(x0 x2 x5 x6 x7 x8 x9 bG b9 aS aP aQ aO aT aU aR bA bK bX bJ bE aV aW aX aY aZ bB bC bH bI bM bN bO bP bQ bR bS bT bU bY cA cD cE cI cJ:Value),∃H2 u2,K .normal [x0,(.pointer (some ⟨a,0,none⟩)),x2,acc,(.int .i64 (IntKind.i64.wrap ((v:Int)+1))),x5,x6,x7,x8,x9,bG,b9,aS,aP,aQ,aO,aT,aU,aR,bA,bK,bX,bJ,bE,aV,aW,aX,aY,aZ,bB,bC,bH,bI,bM,bN,bO,bP,bQ,bR,bS,bT,bU,bY,cA,cD,cE,cI,cJ] H'=some (u2,H2)/\Q H2 u2): ∀(q i k:Nat)(H1:aE)(acc:Value),ws.length-i=q->i<=ws.length->q<k->Ext H0 H1->Is H1 u ws->Apart H1 u acc->Hw H1 acc (hs++((ws.take i).filter λw=>wi w 0 5).map λw=>((v:Int),w))->New H0 acc-> ∀(x0 x2 x7 x8 x9 bG b9 aS aP aQ aO aT aU aR bA bK bX bJ bE aV aW aX aY aZ bB bC bH bI bM bN bO bP bQ bR bS bT bU bY cA cD cE cI cJ:Value),
  ∃H' u2,aJ k (aM prog (lvl prog bL m) (aJ m) J8) (Ka (lvl prog bL m) (aJ m) K) [x0,(.Q a 0),x2,acc,(.I (v:Nat)),u,(.I (i:Nat)),x7,x8,x9,bG,b9,aS,aP,aQ,aO,aT,aU,aR,bA,bK,bX,bJ,bE,aV,aW,aX,aY,aZ,bB,bC,bH,bI,bM,bN,bO,bP,bQ,bR,bS,bT,bU,bY,cA,cD,cE,cI,cJ] H1=some (u2,H')/\Q H' u2:=by
 intro q;induction q with
 |zero=>
  intro i k H1 acc hr hi hk he hu hap ha hnew;intros;obtain⟨k,rfl⟩:=aB k U
  obtain rfl:ws.length=i:=U
  have e:decide (((ws.length:Nat):Int)<(ws.length:Nat))=false:=by simp
  have hlen:=hu.fD;rw[List.take_of_length_le (aPS _)] at ha;rw[cU,Uy];simp only[gsR,hlen,e];rw[aGc];simp only[gsR,cO];exact hK H1 acc he ha hnew ..
 |succ q ih=>
  intro i k H1 acc hr hi hk he hu hap ha hnew;intros;obtain⟨k,rfl⟩:=aB k U
  have e:decide ((i:Int)<(ws.length:Nat))=true:=aQw U
  have e3:=aA (i:=i) U
  have hlen:=hu.fD;have hxi:ws[i]? =some ws[i]:=aPP U
  obtain⟨b,o,g1,g2,g3⟩:=hu.fZ fA hxi .i64;have l1:ld1 (.Q b o) H1=some (.I ws[i],H1):=(g3 H1 rfl).2.1 0 _ rfl;have htake:ws.take (i+1)=ws.take i++[ws[i]]:=by rw[List.take_add_one,hxi];rfl
  have hfl:((ws.take i).filter λw=>wi w 0 5).length<=(ws.filter λw=>wi w 0 5).length:=(List.Sublist.filter _ (List.take_sublist i ws)).length_le
  rw[cU,Uy];by_cases c0:0<=ws[i]
  ·by_cases c1:ws[i]<6
   ·have c:wi ws[i] 0 5=true:=by unfold wi;rw[aQw c0,aQw U];rfl
    obtain⟨acc2,H2,t1,t2,t3,t4,t5,t6⟩:=ha.yK (by':=16) oS Dv aC ((v:Int),ws[i]) hnew he (fV (n:=1000000) aC (by simp only[aPZ,aP1];omega))
    simp only[gsR,hlen,e,g1,l1,c0,c1,decide_true,Lc,Vz,t1,cO,e3];refine ih (i+1) k H2 acc2 U U U t4 (hu.Ts hap t5) (hap.up t5 t6) ?_ t3 ..
    have:([ws[i]].filter λw=>wi w 0 5)=[ws[i]]:=by rw[List.filter_cons,if_pos c];rfl
    rw[htake,List.filter_append,List.map_append,<-aPU,this];exact t2
   ·have c: ¬wi ws[i] 0 5=true:=by unfold wi;rw[aQx (show¬ws[i]<=5 by omega)];simp
    simp only[gsR,hlen,e,g1,l1,c0,c1,decide_true,decide_false,cO,e3];refine ih (i+1) k H1 acc U U U he hu hap ?_ hnew ..
    have:([ws[i]].filter λw=>wi w 0 5)=[]:=by rw[List.filter_cons,if_neg c];rfl
    rw[htake,List.filter_append,this,List.append_nil];exact ha
  ·have c: ¬wi ws[i] 0 5=true:=by unfold wi;rw[aQx c0];simp
   simp only[gsR,hlen,e,g1,l1,c0,decide_false,cO,e3];refine ih (i+1) k H1 acc U U U he hu hap ?_ hnew ..
   have:([ws[i]].filter λw=>wi w 0 5)=[]:=by rw[List.filter_cons,if_neg c];rfl
   rw[htake,List.filter_append,this,List.append_nil];exact ha
theorem aHB {H0:aE}{a:Nat}(hp:PV H0 p ev wv nv)(hn:p.edges.length+70<m)(hm:m<=72057594037927936): ∀(q i k:Nat)(H1:aE)(acc:Value),(iN p)-i=q->i<=(iN p)->q<k->Ext H0 H1->H0[a]? =some (plB p ev wv nv)->Hw H1 acc ((List.range i).flatMap (nJ p.edges))->New H0 acc-> ∀(x0 x2 x5 x6 x7 x8 x9 bG b9 aS aP aQ aO aT aU aR bA bK bX bJ bE aV aW aX aY aZ bB bC bH bI bM bN bO bP bQ bR bS bT bU bY cA cD cE cI cJ:Value),
  ∃H' u2,aJ k (aM prog (lvl prog bL m) (aJ m) J7) (J9 (lvl prog bL m) (aJ m)) [x0,(.Q a 0),x2,acc,(.I (i:Nat)),x5,x6,x7,x8,x9,bG,b9,aS,aP,aQ,aO,aT,aU,aR,bA,bK,bX,bJ,bE,aV,aW,aX,aY,aZ,bB,bC,bH,bI,bM,bN,bO,bP,bQ,bR,bS,bT,bU,bY,cA,cD,cE,cI,cJ] H1=some (u2,H')/\Ext H0 H'/\Hw H' u2 (kE p)/\New H0 u2:=by
 intro q;have h6:iN p<=6:=by unfold iN;omega
 induction q with
 |zero=>
  intro i k H1 acc hr hi hk he hb0 ha hnew;intros;obtain⟨k,rfl⟩:=aB k U
  obtain rfl:(iN p)=i:=U
  have e:decide ((((iN p):Nat):Int)<((iN p):Nat))=false:=by simp
  have hb:=dT hb0 he;have l0:=dE hb 0 _ rfl;refine⟨H1,acc,?_,he,ha,hnew⟩;rw[cU,Ux];by_cases c:(iN p:Int)<p.nodes
  ·have c2:decide ((iN p:Int)<6)=false:=aQx (by unfold iN at *; omega)
   simp only[gsR,l0,c,decide_true,c2];rw[Uz];rfl
  ·simp only[gsR,l0,c,decide_false]
   rw[Uz];rfl
 |succ q ih=>
  intro i k H1 acc hr hi hk he hb0 ha hnew;intros;obtain⟨k,rfl⟩:=aB k U
  have e:decide ((i:Int)<((iN p):Nat))=true:=aQw U
  have e3:=aA (i:=i) U
  have hb:=dT hb0 he;have l0:=dE hb 0 _ rfl;have l11:=fL hb;obtain⟨H2,u,g1,g2,g3,g4⟩:=Lh (hp.ext he) (m:=m) U U (i:Int)
  have hble:=D0 p.edges (i:Int);have hol:=D5 p.edges i;have hff:=Ld _ (Av p.edges (i:Int));have hL:=hp.be;have hap:Apart H2 u acc:=λb hb=>⟨g3.fY hb,λhc=>by have:=g4 b hb;have:=ha.fY hc;omega⟩
  have ha2:Hw H2 acc ((List.range i).flatMap (nJ p.edges)):=ha.fG λb hb=>g2.2 b (ha.fY hb) id
  have c1:decide ((i:Int)<p.nodes)=true:=aQw (by unfold iN at hr;omega)
  have c2:decide ((i:Int)<6)=true:=aQw U
  rw[cU,Ux];simp only[gsR,l0,c1,c2,l11,g1];refine aHC (H0:=H0) (a:=a) (v:=i) (ws:=bes p.edges (i:Int)) (hs:=(List.range i).flatMap (nJ p.edges)) (Q:=λH' u2=>Ext H0 H'/\Hw H' u2 (kE p)/\New H0 u2) U U U ?_ (bes p.edges (i:Int)).length 0 m H2 acc U U U (he.tr g2) g3.rs hap (by simpa using ha2) hnew ..
  intro H3 acc3 k1 k2 k3;intros;rw[again_normal,e3];refine ih (i+1) k H3 acc3 U U U k1 hb0 ?_ k3 ..
  rw[aQm,List.flatMap_append];simpa[nJ] using k2
theorem aHA (hp:PV H p ev wv nv)(hn:p.edges.length+80<m)(hm:m<=72057594037927936): ∃H' u,lvl prog bL m (.func 157) [plV p ev wv nv] H=some (u,H')/\Ext H H'/\Hw H' u (kE p)/\New H u:=by
 have h1:=hp.be;have h2:=hp.bw;have h3:=hp.bn;obtain⟨H0,hH0⟩:=aD (H++[plB p ev wv nv]);have x0:Ext H H0:=by rw[hH0];exact Fr.app _ _ _
 have b0:H0[H.length]? =some (plB p ev wv nv):=by rw[hH0];exact eL _ _
 have h6:iN p<=6:=by unfold iN;omega
 obtain⟨H',u,g1,g2,g3,g4⟩: ∃H' u,lvl prog bL m (.func 157) [plV p ev wv nv] H=some (u,H')/\Ext H0 H'/\Hw H' u (kE p)/\New H0 u:=by
  refine fJ (fB rfl rfl) U ?_
  rw[aGd];simp only[gsR,eZ,<-hH0];exact aHB (hp.ext x0) (m:=m-1) U U (iN p) 0 (m-1) H0 _ U U U (Fr.iQ _ _) b0 (Rw.fW (el:=edC)) (New.iI _) ..
 exact⟨H',u,g1,x0.tr g2,g3,λb hb=>aP3 x0.1 (g4 b hb)⟩
end
def mkN (nodes:Nat):Nat:=2+nodes%5
def mkW (more:Nat)(i:Nat):Int:=((1+(i+more)%5:Nat):Int)
def prs (n:Nat):List (Nat×Nat):=(List.range n).flatMap λb=>(List.range b).map λa=>(a,b)
def oC:Nat->List (Nat×Nat)->List Ed
 |_,[]=>[]
 |bit,(a,b)::r=>if bit%2=1 then((a:Int),(b:Int))::oC (bit/2) r else oC (bit/2) r
def nxt (n:Nat)(next:List Nat)(k w:Nat):Nat:=match next[k]? with
 |some x=>if x%4=0 then(x/4)%n else w
 |none=>w
def vB (n:Nat)(next:List Nat)(v:Nat):List Int:=(List.range n).map λw=>((nxt n next (v*n+w) w:Nat):Int)
def mkP (nodes room more joined:Nat)(next:List Nat):PlanD where
 nodes:=mkN nodes
 edges:=oC joined (prs (mkN nodes))
 lanes:=((1+more%3:Nat):Int)
 room:=((1+room%8:Nat):Int)
 queue:=((1+room/8%8:Nat):Int)
 rounds:=((1+more/3%4:Nat):Int)
 every:=((1+more/12%8:Nat):Int)
 bag:=64
 weights:=(List.range (1+more%3)).map (mkW more)
 start:=joined
 next:=(List.range (mkN nodes)).map (vB (mkN nodes) next)
def u8C (n:Nat):List Value:=[.int .u8 n]
theorem Ll (n:Nat):(u8C n).length=1:=rfl
abbrev Us (H:aE)(v:Value)(xs:List Nat):=Rs u8C 5 H v xs
theorem cvU (H:aE)(n:Nat)(h:n<256):dQ prog 5 3 (.int .u8 n) H=some (.I n,H):=by
 have h1:prog.underlying 5=some (.int .u8):=by kernel_rfl
 have h2:prog.underlying 3=some (.int .i64):=by kernel_rfl
 rw[fI _ _ h1 h2,cZ U U]
theorem wU (a b:Nat)(c:Int)(hc:c=b)(hb:0<b):bin prog .rem 5 (.int .u8 a) (.int .u8 c)=some (.int .u8 (a%b:Nat)):=by rw[hc,I3 _ _ _ _ U,Int.tmod_eq_emod_of_nonneg U];congr 2
theorem wT (a b:Nat)(c:Int)(hc:c=b)(hb:0<b):bin prog .rem 3 (.I a) (.I c)=some (.I (a%b:Nat)):=by rw[hc,I3 _ _ _ _ U,Int.tmod_eq_emod_of_nonneg U];congr 2
theorem aHR (a b:Nat)(c:Int)(hc:c=b)(hb:0<b):bin prog .rem 23 (.int .u16 a) (.int .u16 c)=some (.int .u16 (a%b:Nat)):=by rw[hc,I3 _ _ _ _ U,Int.tmod_eq_emod_of_nonneg U];congr 2
theorem aHT {n:Nat}(h:n<256):IntKind.u8.wrap (n:Int)=n:=by simp[IntKind.wrap,IntKind.bits,IntKind.signed];omega
theorem aHS {n:Nat}(h:n<65536):IntKind.u16.wrap (n:Int)=n:=by simp[IntKind.wrap,IntKind.bits,IntKind.signed];omega
theorem Ee (a b:Nat)(c:Int)(hc:c=b)(hb:0<b)(ha:a<256):bin prog .quo 5 (.int .u8 a) (.int .u8 c)=some (.int .u8 (a/b:Nat)):=by
 rw[hc,Sk _ _ _ _ U,Int.tdiv_eq_ediv_of_nonneg U]
 have h2:((a:Int)/(b:Int))=((a/b:Nat):Int):=by simp
 rw[h2,aHT (Nat.lt_of_le_of_lt (Nat.div_le_self a b) ha)]
theorem aHQ (a b:Nat)(c:Int)(hc:c=b)(hb:0<b)(ha:a<65536):bin prog .quo 23 (.int .u16 a) (.int .u16 c)=some (.int .u16 (a/b:Nat)):=by
 rw[hc,Sk _ _ _ _ U,Int.tdiv_eq_ediv_of_nonneg U]
 have h2:((a:Int)/(b:Int))=((a/b:Nat):Int):=by simp
 rw[h2,aHS (Nat.lt_of_le_of_lt (Nat.div_le_self a b) ha)]
def Eb (b:Nat)(e:TypeId)(H H':aE):Prop:= ∀(c:Nat)(y:Blk),c≠b->(∀cs,y≠ .cells cs e .row)->H[c]? =some y->H'[c]? =some y
section
variable {H : aE} {m : Nat} {p : PlanD} {ev wv nv : Value}
theorem vD {α:Type}{el:α->List Value}{e:TypeId}{sz by':Nat}{tb:TypeId}(hsz: ∀x,(el x).length=sz)(hall: ∀x,dV (el x)=true)(h0:0<sz){H0:aE}{v:Value}{xs:List α}{b j:Nat}{cs:List Value}(x:α)
  (hb:H[b]? =some (.cells cs tb .fix))(hj:j<cs.length)(hv:Rw el e sz H v xs)(hn:New H0 v)(hbn:H0.length<=b)(he:Ext H0 H)(hr:j7 (xs.length+1) by'=true):
  ∃v' H1 H',app e sz by' v (.slice (some ⟨H.length,0,none⟩) 1 1) (H++[.cells (el x) e .row])=some (v',H1)/\stN 1 (.Q b j) v' H1=some (undef,H')/\
   Rw el e sz H' v' (xs++[x])/\New H0 v'/\Ext H0 H'/\H'[b]? =some (.cells (cs.set j v') tb .fix)/\Eb b e H H':=by
 obtain⟨v',H1,g1,g2,g3,g4,g5,g6⟩:=hv.yK hsz hall h0 (by':=by') x hn he hr;have hbl:=(aPN.mp hb).1;have hnh: ¬cV v b:=λhh=>by
  obtain⟨c',hc'⟩:=hv.blk hh;rw[hb] at hc';simp at hc'
 have hb1:H1[b]? =some (.cells cs tb .fix):=by rw[g5.2 b hbl hnh,hb]
 obtain⟨s1,s2⟩:=g2.uY;have hb1l:=(aPN.mp hb1).1;refine⟨v',H1,H1.set b (.cells (cs.set j v') tb .fix),g1,?_,g2.fG λc hc=> ?_,g3,⟨by rw[List.length_set];exact g4.1,λc hc _=> ?_⟩,aPT hb1l,λc y hcb hA hy=> ?_⟩
 ·rw[mB 1 _ _ _ (by rw[s1];rfl),hb1,s1,nG _ _ _ _ _ _ aC (by simp;omega) s2]
  rfl
 ·refine aPO λhh=> ?_
  subst hh;obtain⟨c',hc'⟩:=g2.blk hc;rw[hb1] at hc';simp at hc'
 ·rw[aPO U,g4.2 c hc id]
 ·have hch: ¬cV v c:=λhh=>by
   obtain⟨c',hc'⟩:=hv.blk hh;rw[hy] at hc';cases hc';exact hA _ rfl
  rw[aPO (Ne.symm hcb),g5.2 c (aPN.mp hy).1 hch,hy]
theorem Rw.rB {α:Type}{el:α->List Value}{e e' tb:TypeId}{sz b:Nat}{H':aE}{v:Value}{xs:List α}{cs:List Value}(h:Rw el e' sz H v xs)(hk:Eb b e H H')(hb:H[b]? =some (.cells cs tb .fix))(hne:e'≠e):Rw el e' sz H' v xs:=h.fG λc hc=>by
 obtain⟨cs',hx⟩:=h.blk hc;have hcb:c≠b:=λhh=>by
  subst hh;rw[hb] at hx;simp at hx
 rw[hx];exact hk c _ hcb (λcs'' hh=>by cases hh;exact hne rfl) hx
theorem bEd (a b:Int):bld prog 34 [(0,.I a),(1,.I b)]=some (edV (a,b)):=rfl
theorem aHI (H:aE)(y:Ed):dG 34 2 1 [.I 0,.I 0] [(0,edV y)] H=some (.slice (some ⟨H.length,0,none⟩) 1 1,H++[.cells (edC y) 34 .row]):=rfl
theorem aHN {H0:aE}{b rb n v joined:Nat}{a4:Value}{next:List Nat}{zs:List Value}{Q:aE->Value->Prop}{K:Ex->K (Value×aE)}(hn6:n<=6)(hv6:v<n)(hnx:Us H0 a4 next)(hu8: ∀x∈next,x<256)(hnl:next.length<=72057594037927936)(hpn:p.nodes=(n:Int))(hbr:H0[rb]? =some (.cells zs 28 .fix))(hb:H0[b]? =some (plB p ev wv nv))
  (hK: ∀(H':aE)(u:Value),Ext H0 H'->Iw H' u (vB n next v)->New H0 u-> ∀(x0 x1 x2 x5 x6 x7 x8 x9 aS aP aQ aO bA bK bX bJ bE aV aW aX aY aZ bB bC bH bI bM bN bO bP bQ bR bS bT bU bY cA cD cE cI cJ cN cP cK cQ cR cW dA cX cY dD dF dL dH dM dU dW dY dZ eA eC eD eE eF eM eN eO eP eQ eS eT eU eV eW eX eY fN fO fP fQ fR fS fT fU gC gD gE gF gG gH gI gJ gK gL gM gN gO gP gQ gR gS gT gU gV gW gX gY gZ hZ iA iB iC iD iE iF iG iH jL jM lK lL lM lN lO lP lQ lR lS oW oX oY oZ:Value),∃H2 u2,Km (lvl prog bL m) (aJ m) K x0 x1 x2 (.int .u16 joined) a4 x5 x6 x7 x8 x9 (.pointer (some ⟨rb,0,none⟩)) (.pointer (some ⟨b,0,none⟩)) aS aP aQ aO (.int .i64 ((v+1)*n:Nat)) (.int .i64 (v:Nat)) u bA bK bX bJ bE aV aW aX aY aZ bB bC bH bI bM bN bO bP bQ bR bS bT bU bY cA cD cE cI cJ cN cP cK cQ cR cW dA cX cY dD dF dL dH dM dU dW dY dZ eA eC eD eE eF eM eN eO eP eQ eS eT eU eV eW eX eY fN fO fP fQ fR fS fT fU gC gD gE gF gG gH gI gJ gK gL gM gN gO gP gQ gR gS gT gU gV gW gX gY gZ hZ iA iB iC iD iE iF iG iH jL jM lK lL lM lN lO lP lQ lR lS oW oX oY oZ H'=some (u2,H2)/\Q H2 u2): ∀(q i k:Nat)(H1:aE)(acc:Value),n-i=q->i<=n->q<k->Ext H0 H1->Iw H1 acc ((List.range i).map λw=>((nxt n next (v*n+w) w:Nat):Int))->New H0 acc-> ∀(x0 x1 x2 x5 x6 x7 x8 x9 aS aP aQ aO bK bX bJ bE aV aW aX aY aZ bB bC bH bI bM bN bO bP bQ bR bS bT bU bY cA cD cE cI cJ cN cP cK cQ cR cW dA cX cY dD dF dL dH dM dU dW dY dZ eA eC eD eE eF eM eN eO eP eQ eS eT eU eV eW eX eY fN fO fP fQ fR fS fT fU gC gD gE gF gG gH gI gJ gK gL gM gN gO gP gQ gR gS gT gU gV gW gX gY gZ hZ iA iB iC iD iE iF iG iH jL jM lK lL lM lN lO lP lQ lR lS oW oX oY oZ:Value),
  ∃H2 u2,aJ k (aM prog (lvl prog bL m) (aJ m) Kk) (Kr (lvl prog bL m) (aJ m) K) [x0,x1,x2,(.int .u16 joined),a4,x5,x6,x7,x8,x9,(.Q rb 0),(.Q b 0),aS,aP,aQ,aO,(.I (v*n+i:Nat)),(.I (v:Nat)),acc,(.I (i:Nat)),bK,bX,bJ,bE,aV,aW,aX,aY,aZ,bB,bC,bH,bI,bM,bN,bO,bP,bQ,bR,bS,bT,bU,bY,cA,cD,cE,cI,cJ,cN,cP,cK,cQ,cR,cW,dA,cX,cY,dD,dF,dL,dH,dM,dU,dW,dY,dZ,eA,eC,eD,eE,eF,eM,eN,eO,eP,eQ,eS,eT,eU,eV,eW,eX,eY,fN,fO,fP,fQ,fR,fS,fT,fU,gC,gD,gE,gF,gG,gH,gI,gJ,gK,gL,gM,gN,gO,gP,gQ,gR,gS,gT,gU,gV,gW,gX,gY,gZ,hZ,iA,iB,iC,iD,iE,iF,iG,iH,jL,jM,lK,lL,lM,lN,lO,lP,lQ,lR,lS,oW,oX,oY,oZ] H1=some (u2,H2)/\Q H2 u2:=by
 intro q;induction q with
 |zero=>
  intro i k H1 acc hr hi hk he ha hnew;intros;obtain⟨k,rfl⟩:=aB k U
  obtain rfl:n=i:=U
  have e:decide (((n:Nat):Int)<(n:Nat))=false:=by simp
  have l0:=dE (dT hb he) 0 _ rfl;rw[hpn] at l0;rw[cU,U8];simp only[gsR,l0,e];rw[aGu];have hk:v*n+n=(v+1)*n:=by rw[Nat.succ_mul]
  rw[hk];exact hK H1 acc he ha hnew ..
 |succ q ih=>
  intro i k H1 acc hr hi hk he ha hnew;intros;obtain⟨k,rfl⟩:=aB k U
  have e:decide ((i:Int)<(n:Nat))=true:=aQw U
  have e3:=aA (i:=i) U
  have l0:=dE (dT hb he) 0 _ rfl;rw[hpn] at l0;have hlen:=(hnx.ext he).fD;have hvn:v*n+i<42:=by
   have:v*n<=5*n:=Nat.mul_le_mul_right _ U
   omega
  have e4:IntKind.i64.wrap (((v*n+i:Nat):Int)+1)=((v*n+(i+1):Nat):Int):=by rw[cZ U U];omega
  have hrange:(List.range (i+1)).map (λw=>((nxt n next (v*n+w) w:Nat):Int))=(List.range i).map (λw=>((nxt n next (v*n+w) w:Nat):Int))++[((nxt n next (v*n+i) i:Nat):Int)]:=by rw[aQm,List.map_append];rfl
  obtain⟨acc2,H2,t1,t2,t3,t4⟩:=ha.o8 (by':=8) fA lD aC ((nxt n next (v*n+i) i:Nat):Int) hnew he (fV (n:=1000) aC (by simp;omega))
  rw[<-hrange] at t2;rw[cU,U8];by_cases c:v*n+i<next.length
  ·have d:decide (((v*n+i:Nat):Int)<next.length)=true:=aQw U
   have hx:next[v*n+i]? =some next[v*n+i]:=aPP c
   obtain⟨bb,oo,g1,g2,g3⟩:=(hnx.ext he).fZ Ll hx .i64;have l1:ld1 (.Q bb oo) H1=some (.int .u8 (next[v*n+i]:Nat),H1):=(g3 H1 rfl).2.1 0 _ rfl
   have hx8:=hu8 _ (List.getElem_mem c);have r4:=wU next[v*n+i] 4 4 rfl U
   by_cases c4:next[v*n+i]%4=0
   ·have d4:(((next[v*n+i]%4:Nat):Int)==0)=true:=by rw[c4];rfl
    have q4:=Ee next[v*n+i] 4 4 rfl U hx8
    have hcv:=λH=>cvU H (next[v*n+i]/4) U
    have rn:=wT (next[v*n+i]/4) n n rfl U
    have hval:nxt n next (v*n+i) i=next[v*n+i]/4%n:=by unfold nxt;rw[hx];simp only;rw[if_pos c4]
    rw[hval] at t1;simp only[gsR,l0,e,hlen,d,g1,l1,r4,d4,q4,hcv,rn,lU,t1,cO,e4,e3];exact ih (i+1) k H2 acc2 U U U t4 t2 t3 ..
   ·have d4:(((next[v*n+i]%4:Nat):Int)==0)=false:=by simpa using λh=>c4 U
    have hval:nxt n next (v*n+i) i=i:=by unfold nxt;rw[hx];simp only;rw[if_neg c4]
    rw[hval] at t1;simp only[gsR,l0,e,hlen,d,g1,l1,r4,d4,lU,t1,cO,e4,e3];exact ih (i+1) k H2 acc2 U U U t4 t2 t3 ..
  ·have d:decide (((v*n+i:Nat):Int)<next.length)=false:=aQx U
   have hval:nxt n next (v*n+i) i=i:=by unfold nxt;rw[aPY U]
   rw[hval] at t1;simp only[gsR,l0,e,hlen,d,lU,t1,cO,e4,e3];exact ih (i+1) k H2 acc2 U U U t4 t2 t3 ..
def SV:={u:Value // dV [u]=true/\u.cells= #[u]}
def sC (u:SV):List Value:=[u.1]
theorem yR (u:SV):(sC u).length=1:=rfl
theorem yQ (u:SV):dV (sC u)=true:=u.2.1
theorem Lj: ∀us:List SV,(us.map sC)=(us.map (·.1)).map vC
 |[]=>rfl
 |u::us=>by rw[aQi,aQi,aQi,Lj us];rfl
structure RowsI (H:aE)(v:Value)(xss:List (List Int))(us:List SV):Prop where
 row:Rw sC 25 1 H v us
 len:us.length=xss.length
 el: ∀(j:Nat)(u:SV)(xs:List Int),us[j]? =some u->xss[j]? =some xs->Iw H u.1 xs
 ap: ∀(j j':Nat)(u u':SV),j<j'->us[j]? =some u->us[j']? =some u'-> ∀b,cV u.1 b->cV u'.1 b->False
def RowsW (H:aE)(v:Value)(xss:List (List Int)):Prop:= ∃us,RowsI H v xss us
theorem RowsI.Wa {H':aE}{v:Value}{xss:List (List Int)}{us:List SV}(h:RowsI H v xss us)(h1: ∀b,cV v b->H'[b]? =H[b]?)(h2: ∀u∈us,∀b,cV u.1 b->H'[b]? =H[b]?):RowsI H' v xss us:=
 ⟨h.row.fG h1,h.len,λj u xs hu hx=>(h.el j u xs hu hx).fG λb hb=>h2 u (aPX hu) b hb,h.ap⟩
theorem RowsI.Wb {v:Value}{xss:List (List Int)}{us:List SV}(h:RowsI H v xss us){u:SV}(hu:u∈us){b:Nat}(hb:cV u.1 b):b<H.length:=by
 obtain⟨j,hj⟩:=List.getElem?_of_mem hu;have:=(aPN.mp hj).1
 exact(h.el j u _ hj (aPP (by rw[<-h.len];exact this))).fY hb
theorem RowsI.blk {v:Value}{xss:List (List Int)}{us:List SV}(h:RowsI H v xss us){u:SV}(hu:u∈us){b:Nat}(hb:cV u.1 b): ∃cs,H[b]? =some (.cells cs 3 .row):=by
 obtain⟨j,hj⟩:=List.getElem?_of_mem hu;have:=(aPN.mp hj).1
 exact(h.el j u _ hj (aPP (by rw[<-h.len];exact this))).blk hb
theorem RowsW.aHH {v:Value}{xss:List (List Int)}(h:RowsW H v xss):Rows H v xss:=by
 obtain⟨us,hi⟩:=h;refine⟨us.map (·.1),?_,by rw[aP1,hi.len],λj u xs hu hx=> ?_⟩
 ·have:=hi.row.rs
  unfold Rs at this⊢;rw[aP1,<-Lj];rcases this with⟨h1,h2⟩|⟨b,o,cap,h1,h2,h3⟩
  ·exact .inl ⟨h1,by rw[h2];rfl⟩
  ·exact .inr ⟨b,o,cap,h1,h2,λhne=>h3 λhh=>hne (by rw[hh];rfl)⟩
 ·rw[aP0] at hu
  cases hj:us[j]? with
  |none=>rw[hj] at hu;cases hu
  |some u'=>
   rw[hj] at hu;cases hu
   exact(hi.el j u' xs hj hx).rs
def RowsA (H0 H:aE)(v:Value)(xss:List (List Int))(wv:Value):Prop:= ∃us,RowsI H v xss us/\ ∀u∈us,∀b,cV u.1 b-> ¬cV wv b/\H0.length<=b
theorem RowsA.rw {H0:aE}{v wv:Value}{xss:List (List Int)}(h:RowsA H0 H v xss wv):RowsW H v xss:=let⟨us,hi,_⟩:=h;⟨us,hi⟩
structure MS (H0 H1:aE)(pb rb:Nat)(zs:List Value)(p:PlanD)(ev wv nv:Value)(E:List Ed)(W:List Int):Prop where
 ext:Ext H0 H1
 hb:H1[pb]? =some (plB p ev wv nv)
 hr:H1[rb]? =some (.cells zs 28 .fix)
 e:Ew H1 ev E
 en:New H0 ev
 w:Iw H1 wv W
 wn:New H0 wv
 ne:rb≠pb
 lp:H0.length<=pb
 lr:H0.length<=rb
 zl:zs.length=11
theorem MS.aHG {H0 H1 H2:aE}{pb rb:Nat}{zs:List Value}{E:List Ed}{W:List Int}(h:MS H0 H1 pb rb zs p ev wv nv E W)(he:Ext H1 H2):MS H0 H2 pb rb zs p ev wv nv E W:=
 ⟨h.ext.tr he,dT h.hb he,dT h.hr he,h.e.fG λb hb=>he.2 b (h.e.fY hb) id,h.en,h.w.fG λb hb=>he.2 b (h.w.fY hb) id,h.wn,h.ne,h.lp,h.lr,h.zl⟩
theorem aHM {H0 H1:aE}{pb rb:Nat}{zs:List Value}{E:List Ed}{W:List Int}{N:List (List Int)}(h:MS H0 H1 pb rb zs p ev wv nv E W)(hn:RowsA H0 H1 nv N wv){Q:aE->Value->Prop}(hQ: ∀H2,Ext H0 H2->Ew H2 ev E->Iw H2 wv W->RowsA H0 H2 nv N wv->Q H2 (plV p ev wv nv))(x0 x1 x2 x3 x4 x5 x6 x7 x8 x9 aS aP aQ aO aT aU aR bA bK bX bJ bE aV aW aX aY aZ bB bC bH bI bM bN bO bP bQ bR bS bT bU bY cA cD cE cI cJ cN cP cK cQ cR cW dA cX cY dD dF dL dH dM dU dW dY dZ eA eC eD eE eF eM eN eO eP eQ eS eT eU eV eW eX eY fN fO fP fQ fR fS fT fU gC gD gE gF gG gH gI gJ gK gL gM gN gO gP gQ gR gS gT gU gV gW gX gY gZ hZ iA iB iC iD iE iF iG iH jL jM lK lL lM lN lO lP lQ lR lS oW oX oY oZ:Value):
  ∃H2 u2,Kl (lvl prog bL m) (aJ m) x0 x1 x2 x3 x4 x5 x6 x7 x8 x9 (.Q rb 0) (.Q pb 0) aS aP aQ aO aT aU aR bA bK bX bJ bE aV aW aX aY aZ bB bC bH bI bM bN bO bP bQ bR bS bT bU bY cA cD cE cI cJ cN cP cK cQ cR cW dA cX cY dD dF dL dH dM dU dW dY dZ eA eC eD eE eF eM eN eO eP eQ eS eT eU eV eW eX eY fN fO fP fQ fR fS fT fU gC gD gE gF gG gH gI gJ gK gL gM gN gO gP gQ gR gS gT gU gV gW gX gY gZ hZ iA iB iC iD iE iF iG iH jL jM lK lL lM lN lO lP lQ lR lS oW oX oY oZ H1=some (u2,H2)/\Q H2 u2:=by
 have l11:=fL h.hb;have hrl:=(aPN.mp h.hr).1;obtain⟨a1,a2⟩:=Rw.uY h.e;obtain⟨b1,b2⟩:=Rw.uY h.w;obtain⟨us,hi,hap⟩:=hn;obtain⟨c1,c2⟩:=Rw.uY hi.row;have hall:dV (plC p ev wv nv)=true:=by
  have e1: ∀(v:Value)(vs:List Value),dV [v]=true->dV (v::vs)=dV vs:=λv vs h=>by
   simp only[dV,List.all_cons,List.all_nil,Bool.and_true] at h⊢;rw[h,aQa]
  simp only[plC,Sq,e1 _ _ a2,e1 _ _ b2,e1 _ _ c2,Sr]
 have st:stN 11 (.Q rb 0) (plV p ev wv nv) H1=some (undef,H1.set rb (plB p ev wv nv)):=by
  have e1:(plV p ev wv nv).cells.toList=plC p ev wv nv:=rfl;rw[mB 11 _ _ _ rfl,h.hr,e1,nG _ _ _ _ _ _ aC (by rw[h.zl];simp[plC]) hall]
  have hs:eK zs 0 (plC p ev wv nv)=plC p ev wv nv:=by
   match zs,h.zl with
   |[z1,z2,z3,z4,z5,z6,z7,z8,z9,z10,z11],_=>rfl
  rw[hs];rfl
 have hb2:(H1.set rb (plB p ev wv nv))[rb]? =some (plB p ev wv nv):=aPT hrl;have l2:=fL hb2;have kp: ∀(b:Nat)(cs:List Value)(e:TypeId),H1[b]? =some (.cells cs e .row)->(H1.set rb (plB p ev wv nv))[b]? =H1[b]? :=λb cs e hb=>by
  refine aPO λhh=> ?_
  subst hh;rw[h.hr] at hb;simp at hb
 refine⟨H1.set rb (plB p ev wv nv),plV p ev wv nv,?_,hQ _ ⟨by rw[List.length_set];exact h.ext.1,λb hb _=> ?_⟩ (h.e.fG λb hb=> ?_) (h.w.fG λb hb=> ?_) ⟨us,hi.Wa (λb hb=> ?_) (λu hu b hb=> ?_),hap⟩⟩
 ·unfold Kl
  simp only[gsR,l11,st,l2]
 ·rw[aPO (by have:=h.lr;omega),h.ext.2 b hb id]
 ·obtain⟨cs,hc⟩:=h.e.blk hb
  exact kp b cs _ hc
 ·obtain⟨cs,hc⟩:=h.w.blk hb
  exact kp b cs _ hc
 ·obtain⟨cs,hc⟩:=hi.row.blk hb
  exact kp b cs _ hc
 ·obtain⟨cs,hc⟩:=hi.blk hu hb
  exact kp b cs _ hc
def Made (H0:aE)(p:PlanD)(H2:aE)(u:Value):Prop:= ∃ev wv nv,u=plV p ev wv nv/\Ext H0 H2/\Ew H2 ev p.edges/\Iw H2 wv p.weights/\RowsA H0 H2 nv p.next wv
theorem aHO {H0:aE}{pb rb n joined:Nat}{a4:Value}{next:List Nat}{zs:List Value}(hn6:n<=6)(hnx:Us H0 a4 next)(hu8: ∀x∈next,x<256)(hnl:next.length<=72057594037927936)(hpn:p.nodes=(n:Int))(hm:50<m)(hpx:p.next=(List.range n).map (vB n next)): ∀(q i k:Nat)(H1:aE)(nv1:Value),n-i=q->i<=n->q<k->MS H0 H1 pb rb zs p ev wv nv1 p.edges p.weights->RowsA H0 H1 nv1 ((List.range i).map (vB n next)) wv->New H0 nv1-> ∀(x0 x1 x2 x5 x6 x7 x8 x9 aS aP aQ aO aR bA bK bX bJ bE aV aW aX aY aZ bB bC bH bI bM bN bO bP bQ bR bS bT bU bY cA cD cE cI cJ cN cP cK cQ cR cW dA cX cY dD dF dL dH dM dU dW dY dZ eA eC eD eE eF eM eN eO eP eQ eS eT eU eV eW eX eY fN fO fP fQ fR fS fT fU gC gD gE gF gG gH gI gJ gK gL gM gN gO gP gQ gR gS gT gU gV gW gX gY gZ hZ iA iB iC iD iE iF iG iH jL jM lK lL lM lN lO lP lQ lR lS oW oX oY oZ:Value),
  ∃H2 u2,aJ k (aM prog (lvl prog bL m) (aJ m) Kj) (Kq (lvl prog bL m) (aJ m)) [x0,x1,x2,(.int .u16 joined),a4,x5,x6,x7,x8,x9,(.Q rb 0),(.Q pb 0),aS,aP,aQ,aO,(.I (i*n:Nat)),(.I (i:Nat)),aR,bA,bK,bX,bJ,bE,aV,aW,aX,aY,aZ,bB,bC,bH,bI,bM,bN,bO,bP,bQ,bR,bS,bT,bU,bY,cA,cD,cE,cI,cJ,cN,cP,cK,cQ,cR,cW,dA,cX,cY,dD,dF,dL,dH,dM,dU,dW,dY,dZ,eA,eC,eD,eE,eF,eM,eN,eO,eP,eQ,eS,eT,eU,eV,eW,eX,eY,fN,fO,fP,fQ,fR,fS,fT,fU,gC,gD,gE,gF,gG,gH,gI,gJ,gK,gL,gM,gN,gO,gP,gQ,gR,gS,gT,gU,gV,gW,gX,gY,gZ,hZ,iA,iB,iC,iD,iE,iF,iG,iH,jL,jM,lK,lL,lM,lN,lO,lP,lQ,lR,lS,oW,oX,oY,oZ] H1=some (u2,H2)/\Made H0 p H2 u2:=by
 intro q;induction q with
 |zero=>
  intro i k H1 nv1 hr hi hk hM hR hnew;intros;obtain⟨k,rfl⟩:=aB k U
  obtain rfl:n=i:=U
  have e:decide (((n:Nat):Int)<(n:Nat))=false:=by simp
  have l0:=dE hM.hb 0 _ rfl;rw[hpn] at l0;rw[cU,U7];simp only[gsR,l0,e];rw[aGt];exact aHM hM hR (λH2 g2 g3 g4 g5=>⟨ev,wv,nv1,rfl,g2,g3,g4,by rw[hpx];exact g5⟩) ..
 |succ q ih=>
  intro i k H1 nv1 hr hi hk hM hR hnew;intros;obtain⟨k,rfl⟩:=aB k U
  have e:decide ((i:Int)<(n:Nat))=true:=aQw U
  have e3:=aA (i:=i) U
  have l0:=dE hM.hb 0 _ rfl;rw[hpn] at l0;rw[cU,U7];simp only[gsR,l0,e];have hz0:i*n=i*n+0:=rfl;rw[hz0];refine aHN (H0:=H1) (b:=pb) (rb:=rb) (v:=i) (zs:=zs) (next:=next) (Q:=Made H0 p) hn6 U (hnx.ext hM.ext) hu8 hnl hpn hM.hr hM.hb ?_ n 0 m H1 (.slice none 0 0) U U U (Fr.iQ _ _) (Rw.fW (el:=inC)) (New.iI _) ..
  intro H2 u x2 hu hun;intros;have hM2:=hM.aHG x2;obtain⟨us,hi1,hap⟩:=hR;have hi:RowsI H2 nv1 ((List.range i).map (vB n next)) us:=hi1.Wa (λb hb=>x2.2 b (hi1.row.fY hb) id) λu hu b hb=>x2.2 b (hi1.Wb hu hb) id
  have l10:=dE hM2.hb 10 _ rfl;obtain⟨s1,s2⟩:=Rw.uY hu;have s3:u.cells= #[u]:=Array.toList_inj.mp s1;obtain⟨su,rfl⟩: ∃su:SV,su.1=u:=⟨⟨u,s2,s3⟩,rfl⟩;have hb1:=Jn 25 (.slice none 0 0) su.1 s2 s3 H2;obtain⟨nv2,H3,H4,g1,g2,g3,g4,g5,g6,g7⟩:=vD (by':=24) yR yQ aC (j:=10) (H0:=H0) su hM2.hb (by simp[plC]) hi.row hnew hM.lp hM2.ext (fV (n:=1000) aC (by have:=hi.len;rw[aP1,aQh] at this;omega))
  have g1':app 25 1 24 nv1 (.slice (some ⟨H2.length,0,none⟩) 1 1) (H2++[.cells [su.1] 25 .row])=some (nv2,H3):=g1;have hb4:H4[pb]? =some (plB p ev wv nv2):=g6;have e5:IntKind.i64.wrap ((i:Int)+1)=((i+1:Nat):Int):=e3;unfold Km;simp only[gsR,l10,hb1,g1',g2,cO,e5];have kI: ∀(w:Value)(xs:List Int),Iw H2 w xs->Iw H4 w xs:=λw xs hw=>Rw.rB hw g7 hM2.hb aC
  refine ih (i+1) k H4 nv2 U U U ⟨g5,hb4,g7 _ _ hM.ne (λcs hh=>by cases hh) hM2.hr,Rw.rB hM2.e g7 hM2.hb aC,hM.en,kI _ _ hM2.w,hM.wn,hM.ne,hM.lp,hM.lr,hM.zl⟩ ⟨us++[su],⟨g3,?_,?_,?_⟩,?_⟩ g4 ..
  ·rw[aPZ,hi.len]
   simp
  ·intro j w xs hw hxs
   rw[aQm,List.map_append] at hxs;by_cases hj:j<us.length
   ·rw[aPQ hj] at hw
    rw[aPQ (by rw[<-hi.len];exact hj)] at hxs
    exact kI _ _ (hi.el j w xs hw hxs)
   ·rw[aP7 U] at hw
    rw[aP7 (by rw[<-hi.len];omega),<-hi.len] at hxs
    by_cases h0:j-us.length=0
    ·rw[h0] at hw hxs
     cases hw;cases hxs;exact kI _ _ hu
    ·rw[aPY (by simp;omega)] at hw
     cases hw
  ·intro j j' w w' hjj hw hw' bb hb1' hb2'
   by_cases hj':j'<us.length
   ·rw[aPQ hj'] at hw'
    rw[aPQ U] at hw
    exact hi.ap j j' w w' hjj hw hw' bb hb1' hb2'
   ·rw[aP7 U] at hw'
    by_cases h0:j'-us.length=0
    ·rw[h0] at hw'
     cases hw';rw[aPQ U] at hw
     have h1:=hi1.Wb (aPX hw) hb1';have h2:=hun bb hb2';omega
    ·rw[aPY (by simp;omega)] at hw'
     cases hw'
  ·intro w hw bb hb1'
   rcases List.mem_append.mp hw with hw|hw
   ·exact hap w hw bb hb1'
   ·have:w=su:=by simpa using hw
    subst this;have h1:=hun bb hb1';have h3:=hM.ext.1
    exact⟨λhb2'=>by have h2:=hM.w.fY hb2';omega,by omega⟩
theorem We (a b:Nat): ∀(L:List (Nat×Nat))(bit:Nat),oC bit (L++[(a,b)])=oC bit L++(if bit/2 ^ L.length%2=1 then [((a:Int),(b:Int))] else [])
 |[],bit=>by
  simp only[List.nil_append,oC,List.length_nil,Nat.pow_zero,Nat.div_one]
 |(c,d)::L,bit=>by
  have ih:=We a b L (bit/2);have hp:bit/2/2 ^ L.length=bit/2 ^ (L.length+1):=by rw[Nat.div_div_eq_div_mul,Nat.pow_succ,Nat.mul_comm]
  rw[hp] at ih;simp only[List.cons_append,oC,aP9,ih];by_cases h:bit%2=1
  ·rw[if_pos h,if_pos h];rfl
  ·rw[if_neg h,if_neg h]
theorem Lk: ∀(L:List (Nat×Nat))(bit:Nat),(oC bit L).length<=L.length
 |[],_=>aPS _
 |(c,d)::L,bit=>by
  have ih:=Lk L (bit/2);unfold oC;split
  ·simp only[aP9];omega
  ·simp only[aP9];omega
theorem Ec (n:Nat):prs (n+1)=prs n++(List.range n).map λa=>(a,n):=by
 unfold prs;rw[aQm,List.flatMap_append];simp
theorem Wd: ∀n,(prs n).length<=n*n
 |0=>by simp[prs]
 |n+1=>by
  have:=Wd n;rw[Ec,aPZ,aP1,aQh];have e:(n+1)*(n+1)=n*n+n+n+1:=by rw[Nat.succ_mul,Nat.mul_succ];omega
  omega
theorem aHJ (bit k:Nat):bit/2 ^ k/2=bit/2 ^ (k+1):=by rw[Nat.div_div_eq_div_mul,Nat.pow_succ]
theorem aHK {H0:aE}{pb rb B joined:Nat}{a4:Value}{zs:List Value}{Wt:List Int}(hB:B<=6)(hj:joined<65536){Q:aE->Value->Prop}{K:Ex->K (Value×aE)}
  (hK: ∀(H':aE)(ev':Value),MS H0 H' pb rb zs p ev' wv nv (oC joined (prs (B+1))) Wt-> ∀(x0 x1 x2 x5 x6 x7 x8 x9 aS aO aT aU aR bA bK bX bJ bE aV aW aX aY aZ bB bC bH bI bM bN bO bP bQ bR bS bT bU bY cA cD cE cI cJ cN cP cK cQ cR cW dA cX cY dD dF dL dH dM dU dW dY dZ eA eC eD eE eF eM eN eO eP eQ eS eT eU eV eW eX eY fN fO fP fQ fR fS fT fU gC gD gE gF gG gH gI gJ gK gL gM gN gO gP gQ gR gS gT gU gV gW gX gY gZ hZ iA iB iC iD iE iF iG iH jL jM lK lL lM lN lO lP lQ lR lS oW oX oY oZ:Value),∃H2 u2,K .normal [x0,x1,x2,(.int .u16 joined),a4,x5,x6,x7,x8,x9,(.pointer (some ⟨rb,0,none⟩)),(.pointer (some ⟨pb,0,none⟩)),aS,(.int .u16 (joined/2 ^ (prs (B+1)).length:Nat)),(.int .i64 (IntKind.i64.wrap ((B:Int)+1))),aO,aT,aU,aR,bA,bK,bX,bJ,bE,aV,aW,aX,aY,aZ,bB,bC,bH,bI,bM,bN,bO,bP,bQ,bR,bS,bT,bU,bY,cA,cD,cE,cI,cJ,cN,cP,cK,cQ,cR,cW,dA,cX,cY,dD,dF,dL,dH,dM,dU,dW,dY,dZ,eA,eC,eD,eE,eF,eM,eN,eO,eP,eQ,eS,eT,eU,eV,eW,eX,eY,fN,fO,fP,fQ,fR,fS,fT,fU,gC,gD,gE,gF,gG,gH,gI,gJ,gK,gL,gM,gN,gO,gP,gQ,gR,gS,gT,gU,gV,gW,gX,gY,gZ,hZ,iA,iB,iC,iD,iE,iF,iG,iH,jL,jM,lK,lL,lM,lN,lO,lP,lQ,lR,lS,oW,oX,oY,oZ] H'=some (u2,H2)/\Q H2 u2): ∀(q i k:Nat)(H1:aE)(ev1:Value),B-i=q->i<=B->q<k->MS H0 H1 pb rb zs p ev1 wv nv (oC joined (prs B++(List.range i).map λa=>(a,B))) Wt-> ∀(x0 x1 x2 x5 x6 x7 x8 x9 aS aT aU aR bA bK bX bJ bE aV aW aX aY aZ bB bC bH bI bM bN bO bP bQ bR bS bT bU bY cA cD cE cI cJ cN cP cK cQ cR cW dA cX cY dD dF dL dH dM dU dW dY dZ eA eC eD eE eF eM eN eO eP eQ eS eT eU eV eW eX eY fN fO fP fQ fR fS fT fU gC gD gE gF gG gH gI gJ gK gL gM gN gO gP gQ gR gS gT gU gV gW gX gY gZ hZ iA iB iC iD iE iF iG iH jL jM lK lL lM lN lO lP lQ lR lS oW oX oY oZ:Value),
  ∃H2 u2,aJ k (aM prog (lvl prog bL m) (aJ m) Ki) (Kp (lvl prog bL m) (aJ m) K) [x0,x1,x2,(.int .u16 joined),a4,x5,x6,x7,x8,x9,(.Q rb 0),(.Q pb 0),aS,(.int .u16 (joined/2 ^ ((prs B).length+i):Nat)),(.I (B:Nat)),(.I (i:Nat)),aT,aU,aR,bA,bK,bX,bJ,bE,aV,aW,aX,aY,aZ,bB,bC,bH,bI,bM,bN,bO,bP,bQ,bR,bS,bT,bU,bY,cA,cD,cE,cI,cJ,cN,cP,cK,cQ,cR,cW,dA,cX,cY,dD,dF,dL,dH,dM,dU,dW,dY,dZ,eA,eC,eD,eE,eF,eM,eN,eO,eP,eQ,eS,eT,eU,eV,eW,eX,eY,fN,fO,fP,fQ,fR,fS,fT,fU,gC,gD,gE,gF,gG,gH,gI,gJ,gK,gL,gM,gN,gO,gP,gQ,gR,gS,gT,gU,gV,gW,gX,gY,gZ,hZ,iA,iB,iC,iD,iE,iF,iG,iH,jL,jM,lK,lL,lM,lN,lO,lP,lQ,lR,lS,oW,oX,oY,oZ] H1=some (u2,H2)/\Q H2 u2:=by
 intro q;induction q with
 |zero=>
  intro i k H1 ev1 hr hi hk hM;intros;obtain⟨k,rfl⟩:=aB k U
  obtain rfl:B=i:=U
  have e:decide (((B:Nat):Int)<(B:Nat))=false:=by simp
  rw[<-Ec] at hM;have hl:(prs B).length+B=(prs (B+1)).length:=by rw[Ec,aPZ,aP1,aQh]
  rw[hl];rw[cU,U6];simp only[gsR,e];rw[aGs];simp only[gsR,cO];exact hK H1 ev1 hM ..
 |succ q ih=>
  intro i k H1 ev1 hr hi hk hM;intros;obtain⟨k,rfl⟩:=aB k U
  have e:decide ((i:Int)<(B:Nat))=true:=aQw U
  have e3:=aA (i:=i) U
  have hpl:=Wd B;have hpl2:B*B<=36:=Nat.mul_le_mul hB hB;have hbit:joined/2 ^ ((prs B).length+i)<65536:=Nat.lt_of_le_of_lt (Nat.div_le_self _ _) hj;have r2:=aHR (joined/2 ^ ((prs B).length+i)) 2 2 rfl U
  have q2:=aHQ (joined/2 ^ ((prs B).length+i)) 2 2 rfl U hbit
  rw[aHJ,Nat.add_assoc] at q2;have l1:=dE hM.hb 1 _ rfl;have hlen:(prs B++(List.range i).map λa=>(a,B)).length=(prs B).length+i:=by rw[aPZ,aP1,aQh]
  have hsn:=We i B (prs B++(List.range i).map λa=>(a,B)) joined
  rw[hlen] at hsn;have hap:prs B++(List.range (i+1)).map (λa=>(a,B))=(prs B++(List.range i).map λa=>(a,B))++[(i,B)]:=by rw[aQm,List.map_append,aPU];rfl
  have hsl:=Lk (prs B++(List.range i).map λa=>(a,B)) joined
  rw[hlen] at hsl;rw[cU,U6];by_cases c:joined/2 ^ ((prs B).length+i)%2=1
  ·have d:(((joined/2 ^ ((prs B).length+i)%2:Nat):Int)==1)=true:=by rw[c];rfl
   rw[if_pos c] at hsn;obtain⟨ev2,H3,H4,g1,g2,g3,g4,g5,g6,g7⟩:=vD (by':=16) oS Dv aC (j:=1) (H0:=H0) ((i:Int),(B:Int)) hM.hb (by simp[plC]) hM.e hM.en hM.lp hM.ext (fV (n:=1000) aC U)
   have hb4:H4[pb]? =some (plB p ev2 wv nv):=g6;simp only[gsR,e,r2,d,l1,bEd,aHI,g1,g2,q2,cO,e3];exact ih (i+1) k H4 ev2 U U U ⟨g5,hb4,g7 _ _ hM.ne (λcs hh=>by cases hh) hM.hr,by rw[hap,hsn];exact g3,g4,Rw.rB hM.w g7 hM.hb aC,hM.wn,hM.ne,hM.lp,hM.lr,hM.zl⟩ ..
  ·have d:(((joined/2 ^ ((prs B).length+i)%2:Nat):Int)==1)=false:=beq_eq_false_iff_ne.mpr (λh=>c (Int.ofNat.inj h))
   rw[if_neg c,List.append_nil] at hsn;simp only[gsR,e,r2,d,q2,cO,e3];exact ih (i+1) k H1 ev1 U U U (by rw[hap,hsn];exact hM) ..
theorem aHL {H0:aE}{pb rb n joined:Nat}{a4:Value}{next:List Nat}{zs:List Value}(hn6:n<=6)(hnx:Us H0 a4 next)(hu8: ∀x∈next,x<256)(hnl:next.length<=72057594037927936)(hpn:p.nodes=(n:Int))(hm:50<m)(hj:joined<65536)(hpx:p.next=(List.range n).map (vB n next))(hpe:p.edges=oC joined (prs n))(hn1:1<=n): ∀(q i k:Nat)(H1:aE)(ev1:Value),n-i=q->i<=n->q<k->1<=i->MS H0 H1 pb rb zs p ev1 wv (.slice none 0 0) (oC joined (prs i)) p.weights-> ∀(x0 x1 x2 x5 x6 x7 x8 x9 aS aO aT aU aR bA bK bX bJ bE aV aW aX aY aZ bB bC bH bI bM bN bO bP bQ bR bS bT bU bY cA cD cE cI cJ cN cP cK cQ cR cW dA cX cY dD dF dL dH dM dU dW dY dZ eA eC eD eE eF eM eN eO eP eQ eS eT eU eV eW eX eY fN fO fP fQ fR fS fT fU gC gD gE gF gG gH gI gJ gK gL gM gN gO gP gQ gR gS gT gU gV gW gX gY gZ hZ iA iB iC iD iE iF iG iH jL jM lK lL lM lN lO lP lQ lR lS oW oX oY oZ:Value),
  ∃H2 u2,aJ k (aM prog (lvl prog bL m) (aJ m) Kh) (Ko (lvl prog bL m) (aJ m)) [x0,x1,x2,(.int .u16 joined),a4,x5,x6,x7,x8,x9,(.Q rb 0),(.Q pb 0),aS,(.int .u16 (joined/2 ^ (prs i).length:Nat)),(.I (i:Nat)),aO,aT,aU,aR,bA,bK,bX,bJ,bE,aV,aW,aX,aY,aZ,bB,bC,bH,bI,bM,bN,bO,bP,bQ,bR,bS,bT,bU,bY,cA,cD,cE,cI,cJ,cN,cP,cK,cQ,cR,cW,dA,cX,cY,dD,dF,dL,dH,dM,dU,dW,dY,dZ,eA,eC,eD,eE,eF,eM,eN,eO,eP,eQ,eS,eT,eU,eV,eW,eX,eY,fN,fO,fP,fQ,fR,fS,fT,fU,gC,gD,gE,gF,gG,gH,gI,gJ,gK,gL,gM,gN,gO,gP,gQ,gR,gS,gT,gU,gV,gW,gX,gY,gZ,hZ,iA,iB,iC,iD,iE,iF,iG,iH,jL,jM,lK,lL,lM,lN,lO,lP,lQ,lR,lS,oW,oX,oY,oZ] H1=some (u2,H2)/\Made H0 p H2 u2:=by
 intro q;induction q with
 |zero=>
  intro i k H1 ev1 hr hi hk h1i hM;intros;obtain⟨k,rfl⟩:=aB k U
  obtain rfl:n=i:=U
  have e:decide (((n:Nat):Int)<(n:Nat))=false:=by simp
  have l0:=dE hM.hb 0 _ rfl;rw[hpn] at l0;rw[<-hpe] at hM;rw[cU,U5];simp only[gsR,l0,e];rw[aGr];have:=aHO (m:=m) (pb:=pb) (rb:=rb) (zs:=zs) (wv:=wv) (ev:=ev1) (joined:=joined) hn6 hnx hu8 hnl hpn hm hpx n 0 m H1 (.slice none 0 0) U U U hM ⟨[],⟨Rw.fW,rfl,λj u xs h=>by simp at h,λj j' u u' _ h=>by simp at h⟩,λu hu=>by cases hu⟩ (New.iI _)
  rw[Nat.zero_mul] at this;exact this ..
 |succ q ih=>
  intro i k H1 ev1 hr hi hk h1i hM;intros;obtain⟨k,rfl⟩:=aB k U
  have e:decide ((i:Int)<(n:Nat))=true:=aQw U
  have e3:=aA (i:=i) U
  have l0:=dE hM.hb 0 _ rfl;rw[hpn] at l0;rw[cU,U5];simp only[gsR,l0,e];refine aHK (H0:=H0) (pb:=pb) (rb:=rb) (B:=i) (joined:=joined) (zs:=zs) (wv:=wv) (Wt:=p.weights) (Q:=Made H0 p) U hj ?_ i 0 m H1 ev1 U U U (by simpa using hM) ..
  intro H2 ev2 hM2;intros;rw[again_normal,e3];exact ih (i+1) k H2 ev2 U U U U hM2 ..
theorem aHP {H0:aE}{pb rb n joined:Nat}{a4:Value}{next:List Nat}{zs:List Value}(hn6:n<=6)(hnx:Us H0 a4 next)(hu8: ∀x∈next,x<256)(hnl:next.length<=72057594037927936)(hpn:p.nodes=(n:Int))(hm:50<m){more:Nat}(hmore:more<256)(hj:joined<65536)(hpx:p.next=(List.range n).map (vB n next))(hpe:p.edges=oC joined (prs n))(hpw:p.weights=(List.range (1+more%3)).map (mkW more))(hpl:p.lanes=((1+more%3:Nat):Int))(hn1:1<=n): ∀(q i k:Nat)(H1:aE)(wv1:Value),(1+more%3)-i=q->i<=(1+more%3)->q<k->MS H0 H1 pb rb zs p (.slice none 0 0) wv1 (.slice none 0 0) [] ((List.range i).map (mkW more))-> ∀(x0 x1 x5 x6 x7 x8 x9 aP aQ aO aT aU aR bA bK bX bJ bE aV aW aX aY aZ bB bC bH bI bM bN bO bP bQ bR bS bT bU bY cA cD cE cI cJ cN cP cK cQ cR cW dA cX cY dD dF dL dH dM dU dW dY dZ eA eC eD eE eF eM eN eO eP eQ eS eT eU eV eW eX eY fN fO fP fQ fR fS fT fU gC gD gE gF gG gH gI gJ gK gL gM gN gO gP gQ gR gS gT gU gV gW gX gY gZ hZ iA iB iC iD iE iF iG iH jL jM lK lL lM lN lO lP lQ lR lS oW oX oY oZ:Value),
  ∃H2 u2,aJ k (aM prog (lvl prog bL m) (aJ m) Kg) (Kn (lvl prog bL m) (aJ m)) [x0,x1,(.int .u8 more),(.int .u16 joined),a4,x5,x6,x7,x8,x9,(.Q rb 0),(.Q pb 0),(.I (i:Nat)),aP,aQ,aO,aT,aU,aR,bA,bK,bX,bJ,bE,aV,aW,aX,aY,aZ,bB,bC,bH,bI,bM,bN,bO,bP,bQ,bR,bS,bT,bU,bY,cA,cD,cE,cI,cJ,cN,cP,cK,cQ,cR,cW,dA,cX,cY,dD,dF,dL,dH,dM,dU,dW,dY,dZ,eA,eC,eD,eE,eF,eM,eN,eO,eP,eQ,eS,eT,eU,eV,eW,eX,eY,fN,fO,fP,fQ,fR,fS,fT,fU,gC,gD,gE,gF,gG,gH,gI,gJ,gK,gL,gM,gN,gO,gP,gQ,gR,gS,gT,gU,gV,gW,gX,gY,gZ,hZ,iA,iB,iC,iD,iE,iF,iG,iH,jL,jM,lK,lL,lM,lN,lO,lP,lQ,lR,lS,oW,oX,oY,oZ] H1=some (u2,H2)/\Made H0 p H2 u2:=by
 intro q;induction q with
 |zero=>
  intro i k H1 wv1 hr hi hk hM;intros;obtain⟨k,rfl⟩:=aB k U
  obtain rfl:(1+more%3)=i:=U
  have e:decide ((((1+more%3):Nat):Int)<((1+more%3):Nat))=false:=by simp
  have l2:=dE hM.hb 2 _ rfl;rw[hpl] at l2;rw[<-hpw] at hM;rw[cU,U4];simp only[gsR,l2,e];rw[aGq];have:=aHL (m:=m) (pb:=pb) (rb:=rb) (zs:=zs) (wv:=wv1) (joined:=joined) hn6 hnx hu8 hnl hpn hm hj hpx hpe hn1 (n-1) 1 m H1 (.slice none 0 0) rfl hn1 U (aPS _) hM
  have hp1:joined/2 ^ (prs 1).length=joined:=by
   have:(prs 1).length=0:=rfl;rw[this,Nat.pow_zero,Nat.div_one]
  rw[hp1] at this;exact this ..
 |succ q ih=>
  intro i k H1 wv1 hr hi hk hM;intros;obtain⟨k,rfl⟩:=aB k U
  have e:decide ((i:Int)<((1+more%3):Nat))=true:=aQw U
  have e3:=aA (i:=i) U
  have l2:=dE hM.hb 2 _ rfl;rw[hpl] at l2;have l8:=dE hM.hb 8 _ rfl;have hcv:=λH=>cvU H more hmore
  have a1:IntKind.i64.wrap ((i:Int)+(more:Int))=((i+more:Nat):Int):=by rw[cZ U U];omega
  have a2:=wT (i+more) 5 5 rfl U
  have a3:IntKind.i64.wrap (1+((((i+more)%5:Nat)):Int))=mkW more i:=by unfold mkW;rw[cZ U U];omega
  obtain⟨wv2,H2,H3,g1,g2,g3,g4,g5,g6,g7⟩:=vD (by':=8) fA lD aC (j:=8) (H0:=H0) (mkW more i) hM.hb (by simp[plC]) hM.w hM.wn hM.lp hM.ext (fV (n:=1000) aC (by simp;omega))
  have hb3:H3[pb]? =some (plB p (.slice none 0 0) wv2 (.slice none 0 0)):=g6;rw[cU,U4];simp only[gsR,l2,e,l8,hcv,cO,a1,a2,a3,lU,g1,g2,e3];exact ih (i+1) k H3 wv2 U U U ⟨g5,hb3,g7 _ _ hM.ne (λcs hh=>by cases hh) hM.hr,Rw.fW,New.iI _,by rw[aQm,List.map_append];exact g3,g4,hM.ne,hM.lp,hM.lr,hM.zl⟩ ..
theorem bPl (a b c d e f g h:Int):bld prog 28 [(0,.I a),(2,.I b),(3,.I c),(4,.I d),(5,.I e),(6,.I f),(7,.I g),(9,.int .u16 h)]=some (.agg #[.I a,.slice none 0 0,.I b,.I c,.I d,.I e,.I f,.I g,.slice none 0 0,.int .u16 h,.slice none 0 0]):=by kernel_rfl
theorem Wc (nodes room more joined:Nat)(h1:nodes<256)(h2:room<256)(h3:more<256)(h4:joined<65536){a4:Value}{next:List Nat}(hnx:Us H a4 next)(hu8: ∀x∈next,x<256)(hnl:next.length<=72057594037927936)(hm:60<m):
  ∃H2 u,lvl prog bL m (.func 16) [.int .u8 nodes,.int .u8 room,.int .u8 more,.int .u16 joined,a4] H=some (u,H2)/\Made H (mkP nodes room more joined next) H2 u:=by
 obtain⟨p,hp⟩:=aD (mkP nodes room more joined next)
 rw[<-hp];obtain⟨zs,hzs⟩:=aD ([Value.int .i64 0,.slice none 0 0,.int .i64 0,.int .i64 0,.int .i64 0,.int .i64 0,.int .i64 0,.int .i64 0,.slice none 0 0,.int .u16 0,.slice none 0 0]);obtain⟨H1,hH1⟩:=aD (H++[Blk.cells zs 28 .fix]);have x1:Ext H H1:=by rw[hH1];exact Fr.app _ _ _
 have n1:=wU nodes 5 5 rfl U
 have n2:=λH=>cvU H (nodes%5) U
 have n3:IntKind.i64.wrap (2+((nodes%5:Nat):Int))=p.nodes:=by rw[cZ U U,hp];simp[mkP,mkN]
 have n4:=wU more 3 3 rfl U
 have n5:=λH=>cvU H (more%3) U
 have n6:IntKind.i64.wrap (1+((more%3:Nat):Int))=p.lanes:=by rw[cZ U U,hp];simp[mkP]
 have r1:=wU room 8 8 rfl U
 have r2:=λH=>cvU H (room%8) U
 have r3:IntKind.i64.wrap (1+((room%8:Nat):Int))=p.room:=by rw[cZ U U,hp];simp[mkP]
 have r4:=Ee room 8 8 rfl U h2
 have r5:=wU (room/8) 8 8 rfl U
 have r6:=λH=>cvU H (room/8%8) U
 have r7:IntKind.i64.wrap (1+((room/8%8:Nat):Int))=p.queue:=by rw[cZ U U,hp];simp[mkP]
 have m1:=Ee more 3 3 rfl U h3
 have m2:=wU (more/3) 4 4 rfl U
 have m3:=λH=>cvU H (more/3%4) U
 have m4:IntKind.i64.wrap (1+((more/3%4:Nat):Int))=p.rounds:=by rw[cZ U U,hp];simp[mkP]
 have m5:=Ee more 12 12 rfl U h3
 have m6:=wU (more/12) 8 8 rfl U
 have m7:=λH=>cvU H (more/12%8) U
 have m8:IntKind.i64.wrap (1+((more/12%8:Nat):Int))=p.every:=by rw[cZ U U,hp];simp[mkP]
 have b64:p.bag=64:=by rw[hp];rfl
 have bst:p.start=joined:=by rw[hp];rfl
 obtain⟨H2,hH2⟩:=aD (H1++[plB p (.slice none 0 0) (.slice none 0 0) (.slice none 0 0)]);have x2:Ext H1 H2:=by rw[hH2];exact Fr.app _ _ _
 have st:stN 11 (.Q H1.length 0) (.agg #[.I p.nodes,.slice none 0 0,.I p.lanes,.I p.room,.I p.queue,.I p.rounds,.I p.every,.I 64,.slice none 0 0,.int .u16 joined,.slice none 0 0]) (H1++[.cells zs 28 .fix])=some (undef,H2):=by
  rw[mB 11 _ _ _ rfl,eL,nG _ _ _ _ _ _ aC (by rw[hzs];simp[Value.cells]) rfl,hH2,hzs]
  simp[eK,Value.cells,plB,plC,b64,bst]
 have hr1:H1[H.length]? =some (.cells zs 28 .fix):=by rw[hH1];exact eL _ _
 have hM:MS H H2 H1.length H.length zs p (.slice none 0 0) (.slice none 0 0) (.slice none 0 0) [] ((List.range 0).map (mkW more)):=
  ⟨x1.tr x2,by rw[hH2];exact eL _ _,dT hr1 x2,Rw.fW,New.iI _,Rw.fW,New.iI _,by rw[hH1,aPZ];simp,x1.1,aPS _,by rw[hzs];rfl⟩
 refine fJ (fB rfl rfl) U ?_
 rw[aGv];simp only[gsR,<-hzs,<-hH1,n1,n2,cO,n3,n4,n5,n6,r1,r2,r3,r4,r5,r6,r7,m1,m2,m3,m4,m5,m6,m7,m8,bPl,st];exact aHP (m:=m-1) (n:=mkN nodes) (p:=p) (pb:=H1.length) (rb:=H.length) (zs:=zs) (by unfold mkN;omega) hnx hu8 hnl (by rw[hp];rfl) U h3 h4 (by rw[hp];rfl) (by rw[hp];rfl) (by rw[hp];rfl) (by rw[hp];rfl) (by unfold mkN;omega) (1+more%3) 0 (m-1) H2 (.slice none 0 0) U U U hM ..
end
def okE (n:Int)(e:Ed):Prop:=0<=e.1/\e.1<e.2/\e.2<n
structure VE (n:Int)(E:List Ed):Prop where
 ok: ∀e∈E,okE n e
 nd:E.Nodup
theorem Wg (n:Int): ∀(E old:List Ed),qD n old E=true↔((∀e∈E,okE n e)/\E.Nodup/\ ∀e∈E,e∉old)
 |[],old=>by simp[qD]
 |e::E,old=>by
  have ih:=Wg n E (old++[e]);have hany:(old.any λx=>x==e)=true↔e∈old:=by
   rw[List.any_eq_true];constructor
   ·rintro ⟨x,h1,h2⟩
    have:x=e:=by simpa using h2
    exact this▸h1
   ·intro h
    exact⟨e,h,by simp⟩
  unfold qD;rw[aPV,ih,Bool.not_eq_true',Bool.or_eq_false_iff,Bool.or_eq_false_iff,Bool.or_eq_false_iff];simp only[decide_eq_false_iff_not,List.nodup_cons,aP6,List.mem_append,aQd,or_false];have hany':(old.any λx=>x==e)=false↔e∉old:=by rw[<-Bool.not_eq_true,hany]
  rw[hany'];constructor
  ·rintro ⟨⟨h1,h2,h3,h4⟩,h5,h6,h7⟩
   refine⟨?_,⟨λhh=>(h7 e hh) (.inr rfl),h6⟩,?_⟩
   ·rintro x (rfl|hx)
    ·exact⟨by omega,by omega,by omega⟩
    ·exact h5 x hx
   ·rintro x (rfl|hx)
    ·exact h4
    ·exact λhh=>h7 x hx (.inl hh)
  ·rintro ⟨h1,⟨h2,h3⟩,h4⟩
   obtain⟨a1,a2,a3⟩:=h1 e (.inl rfl);refine⟨⟨by omega,by omega,by omega,h4 e (.inl rfl)⟩,λx hx=>h1 x (.inr hx),h3,λx hx=> ?_⟩
   rintro (hh|rfl)
   ·exact h4 x (.inr hx) hh
   ·exact h2 hx
theorem Wh (n:Int)(E:List Ed):qD n [] E=true↔VE n E:=by
 rw[Wg]
 exact⟨λh=>⟨h.1,h.2.1⟩,λh=>⟨h.ok,h.nd,λ_ _=>aQd⟩⟩
def yS (p:Nat×Nat):Ed:=((p.1:Int),(p.2:Int))
theorem Lo: ∀(L:List (Nat×Nat))(bit:Nat),(oC bit L).Sublist (L.map yS)
 |[],_=>List.Sublist.slnil
 |(a,b)::L,bit=>by
  unfold oC;split
  ·exact(Lo L (bit/2)).cons_cons _
  ·exact(Lo L (bit/2)).cons _
theorem Wj {n a b:Nat}:(a,b)∈prs n↔a<b/\b<n:=by
 unfold prs;rw[List.mem_flatMap];constructor
 ·rintro ⟨x,h1,h2⟩
  obtain⟨y,h3,h4⟩:=aQq.mp h2;cases h4
  exact⟨aQr.mp h3,aQr.mp h1⟩
 ·rintro ⟨h1,h2⟩
  exact⟨b,aQr.mpr h2,aQq.mpr ⟨a,aQr.mpr h1,rfl⟩⟩
theorem Wk: ∀n,(prs n).Nodup
 |0=>List.Pairwise.nil
 |n+1=>by
  rw[Ec];refine List.nodup_append.mpr ⟨Wk n,?_,?_⟩
  ·exact(List.nodup_range).map (λa=>(a,n)) λa b hab h=>hab (by cases h;rfl)
  ·intro x hx y hy
   obtain⟨a,_,rfl⟩:=aQq.mp hy;obtain⟨x1,x2⟩:=x;have:=(Wj.mp hx).2;intro hh;cases hh;omega
theorem aHV {x y:Nat×Nat}(h:yS x=yS y):x=y:=by
 obtain⟨a,b⟩:=x;obtain⟨c,d⟩:=y;simp only[yS,Prod.mk.injEq] at h;have h1:a=c:=U
 have h2:b=d:=U
 rw[h1,h2]
theorem aHZ (bit n:Nat):VE n (oC bit (prs n)):=by
 have hs:=Lo (prs n) bit;refine⟨λe he=> ?_,(((Wk n).map yS λa b hab h=>hab (aHV h)).sublist hs)⟩
 obtain⟨⟨a,b⟩,h1,rfl⟩:=aQq.mp (hs.subset he);obtain⟨h2,h3⟩:=Wj.mp h1;simp only[okE,yS];omega
theorem aHY {n:Nat}(h:n<=6):(prs n).length<=15:=by
 have:n=0∨n=1∨n=2∨n=3∨n=4∨n=5∨n=6:=U
 rcases this with rfl|rfl|rfl|rfl|rfl|rfl|rfl<;>decide
theorem Lm {v w:Int}{e:Ed}:w∈mO v e↔v≠w/\(e=(v,w)∨e=(w,v)):=by
 obtain⟨a,b⟩:=e;unfold mO;simp only[Prod.mk.injEq];by_cases h1:a=b
 ·rw[if_pos h1]
  constructor
  ·intro h;cases h
  ·rintro ⟨h,⟨h2,h3⟩|⟨h2,h3⟩⟩
   ·exact absurd (h2.symm.trans (h1.trans h3)) h
   ·exact absurd (h3.symm.trans (h1.symm.trans h2)) h
 ·rw[if_neg h1]
  by_cases h2:a=v
  ·rw[if_pos h2,List.mem_singleton]
   constructor
   ·rintro rfl
    exact⟨λhh=>h1 (h2.trans hh),.inl ⟨h2,rfl⟩⟩
   ·rintro ⟨h,⟨_,h3⟩|⟨h3,h4⟩⟩
    ·exact h3.symm
    ·exact absurd (h2.symm.trans h3) h
  ·rw[if_neg h2]
   by_cases h3:b=v
   ·rw[if_pos h3,List.mem_singleton]
    constructor
    ·rintro rfl
     exact⟨λhh=>h2 hh.symm,.inr ⟨rfl,h3⟩⟩
    ·rintro ⟨h,⟨h4,_⟩|⟨h4,_⟩⟩
     ·exact absurd h4 h2
     ·exact h4.symm
   ·rw[if_neg h3]
    constructor
    ·intro h;cases h
    ·rintro ⟨h,⟨h4,_⟩|⟨_,h4⟩⟩
     ·exact absurd h4 h2
     ·exact absurd h4 h3
theorem aHU {E:List Ed}{v w:Int}:w∈kZ E v↔v≠w/\((v,w)∈E∨(w,v)∈E):=by
 unfold kZ;rw[List.mem_flatMap];constructor
 ·rintro ⟨e,h1,h2⟩
  obtain⟨h3,h4⟩:=Lm.mp h2;rcases h4 with rfl|rfl
  ·exact⟨h3,.inl h1⟩
  ·exact⟨h3,.inr h1⟩
 ·rintro ⟨h3,h4|h4⟩
  ·exact⟨_,h4,Lm.mpr ⟨h3,.inl rfl⟩⟩
  ·exact⟨_,h4,Lm.mpr ⟨h3,.inr rfl⟩⟩
theorem Wf {E:List Ed}{v w:Int}:w∈bes E v↔v≠w/\((v,w)∈E∨(w,v)∈E):=by rw[D9,aHU]
theorem Ax {n:Int}{E:List Ed}(hE:VE n E){v w:Int}(h:w∈bes E v):0<=w/\w<n/\0<=v/\v<n:=by
 obtain⟨_,h|h⟩:=Wf.mp h
 ·have:=hE.ok _ h
  simp only[okE] at this;omega
 ·have:=hE.ok _ h
  simp only[okE] at this;omega
theorem Ln (nodes:Nat):2<=mkN nodes/\mkN nodes<=6:=by unfold mkN;omega
theorem aHX (nodes room more joined:Nat)(next:List Nat):VE (mkP nodes room more joined next).nodes (mkP nodes room more joined next).edges:=aHZ joined (mkN nodes)
theorem Wi (nodes room more joined:Nat)(next:List Nat):(mkP nodes room more joined next).edges.length<=15:=
 aP3 (Lk _ _) (aHY (Ln nodes).2)
theorem aHW (nodes room more joined:Nat)(next:List Nat):kM (mkP nodes room more joined next)=true:=by
 have hn:=Ln nodes;unfold kM;simp only[aPV,decide_eq_true_eq];refine⟨?_,by unfold tV;rw[aPV,decide_eq_true_eq];exact⟨(Wh _ _).mpr (aHX ..),by have:=Wi nodes room more joined next;omega⟩,?_,?_,?_,?_⟩
 ·unfold u7 wi mkP
  simp only[aPV,decide_eq_true_eq];omega
 ·simp[mkP]
 ·unfold wOk
  simp only[mkP,aP1,aQh];rw[aQx U,aQx U]
  simp only[Bool.false_or,Bool.not_eq_true',List.any_eq_false];intro x hx;obtain⟨i,_,rfl⟩:=aQq.mp hx;unfold mY mkW;rw[aQx U,aQx U]
  simp
 ·simp[mkP]
 ·unfold u9
  simp only[Bool.not_eq_true',List.any_eq_false];intro x hx;obtain⟨i,_,rfl⟩:=aQq.mp hx;simp[vB,mkP]
theorem Made.pv {H0 H2:aE}{nodes room more joined:Nat}{next:List Nat}{u:Value}(h:Made H0 (mkP nodes room more joined next) H2 u): ∃ev wv nv,u=plV (mkP nodes room more joined next) ev wv nv/\Ext H0 H2/\PV H2 (mkP nodes room more joined next) ev wv nv:=by
 obtain⟨ev,wv,nv,h1,h2,h3,h4,h5⟩:=h;have:=Wi nodes room more joined next
 have hn:=Ln nodes
 exact⟨ev,wv,nv,h1,h2,h3.rs,h4.rs,h5.rw.aHH,by omega,by simp[mkP];omega,by simp[mkP];omega⟩
def plZ:Blk:= .cells [Value.int .i64 0,.slice none 0 0,.int .i64 0,.int .i64 0,.int .i64 0,.int .i64 0,.int .i64 0,.int .i64 0,.slice none 0 0,.int .u16 0,.slice none 0 0] 28 .fix
theorem Eh:Blk.cells [Value.int .i64 0,.slice none 0 0,.int .i64 0,.int .i64 0,.int .i64 0,.int .i64 0,.int .i64 0,.int .i64 0,.slice none 0 0,.int .u16 0,.slice none 0 0] 28 .fix=plZ:=rfl
section
variable {H : aE} {m : Nat} {p : PlanD} {ev wv nv : Value}
theorem Rs.Ay {α:Type}{el:α->List Value}{e:TypeId}{v:Value}{xs:List α}(h:Rs el e H v xs):v.cells.toList=[v]/\dV [v]=true/\veq 3 v v=true:=by
 rcases h with⟨rfl,_⟩|⟨b,o,cap,rfl,_⟩
 ·exact⟨rfl,rfl,rfl⟩
 ·exact⟨rfl,rfl,by simp[veq]⟩
theorem Rows.Wl {v:Value}{xss:List (List Int)}(h:Rows H v xss):v.cells.toList=[v]/\dV [v]=true/\veq 3 v v=true:=by
 obtain⟨us,h1,_⟩:=h;exact Rs.Ay h1
theorem PV.Lp (h:PV H p ev wv nv):dV (plC p ev wv nv)=true:=by
 have e1: ∀(v:Value)(vs:List Value),dV [v]=true->dV (v::vs)=dV vs:=λv vs h=>by
  simp only[dV,List.all_cons,List.all_nil,Bool.and_true] at h⊢;rw[h,aQa]
 simp only[plC,Sq,e1 _ _ (Rs.Ay h.e).2.1,e1 _ _ (Rs.Ay h.w).2.1,e1 _ _ (Rows.Wl h.n).2.1,Sr]
theorem PV.chk (h:PV H p ev wv nv)(H':aE):Go.Abs.chk (some (plV p ev wv nv,H')) (plV p ev wv nv)=true:=by
 have h1:=(Rs.Ay h.e).2.2;have h2:=(Rs.Ay h.w).2.2;have h3:=(Rows.Wl h.n).2.2;have hi: ∀(k:IntKind)(a:Int),veq 3 (.int k a) (.int k a)=true:=λk a=>by simp[veq]
 show veq 4 (plV p ev wv nv) (plV p ev wv nv)=true
 unfold plV plC;rw[veq];simp only[tN,hi,h1,h2,h3,Bool.and_self]
theorem Lq (h:PV H p ev wv nv)(H':aE):stN 11 (.Q H'.length 0) (plV p ev wv nv) (H'++[plZ])=some (undef,H'++[plB p ev wv nv]):=by
 have e1:(plV p ev wv nv).cells.toList=plC p ev wv nv:=rfl;rw[mB 11 _ _ _ rfl,eL,e1];unfold plZ;rw[nG _ _ _ _ _ _ aC (by simp[plC]) h.Lp]
 simp[eK,plC,plB]
theorem Ei {q q':PlanD}{ev' wv' nv' v:Value}{b j:Nat}(hb:H[b]? =some (plB q ev wv nv))(hv:v.cells.toList=[v])(ha:dV [v]=true)(hj:j<11)(hq:(plC q ev wv nv).set j v=plC q' ev' wv' nv'):stN 1 (.Q b j) v H=some (undef,H.set b (plB q' ev' wv' nv')):=by
 rw[mB 1 _ _ _ (by rw[hv];rfl),hb]
 unfold plB;rw[hv,nG _ _ _ _ _ _ aC (by simp[plC];omega) ha]
 rw[<-hq];rfl
theorem qE {H0 H1:aE}{b:Nat}{x:Blk}(he:Ext H0 H1)(hb:H0.length<=b):Ext H0 (H1.set b x):=⟨by rw[List.length_set];exact he.1,λc hc _=>by rw[aPO U,he.2 c hc id]⟩
end
section
variable {H : aE} {m : Nat} {p : PlanD} {ev wv nv : Value}
theorem aH0 (H:aE):Us H (.slice none 0 0) []:= .inl ⟨rfl,rfl⟩
end
section
variable {H : aE} {m : Nat} {p : PlanD} {ev wv nv : Value}
theorem Ej {n:Nat}{E:List Ed}(hE:VE n E)(hn:n<=6){v:Nat}{x:Ed}:x∈nJ E v↔x.1=v/\x.2∈bes E v:=by
 unfold nJ;simp only[aQq,List.mem_filter];constructor
 ·rintro ⟨w,⟨h1,_⟩,rfl⟩
  exact⟨rfl,h1⟩
 ·rintro ⟨h1,h2⟩
  obtain⟨a,b⟩:=x;simp only at h1 h2;refine⟨b,⟨h2,?_⟩,by rw[h1]⟩
  have:=Ax hE h2;unfold wi;simp;omega
theorem aH1 {n:Nat}{E:List Ed}(hE:VE n E)(hn:n<=6){x:Ed}:x∈(List.range n).flatMap (nJ E)↔x.2∈bes E x.1:=by
 rw[List.mem_flatMap];constructor
 ·rintro ⟨v,_,h2⟩
  obtain⟨h3,h4⟩:=(Ej hE hn).mp h2;rw[h3];exact h4
 ·intro h
  have:=Ax hE h;have e:((x.1.toNat:Nat):Int)=x.1:=U
  refine⟨x.1.toNat,aQr.mpr U,(Ej hE hn).mpr ⟨e.symm,?_⟩⟩
  rw[e];exact h
theorem aH2 {n:Nat}{E:List Ed}(hE:VE n E)(hn:n<=6):((List.range n).flatMap (nJ E)).Pairwise (λa b=>a.1<b.1∨(a.1=b.1/\a.2<b.2)):=by
 rw[List.pairwise_flatMap];constructor
 ·intro v _
  unfold nJ;rw[List.pairwise_map]
  exact(List.Pairwise.filter _ (Av E v)).imp λh=> .inr ⟨rfl,h⟩
 ·refine List.pairwise_lt_range.imp λ{a b} hab x hx y hy=> ?_
  have h1:=((Ej hE hn).mp hx).1;have h2:=((Ej hE hn).mp hy).1
  left;omega
end
section
variable {H : aE} {m : Nat} {p : PlanD} {ev wv nv : Value}
theorem aH3 (H:aE)(x:Ed):dG 34 2 1 [.I 0,.I 0] [(0,edV x)] H=some (.slice (some ⟨H.length,0,none⟩) 1 1,H++[.cells (edC x) 34 .row]):=rfl
end
section
variable {H : aE} {m : Nat} {p : PlanD} {ev wv nv : Value}
theorem Rs.sv {α:Type}{el:α->List Value}{e:TypeId}{v:Value}{xs:List α}(h:Rs el e H v xs):dV [v]=true/\v.cells= #[v]:=by
 rcases h with⟨rfl,_⟩|⟨b,o,cap,rfl,_⟩<;>exact⟨rfl,rfl⟩
theorem Lr {H0 H1:aE}{a u:Value}(he:Ext H0 H1)(h:ld1 a H0=some (u,H0)):ld1 a H1=some (u,H1):=by
 unfold ld1 at*;cases a with
 |pointer x=>
  cases x with
  |none=>simp at h
  |some ad=>
   obtain⟨b,o,s⟩:=ad;cases s with
   |some s=>simp at h
   |none=>
    simp only at h⊢;cases hb:H0[b]? with
    |none=>rw[hb] at h;simp at h
    |some y=>
     rw[dT hb he];rw[hb] at h;cases y with
     |cells cs e k=>
      simp only at h⊢;cases hc:cs[o]? with
      |none=>rw[hc] at h;simp at h
      |some z=>
       rw[hc] at h;simp at h;subst h;rfl
     |map=>simp at h
     |dead=>simp at h
 |_=>simp at h
end
end Go.Proofs.YtkeilicinggjmaaGreatDoor
noncomputable section
namespace Go.Proofs.YtkeilicinggjmaaGreatDoor
open Go.Proofs.Tryz
open Go.Abs Go.Abs.M
variable (O:aG)(L:LV)(k:KV)(N P Q R S T U V W X Y Z a b c d e f g i j l m n o p q r s t u v w x y z A B C D E F G H I J zz zy zx zw zv zu zt zs zr zq zp zo zn zm zl zk zj zi zh zg zf ze zd zc zb za yz yy yx yw yv yu yt ys yr yq yp yo yn ym yl yk yj yi yh yg yf ye yd yc yb ya xz xy xx xw xv xu xt xs xr xq xp xo xn xm xl xk xj xi xh xg xf xe xd xc xb xa wz wy wx ww wv wu wt ws wr wq wp wo wn wm wl wk wj wi wh wg wf we wd wc wb wa vz:Value)(h:aE)
theorem aH4:cM prog O L 10 [N,P,Q,R] h=ob (cS 28 [(.I 0),(.slice none 0 0),(.I 0),(.I 0),(.I 0),(.I 0),(.I 0),(.I 0),(.slice none 0 0),(.int .u16 0),(.slice none 0 0)] .fix h) λaa h=>ob (O (.func 16) [(.int .u8 0),P,Q,R,(.slice none 0 0)] h) λab h=>ob (O (.func 33) [N] h) λac h=>ob (O (.func 32) [ab,ac] h) λad h=>ob (aF (ext 0 ad) h) λae h=>ob (aF (ext 1 ad) h) λaf h=>ob (cS 28 [(.I 0),(.slice none 0 0),(.I 0),(.I 0),(.I 0),(.I 0),(.I 0),(.I 0),(.slice none 0 0),(.int .u16 0),(.slice none 0 0)] .fix h) λag h=>ob (stN 11 ag ae h) λah h=>ob (ldN 11 ag h) λai h=>ob (stN 11 aa ai h) λaj h=>ob (ldN 11 aa h) λw10 _=>some (aK [w10],h):=by kernel_rfl
def L3:Code:=cC [1,1,1,1,1,1,1,1,1,1,0,1,0,0,1,0,0,1,0,1,0,0] (cF prog 32)
def L7:KV:=(dB 4 (dO prog O L (cC [1,1,1,1,1,1,1,1,1,1,0,1,0,0,1,0,0,1,1] (cF prog 32)) (dB 3 (dO prog O L (cC [1,1,1,1,1,1,1,1,1,1,0,1,0,0,1,1] (cF prog 32)) k))))
def L4 (O:aG)(L:LV) (k:KV) (a b c d e f g i j l m n o p q r s t u v w x y z A B C D E F G H I J zz zy zx zw zv zu zt zs zr zq zp zo zn zm zl zk zj zi zh zg zf ze zd zc zb za yz yy yx yw yv yu yt ys yr yq yp yo yn ym yl yk yj yi yh yg yf ye yd:Value) (h:aE):OV:=ob (aF (aI 10 c) h) λaa h=>ob (ld1 aa h) λab h=>ob (dG 25 1 1 [(.slice none 0 0)] [(0,m)] h) λac h=>ob (app 25 1 24 ab ac h) λad h=>ob (aF (aI 10 c) h) λae h=>ob (stN 1 ae ad h) λaf h=>ob (aF (bin prog .add 3 l (.I 1)) h) λag h=>k .normal [a,b,c,d,e,f,g,i,j,ag,m,n,o,p,q,r,s,t,u,v,w,x,y,z,A,B,C,D,E,F,G,H,I,J,zz,zy,zx,zw,zv,zu,zt,zs,zr,zq,zp,zo,zn,zm,zl,zk,zj,zi,zh,zg,zf,l,ag,zc,zb,za,yz,yy,yx,yw,yv,yu,yt,ys,yr,yq,yp,yo,yn,ym,yl,yk,aa,ab,m,ac,ad,ae,yd] h
theorem aIn:L7 O L k (.exit 4) [a,b,c,d,e,f,g,i,j,l,m,n,o,p,q,r,s,t,u,v,w,x,y,z,A,B,C,D,E,F,G,H,I,J,zz,zy,zx,zw,zv,zu,zt,zs,zr,zq,zp,zo,zn,zm,zl,zk,zj,zi,zh,zg,zf,ze,zd,zc,zb,za,yz,yy,yx,yw,yv,yu,yt,ys,yr,yq,yp,yo,yn,ym,yl,yk,yj,yi,yh,yg,yf,ye,yd] h=L4 O L k a b c d e f g i j l m n o p q r s t u v w x y z A B C D E F G H I J zz zy zx zw zv zu zt zs zr zq zp zo zn zm zl zk zj zi zh zg zf ze zd zc zb za yz yy yx yw yv yu yt ys yr yq yp yo yn ym yl yk yj yi yh yg yf ye yd h:=by kernel_rfl
theorem Wz:aM prog O L L3 k [a,b,c,d,e,f,g,i,j,l,m,n,o,p,q,r,s,t,u,v,w,x,y,z,A,B,C,D,E,F,G,H,I,J,zz,zy,zx,zw,zv,zu,zt,zs,zr,zq,zp,zo,zn,zm,zl,zk,zj,zi,zh,zg,zf,ze,zd,zc,zb,za,yz,yy,yx,yw,yv,yu,yt,ys,yr,yq,yp,yo,yn,ym,yl,yk,yj,yi,yh,yg,yf,ye,yd] h=ob (aF (bin prog .lss 3 n g) h) λaa h=>aN aa (ob (aF (bin prog .neq 3 l n) h) λab h=>aN ab (ob (O (.func 74) [b,l,n] h) λac h=>ob (aF (cB 1 ac (.I 1)) h) λad h=>ob (ld1 ad h) λae h=>ob (dG 3 1 1 [(.I 0)] [(0,ae)] h) λaf h=>ob (app 3 1 8 m af h) λag h=>ob (aF (bin prog .add 3 n (.I 1)) h) λah h=>k .normal [a,b,c,d,e,f,g,i,j,l,ag,ah,ae,p,q,r,s,t,u,v,w,x,y,z,A,B,C,D,E,F,G,H,I,J,zz,zy,zx,zw,zv,zu,zt,zs,zr,zq,zp,zo,zn,zm,zl,zk,zj,zi,zh,zg,zf,ze,zd,n,g,aa,n,ah,l,l,n,ab,b,l,n,ac,ad,ae,m,ae,af,ag,yj,yi,yh,yg,yf,ye,yd] h) (ob (dG 3 1 1 [(.I 0)] [(0,l)] h) λai h=>ob (app 3 1 8 m ai h) λaj h=>ob (aF (bin prog .add 3 n (.I 1)) h) λak h=>k .normal [a,b,c,d,e,f,g,i,j,l,aj,ak,l,p,q,r,s,t,u,v,w,x,y,z,A,B,C,D,E,F,G,H,I,J,zz,zy,zx,zw,zv,zu,zt,zs,zr,zq,zp,zo,zn,zm,zl,zk,zj,zi,zh,zg,zf,ze,zd,n,g,aa,n,ak,l,l,n,ab,yt,ys,yr,yq,yp,yo,m,l,ai,aj,yj,yi,yh,yg,yf,ye,yd] h)) (k (.exit 4) [a,b,c,d,e,f,g,i,j,l,m,n,o,p,q,r,s,t,u,v,w,x,y,z,A,B,C,D,E,F,G,H,I,J,zz,zy,zx,zw,zv,zu,zt,zs,zr,zq,zp,zo,zn,zm,zl,zk,zj,zi,zh,zg,zf,ze,zd,n,g,aa,yz,yy,yx,yw,yv,yu,yt,ys,yr,yq,yp,yo,yn,ym,yl,yk,yj,yi,yh,yg,yf,ye,yd] h):=by kernel_rfl
def L2:Code:=cC [1,1,1,1,1,1,1,1,1,1,0,1,0,0] (cF prog 32)
def L6:KV:=(dB 2 (dO prog O L (cC [1,1,1,1,1,1,1,1,1,1,1] (cF prog 32)) (eI prog Tryz.f32)))
theorem aIm:L6 O L (.exit 2) [a,b,c,d,e,f,g,i,j,l,m,n,o,p,q,r,s,t,u,v,w,x,y,z,A,B,C,D,E,F,G,H,I,J,zz,zy,zx,zw,zv,zu,zt,zs,zr,zq,zp,zo,zn,zm,zl,zk,zj,zi,zh,zg,zf,ze,zd,zc,zb,za,yz,yy,yx,yw,yv,yu,yt,ys,yr,yq,yp,yo,yn,ym,yl,yk,yj,yi,yh,yg,yf,ye,yd] h=ob (ldN 11 c h) λaa h=>ob (stN 11 e aa h) λab h=>ob (ldN 11 e h) λw39 _=>some (aK [w39,(.I 0)],h):=by kernel_rfl
theorem Wy:aM prog O L L2 k [a,b,c,d,e,f,g,i,j,l,m,n,o,p,q,r,s,t,u,v,w,x,y,z,A,B,C,D,E,F,G,H,I,J,zz,zy,zx,zw,zv,zu,zt,zs,zr,zq,zp,zo,zn,zm,zl,zk,zj,zi,zh,zg,zf,ze,zd,zc,zb,za,yz,yy,yx,yw,yv,yu,yt,ys,yr,yq,yp,yo,yn,ym,yl,yk,yj,yi,yh,yg,yf,ye,yd] h=ob (aF (bin prog .lss 3 l g) h) λaa h=>aN aa (L (aM prog O L L3) (L7 O L k) [a,b,c,d,e,f,g,i,j,l,(.slice none 0 0),(.I 0),o,p,q,r,s,t,u,v,w,x,y,z,A,B,C,D,E,F,G,H,I,J,zz,zy,zx,zw,zv,zu,zt,zs,zr,zq,zp,zo,zn,zm,zl,zk,zj,zi,l,g,aa,ze,zd,zc,zb,za,yz,yy,yx,yw,yv,yu,yt,ys,yr,yq,yp,yo,yn,ym,yl,yk,yj,yi,yh,yg,yf,ye,yd] h) (k (.exit 2) [a,b,c,d,e,f,g,i,j,l,m,n,o,p,q,r,s,t,u,v,w,x,y,z,A,B,C,D,E,F,G,H,I,J,zz,zy,zx,zw,zv,zu,zt,zs,zr,zq,zp,zo,zn,zm,zl,zk,zj,zi,l,g,aa,ze,zd,zc,zb,za,yz,yy,yx,yw,yv,yu,yt,ys,yr,yq,yp,yo,yn,ym,yl,yk,yj,yi,yh,yg,yf,ye,yd] h):=by kernel_rfl
def L1:Code:=cC [1,1,1,1,1,0,1,0,0] (cF prog 32)
def L5:KV:=(dB 0 (dO prog O L (cC [1,1,1,1,1,1] (cF prog 32)) (eI prog Tryz.f32)))
theorem aIl:L5 O L (.exit 0) [a,b,c,d,e,f,g,i,j,l,m,n,o,p,q,r,s,t,u,v,w,x,y,z,A,B,C,D,E,F,G,H,I,J,zz,zy,zx,zw,zv,zu,zt,zs,zr,zq,zp,zo,zn,zm,zl,zk,zj,zi,zh,zg,zf,ze,zd,zc,zb,za,yz,yy,yx,yw,yv,yu,yt,ys,yr,yq,yp,yo,yn,ym,yl,yk,yj,yi,yh,yg,yf,ye,yd] h=ob (aF (aI 8 c) h) λaa h=>ob (ld1 aa h) λab h=>ob (app 3 1 8 (.slice none 0 0) ab h) λac h=>ob (aF (aI 8 c) h) λad h=>ob (stN 1 ad ac h) λae h=>ob (aF (aI 10 c) h) λaf h=>ob (stN 1 af (.slice none 0 0) h) λag h=>L (aM prog O L L2) (L6 O L) [a,b,c,d,e,f,g,i,ac,(.I 0),m,n,o,p,q,r,s,t,u,v,w,x,y,z,A,B,C,D,E,F,G,H,I,J,zz,zy,zx,zw,zv,zu,zt,zs,zr,zq,zp,(.slice none 0 0),aa,ab,ac,ac,ad,af,zh,zg,zf,ze,zd,zc,zb,za,yz,yy,yx,yw,yv,yu,yt,ys,yr,yq,yp,yo,yn,ym,yl,yk,yj,yi,yh,yg,yf,ye,yd] h:=by kernel_rfl
theorem Wx:aM prog O L L1 k [a,b,c,d,e,f,g,i,j,l,m,n,o,p,q,r,s,t,u,v,w,x,y,z,A,B,C,D,E,F,G,H,I,J,zz,zy,zx,zw,zv,zu,zt,zs,zr,zq,zp,zo,zn,zm,zl,zk,zj,zi,zh,zg,zf,ze,zd,zc,zb,za,yz,yy,yx,yw,yv,yu,yt,ys,yr,yq,yp,yo,yn,ym,yl,yk,yj,yi,yh,yg,yf,ye,yd] h=ob (aF (bin prog .lss 3 i g) h) λaa h=>aN aa (ob (aF (aI 1 c) h) λab h=>ob (ld1 ab h) λac h=>ifB (true) (ob (aF (bin prog .sub 3 i (.I 1)) h) λad h=>ob (aF (cB 1 b ad) h) λae h=>ob (ld1 ae h) λaf h=>ifB (true) (ob (aF (bld prog 34 [(0,af),(1,i)]) h) λag h=>ob (dG 34 2 1 [(.I 0),(.I 0)] [(0,ag)] h) λah h=>ob (app 34 2 16 ac ah h) λai h=>ifB (true) (ob (aF (aI 1 c) h) λaj h=>ob (stN 1 aj ai h) λak h=>ifB (true) (ob (aF (bin prog .add 3 i (.I 1)) h) λal h=>k .normal [a,b,c,d,e,f,g,al,j,l,m,n,o,p,q,r,s,t,u,v,w,x,y,z,A,B,C,D,i,g,aa,i,al,ab,ac,b,i,ad,ae,af,i,ag,ah,ai,aj,zo,zn,zm,zl,zk,zj,zi,zh,zg,zf,ze,zd,zc,zb,za,yz,yy,yx,yw,yv,yu,yt,ys,yr,yq,yp,yo,yn,ym,yl,yk,yj,yi,yh,yg,yf,ye,yd] h))))) (k (.exit 0) [a,b,c,d,e,f,g,i,j,l,m,n,o,p,q,r,s,t,u,v,w,x,y,z,A,B,C,D,i,g,aa,H,I,J,zz,zy,zx,zw,zv,zu,zt,zs,zr,zq,zp,zo,zn,zm,zl,zk,zj,zi,zh,zg,zf,ze,zd,zc,zb,za,yz,yy,yx,yw,yv,yu,yt,ys,yr,yq,yp,yo,yn,ym,yl,yk,yj,yi,yh,yg,yf,ye,yd] h):=by kernel_rfl
theorem aIo:cM prog O L 32 [N,P] h=ob (cS 28 (Value.cells N).toList .fix h) λaa h=>ob (cS 28 [(.I 0),(.slice none 0 0),(.I 0),(.I 0),(.I 0),(.I 0),(.I 0),(.I 0),(.slice none 0 0),(.int .u16 0),(.slice none 0 0)] .fix h) λab h=>ob (O (.func 73) [P] h) λac h=>ob (aF (un prog .not ac) h) λad h=>ob (gd ad false (cG P) h) λae h=>ob (gd ad false (aF (cH ae)) h) λaf h=>ob (gd ad false (aF (bin prog .eql 3 af (.I 0))) h) λag h=>ob (aF (cL ad (.bool true) ag) h) λah h=>aN ah (ob (aF (bld prog 28 []) h) λai h=>ob (stN 11 ab ai h) λaj h=>ob (ldN 11 ab h) λw10 _=>some (aK [w10,(.I 120)],h)) (ob (aF (cH P) h) λak h=>ob (aF (bin prog .add 3 ak (.I 1)) h) λal h=>ob (aF (aI 0 aa) h) λam h=>ob (stN 1 am al h) λan h=>ob (aF (aI 1 aa) h) λao h=>ob (stN 1 ao (.slice none 0 0) h) λap h=>L (aM prog O L L1) (L5 O L) [N,P,aa,undef,ab,(.I 0),al,(.I 1),undef,undef,undef,undef,undef,P,ac,ad,ad,ae,af,ag,ah,undef,P,ak,al,al,am,ao,undef,undef,undef,undef,undef,undef,undef,undef,undef,undef,undef,undef,undef,undef,undef,undef,undef,undef,undef,undef,undef,undef,undef,undef,undef,undef,undef,undef,undef,undef,undef,undef,undef,undef,undef,undef,undef,undef,undef,undef,undef,undef,undef,undef,undef,undef,undef,undef,undef,undef,undef,undef,undef,undef,undef] h):=by kernel_rfl
def L8:Code:=cC [1,1,0,1,0,0] (cF prog 33)
def Ma:KV:=(dB 0 (dO prog O L (cC [1,1,1] (cF prog 33)) (eI prog Tryz.f33)))
def L9 (O:aG)(L:LV) (a b c d e f g i j l m n o p q r s t u v w x y z A B C D E F G H I:Value) (h:aE):OV:=ob (aF (cH d) h) λaa h=>ob (aF (bin prog .eql 3 aa (.I 0)) h) λab h=>aN ab (ob (dG 3 1 1 [(.I 0)] [(0,(.I 0))] h) λac h=>ob (app 3 1 8 d ac h) λad h=>some (aK [ad],h)) (some (aK [d],h))
theorem W4:Ma O L (.exit 0) [a,b,c,d,e,f,g,i,j,l,m,n,o,p,q,r,s,t,u,v,w,x,y,z,A,B,C,D,E,F,G,H,I] h=L9 O L a b c d e f g i j l m n o p q r s t u v w x y z A B C D E F G H I h:=by kernel_rfl
theorem W0:aM prog O L L8 k [a,b,c,d,e,f,g,i,j,l,m,n,o,p,q,r,s,t,u,v,w,x,y,z,A,B,C,D,E,F,G,H,I] h=ob (aF (cH a) h) λaa h=>ob (aF (bin prog .lss 3 e aa) h) λab h=>ob (gd ab true (cG e) h) λac h=>ob (gd ab true (aF (bin prog .lss 3 ac (.I 5))) h) λad h=>ob (aF (cL ab ad (.bool false)) h) λae h=>aN ae (ob (aF (cB 1 a e) h) λaf h=>ob (ld1 af h) λag h=>ob (dQ prog 5 3 ag h) λah h=>ob (aF (bin prog .add 3 e (.I 1)) h) λai h=>ob (aF (bin prog .rem 3 ah ai) h) λaj h=>ob (dG 3 1 1 [(.I 0)] [(0,aj)] h) λak h=>ob (app 3 1 8 d ak h) λal h=>ob (aF (bin prog .add 3 e (.I 1)) h) λam h=>k .normal [a,b,c,al,am,e,a,aa,ab,ab,ac,ad,ae,e,am,d,a,e,af,ag,ah,e,ai,aj,ak,al,C,D,E,F,G,H,I] h) (k (.exit 0) [a,b,c,d,e,e,a,aa,ab,ab,ac,ad,ae,p,q,r,s,t,u,v,w,x,y,z,A,B,C,D,E,F,G,H,I] h):=by kernel_rfl
theorem aIp:cM prog O L 33 [N] h=L (aM prog O L L8) (Ma O L) [N,undef,(.slice none 0 0),(.slice none 0 0),(.I 0),undef,undef,undef,undef,undef,undef,undef,undef,undef,undef,undef,undef,undef,undef,undef,undef,undef,undef,undef,undef,undef,undef,undef,undef,undef,undef,undef,undef] h:=by kernel_rfl
def Md:Code:=cC [1,1,1,1,1,0,1,0,0] (cF prog 34)
def Ez:KV:=(dB 4 (dO prog O L (cC [1,1,1,1,1,1] (cF prog 34)) (eI prog Tryz.f34)))
theorem aIs:Ez O L (.exit 4) [a,b,c,d,e,f,g,i,j,l,m,n,o,p,q,r,s,t,u,v,w,x,y,z,A,B,C,D,E,F,G,H,I,J,zz,zy,zx,zw,zv,zu,zt,zs,zr,zq,zp,zo,zn,zm,zl,zk,zj,zi,zh,zg,zf,ze,zd,zc,zb,za,yz,yy,yx,yw,yv,yu,yt,ys,yr,yq,yp] h=some (aK [(.int .u16 0)],h):=by kernel_rfl
theorem aIw:Ez O L .ret [a,b,c,d,e,f,g,i,j,l,m,n,o,p,q,r,s,t,u,v,w,x,y,z,A,B,C,D,E,F,G,H,I,J,zz,zy,zx,zw,zv,zu,zt,zs,zr,zq,zp,zo,zn,zm,zl,zk,zj,zi,zh,zg,zf,ze,zd,zc,zb,za,yz,yy,yx,yw,yv,yu,yt,ys,yr,yq,yp] h=some (aK [c],h):=by kernel_rfl
theorem W7:aM prog O L Md k [a,b,c,d,e,f,g,i,j,l,m,n,o,p,q,r,s,t,u,v,w,x,y,z,A,B,C,D,E,F,G,H,I,J,zz,zy,zx,zw,zv,zu,zt,zs,zr,zq,zp,zo,zn,zm,zl,zk,zj,zi,zh,zg,zf,ze,zd,zc,zb,za,yz,yy,yx,yw,yv,yu,yt,ys,yr,yq,yp] h=ob (aF (bin prog .lss 3 zf zg) h) λaa h=>aN aa (ob (aF (bV j) h) λab h=>ob (aF (aI 0 ab) h) λac h=>ob (ld1 ac h) λad h=>ob (aF (cB 1 ad zf) h) λae h=>ob (ld1 ae h) λaf h=>ob (aF (bin prog .eql 3 af (.I 0)) h) λag h=>ob (gd ag true (cG j) h) λah h=>ob (gd ag true (cG zf) h) λai h=>ob (gd ag true (O (.func 78) [ah,ai]) h) λaj h=>ob (aF (cL ag aj (.bool false)) h) λak h=>aN ak (k .ret [a,b,(.int .u16 140),d,e,f,g,i,j,zf,m,n,o,p,q,r,s,t,u,v,w,x,y,z,A,B,C,D,E,F,G,H,I,J,zz,zy,zx,zw,zv,zu,zt,zs,zr,zq,zp,zo,zn,zm,zl,zk,zj,zi,zh,zg,zf,aa,zf,j,ab,ac,ad,zf,ae,af,ag,ag,ah,ai,aj,ak,yp] h) (ob (aF (bin prog .add 3 zf (.I 1)) h) λal h=>k .normal [a,b,c,d,e,f,g,i,j,zf,m,n,o,p,q,r,s,t,u,v,w,x,y,z,A,B,C,D,E,F,G,H,I,J,zz,zy,zx,zw,zv,zu,zt,zs,zr,zq,zp,zo,zn,zm,zl,zk,zj,zi,zh,zg,al,aa,zf,j,ab,ac,ad,zf,ae,af,ag,ag,ah,ai,aj,ak,al] h)) (k (.exit 4) [a,b,c,d,e,f,g,i,j,l,m,n,o,p,q,r,s,t,u,v,w,x,y,z,A,B,C,D,E,F,G,H,I,J,zz,zy,zx,zw,zv,zu,zt,zs,zr,zq,zp,zo,zn,zm,zl,zk,zj,zi,zh,zg,zf,aa,zd,zc,zb,za,yz,yy,yx,yw,yv,yu,yt,ys,yr,yq,yp] h):=by kernel_rfl
def Mc:Code:=cC [1,1,0,1,0,0,1,1,0,0,1,1,0,0] (cF prog 34)
def Ey:KV:=(dB 2 (dB 1 (dO prog O L (cC [1,1,0,1,0,0,1,1,1] (cF prog 34)) k)))
theorem aIr:Ey O L k (.exit 2) [a,b,c,d,e,f,g,i,j,l,m,n,o,p,q,r,s,t,u,v,w,x,y,z,A,B,C,D,E,F,G,H,I,J,zz,zy,zx,zw,zv,zu,zt,zs,zr,zq,zp,zo,zn,zm,zl,zk,zj,zi,zh,zg,zf,ze,zd,zc,zb,za,yz,yy,yx,yw,yv,yu,yt,ys,yr,yq,yp] h=ob (aF (bin prog .add 3 t (.I 1)) h) λaa h=>k .normal [a,b,c,d,e,f,g,i,j,l,m,n,o,p,q,r,s,aa,u,v,w,x,y,z,A,B,C,D,E,F,G,H,I,J,zz,aa,zx,zw,zv,zu,zt,zs,zr,zq,zp,zo,zn,zm,zl,zk,zj,zi,zh,zg,zf,ze,zd,zc,zb,za,yz,yy,yx,yw,yv,yu,yt,ys,yr,yq,yp] h:=by kernel_rfl
theorem aIv:Ey O L k .ret [a,b,c,d,e,f,g,i,j,l,m,n,o,p,q,r,s,t,u,v,w,x,y,z,A,B,C,D,E,F,G,H,I,J,zz,zy,zx,zw,zv,zu,zt,zs,zr,zq,zp,zo,zn,zm,zl,zk,zj,zi,zh,zg,zf,ze,zd,zc,zb,za,yz,yy,yx,yw,yv,yu,yt,ys,yr,yq,yp] h=k .ret [a,b,c,d,e,f,g,i,j,l,m,n,o,p,q,r,s,t,u,v,w,x,y,z,A,B,C,D,E,F,G,H,I,J,zz,zy,zx,zw,zv,zu,zt,zs,zr,zq,zp,zo,zn,zm,zl,zk,zj,zi,zh,zg,zf,ze,zd,zc,zb,za,yz,yy,yx,yw,yv,yu,yt,ys,yr,yq,yp] h:=by kernel_rfl
theorem W6:aM prog O L Mc k [a,b,c,d,e,f,g,i,j,l,m,n,o,p,q,r,s,t,u,v,w,x,y,z,A,B,C,D,E,F,G,H,I,J,zz,zy,zx,zw,zv,zu,zt,zs,zr,zq,zp,zo,zn,zm,zl,zk,zj,zi,zh,zg,zf,ze,zd,zc,zb,za,yz,yy,yx,yw,yv,yu,yt,ys,yr,yq,yp] h=ob (aF (bin prog .lss 3 y x) h) λaa h=>aN aa (ob (ldN 11 b h) λab h=>ob (O (.func 76) [ab,e,y] h) λac h=>ob (aF (ext 0 ac) h) λad h=>ob (aF (ext 1 ac) h) λae h=>ob (aF (un prog .not ae) h) λaf h=>aN af (k .ret [a,b,(.int .u16 140),d,e,y,ad,ae,j,l,m,n,o,p,q,r,s,t,u,v,w,x,y,aa,y,ac,ab,e,y,ac,ad,ae,ae,af,zz,zy,zx,zw,zv,zu,zt,zs,zr,zq,zp,zo,zn,zm,zl,zk,zj,zi,zh,zg,zf,ze,zd,zc,zb,za,yz,yy,yx,yw,yv,yu,yt,ys,yr,yq,yp] h) (ob (aF (bin prog .add 3 y (.I 1)) h) λag h=>k .normal [a,b,c,d,e,y,ad,ae,j,l,m,n,o,p,q,r,s,t,u,v,w,x,ag,aa,y,ac,ab,e,y,ac,ad,ae,ae,af,ag,zy,zx,zw,zv,zu,zt,zs,zr,zq,zp,zo,zn,zm,zl,zk,zj,zi,zh,zg,zf,ze,zd,zc,zb,za,yz,yy,yx,yw,yv,yu,yt,ys,yr,yq,yp] h)) (k (.exit 2) [a,b,c,d,e,f,g,i,j,l,m,n,o,p,q,r,s,t,u,v,w,x,y,aa,A,B,C,D,E,F,G,H,I,J,zz,zy,zx,zw,zv,zu,zt,zs,zr,zq,zp,zo,zn,zm,zl,zk,zj,zi,zh,zg,zf,ze,zd,zc,zb,za,yz,yy,yx,yw,yv,yu,yt,ys,yr,yq,yp] h):=by kernel_rfl
def Mb:Code:=cC [1,1,0,1,0,0] (cF prog 34)
def Ev:KV:=(dB 0 (dO prog O L (cC [1,1,1] (cF prog 34)) (eI prog Tryz.f34)))
def Me (O:aG)(L:LV) (a b c d e f g i j l m n o p q r s t u v w x y z A B C D E F G H I J zz zy zx zw zv zu zt zs zr zq zp zo zn zm zl zk zj zi zh zg zf ze zd zc zb za yz yy yx yw yv yu yt ys yr yq yp:Value) (h:aE):OV:=ob (ldN 11 b h) λaa h=>ob (O (.func 77) [aa] h) λab h=>ob (aF (bld prog 163 [(1,ab)]) h) λac h=>ob (cS 163 (Value.cells ac).toList .fix h) λad h=>ob (aF (bV ad) h) λae h=>ob (aF (aI 1 ae) h) λaf h=>ob (ld1 af h) λag h=>ob (aF (cH ag) h) λah h=>ob (kH 3 1 8 [(.I 0)] ah ah h) λai h=>ob (aF (bV ad) h) λaj h=>ob (aF (aI 0 aj) h) λak h=>ob (stN 1 ak ai h) λal h=>ob (aF (bV ad) h) λam h=>ob (aF (aI 0 am) h) λan h=>ob (ld1 an h) λao h=>ob (aF (cH ao) h) λap h=>L (aM prog O L Md) (Ez O L) [a,b,c,d,e,f,g,i,ad,l,m,n,o,p,q,r,s,t,u,v,w,x,y,z,A,B,C,D,E,F,G,H,I,J,zz,zy,aa,ab,ac,ad,ad,ad,ae,af,ag,ah,ai,aj,ak,ad,am,an,ao,ap,(.I 0),ze,zd,zc,zb,za,yz,yy,yx,yw,yv,yu,yt,ys,yr,yq,yp] h
theorem aIq:Ev O L (.exit 0) [a,b,c,d,e,f,g,i,j,l,m,n,o,p,q,r,s,t,u,v,w,x,y,z,A,B,C,D,E,F,G,H,I,J,zz,zy,zx,zw,zv,zu,zt,zs,zr,zq,zp,zo,zn,zm,zl,zk,zj,zi,zh,zg,zf,ze,zd,zc,zb,za,yz,yy,yx,yw,yv,yu,yt,ys,yr,yq,yp] h=Me O L a b c d e f g i j l m n o p q r s t u v w x y z A B C D E F G H I J zz zy zx zw zv zu zt zs zr zq zp zo zn zm zl zk zj zi zh zg zf ze zd zc zb za yz yy yx yw yv yu yt ys yr yq yp h:=by kernel_rfl
theorem aIu:Ev O L .ret [a,b,c,d,e,f,g,i,j,l,m,n,o,p,q,r,s,t,u,v,w,x,y,z,A,B,C,D,E,F,G,H,I,J,zz,zy,zx,zw,zv,zu,zt,zs,zr,zq,zp,zo,zn,zm,zl,zk,zj,zi,zh,zg,zf,ze,zd,zc,zb,za,yz,yy,yx,yw,yv,yu,yt,ys,yr,yq,yp] h=some (aK [c],h):=by kernel_rfl
theorem W5:aM prog O L Mb k [a,b,c,d,e,f,g,i,j,l,m,n,o,p,q,r,s,t,u,v,w,x,y,z,A,B,C,D,E,F,G,H,I,J,zz,zy,zx,zw,zv,zu,zt,zs,zr,zq,zp,zo,zn,zm,zl,zk,zj,zi,zh,zg,zf,ze,zd,zc,zb,za,yz,yy,yx,yw,yv,yu,yt,ys,yr,yq,yp] h=ob (aF (bin prog .lss 3 t s) h) λaa h=>aN aa (ob (aF (aI 0 b) h) λab h=>ob (ld1 ab h) λac h=>L (aM prog O L Mc) (Ey O L k) [a,b,c,d,t,f,g,i,j,l,m,n,o,p,q,r,s,t,aa,t,ab,ac,(.I 0),z,A,B,C,D,E,F,G,H,I,J,zz,zy,zx,zw,zv,zu,zt,zs,zr,zq,zp,zo,zn,zm,zl,zk,zj,zi,zh,zg,zf,ze,zd,zc,zb,za,yz,yy,yx,yw,yv,yu,yt,ys,yr,yq,yp] h) (k (.exit 0) [a,b,c,d,e,f,g,i,j,l,m,n,o,p,q,r,s,t,aa,v,w,x,y,z,A,B,C,D,E,F,G,H,I,J,zz,zy,zx,zw,zv,zu,zt,zs,zr,zq,zp,zo,zn,zm,zl,zk,zj,zi,zh,zg,zf,ze,zd,zc,zb,za,yz,yy,yx,yw,yv,yu,yt,ys,yr,yq,yp] h):=by kernel_rfl
theorem aIt:cM prog O L 34 [N] h=ob (cS 28 (Value.cells N).toList .fix h) λaa h=>ob (ldN 11 aa h) λab h=>ob (O (.func 75) [ab] h) λac h=>ob (aF (bin prog .neq 51 ac (.int .u16 0)) h) λad h=>aN ad (some (aK [ac],h)) (ob (aF (aI 0 aa) h) λae h=>ob (ld1 ae h) λaf h=>L (aM prog O L Mb) (Ev O L) [N,aa,(.int .u16 0),ac,undef,undef,undef,undef,undef,undef,ab,ac,ac,ad,undef,ae,af,(.I 0),undef,undef,undef,undef,undef,undef,undef,undef,undef,undef,undef,undef,undef,undef,undef,undef,undef,undef,undef,undef,undef,undef,undef,undef,undef,undef,undef,undef,undef,undef,undef,undef,undef,undef,undef,undef,undef,undef,undef,undef,undef,undef,undef,undef,undef,undef,undef,undef,undef,undef,undef,undef,undef] h):=by kernel_rfl
def Mh:Code:=cC [1,1,1,1,1,0,1,0,0] (cF prog 55)
def E2:KV:=(dB 4 (dO prog O L (cC [1,1,1,1,1,1] (cF prog 55)) (eI prog Tryz.f55)))
theorem aIz:E2 O L (.exit 4) [a,b,c,d,e,f,g,i,j,l,m,n,o,p,q,r,s,t,u,v,w,x,y,z,A,B,C,D,E,F,G,H,I,J,zz,zy,zx,zw,zv,zu,zt,zs,zr,zq,zp,zo,zn,zm,zl,zk,zj] h=some (aK [(.I 0)],h):=by kernel_rfl
theorem aID:E2 O L .ret [a,b,c,d,e,f,g,i,j,l,m,n,o,p,q,r,s,t,u,v,w,x,y,z,A,B,C,D,E,F,G,H,I,J,zz,zy,zx,zw,zv,zu,zt,zs,zr,zq,zp,zo,zn,zm,zl,zk,zj] h=some (aK [c],h):=by kernel_rfl
theorem Xa:aM prog O L Mh k [a,b,c,d,e,f,g,i,j,l,m,n,o,p,q,r,s,t,u,v,w,x,y,z,A,B,C,D,E,F,G,H,I,J,zz,zy,zx,zw,zv,zu,zt,zs,zr,zq,zp,zo,zn,zm,zl,zk,zj] h=ob (aF (cH g) h) λaa h=>ob (aF (bin prog .lss 3 i aa) h) λab h=>aN ab (ob (O (.func 116) [g,i] h) λac h=>ob (aF (cB 1 ac i) h) λad h=>ob (ld1 ad h) λae h=>ob (aF (bin prog .eql 3 ae (.I 1)) h) λaf h=>aN af (k .ret [a,b,(.I 140),d,e,f,g,i,j,l,m,n,o,p,q,r,s,t,u,v,w,x,y,z,A,B,C,D,E,F,G,H,I,J,zz,zy,zx,zw,i,g,aa,ab,zr,zq,g,i,ac,i,ad,ae,af] h) (ob (aF (bin prog .add 3 i (.I 1)) h) λag h=>k .normal [a,b,c,d,e,f,g,ag,j,l,m,n,o,p,q,r,s,t,u,v,w,x,y,z,A,B,C,D,E,F,G,H,I,J,zz,zy,zx,zw,i,g,aa,ab,i,ag,g,i,ac,i,ad,ae,af] h)) (k (.exit 4) [a,b,c,d,e,f,g,i,j,l,m,n,o,p,q,r,s,t,u,v,w,x,y,z,A,B,C,D,E,F,G,H,I,J,zz,zy,zx,zw,i,g,aa,ab,zr,zq,zp,zo,zn,zm,zl,zk,zj] h):=by kernel_rfl
def Mg:Code:=cC [1,1,1,0,1,0,0,1,0,0,1,0,0] (cF prog 55)
def E1:KV:=(dB 2 (dB 1 (dO prog O L (cC [1,1,1,0,1,0,0,1,1] (cF prog 55)) k)))
theorem aIy:E1 O L k (.exit 2) [a,b,c,d,e,f,g,i,j,l,m,n,o,p,q,r,s,t,u,v,w,x,y,z,A,B,C,D,E,F,G,H,I,J,zz,zy,zx,zw,zv,zu,zt,zs,zr,zq,zp,zo,zn,zm,zl,zk,zj] h=ob (aF (bin prog .add 3 e (.I 1)) h) λaa h=>k .normal [a,b,c,d,aa,f,g,i,j,l,m,n,o,p,q,r,s,e,aa,v,w,x,y,z,A,B,C,D,E,F,G,H,I,J,zz,zy,zx,zw,zv,zu,zt,zs,zr,zq,zp,zo,zn,zm,zl,zk,zj] h:=by kernel_rfl
theorem aIC:E1 O L k .ret [a,b,c,d,e,f,g,i,j,l,m,n,o,p,q,r,s,t,u,v,w,x,y,z,A,B,C,D,E,F,G,H,I,J,zz,zy,zx,zw,zv,zu,zt,zs,zr,zq,zp,zo,zn,zm,zl,zk,zj] h=k .ret [a,b,c,d,e,f,g,i,j,l,m,n,o,p,q,r,s,t,u,v,w,x,y,z,A,B,C,D,E,F,G,H,I,J,zz,zy,zx,zw,zv,zu,zt,zs,zr,zq,zp,zo,zn,zm,zl,zk,zj] h:=by kernel_rfl
theorem W9:aM prog O L Mg k [a,b,c,d,e,f,g,i,j,l,m,n,o,p,q,r,s,t,u,v,w,x,y,z,A,B,C,D,E,F,G,H,I,J,zz,zy,zx,zw,zv,zu,zt,zs,zr,zq,zp,zo,zn,zm,zl,zk,zj] h=ob (aF (aI 0 b) h) λaa h=>ob (ld1 aa h) λab h=>ob (aF (bin prog .lss 3 f ab) h) λac h=>aN ac (ob (aF (bin prog .neq 3 e f) h) λad h=>ob (gd ad true (ldN 11 b) h) λae h=>ob (gd ad true (cG e) h) λaf h=>ob (gd ad true (cG f) h) λag h=>ob (gd ad true (O (.func 114) [ae,af,ag]) h) λah h=>ob (gd ad true (aF (cH ah)) h) λai h=>ob (gd ad true (aF (bin prog .eql 3 ai (.I 0))) h) λaj h=>ob (aF (cL ad aj (.bool false)) h) λak h=>aN ak (k .ret [a,b,(.I 140),d,e,f,g,i,j,l,m,n,o,p,q,r,s,t,u,f,aa,ab,ac,z,A,e,f,ad,ad,ae,af,ag,ah,ai,aj,ak,zx,zw,zv,zu,zt,zs,zr,zq,zp,zo,zn,zm,zl,zk,zj] h) (ob (aF (bin prog .add 3 f (.I 1)) h) λal h=>k .normal [a,b,c,d,e,al,g,i,j,l,m,n,o,p,q,r,s,t,u,f,aa,ab,ac,f,al,e,f,ad,ad,ae,af,ag,ah,ai,aj,ak,zx,zw,zv,zu,zt,zs,zr,zq,zp,zo,zn,zm,zl,zk,zj] h)) (k (.exit 2) [a,b,c,d,e,f,g,i,j,l,m,n,o,p,q,r,s,t,u,f,aa,ab,ac,z,A,B,C,D,E,F,G,H,I,J,zz,zy,zx,zw,zv,zu,zt,zs,zr,zq,zp,zo,zn,zm,zl,zk,zj] h):=by kernel_rfl
def Mf:Code:=cC [1,1,1,0,1,0,0] (cF prog 55)
def E0:KV:=(dB 0 (dO prog O L (cC [1,1,1,1] (cF prog 55)) (eI prog Tryz.f55)))
theorem aIx:E0 O L (.exit 0) [a,b,c,d,e,f,g,i,j,l,m,n,o,p,q,r,s,t,u,v,w,x,y,z,A,B,C,D,E,F,G,H,I,J,zz,zy,zx,zw,zv,zu,zt,zs,zr,zq,zp,zo,zn,zm,zl,zk,zj] h=ob (ldN 11 b h) λaa h=>ob (O (.func 115) [aa] h) λab h=>L (aM prog O L Mh) (E2 O L) [a,b,c,d,e,f,ab,(.I 0),j,l,m,n,o,p,q,r,s,t,u,v,w,x,y,z,A,B,C,D,E,F,G,H,I,J,zz,zy,aa,ab,zv,zu,zt,zs,zr,zq,zp,zo,zn,zm,zl,zk,zj] h:=by kernel_rfl
theorem aIB:E0 O L .ret [a,b,c,d,e,f,g,i,j,l,m,n,o,p,q,r,s,t,u,v,w,x,y,z,A,B,C,D,E,F,G,H,I,J,zz,zy,zx,zw,zv,zu,zt,zs,zr,zq,zp,zo,zn,zm,zl,zk,zj] h=some (aK [c],h):=by kernel_rfl
theorem W8:aM prog O L Mf k [a,b,c,d,e,f,g,i,j,l,m,n,o,p,q,r,s,t,u,v,w,x,y,z,A,B,C,D,E,F,G,H,I,J,zz,zy,zx,zw,zv,zu,zt,zs,zr,zq,zp,zo,zn,zm,zl,zk,zj] h=ob (aF (aI 0 b) h) λaa h=>ob (ld1 aa h) λab h=>ob (aF (bin prog .lss 3 e ab) h) λac h=>aN ac (L (aM prog O L Mg) (E1 O L k) [a,b,c,d,e,(.I 0),g,i,j,l,m,n,o,e,aa,ab,ac,t,u,v,w,x,y,z,A,B,C,D,E,F,G,H,I,J,zz,zy,zx,zw,zv,zu,zt,zs,zr,zq,zp,zo,zn,zm,zl,zk,zj] h) (k (.exit 0) [a,b,c,d,e,f,g,i,j,l,m,n,o,e,aa,ab,ac,t,u,v,w,x,y,z,A,B,C,D,E,F,G,H,I,J,zz,zy,zx,zw,zv,zu,zt,zs,zr,zq,zp,zo,zn,zm,zl,zk,zj] h):=by kernel_rfl
theorem aIA:cM prog O L 55 [N] h=ob (cS 28 (Value.cells N).toList .fix h) λaa h=>ob (ldN 11 aa h) λab h=>ob (O (.func 113) [ab] h) λac h=>ob (aF (bin prog .neq 3 ac (.I 0)) h) λad h=>aN ad (some (aK [ac],h)) (L (aM prog O L Mf) (E0 O L) [N,aa,(.I 0),ac,(.I 0),undef,undef,undef,ab,ac,ac,ad,undef,undef,undef,undef,undef,undef,undef,undef,undef,undef,undef,undef,undef,undef,undef,undef,undef,undef,undef,undef,undef,undef,undef,undef,undef,undef,undef,undef,undef,undef,undef,undef,undef,undef,undef,undef,undef,undef,undef] h):=by kernel_rfl
def Mi:Code:=cC [1,0,1,0,0] (cF prog 73)
def E3:KV:=(dB 0 (dO prog O L (cC [1,1] (cF prog 73)) (eI prog Tryz.f73)))
theorem aIE:E3 O L (.exit 0) [a,b,c,d,e,f,g,i,j,l,m,n,o,p,q,r,s,t,u,v,w,x,y,z,A,B] h=ob (aF (cH a) h) λaa h=>ob (aF (bin prog .leq 3 aa (.I 5)) h) λab h=>some (aK [ab],h):=by kernel_rfl
theorem Xc:E3 O L .ret [a,b,c,d,e,f,g,i,j,l,m,n,o,p,q,r,s,t,u,v,w,x,y,z,A,B] h=some (aK [c],h):=by kernel_rfl
theorem Xb:aM prog O L Mi k [a,b,c,d,e,f,g,i,j,l,m,n,o,p,q,r,s,t,u,v,w,x,y,z,A,B] h=ob (aF (cH a) h) λaa h=>ob (aF (bin prog .lss 3 d aa) h) λab h=>aN ab (ob (aF (cB 1 a d) h) λac h=>ob (ld1 ac h) λad h=>ob (aF (bin prog .lss 3 ad (.I 0)) h) λae h=>ob (gd ae false (cG a) h) λaf h=>ob (gd ae false (cG d) h) λag h=>ob (gd ae false (aF (cB 1 af ag)) h) λah h=>ob (gd ae false (ld1 ah) h) λai h=>ob (gd ae false (cG d) h) λaj h=>ob (gd ae false (aF (bin prog .gtr 3 ai aj)) h) λak h=>ob (aF (cL ae (.bool true) ak) h) λal h=>aN al (k .ret [a,b,(.bool false),d,d,a,aa,ab,j,l,a,d,ac,ad,ae,ae,af,ag,ah,ai,aj,ak,al,z,A,B] h) (ob (aF (bin prog .add 3 d (.I 1)) h) λam h=>k .normal [a,b,c,am,d,a,aa,ab,d,am,a,d,ac,ad,ae,ae,af,ag,ah,ai,aj,ak,al,z,A,B] h)) (k (.exit 0) [a,b,c,d,d,a,aa,ab,j,l,m,n,o,p,q,r,s,t,u,v,w,x,y,z,A,B] h):=by kernel_rfl
theorem aIF:cM prog O L 73 [N] h=L (aM prog O L Mi) (E3 O L) [N,undef,(.bool false),(.I 0),undef,undef,undef,undef,undef,undef,undef,undef,undef,undef,undef,undef,undef,undef,undef,undef,undef,undef,undef,undef,undef,undef] h:=by kernel_rfl
def Mk:Code:=cC [1,1,1,1,1,1,1,0,1,0,0] (cF prog 74)
def Mo:KV:=(dB 2 (dO prog O L (cC [1,1,1,1,1,1,1,1] (cF prog 74)) (eI prog Tryz.f74)))
theorem aIH:Mo O L (.exit 2) [a,b,c,d,e,f,g,i,j,l,m,n,o,p,q,r,s,t,u,v,w,x,y,z,A,B,C,D,E,F,G,H,I,J,zz,zy,zx,zw,zv,zu,zt,zs,zr,zq,zp,zo,zn,zm,zl,zk,zj,zi,zh,zg,zf,ze,zd,zc,zb,za,yz,yy,yx,yw,yv,yu,yt,ys,yr,yq,yp,yo,yn,ym,yl,yk,yj,yi,yh,yg,yf,ye,yd,yc,yb,ya,xz,xy,xx,xw,xv] h=some (aK [l],h):=by kernel_rfl
theorem Xd:aM prog O L Mk k [a,b,c,d,e,f,g,i,j,l,m,n,o,p,q,r,s,t,u,v,w,x,y,z,A,B,C,D,E,F,G,H,I,J,zz,zy,zx,zw,zv,zu,zt,zs,zr,zq,zp,zo,zn,zm,zl,zk,zj,zi,zh,zg,zf,ze,zd,zc,zb,za,yz,yy,yx,yw,yv,yu,yt,ys,yr,yq,yp,yo,yn,ym,yl,yk,yj,yi,yh,yg,yf,ye,yd,yc,yb,ya,xz,xy,xx,xw,xv] h=ob (aF (bin prog .geq 3 m (.I 0)) h) λaa h=>aN aa (ob (aF (cB 1 j m) h) λab h=>ob (ld1 ab h) λac h=>ob (dG 3 1 1 [(.I 0)] [(0,ac)] h) λad h=>ob (app 3 1 8 l ad h) λae h=>ob (aF (bin prog .sub 3 m (.I 1)) h) λaf h=>k .normal [a,b,c,d,e,f,g,i,j,ae,af,n,o,p,q,r,s,t,u,v,w,x,y,z,A,B,C,D,E,F,G,H,I,J,zz,zy,zx,zw,zv,zu,zt,zs,zr,zq,zp,zo,zn,zm,zl,zk,zj,zi,zh,zg,zf,ze,zd,zc,zb,za,yz,yy,yx,yw,yv,yu,yt,ys,yr,yq,yp,yo,yn,ym,yl,yk,yj,yi,yh,m,aa,m,af,l,j,m,ab,ac,ad,ae,xv] h) (k (.exit 2) [a,b,c,d,e,f,g,i,j,l,m,n,o,p,q,r,s,t,u,v,w,x,y,z,A,B,C,D,E,F,G,H,I,J,zz,zy,zx,zw,zv,zu,zt,zs,zr,zq,zp,zo,zn,zm,zl,zk,zj,zi,zh,zg,zf,ze,zd,zc,zb,za,yz,yy,yx,yw,yv,yu,yt,ys,yr,yq,yp,yo,yn,ym,yl,yk,yj,yi,yh,m,aa,ye,yd,yc,yb,ya,xz,xy,xx,xw,xv] h):=by kernel_rfl
def Mj:Code:=cC [1,1,1,1,0,0,0] (cF prog 74)
def Mn:KV:=(dB 0 (dO prog O L (cC [1,1,1,1,1] (cF prog 74)) (eI prog Tryz.f74)))
def Ml (O:aG)(L:LV) (a b c d e f g i j l m n o p q r s t u v w x y z A B C D E F G H I J zz zy zx zw zv zu zt zs zr zq zp zo zn zm zl zk zj zi zh zg zf ze zd zc zb za yz yy yx yw yv yu yt ys yr yq yp yo yn ym yl yk yj yi yh yg yf ye yd yc yb ya xz xy xx xw xv:Value) (h:aE):OV:=ob (app 3 1 8 (.slice none 0 0) i h) λaa h=>ob (aF (cH j) h) λab h=>ob (aF (bin prog .sub 3 ab (.I 2)) h) λac h=>L (aM prog O L Mk) (Mo O L) [a,b,c,d,e,f,g,i,j,aa,ac,n,o,p,q,r,s,t,u,v,w,x,y,z,A,B,C,D,E,F,G,H,I,J,zz,zy,zx,zw,zv,zu,zt,zs,zr,zq,zp,zo,zn,zm,zl,zk,zj,zi,zh,zg,zf,ze,zd,zc,zb,za,yz,yy,yx,yw,yv,yu,yt,ys,yr,yq,yp,yo,yn,(.slice none 0 0),i,aa,j,ab,ac,yg,yf,ye,yd,yc,yb,ya,xz,xy,xx,xw,xv] h
theorem Mm:Mn O L (.exit 0) [a,b,c,d,e,f,g,i,j,l,m,n,o,p,q,r,s,t,u,v,w,x,y,z,A,B,C,D,E,F,G,H,I,J,zz,zy,zx,zw,zv,zu,zt,zs,zr,zq,zp,zo,zn,zm,zl,zk,zj,zi,zh,zg,zf,ze,zd,zc,zb,za,yz,yy,yx,yw,yv,yu,yt,ys,yr,yq,yp,yo,yn,ym,yl,yk,yj,yi,yh,yg,yf,ye,yd,yc,yb,ya,xz,xy,xx,xw,xv] h=Ml O L a b c d e f g i j l m n o p q r s t u v w x y z A B C D E F G H I J zz zy zx zw zv zu zt zs zr zq zp zo zn zm zl zk zj zi zh zg zf ze zd zc zb za yz yy yx yw yv yu yt ys yr yq yp yo yn ym yl yk yj yi yh yg yf ye yd yc yb ya xz xy xx xw xv h:=by kernel_rfl
theorem aIG:aM prog O L Mj k [a,b,c,d,e,f,g,i,j,l,m,n,o,p,q,r,s,t,u,v,w,x,y,z,A,B,C,D,E,F,G,H,I,J,zz,zy,zx,zw,zv,zu,zt,zs,zr,zq,zp,zo,zn,zm,zl,zk,zj,zi,zh,zg,zf,ze,zd,zc,zb,za,yz,yy,yx,yw,yv,yu,yt,ys,yr,yq,yp,yo,yn,ym,yl,yk,yj,yi,yh,yg,yf,ye,yd,yc,yb,ya,xz,xy,xx,xw,xv] h=ob (aF (cH i) h) λaa h=>ob (aF (bin prog .gtr 3 aa (.I 1)) h) λab h=>ob (gd ab true (cG j) h) λac h=>ob (gd ab true (aF (cH ac)) h) λad h=>ob (gd ab true (aF (bin prog .gtr 3 ad (.I 1))) h) λae h=>ob (aF (cL ab ae (.bool false)) h) λaf h=>ob (gd af true (cG i) h) λag h=>ob (gd af true (cG i) h) λah h=>ob (gd af true (aF (cH ah)) h) λai h=>ob (gd af true (aF (bin prog .sub 3 ai (.I 2))) h) λaj h=>ob (gd af true (aF (cB 1 ag aj)) h) λak h=>ob (gd af true (ld1 ak) h) λal h=>ifB (true) (ob (gd af true (cG j) h) λam h=>ob (gd af true (cG j) h) λan h=>ob (gd af true (aF (cH an)) h) λao h=>ob (gd af true (aF (bin prog .sub 3 ao (.I 2))) h) λap h=>ob (gd af true (aF (cB 1 am ap)) h) λaq h=>ob (gd af true (ld1 aq) h) λar h=>ifB (true) (ob (gd af true (aF (bin prog .eql 3 al ar)) h) λau h=>ob (aF (cL af au (.bool false)) h) λav h=>aN av (ob (aF (cH i) h) λaw h=>ob (aF (bin prog .sub 3 aw (.I 1)) h) λax h=>ob (slc prog 1 i none (some ax) none h) λay h=>ob (aF (cH j) h) λaz h=>ob (aF (bin prog .sub 3 az (.I 1)) h) λba h=>ob (slc prog 1 j none (some ba) none h) λbb h=>k .normal [a,b,c,d,e,f,g,ay,bb,l,m,n,o,p,q,r,s,t,u,v,w,x,y,z,A,B,C,D,E,F,G,H,I,J,zz,zy,zx,zw,zv,zu,i,aa,ab,ab,ac,ad,ae,af,af,ag,ah,ai,aj,ak,al,am,an,ao,ap,aq,ar,au,av,i,i,aw,ax,ay,j,j,az,ba,bb,ym,yl,yk,yj,yi,yh,yg,yf,ye,yd,yc,yb,ya,xz,xy,xx,xw,xv] h) (k (.exit 0) [a,b,c,d,e,f,g,i,j,l,m,n,o,p,q,r,s,t,u,v,w,x,y,z,A,B,C,D,E,F,G,H,I,J,zz,zy,zx,zw,zv,zu,i,aa,ab,ab,ac,ad,ae,af,af,ag,ah,ai,aj,ak,al,am,an,ao,ap,aq,ar,au,av,yw,yv,yu,yt,ys,yr,yq,yp,yo,yn,ym,yl,yk,yj,yi,yh,yg,yf,ye,yd,yc,yb,ya,xz,xy,xx,xw,xv] h))):=by kernel_rfl
theorem aII:cM prog O L 74 [N,P,Q] h=ob (O (.func 73) [N] h) λaa h=>ob (aF (un prog .not aa) h) λab h=>ob (gd ab false (cG P) h) λac h=>ob (gd ab false (aF (bin prog .lss 3 ac (.I 0))) h) λad h=>ob (aF (cL ab (.bool true) ad) h) λae h=>ob (gd ae false (cG P) h) λaf h=>ob (gd ae false (cG N) h) λag h=>ob (gd ae false (aF (cH ag)) h) λah h=>ob (gd ae false (aF (bin prog .gtr 3 af ah)) h) λai h=>ob (aF (cL ae (.bool true) ai) h) λaj h=>ob (gd aj false (cG Q) h) λak h=>ob (gd aj false (aF (bin prog .lss 3 ak (.I 0))) h) λal h=>ob (aF (cL aj (.bool true) al) h) λam h=>ob (gd am false (cG Q) h) λan h=>ob (gd am false (cG N) h) λao h=>ob (gd am false (aF (cH ao)) h) λap h=>ob (gd am false (aF (bin prog .gtr 3 an ap)) h) λaq h=>ob (aF (cL am (.bool true) aq) h) λar h=>aN ar (some (aK [(.slice none 0 0)],h)) (ob (O (.func 126) [N,P] h) λau h=>ob (O (.func 126) [N,Q] h) λav h=>L (aM prog O L Mj) (Mn O L) [N,P,Q,undef,undef,undef,(.slice none 0 0),au,av,undef,undef,N,aa,ab,ab,ac,ad,ae,ae,af,ag,ah,ai,aj,aj,ak,al,am,am,an,ao,ap,aq,ar,N,P,au,N,Q,av,undef,undef,undef,undef,undef,undef,undef,undef,undef,undef,undef,undef,undef,undef,undef,undef,undef,undef,undef,undef,undef,undef,undef,undef,undef,undef,undef,undef,undef,undef,undef,undef,undef,undef,undef,undef,undef,undef,undef,undef,undef,undef,undef,undef,undef,undef,undef,undef,undef,undef,undef] h):=by kernel_rfl
def Mp:Code:=cC [1,1,0,0,0] (cF prog 76)
def E4:KV:=(dB 0 (dO prog O L (cC [1,1,1] (cF prog 76)) (eI prog Tryz.f76)))
theorem aIK:E4 O L (.exit 0) [a,b,c,d,e,f,g,i,j,l,m,n,o,p,q,r,s,t,u,v,w,x,y,z,A,B,C,D,E,F,G,H,I,J,zz,zy,zx,zw,zv,zu,zt,zs] h=some (aK [j,(.bool true)],h):=by kernel_rfl
theorem Xe:E4 O L .ret [a,b,c,d,e,f,g,i,j,l,m,n,o,p,q,r,s,t,u,v,w,x,y,z,A,B,C,D,E,F,G,H,I,J,zz,zy,zx,zw,zv,zu,zt,zs] h=some (aK [g,i],h):=by kernel_rfl
theorem aIJ:aM prog O L Mp k [a,b,c,d,e,f,g,i,j,l,m,n,o,p,q,r,s,t,u,v,w,x,y,z,A,B,C,D,E,F,G,H,I,J,zz,zy,zx,zw,zv,zu,zt,zs] h=ob (aF (bin prog .neq 3 b c) h) λaa h=>aN aa (ob (aF (aI 10 d) h) λab h=>ob (ld1 ab h) λac h=>ob (aF (cB 1 ac b) h) λad h=>ob (ld1 ad h) λae h=>ob (aF (cB 1 ae c) h) λaf h=>ob (ld1 af h) λag h=>ob (aF (cH j) h) λah h=>ob (aF (aI 0 d) h) λai h=>ob (ld1 ai h) λaj h=>ob (aF (bin prog .eql 3 ah aj) h) λak h=>ob (gd ak false (ldN 11 d) h) λal h=>ob (gd ak false (cG b) h) λam h=>ob (gd ak false (O (.func 37) [al,am]) h) λan h=>ob (gd ak false (cG ag) h) λao h=>ob (gd ak false (O (.func 131) [an,ao]) h) λap h=>ob (gd ak false (aF (un prog .not ap)) h) λaq h=>ob (aF (cL ak (.bool true) aq) h) λar h=>aN ar (k .ret [a,b,c,d,e,f,(.slice none 0 0),(.bool false),j,ag,m,n,b,c,aa,ab,ac,b,ad,ae,c,af,ag,j,ah,ai,aj,ak,ak,al,am,an,ao,ap,aq,ar,zx,zw,zv,zu,zt,zs] h) (ob (dG 3 1 1 [(.I 0)] [(0,ag)] h) λau h=>ob (app 3 1 8 j au h) λav h=>k .normal [a,ag,c,d,e,f,g,i,av,ag,m,n,b,c,aa,ab,ac,b,ad,ae,c,af,ag,j,ah,ai,aj,ak,ak,al,am,an,ao,ap,aq,ar,j,ag,au,av,ag,zs] h)) (k (.exit 0) [a,b,c,d,e,f,g,i,j,l,m,n,b,c,aa,r,s,t,u,v,w,x,y,z,A,B,C,D,E,F,G,H,I,J,zz,zy,zx,zw,zv,zu,zt,zs] h):=by kernel_rfl
theorem aIL:cM prog O L 76 [N,P,Q] h=ob (cS 28 (Value.cells N).toList .fix h) λaa h=>ob (dG 3 1 1 [(.I 0)] [(0,P)] h) λab h=>L (aM prog O L Mp) (E4 O L) [N,P,Q,aa,undef,undef,(.slice none 0 0),(.bool false),ab,undef,P,ab,undef,undef,undef,undef,undef,undef,undef,undef,undef,undef,undef,undef,undef,undef,undef,undef,undef,undef,undef,undef,undef,undef,undef,undef,undef,undef,undef,undef,undef,undef] h:=by kernel_rfl
def Mq:Code:=cC [1,1,1,1,0,1,0,0] (cF prog 77)
def Mr:KV:=(dB 0 (dO prog O L (cC [1,1,1,1,1] (cF prog 77)) (eI prog Tryz.f77)))
theorem aIM:Mr O L (.exit 0) [a,b,c,d,e,f,g,i,j,l,m,n,o,p,q,r,s,t,u,v,w,x,y,z,A,B,C,D,E,F,G] h=some (aK [e],h):=by kernel_rfl
theorem Xf:aM prog O L Mq k [a,b,c,d,e,f,g,i,j,l,m,n,o,p,q,r,s,t,u,v,w,x,y,z,A,B,C,D,E,F,G] h=ob (aF (bin prog .lss 3 t s) h) λaa h=>aN aa (ob (aF (cB 2 r t) h) λab h=>ob (ldN 2 ab h) λac h=>ob (cS 67 [(.I 0),(.I 0)] .fix h) λad h=>ob (stN 2 ad ac h) λae h=>ob (ldN 11 b h) λaf h=>ob (ldN 2 ad h) λag h=>ob (O (.func 132) [af,ag,d] h) λah h=>ob (aF (cB 1 e t) h) λai h=>ob (stN 1 ai ah h) λaj h=>ob (aF (bin prog .add 3 t (.I 1)) h) λak h=>k .normal [a,b,c,d,e,t,ad,i,j,l,m,n,o,p,q,r,s,ak,aa,t,ab,ac,e,t,af,ag,d,ah,ai,ak,G] h) (k (.exit 0) [a,b,c,d,e,f,g,i,j,l,m,n,o,p,q,r,s,t,aa,v,w,x,y,z,A,B,C,D,E,F,G] h):=by kernel_rfl
theorem aIN:cM prog O L 77 [N] h=ob (cS 28 (Value.cells N).toList .fix h) λaa h=>ob (ldN 11 aa h) λab h=>ob (O (.func 75) [ab] h) λac h=>ob (aF (bin prog .neq 51 ac (.int .u16 0)) h) λad h=>aN ad (some (aK [(.slice none 0 0)],h)) (ob (ldN 11 aa h) λae h=>ob (O (.func 66) [ae] h) λaf h=>ob (aF (cH af) h) λag h=>ob (kH 25 1 24 [(.slice none 0 0)] ag ag h) λah h=>ob (aF (cH af) h) λai h=>L (aM prog O L Mq) (Mr O L) [N,aa,(.slice none 0 0),af,ah,undef,undef,ab,ac,ad,ae,af,af,ag,ah,af,ai,(.I 0),undef,undef,undef,undef,undef,undef,undef,undef,undef,undef,undef,undef,undef] h):=by kernel_rfl
def E5:Code:=cC [1,0,1,1,0,1,0,0] (cF prog 78)
def A0:KV:=(dB 0 (dO prog O L (cC [1,0,1,1,1] (cF prog 78)) (eI prog Tryz.f78)))
theorem aIO:A0 O L (.exit 0) [a,b,c,d,e,f,g,i,j,l,m,n,o,p,q,r,s,t,u,v,w,x,y,z,A,B,C,D,E,F,G,H,I,J,zz,zy,zx,zw,zv,zu,zt,zs,zr,zq,zp,zo,zn,zm,zl,zk,zj,zi,zh,zg] h=ob (aF (bV a) h) λaa h=>ob (aF (aI 0 aa) h) λab h=>ob (ld1 ab h) λac h=>ob (aF (cB 1 ac b) h) λad h=>ob (stN 1 ad (.I 2) h) λae h=>some (aK [(.bool false)],h):=by kernel_rfl
theorem Xh:A0 O L .ret [a,b,c,d,e,f,g,i,j,l,m,n,o,p,q,r,s,t,u,v,w,x,y,z,A,B,C,D,E,F,G,H,I,J,zz,zy,zx,zw,zv,zu,zt,zs,zr,zq,zp,zo,zn,zm,zl,zk,zj,zi,zh,zg] h=some (aK [e],h):=by kernel_rfl
theorem Xg:aM prog O L E5 k [a,b,c,d,e,f,g,i,j,l,m,n,o,p,q,r,s,t,u,v,w,x,y,z,A,B,C,D,E,F,G,H,I,J,zz,zy,zx,zw,zv,zu,zt,zs,zr,zq,zp,zo,zn,zm,zl,zk,zj,zi,zh,zg] h=ob (aF (bin prog .lss 3 x w) h) λaa h=>aN aa (ob (aF (cB 1 v x) h) λab h=>ob (ld1 ab h) λac h=>ob (aF (bV a) h) λad h=>ob (aF (aI 0 ad) h) λae h=>ob (ld1 ae h) λaf h=>ob (aF (cB 1 af ac) h) λag h=>ob (ld1 ag h) λah h=>ob (aF (bin prog .eql 3 ah (.I 1)) h) λai h=>aN ai (k .ret [a,b,c,d,(.bool true),f,ac,i,j,l,m,n,o,p,q,r,s,t,u,v,w,x,aa,ab,ac,ai,a,ad,ae,af,ac,ag,ah,ai,zz,zy,zx,zw,zv,zu,zt,zs,zr,zq,zp,zo,zn,zm,zl,zk,zj,zi,zh,zg] h) (ob (aF (bV a) h) λaj h=>ob (aF (aI 0 aj) h) λak h=>ob (ld1 ak h) λal h=>ob (aF (cB 1 al ac) h) λam h=>ob (ld1 am h) λan h=>ob (aF (bin prog .eql 3 an (.I 2)) h) λao h=>aN ao (ob (aF (bin prog .add 3 x (.I 1)) h) λap h=>k .normal [a,b,c,d,e,f,ac,i,j,l,m,n,o,p,q,r,s,t,u,v,w,ap,aa,ab,ac,ai,a,ad,ae,af,ac,ag,ah,ai,ao,a,aj,ak,al,ac,am,an,ao,zq,zp,zo,zn,ap,zl,zk,zj,zi,zh,zg] h) (ob (O (.func 78) [a,ac] h) λaq h=>aN aq (k .ret [a,b,c,d,(.bool true),f,ac,i,j,l,m,n,o,p,q,r,s,t,u,v,w,x,aa,ab,ac,ai,a,ad,ae,af,ac,ag,ah,ai,ao,a,aj,ak,al,ac,am,an,ao,aq,a,ac,aq,zm,zl,zk,zj,zi,zh,zg] h) (ob (aF (bin prog .add 3 x (.I 1)) h) λar h=>k .normal [a,b,c,d,e,f,ac,i,j,l,m,n,o,p,q,r,s,t,u,v,w,ar,aa,ab,ac,ai,a,ad,ae,af,ac,ag,ah,ai,ao,a,aj,ak,al,ac,am,an,ao,aq,a,ac,aq,ar,zl,zk,zj,zi,zh,zg] h)))) (k (.exit 0) [a,b,c,d,e,f,g,i,j,l,m,n,o,p,q,r,s,t,u,v,w,x,aa,z,A,B,C,D,E,F,G,H,I,J,zz,zy,zx,zw,zv,zu,zt,zs,zr,zq,zp,zo,zn,zm,zl,zk,zj,zi,zh,zg] h):=by kernel_rfl
theorem aIP:cM prog O L 78 [N,P] h=ob (aF (bV N) h) λaa h=>ob (aF (aI 0 aa) h) λab h=>ob (ld1 ab h) λac h=>ob (aF (cB 1 ac P) h) λad h=>ob (stN 1 ad (.I 1) h) λae h=>ob (aF (bV N) h) λaf h=>ob (aF (aI 1 af) h) λag h=>ob (ld1 ag h) λah h=>ob (aF (cB 1 ah P) h) λai h=>ob (ld1 ai h) λaj h=>ob (aF (cH aj) h) λak h=>L (aM prog O L E5) (A0 O L) [N,P,undef,undef,(.bool false),undef,undef,N,aa,ab,ac,P,ad,N,af,ag,ah,P,ai,aj,ak,(.I 0),undef,undef,undef,undef,undef,undef,undef,undef,undef,undef,undef,undef,undef,undef,undef,undef,undef,undef,undef,undef,undef,undef,undef,undef,undef,undef,undef,undef,undef,undef,undef,undef] h:=by kernel_rfl
def Ls:Code:=cC [1,1,1,0,0,0] (cF prog 114)
def Ek:KV:=(dB 0 (dO prog O L (cC [1,1,1,1] (cF prog 114)) (eI prog Tryz.f114)))
theorem aH6:Ek O L (.exit 0) [a,b,c,d,e,f,g,i,j,l,m,n,o,p,q,r,s,t,u,v,w,x,y,z,A,B,C,D,E,F,G,H,I,J,zz,zy,zx,zw,zv,zu,zt,zs,zr,zq,zp,zo,zn,zm,zl,zk,zj,zi,zh,zg,zf,ze,zd,zc,zb,za,yz,yy,yx] h=some (aK [i],h):=by kernel_rfl
theorem Wm:Ek O L .ret [a,b,c,d,e,f,g,i,j,l,m,n,o,p,q,r,s,t,u,v,w,x,y,z,A,B,C,D,E,F,G,H,I,J,zz,zy,zx,zw,zv,zu,zt,zs,zr,zq,zp,zo,zn,zm,zl,zk,zj,zi,zh,zg,zf,ze,zd,zc,zb,za,yz,yy,yx] h=some (aK [g],h):=by kernel_rfl
theorem aH5:aM prog O L Ls k [a,b,c,d,e,f,g,i,j,l,m,n,o,p,q,r,s,t,u,v,w,x,y,z,A,B,C,D,E,F,G,H,I,J,zz,zy,zx,zw,zv,zu,zt,zs,zr,zq,zp,zo,zn,zm,zl,zk,zj,zi,zh,zg,zf,ze,zd,zc,zb,za,yz,yy,yx] h=ob (aF (bin prog .neq 3 b c) h) λaa h=>aN aa (ob (aF (aI 10 d) h) λab h=>ob (ld1 ab h) λac h=>ob (aF (cB 1 ac b) h) λad h=>ob (ld1 ad h) λae h=>ob (aF (cB 1 ae c) h) λaf h=>ob (ld1 af h) λag h=>ob (ldN 11 d h) λah h=>ob (O (.func 156) [ah,b,ag] h) λai h=>ob (aF (bin prog .lss 3 ai (.I 0)) h) λaj h=>ob (gd aj false (cG i) h) λak h=>ob (gd aj false (aF (cH ak)) h) λal h=>ob (gd aj false (aF (aI 0 d)) h) λam h=>ob (gd aj false (ld1 am) h) λan h=>ob (gd aj false (aF (bin prog .geq 3 al an)) h) λao h=>ob (aF (cL aj (.bool true) ao) h) λap h=>aN ap (k .ret [a,b,c,d,e,f,(.slice none 0 0),i,ag,l,m,n,o,p,q,r,s,t,u,v,w,x,y,z,A,B,C,D,E,F,G,H,I,J,b,c,aa,ab,ac,b,ad,ae,c,af,ag,ah,b,ag,ai,aj,aj,ak,al,am,an,ao,ap,zc,zb,za,yz,yy,yx] h) (ob (dG 3 1 1 [(.I 0)] [(0,ag)] h) λaq h=>ob (app 3 1 8 i aq h) λar h=>k .normal [a,ag,c,d,e,f,g,ar,ag,l,m,n,o,p,q,r,s,t,u,v,w,x,y,z,A,B,C,D,E,F,G,H,I,J,b,c,aa,ab,ac,b,ad,ae,c,af,ag,ah,b,ag,ai,aj,aj,ak,al,am,an,ao,ap,i,ag,aq,ar,ag,yx] h)) (k (.exit 0) [a,b,c,d,e,f,g,i,j,l,m,n,o,p,q,r,s,t,u,v,w,x,y,z,A,B,C,D,E,F,G,H,I,J,b,c,aa,zw,zv,zu,zt,zs,zr,zq,zp,zo,zn,zm,zl,zk,zj,zi,zh,zg,zf,ze,zd,zc,zb,za,yz,yy,yx] h):=by kernel_rfl
theorem aH7:cM prog O L 114 [N,P,Q] h=ob (cS 28 (Value.cells N).toList .fix h) λaa h=>ob (ldN 11 aa h) λab h=>ob (O (.func 113) [ab] h) λac h=>ob (aF (bin prog .neq 3 ac (.I 0)) h) λad h=>ob (gd ad false (cG P) h) λae h=>ob (gd ad false (aF (bin prog .lss 3 ae (.I 0))) h) λaf h=>ob (aF (cL ad (.bool true) af) h) λag h=>ob (gd ag false (cG P) h) λah h=>ob (gd ag false (aF (aI 0 aa)) h) λai h=>ob (gd ag false (ld1 ai) h) λaj h=>ob (gd ag false (aF (bin prog .geq 3 ah aj)) h) λak h=>ob (aF (cL ag (.bool true) ak) h) λal h=>ob (gd al false (cG Q) h) λam h=>ob (gd al false (aF (bin prog .lss 3 am (.I 0))) h) λan h=>ob (aF (cL al (.bool true) an) h) λao h=>ob (gd ao false (cG Q) h) λap h=>ob (gd ao false (aF (aI 0 aa)) h) λaq h=>ob (gd ao false (ld1 aq) h) λar h=>ob (gd ao false (aF (bin prog .geq 3 ap ar)) h) λau h=>ob (aF (cL ao (.bool true) au) h) λav h=>aN av (some (aK [(.slice none 0 0)],h)) (ob (dG 3 1 1 [(.I 0)] [(0,P)] h) λaw h=>L (aM prog O L Ls) (Ek O L) [N,P,Q,aa,undef,undef,(.slice none 0 0),aw,undef,ab,ac,ad,ad,ae,af,ag,ag,ah,ai,aj,ak,al,al,am,an,ao,ao,ap,aq,ar,au,av,P,aw,undef,undef,undef,undef,undef,undef,undef,undef,undef,undef,undef,undef,undef,undef,undef,undef,undef,undef,undef,undef,undef,undef,undef,undef,undef,undef,undef,undef,undef] h):=by kernel_rfl
def Lu:Code:=cC [1,1,1,1,0,1,0,0,1,0,0,1,0,1,0,0] (cF prog 115)
def Lw:KV:=(dB 2 (dO prog O L (cC [1,1,1,1,0,1,0,0,1,0,0,1,1] (cF prog 115)) (dB 1 (dO prog O L (cC [1,1,1,1,0,1,0,0,1,1] (cF prog 115)) k))))
theorem aH9:Lw O L k (.exit 2) [a,b,c,d,e,f,g,i,j,l,m,n,o,p,q,r,s,t,u,v,w,x,y,z,A,B,C,D,E,F,G,H,I,J,zz,zy,zx,zw,zv,zu,zt,zs,zr,zq] h=ob (dG 25 1 1 [(.slice none 0 0)] [(0,g)] h) λaa h=>ob (app 25 1 24 e aa h) λab h=>ob (aF (bin prog .add 3 f (.I 1)) h) λac h=>k .normal [a,b,c,d,ab,ac,g,i,j,l,m,n,o,p,q,r,s,f,ac,v,w,x,y,z,A,B,C,D,E,F,G,H,I,J,zz,zy,zx,zw,zv,e,g,aa,ab,zq] h:=by kernel_rfl
theorem Wo:aM prog O L Lu k [a,b,c,d,e,f,g,i,j,l,m,n,o,p,q,r,s,t,u,v,w,x,y,z,A,B,C,D,E,F,G,H,I,J,zz,zy,zx,zw,zv,zu,zt,zs,zr,zq] h=ob (aF (cH d) h) λaa h=>ob (aF (bin prog .lss 3 i aa) h) λab h=>aN ab (ob (ldN 11 b h) λac h=>ifB (true) (ob (aF (cB 2 d f) h) λad h=>ob (ldN 2 ad h) λae h=>ifB (true) (ob (aF (cB 2 d i) h) λaf h=>ob (ldN 2 af h) λag h=>ifB (true) (ob (O (.func 158) [ac,ae,ag] h) λah h=>ifB (true) (aN ah (ob (dG 3 1 1 [(.I 0)] [(0,i)] h) λai h=>ob (app 3 1 8 g ai h) λaj h=>ob (aF (bin prog .add 3 i (.I 1)) h) λak h=>k .normal [a,b,c,d,e,f,aj,ak,j,l,m,n,o,p,q,r,s,t,u,i,d,aa,ab,i,ak,ac,d,f,ad,ae,d,i,af,ag,ah,g,i,ai,aj,zu,zt,zs,zr,zq] h) (ob (aF (bin prog .add 3 i (.I 1)) h) λal h=>k .normal [a,b,c,d,e,f,g,al,j,l,m,n,o,p,q,r,s,t,u,i,d,aa,ab,i,al,ac,d,f,ad,ae,d,i,af,ag,ah,zy,zx,zw,zv,zu,zt,zs,zr,zq] h)))))) (k (.exit 2) [a,b,c,d,e,f,g,i,j,l,m,n,o,p,q,r,s,t,u,i,d,aa,ab,z,A,B,C,D,E,F,G,H,I,J,zz,zy,zx,zw,zv,zu,zt,zs,zr,zq] h):=by kernel_rfl
def Lt:Code:=cC [1,1,1,1,0,1,0,0] (cF prog 115)
def Lv:KV:=(dB 0 (dO prog O L (cC [1,1,1,1,1] (cF prog 115)) (eI prog Tryz.f115)))
theorem aH8:Lv O L (.exit 0) [a,b,c,d,e,f,g,i,j,l,m,n,o,p,q,r,s,t,u,v,w,x,y,z,A,B,C,D,E,F,G,H,I,J,zz,zy,zx,zw,zv,zu,zt,zs,zr,zq] h=some (aK [e],h):=by kernel_rfl
theorem Wn:aM prog O L Lt k [a,b,c,d,e,f,g,i,j,l,m,n,o,p,q,r,s,t,u,v,w,x,y,z,A,B,C,D,E,F,G,H,I,J,zz,zy,zx,zw,zv,zu,zt,zs,zr,zq] h=ob (aF (cH d) h) λaa h=>ob (aF (bin prog .lss 3 f aa) h) λab h=>aN ab (L (aM prog O L Lu) (Lw O L k) [a,b,c,d,e,f,(.slice none 0 0),(.I 0),j,l,m,n,o,f,d,aa,ab,t,u,v,w,x,y,z,A,B,C,D,E,F,G,H,I,J,zz,zy,zx,zw,zv,zu,zt,zs,zr,zq] h) (k (.exit 0) [a,b,c,d,e,f,g,i,j,l,m,n,o,f,d,aa,ab,t,u,v,w,x,y,z,A,B,C,D,E,F,G,H,I,J,zz,zy,zx,zw,zv,zu,zt,zs,zr,zq] h):=by kernel_rfl
theorem aIa:cM prog O L 115 [N] h=ob (cS 28 (Value.cells N).toList .fix h) λaa h=>ob (ldN 11 aa h) λab h=>ob (O (.func 113) [ab] h) λac h=>ob (aF (bin prog .neq 3 ac (.I 0)) h) λad h=>aN ad (some (aK [(.slice none 0 0)],h)) (ob (ldN 11 aa h) λae h=>ob (O (.func 157) [ae] h) λaf h=>L (aM prog O L Lt) (Lv O L) [N,aa,(.slice none 0 0),af,(.slice none 0 0),(.I 0),undef,undef,ab,ac,ad,ae,af,undef,undef,undef,undef,undef,undef,undef,undef,undef,undef,undef,undef,undef,undef,undef,undef,undef,undef,undef,undef,undef,undef,undef,undef,undef,undef,undef,undef,undef,undef,undef] h):=by kernel_rfl
def Em:Code:=cC [1,1,0,1,0,0,1,0,0,1,0,0,1,0,0,1,1,0,0] (cF prog 116)
def Ep:KV:=(dB 4 (dB 3 (dO prog O L (cC [1,1,0,1,0,0,1,0,0,1,0,0,1,1] (cF prog 116)) k)))
theorem aId:Ep O L k (.exit 4) [a,b,c,d,e,f,g,i,j,l,m,n,o,p,q,r,s,t,u,v,w,x,y,z,A,B,C,D,E,F,G,H,I,J,zz,zy,zx,zw,zv,zu,zt,zs,zr,zq,zp,zo,zn,zm,zl,zk,zj,zi,zh] h=ob (aF (bin prog .add 3 i (.I 1)) h) λaa h=>k .normal [a,b,c,d,e,f,g,aa,j,l,m,n,o,p,q,r,s,t,u,v,w,x,i,aa,A,B,C,D,E,F,G,H,I,J,zz,zy,zx,zw,zv,zu,zt,zs,zr,zq,zp,zo,zn,zm,zl,zk,zj,zi,zh] h:=by kernel_rfl
theorem Wr:aM prog O L Em k [a,b,c,d,e,f,g,i,j,l,m,n,o,p,q,r,s,t,u,v,w,x,y,z,A,B,C,D,E,F,G,H,I,J,zz,zy,zx,zw,zv,zu,zt,zs,zr,zq,zp,zo,zn,zm,zl,zk,zj,zi,zh] h=ob (aF (cB 1 a i) h) λaa h=>ob (ld1 aa h) λab h=>ob (aF (cH ab) h) λac h=>ob (aF (bin prog .lss 3 j ac) h) λad h=>aN ad (ob (aF (cB 1 a i) h) λae h=>ob (ld1 ae h) λaf h=>ob (aF (cB 1 af j) h) λag h=>ob (ld1 ag h) λah h=>ob (aF (cB 1 f ah) h) λai h=>ob (stN 1 ai (.I 1) h) λaj h=>ob (aF (bin prog .add 3 j (.I 1)) h) λak h=>k .normal [a,b,c,d,e,f,g,i,ak,l,m,n,o,p,q,r,s,t,u,v,w,x,y,z,A,B,C,D,E,F,G,H,I,J,j,a,i,aa,ab,ac,ad,j,ak,f,a,i,ae,af,j,ag,ah,ai,zh] h) (k (.exit 4) [a,b,c,d,e,f,g,i,j,l,m,n,o,p,q,r,s,t,u,v,w,x,y,z,A,B,C,D,E,F,G,H,I,J,j,a,i,aa,ab,ac,ad,zs,zr,zq,zp,zo,zn,zm,zl,zk,zj,zi,zh] h):=by kernel_rfl
def El:Code:=cC [1,1,0,1,0,0,1,0,0,1,0,0] (cF prog 116)
def Eo:KV:=(dB 2 (dB 1 (dO prog O L (cC [1,1,0,1,0,0,1,1] (cF prog 116)) k)))
theorem aIc:Eo O L k (.exit 2) [a,b,c,d,e,f,g,i,j,l,m,n,o,p,q,r,s,t,u,v,w,x,y,z,A,B,C,D,E,F,G,H,I,J,zz,zy,zx,zw,zv,zu,zt,zs,zr,zq,zp,zo,zn,zm,zl,zk,zj,zi,zh] h=ob (aF (bin prog .add 3 g (.I 1)) h) λaa h=>k .normal [a,b,c,d,e,f,aa,i,j,l,m,n,o,p,q,r,g,aa,u,v,w,x,y,z,A,B,C,D,E,F,G,H,I,J,zz,zy,zx,zw,zv,zu,zt,zs,zr,zq,zp,zo,zn,zm,zl,zk,zj,zi,zh] h:=by kernel_rfl
theorem Wq:aM prog O L El k [a,b,c,d,e,f,g,i,j,l,m,n,o,p,q,r,s,t,u,v,w,x,y,z,A,B,C,D,E,F,G,H,I,J,zz,zy,zx,zw,zv,zu,zt,zs,zr,zq,zp,zo,zn,zm,zl,zk,zj,zi,zh] h=ob (aF (cH a) h) λaa h=>ob (aF (bin prog .lss 3 i aa) h) λab h=>aN ab (ob (aF (bin prog .neq 3 i b) h) λac h=>ob (gd ac true (cG f) h) λad h=>ob (gd ac true (cG i) h) λae h=>ob (gd ac true (aF (cB 1 ad ae)) h) λaf h=>ob (gd ac true (ld1 af) h) λag h=>ob (gd ac true (aF (bin prog .eql 3 ag (.I 0))) h) λah h=>ob (aF (cL ac ah (.bool false)) h) λai h=>aN ai (ob (aF (bin prog .add 3 i (.I 1)) h) λaj h=>k .normal [a,b,c,d,e,f,g,aj,j,l,m,n,o,p,q,r,s,t,i,a,aa,ab,i,aj,i,b,ac,ac,ad,ae,af,ag,ah,ai,zz,zy,zx,zw,zv,zu,zt,zs,zr,zq,zp,zo,zn,zm,zl,zk,zj,zi,zh] h) (L (aM prog O L Em) (Ep O L k) [a,b,c,d,e,f,g,i,(.I 0),l,m,n,o,p,q,r,s,t,i,a,aa,ab,y,z,i,b,ac,ac,ad,ae,af,ag,ah,ai,zz,zy,zx,zw,zv,zu,zt,zs,zr,zq,zp,zo,zn,zm,zl,zk,zj,zi,zh] h)) (k (.exit 2) [a,b,c,d,e,f,g,i,j,l,m,n,o,p,q,r,s,t,i,a,aa,ab,y,z,A,B,C,D,E,F,G,H,I,J,zz,zy,zx,zw,zv,zu,zt,zs,zr,zq,zp,zo,zn,zm,zl,zk,zj,zi,zh] h):=by kernel_rfl
def Lx:Code:=cC [1,1,0,1,0,0] (cF prog 116)
def Ly:KV:=(dB 0 (dO prog O L (cC [1,1,1] (cF prog 116)) (eI prog Tryz.f116)))
theorem aIb:Ly O L (.exit 0) [a,b,c,d,e,f,g,i,j,l,m,n,o,p,q,r,s,t,u,v,w,x,y,z,A,B,C,D,E,F,G,H,I,J,zz,zy,zx,zw,zv,zu,zt,zs,zr,zq,zp,zo,zn,zm,zl,zk,zj,zi,zh] h=some (aK [f],h):=by kernel_rfl
theorem Wp:aM prog O L Lx k [a,b,c,d,e,f,g,i,j,l,m,n,o,p,q,r,s,t,u,v,w,x,y,z,A,B,C,D,E,F,G,H,I,J,zz,zy,zx,zw,zv,zu,zt,zs,zr,zq,zp,zo,zn,zm,zl,zk,zj,zi,zh] h=ob (aF (cH a) h) λaa h=>ob (aF (bin prog .lss 3 g aa) h) λab h=>aN ab (L (aM prog O L El) (Eo O L k) [a,b,c,d,e,f,g,(.I 0),j,l,m,n,g,a,aa,ab,s,t,u,v,w,x,y,z,A,B,C,D,E,F,G,H,I,J,zz,zy,zx,zw,zv,zu,zt,zs,zr,zq,zp,zo,zn,zm,zl,zk,zj,zi,zh] h) (k (.exit 0) [a,b,c,d,e,f,g,i,j,l,m,n,g,a,aa,ab,s,t,u,v,w,x,y,z,A,B,C,D,E,F,G,H,I,J,zz,zy,zx,zw,zv,zu,zt,zs,zr,zq,zp,zo,zn,zm,zl,zk,zj,zi,zh] h):=by kernel_rfl
theorem aIe:cM prog O L 116 [N,P] h=ob (aF (cH N) h) λaa h=>ob (kH 3 1 8 [(.I 0)] aa aa h) λab h=>L (aM prog O L Lx) (Ly O L) [N,P,undef,undef,(.slice none 0 0),ab,(.I 0),undef,undef,N,aa,ab,undef,undef,undef,undef,undef,undef,undef,undef,undef,undef,undef,undef,undef,undef,undef,undef,undef,undef,undef,undef,undef,undef,undef,undef,undef,undef,undef,undef,undef,undef,undef,undef,undef,undef,undef,undef,undef,undef,undef,undef,undef] h:=by kernel_rfl
def Lz:Code:=cC [1,1,0,0,0] (cF prog 126)
def L0:KV:=(dB 0 (dO prog O L (cC [1,1,1] (cF prog 126)) (eI prog Tryz.f126)))
theorem Wu:L0 O L (.exit 0) [a,b,c,d,e,f,g,i,j,l,m,n,o,p,q,r,s,t,u,v] h=some (aK [f],h):=by kernel_rfl
theorem Ws:aM prog O L Lz k [a,b,c,d,e,f,g,i,j,l,m,n,o,p,q,r,s,t,u,v] h=ob (aF (bin prog .gtr 3 b (.I 0)) h) λaa h=>aN aa (ob (aF (bin prog .sub 3 b (.I 1)) h) λab h=>ob (aF (cB 1 a ab) h) λac h=>ob (ld1 ac h) λad h=>ob (dG 3 1 1 [(.I 0)] [(0,ad)] h) λae h=>ob (app 3 1 8 f ae h) λaf h=>k .normal [a,ad,c,d,e,af,g,i,b,aa,a,b,ab,ac,ad,f,ad,ae,af,v] h) (k (.exit 0) [a,b,c,d,e,f,g,i,b,aa,m,n,o,p,q,r,s,t,u,v] h):=by kernel_rfl
theorem aIf:cM prog O L 126 [N,P] h=ob (dG 3 1 1 [(.I 0)] [(0,P)] h) λaa h=>L (aM prog O L Lz) (L0 O L) [N,P,undef,undef,(.slice none 0 0),aa,P,aa,undef,undef,undef,undef,undef,undef,undef,undef,undef,undef,undef,undef] h:=by kernel_rfl
def Er:Code:=cC [1,1,0,1,0,0] (cF prog 132)
def Et:KV:=(dB 0 (dO prog O L (cC [1,1,1] (cF prog 132)) (eI prog Tryz.f132)))
theorem aIg:Et O L (.exit 0) [a,b,c,d,e,f,g,i,j,l,m,n,o,p,q,r,s,t,u,v,w,x,y,z,A,B,C,D,E,F,G,H,I,J,zz,zy,zx,zw,zv,zu,zt,zs,zr,zq,zp,zo,zn,zm,zl,zk,zj,zi,zh,zg,zf,ze,zd,zc,zb,za,yz,yy,yx,yw] h=ob (O (.func 82) [i] h) λaa h=>ob (O (.func 83) [i] h) λab h=>some (aK [ab],h):=by kernel_rfl
theorem Wv:aM prog O L Er k [a,b,c,d,e,f,g,i,j,l,m,n,o,p,q,r,s,t,u,v,w,x,y,z,A,B,C,D,E,F,G,H,I,J,zz,zy,zx,zw,zv,zu,zt,zs,zr,zq,zp,zo,zn,zm,zl,zk,zj,zi,zh,zg,zf,ze,zd,zc,zb,za,yz,yy,yx,yw] h=ob (aF (bin prog .lss 3 o n) h) λaa h=>aN aa (ob (aF (aI 0 e) h) λab h=>ob (ld1 ab h) λac h=>ifB (true) (ob (aF (bin prog .eql 3 o ac) h) λad h=>ob (gd ad false (cG o) h) λae h=>ob (gd ad false (aF (aI 1 e)) h) λaf h=>ob (gd ad false (ld1 af) h) λag h=>ifB (true) (ob (gd ad false (aF (bin prog .eql 3 ae ag)) h) λah h=>ob (aF (cL ad (.bool true) ah) h) λai h=>ob (gd ai false (aF (aI 10 d)) h) λaj h=>ob (gd ai false (ld1 aj) h) λak h=>ifB (true) (ob (gd ai false (aF (aI 0 e)) h) λal h=>ob (gd ai false (ld1 al) h) λam h=>ifB (true) (ob (gd ai false (aF (cB 1 ak am)) h) λan h=>ob (gd ai false (ld1 an) h) λao h=>ifB (true) (ob (gd ai false (cG o) h) λap h=>ob (gd ai false (aF (cB 1 ao ap)) h) λaq h=>ob (gd ai false (ld1 aq) h) λar h=>ifB (true) (ob (gd ai false (aF (aI 1 e)) h) λau h=>ob (gd ai false (ld1 au) h) λav h=>ifB (true) (ob (gd ai false (aF (bin prog .neq 3 ar av)) h) λaw h=>ob (aF (cL ai (.bool true) aw) h) λax h=>aN ax (ob (aF (bin prog .add 3 o (.I 1)) h) λay h=>k .normal [a,b,c,d,e,f,g,i,o,l,m,n,ay,aa,o,o,ab,ac,ad,ad,ae,af,ag,ah,ai,ai,aj,ak,al,am,an,ao,ap,aq,ar,au,av,aw,ax,zu,zt,zs,zr,zq,zp,zo,zn,zm,zl,zk,zj,zi,zh,zg,zf,ze,zd,zc,zb,ay,yz,yy,yx,yw] h) (ob (aF (aI 1 e) h) λaz h=>ob (ld1 az h) λba h=>ifB (true) (ob (aF (aI 10 d) h) λbb h=>ob (ld1 bb h) λbc h=>ifB (true) (ob (aF (aI 1 e) h) λbd h=>ob (ld1 bd h) λbe h=>ifB (true) (ob (aF (cB 1 bc be) h) λbf h=>ob (ld1 bf h) λbg h=>ifB (true) (ob (aF (cB 1 bg o) h) λbh h=>ob (ld1 bh h) λbi h=>ifB (true) (ob (aF (bld prog 67 [(0,ba),(1,bi)]) h) λbj h=>ob (O (.func 162) [c,bj] h) λbk h=>ifB (true) (ob (aF (bin prog .geq 3 bk (.I 0)) h) λbl h=>aN bl (ob (dG 3 1 1 [(.I 0)] [(0,bk)] h) λbm h=>ob (app 3 1 8 i bm h) λbn h=>ob (aF (bin prog .add 3 o (.I 1)) h) λbo h=>k .normal [a,b,c,d,e,f,g,bn,o,bk,m,n,bo,aa,o,o,ab,ac,ad,ad,ae,af,ag,ah,ai,ai,aj,ak,al,am,an,ao,ap,aq,ar,au,av,aw,ax,c,az,ba,bb,bc,bd,be,bf,bg,o,bh,bi,bj,bk,bk,bl,i,bk,bm,bn,bo,yz,yy,yx,yw] h) (ob (aF (bin prog .add 3 o (.I 1)) h) λbp h=>k .normal [a,b,c,d,e,f,g,i,o,bk,m,n,bp,aa,o,o,ab,ac,ad,ad,ae,af,ag,ah,ai,ai,aj,ak,al,am,an,ao,ap,aq,ar,au,av,aw,ax,c,az,ba,bb,bc,bd,be,bf,bg,o,bh,bi,bj,bk,bk,bl,ze,zd,zc,zb,bp,yz,yy,yx,yw] h)))))))))))))))) (k (.exit 0) [a,b,c,d,e,f,g,i,j,l,m,n,o,aa,q,r,s,t,u,v,w,x,y,z,A,B,C,D,E,F,G,H,I,J,zz,zy,zx,zw,zv,zu,zt,zs,zr,zq,zp,zo,zn,zm,zl,zk,zj,zi,zh,zg,zf,ze,zd,zc,zb,za,yz,yy,yx,yw] h):=by kernel_rfl
theorem aIh:cM prog O L 132 [N,P,Q] h=ob (cS 28 (Value.cells N).toList .fix h) λaa h=>ob (cS 67 (Value.cells P).toList .fix h) λab h=>ob (aF (aI 0 aa) h) λac h=>ob (ld1 ac h) λad h=>L (aM prog O L Er) (Et O L) [N,P,Q,aa,ab,undef,(.slice none 0 0),(.slice none 0 0),undef,undef,ac,ad,(.I 0),undef,undef,undef,undef,undef,undef,undef,undef,undef,undef,undef,undef,undef,undef,undef,undef,undef,undef,undef,undef,undef,undef,undef,undef,undef,undef,undef,undef,undef,undef,undef,undef,undef,undef,undef,undef,undef,undef,undef,undef,undef,undef,undef,undef,undef,undef,undef,undef,undef,undef,undef] h:=by kernel_rfl
def Eu:Code:=cC [1,0,1,0,0] (cF prog 158)
def Az:KV:=(dB 0 (dO prog O L (cC [1,1] (cF prog 158)) (eI prog Tryz.f158)))
theorem aIi:Az O L (.exit 0) [a,b,c,d,e,f,g,i,j,l,m,n,o,p,q,r,s,t,u,v,w,x,y,z,A,B,C,D,E,F,G,H,I,J,zz,zy,zx,zw,zv,zu,zt,zs,zr,zq,zp,zo,zn,zm,zl,zk,zj,zi,zh,zg,zf,ze,zd,zc,zb] h=some (aK [(.bool false)],h):=by kernel_rfl
theorem aIk:Az O L .ret [a,b,c,d,e,f,g,i,j,l,m,n,o,p,q,r,s,t,u,v,w,x,y,z,A,B,C,D,E,F,G,H,I,J,zz,zy,zx,zw,zv,zu,zt,zs,zr,zq,zp,zo,zn,zm,zl,zk,zj,zi,zh,zg,zf,ze,zd,zc,zb] h=some (aK [g],h):=by kernel_rfl
theorem Ww:aM prog O L Eu k [a,b,c,d,e,f,g,i,j,l,m,n,o,p,q,r,s,t,u,v,w,x,y,z,A,B,C,D,E,F,G,H,I,J,zz,zy,zx,zw,zv,zu,zt,zs,zr,zq,zp,zo,zn,zm,zl,zk,zj,zi,zh,zg,zf,ze,zd,zc,zb] h=ob (aF (aI 0 d) h) λaa h=>ob (ld1 aa h) λab h=>ob (aF (bin prog .lss 3 i ab) h) λac h=>aN ac (ob (aF (aI 1 e) h) λad h=>ob (ld1 ad h) λae h=>ifB (true) (ob (aF (aI 0 f) h) λaf h=>ob (ld1 af h) λag h=>ifB (true) (ob (aF (bin prog .eql 3 ae ag) h) λah h=>ob (gd ah true (cG i) h) λai h=>ob (gd ah true (aF (aI 1 e)) h) λaj h=>ob (gd ah true (ld1 aj) h) λak h=>ifB (true) (ob (gd ah true (aF (bin prog .neq 3 ai ak)) h) λal h=>ob (aF (cL ah al (.bool false)) h) λam h=>ob (gd am true (cG i) h) λan h=>ob (gd am true (aF (aI 0 e)) h) λao h=>ob (gd am true (ld1 ao) h) λap h=>ifB (true) (ob (gd am true (aF (bin prog .neq 3 an ap)) h) λaq h=>ob (aF (cL am aq (.bool false)) h) λar h=>ob (gd ar true (aF (aI 10 d)) h) λau h=>ob (gd ar true (ld1 au) h) λav h=>ifB (true) (ob (gd ar true (aF (aI 0 e)) h) λaw h=>ob (gd ar true (ld1 aw) h) λax h=>ifB (true) (ob (gd ar true (aF (cB 1 av ax)) h) λay h=>ob (gd ar true (ld1 ay) h) λaz h=>ifB (true) (ob (gd ar true (cG i) h) λba h=>ob (gd ar true (aF (cB 1 az ba)) h) λbb h=>ob (gd ar true (ld1 bb) h) λbc h=>ifB (true) (ob (gd ar true (aF (aI 1 e)) h) λbd h=>ob (gd ar true (ld1 bd) h) λbe h=>ifB (true) (ob (gd ar true (aF (bin prog .eql 3 bc be)) h) λbf h=>ob (aF (cL ar bf (.bool false)) h) λbg h=>ob (gd bg true (aF (aI 10 d)) h) λbh h=>ob (gd bg true (ld1 bh) h) λbi h=>ifB (true) (ob (gd bg true (aF (aI 1 e)) h) λbj h=>ob (gd bg true (ld1 bj) h) λbk h=>ifB (true) (ob (gd bg true (aF (cB 1 bi bk)) h) λbl h=>ob (gd bg true (ld1 bl) h) λbm h=>ifB (true) (ob (gd bg true (cG i) h) λbn h=>ob (gd bg true (aF (cB 1 bm bn)) h) λbo h=>ob (gd bg true (ld1 bo) h) λbp h=>ifB (true) (ob (gd bg true (aF (aI 1 f)) h) λbq h=>ob (gd bg true (ld1 bq) h) λbr h=>ifB (true) (ob (gd bg true (aF (bin prog .eql 3 bp br)) h) λbs h=>ob (aF (cL bg bs (.bool false)) h) λbt h=>aN bt (k .ret [a,b,c,d,e,f,(.bool true),i,i,aa,ab,ac,o,p,ad,ae,af,ag,ah,ah,ai,aj,ak,al,am,am,an,ao,ap,aq,ar,ar,au,av,aw,ax,ay,az,ba,bb,bc,bd,be,bf,bg,bg,bh,bi,bj,bk,bl,bm,bn,bo,bp,bq,br,bs,bt] h) (ob (aF (bin prog .add 3 i (.I 1)) h) λbu h=>k .normal [a,b,c,d,e,f,g,bu,i,aa,ab,ac,i,bu,ad,ae,af,ag,ah,ah,ai,aj,ak,al,am,am,an,ao,ap,aq,ar,ar,au,av,aw,ax,ay,az,ba,bb,bc,bd,be,bf,bg,bg,bh,bi,bj,bk,bl,bm,bn,bo,bp,bq,br,bs,bt] h)))))))))))))))) (k (.exit 0) [a,b,c,d,e,f,g,i,i,aa,ab,ac,o,p,q,r,s,t,u,v,w,x,y,z,A,B,C,D,E,F,G,H,I,J,zz,zy,zx,zw,zv,zu,zt,zs,zr,zq,zp,zo,zn,zm,zl,zk,zj,zi,zh,zg,zf,ze,zd,zc,zb] h):=by kernel_rfl
theorem aIj:cM prog O L 158 [N,P,Q] h=ob (cS 28 (Value.cells N).toList .fix h) λaa h=>ob (cS 67 (Value.cells P).toList .fix h) λab h=>ob (cS 67 (Value.cells Q).toList .fix h) λac h=>L (aM prog O L Eu) (Az O L) [N,P,Q,aa,ab,ac,(.bool false),(.I 0),undef,undef,undef,undef,undef,undef,undef,undef,undef,undef,undef,undef,undef,undef,undef,undef,undef,undef,undef,undef,undef,undef,undef,undef,undef,undef,undef,undef,undef,undef,undef,undef,undef,undef,undef,undef,undef,undef,undef,undef,undef,undef,undef,undef,undef,undef,undef,undef,undef,undef,undef] h:=by kernel_rfl
end Go.Proofs.YtkeilicinggjmaaGreatDoor
end
namespace Go.Proofs.YtkeilicinggjmaaGreatDoor
open Go.Proofs.Tryz
open Go.Abs Go.Abs.M
def nx (p:PlanD)(v w:Int):Int:=(p.next.getD v.toNat []).getD w.toNat 0
def tW (p:PlanD)(w:Int):Nat->List Int->Int->Option (List Int)
 |0,_,_=>none
 |q+1,l,v=>if v=w then some l else if((l.length:Int)=p.nodes∨(kZ p.edges v).contains (nx p v w)=false) then none else tW p w q (l++[nx p v w]) (nx p v w)
def lF (p:PlanD)(v w:Int):Option (List Int):=tW p w p.nodes.toNat [v] v
def nU (p:PlanD)(v w:Int):List Int:=if kM p=true/\0<=v/\v<p.nodes/\0<=w/\w<p.nodes then(lF p v w).getD [] else []
structure OkP (p:PlanD)(n:Nat):Prop where
 hn:p.nodes=(n:Int)
 h2:2<=n
 h6:n<=6
 ve:VE n p.edges
 e15:p.edges.length<=15
 nl:p.next.length=n
 rl: ∀r∈p.next,r.length=n
theorem vE {p:PlanD}(h:kM p=true): ∃n,OkP p n:=by
 unfold kM u7 tV u9 wi at h;simp only[aPV,decide_eq_true_eq,Bool.not_eq_true'] at h;obtain⟨⟨⟨h1,h2⟩,_⟩,⟨h3,h4⟩,_,_,h5,h6⟩:=h;have hn:p.nodes=((p.nodes.toNat:Nat):Int):=U
 refine⟨p.nodes.toNat,hn,by omega,by omega,?_,by omega,by omega,λr hr=> ?_⟩
 ·rw[<-hn];exact(Wh _ _).mp h3
 ·rw[List.any_eq_false] at h6
  have:=h6 r hr;simp only[decide_eq_true_eq,ne_eq,Decidable.not_not] at this;omega
theorem Xj {E:List Ed}{v x:Int}:(bes E v).contains x=(kZ E v).contains x:=by
 rw[Bool.eq_iff_iff,List.contains_iff_mem,List.contains_iff_mem,D9]
section
variable {H : aE} {m : Nat} {p : PlanD} {ev wv nv : Value}
theorem Xk (xs:List Int)(w:Int):decide (0<=yP xs w)=xs.contains w:=by
 unfold yP;rw[Dw,As xs (λx=>x==w) _ (λi x hx=>by rw[hx];rfl)]
 rw[Bool.eq_iff_iff,List.any_eq_true,List.contains_iff_mem];constructor
 ·rintro ⟨x,h1,h2⟩
  have:x=w:=by simpa using h2
  exact this▸h1
 ·exact λh=>⟨w,h,by simp⟩
theorem aIT (E:List Ed)(v x:Int):decide (D7 E v x<0)= !((kZ E v).contains x):=by
 rw[<-Xj,<-Xk];unfold D7;split
 ·rename_i h
  rw[aQw h,aQx U];rfl
 ·rename_i h
  rw[aQx U,aQw U];rfl
theorem aIQ {v:Value}{xs:List Int}(hx:Is H v xs)(w:Int)(hn:xs.length+20<m)(hm:m<=72057594037927936):lvl prog bL m (.func 131) [v,.I w] H=some (.bool (xs.contains w),H):=by
 have g:=aHl hx w (m:=m-1) U U
 refine dI (fB rfl rfl) U ?_
 rw[aF0];simp only[gsR,g,Xk]
theorem yT {n:Nat}(hk:OkP p n)(hp:PV H p ev wv nv){v w:Int}(hv:0<=v/\v<n)(hw:0<=w/\w<n): ∃a u a2,cB 1 nv (.I v)=some a/\ld1 a H=some (u,H)/\cB 1 u (.I w)=some a2/\ld1 a2 H=some (.I (nx p v w),H):=by
 have ev':v=((v.toNat:Nat):Int):=U
 have ew':w=((w.toNat:Nat):Int):=U
 have h1:=hk.nl;obtain⟨r,hr⟩: ∃r,p.next[v.toNat]? =some r:=⟨_,aPP U⟩
 have h2:=hk.rl r (aPX hr);obtain⟨x,hx⟩: ∃x,r[w.toNat]? =some x:=⟨_,aPP U⟩
 obtain⟨a,u,g1,g2,g3⟩:=hp.n.wS hr .i64;obtain⟨b,o,g4,_,g6⟩:=g3.fZ fA hx .i64;rw[<-ev'] at g1;rw[<-ew'] at g4;have e:nx p v w=x:=by
  unfold nx;simp only[aPR,hr,hx,aQg]
 rw[e]
 exact⟨a,u,_,g1,g2,g4,(g6 H rfl).2.1 0 _ rfl⟩
def Xi (H0:aE)(o:Option (List Int))(H':aE)(u:Value):Prop:=Ext H0 H'/\ ∃lv,u= .tuple #[lv,.bool o.isSome]/\Iw H' lv (o.getD [])/\New H0 lv
theorem aIS {n:Nat}(hk:OkP p n){H0:aE}{a:Nat}{w:Int}(hw:0<=w/\w<n)(hp:PV H0 p ev wv nv)(hb:H0[a]? =some (plB p ev wv nv))(hm:200<m)(hm2:m<=72057594037927936):
  ∀(q k:Nat)(H1:aE)(u:Value)(l:List Int)(v:Int),q+l.length=n+1->l.length<=n->q<k->0<=v/\v<n->Ext H0 H1->Iw H1 u l->New H0 u-> ∀(x0 x4 x5 x6 x7 x9 bG b9 aS aP aQ aO aT aU aR bA bK bX bJ bE aV aW aX aY aZ bB bC bH bI bM bN bO bP bQ bR bS bT bU:Value),
  ∃H' r,aJ k (aM prog (lvl prog bL m) (aJ m) Mp) (E4 (lvl prog bL m) (aJ m)) [x0,(.I v),(.I w),(.Q a 0),x4,x5,x6,x7,u,x9,bG,b9,aS,aP,aQ,aO,aT,aU,aR,bA,bK,bX,bJ,bE,aV,aW,aX,aY,aZ,bB,bC,bH,bI,bM,bN,bO,bP,bQ,bR,bS,bT,bU] H1=some (r,H')/\Xi H0 (tW p w q l v) H' r:=by
 intro q;have h6:=hk.h6;have h15:=hk.e15;induction q with
 |zero=>intro k H1 u l v h1 h2;omega
 |succ q ih=>
  intro k H1 u l v hql hln hk2 hv he hu hnew;intros;obtain⟨k,rfl⟩:=aB k U
  rw[cU,aIJ];unfold tW;by_cases hvw:v=w
  ·have d:(v !=w)=false:=by simp[hvw]
   rw[if_pos hvw];simp only[gsR,d];rw[aIK]
   exact⟨H1,_,rfl,he,u,rfl,hu,hnew⟩
  ·have d:(v !=w)=true:=by simp[hvw]
   rw[if_neg hvw];have b1:=dT hb he;have p1:=hp.ext he;have l10:=dE b1 10 _ rfl;have l0:=dE b1 0 _ rfl;rw[hk.hn] at l0;obtain⟨a1,u1,a2,g1,g2,g3,g4⟩:=yT hk p1 hv hw;have hlen:=hu.qZ;obtain⟨x,hx⟩:=aD (nx p v w);rw[<-hx] at g4⊢;by_cases hl:l.length=n
   ·have dl:((l.length:Int)==(n:Int))=true:=by simp[hl]
    rw[if_pos (.inl (by rw[hk.hn];omega))]
    simp only[gsR,d,l10,g1,g2,g3,g4,hlen,l0,dl];rw[Xe]
    exact⟨H1,_,rfl,he,.slice none 0 0,rfl,Rw.fW,New.iI _⟩
   ·have dl:((l.length:Int)==(n:Int))=false:=by simp;omega
    have l11:=fL b1;obtain⟨H2,ub,g5,x2,q2,_⟩:=K9 p1 (m:=m) U U v
    have hbl:=D0 p.edges v;have g6:=aIQ q2.rs x (m:=m) U U
    rw[Xj] at g6;cases hc:(kZ p.edges v).contains x with
    |false=>
     rw[hc] at g6;rw[if_pos (.inr rfl)];simp only[gsR,d,l10,g1,g2,g3,g4,hlen,l0,dl,l11,g5,g6];rw[Xe]
     exact⟨H2,_,rfl,he.tr x2,.slice none 0 0,rfl,Rw.fW,New.iI _⟩
    |true=>
     rw[hc] at g6;rw[if_neg (by rw[hk.hn];rintro (h|h);omega;cases h)]
     have hxin:=Ax hk.ve (D9 _ _ _ |>.mpr (List.contains_iff_mem.mp hc));have hu2:Iw H2 u l:=hu.fG λb hb=>x2.2 b (hu.fY hb) id
     obtain⟨u2,H3,t1,t2,t3,t4⟩:=hu2.o8 (by':=8) fA lD aC x hnew (he.tr x2) (fV (n:=1000000) aC U)
     simp only[gsR,d,l10,g1,g2,g3,g4,hlen,l0,dl,l11,g5,g6,lU,t1];exact ih k H3 u2 (l++[x]) x (by simp;omega) (by simp;omega) U ⟨hxin.1,hxin.2.1⟩ t4 t2 t3 ..
theorem aIR {n:Nat}(hk:OkP p n)(hp:PV H p ev wv nv){v w:Int}(hv:0<=v/\v<n)(hw:0<=w/\w<n)(hm:300<m)(hm2:m<=72057594037927936):
  ∃H' r,lvl prog bL m (.func 76) [plV p ev wv nv,.I v,.I w] H=some (r,H')/\Xi H (lF p v w) H' r:=by
 obtain⟨H0,hH0⟩:=aD (H++[plB p ev wv nv]);have x0:Ext H H0:=by rw[hH0];exact Fr.app _ _ _
 have b0:H0[H.length]? =some (plB p ev wv nv):=by rw[hH0];exact eL _ _
 have h6:=hk.h6;have h2:=hk.h2;have one:Iw (H0++[.cells (inC v) 3 .row]) (.slice (some ⟨H0.length,0,none⟩) 1 1) [v]:=⟨rfl,.inr ⟨_,1,[],rfl,by simp,rfl,by simp⟩⟩
 have hnew:New H0 (.slice (some ⟨H0.length,0,none⟩) 1 1):=λb ⟨_,_,_,hh⟩=>by cases hh;exact aPS _
 have x1:Ext H0 (H0++[Blk.cells (inC v) 3 .row]):=Fr.app _ _ _;refine fJ (fB rfl rfl) U ?_
 rw[aIL];simp only[gsR,eZ,<-hH0,lU];have hq:p.nodes.toNat=n:=by rw[hk.hn];rfl
 unfold lF;rw[hq];have:=aIS hk hw (hp.ext x0) b0 (m:=m-1) U U n (m-1) _ _ [v] v (by simp) (by simp;omega) U hv x1 one hnew
 refine Exists.imp (λH' h=>Exists.imp (λr h=>⟨h.1,x0.tr h.2.1,?_⟩) h) (this ..)
 obtain⟨lv,e1,e2,e3⟩:=h.2.2
 exact⟨lv,e1,e2,λb hb=>aP3 x0.1 (e3 b hb)⟩
theorem aIV {n:Nat}(hk:OkP p n){H0:aE}{a:Nat}{w:Int}(hw:0<=w/\w<n)(hp:PV H0 p ev wv nv)(hb:H0[a]? =some (plB p ev wv nv))(hm:200<m)(hm2:m<=72057594037927936):
  ∀(q k:Nat)(H1:aE)(u:Value)(l:List Int)(v:Int),q+l.length=n+1->l.length<=n->q<k->0<=v/\v<n->Ext H0 H1->Iw H1 u l->New H0 u-> ∀(x0 x4 x5 x6 x8 x9 bG b9 aS aP aQ aO aT aU aR bA bK bX bJ bE aV aW aX aY aZ bB bC bH bI bM bN bO bP bQ bR bS bT bU bY cA cD cE cI cJ cN cP cK cQ cR cW dA cX cY dD dF dL dH dM dU:Value),
  ∃H' r,aJ k (aM prog (lvl prog bL m) (aJ m) Ls) (Ek (lvl prog bL m) (aJ m)) [x0,(.I v),(.I w),(.Q a 0),x4,x5,x6,u,x8,x9,bG,b9,aS,aP,aQ,aO,aT,aU,aR,bA,bK,bX,bJ,bE,aV,aW,aX,aY,aZ,bB,bC,bH,bI,bM,bN,bO,bP,bQ,bR,bS,bT,bU,bY,cA,cD,cE,cI,cJ,cN,cP,cK,cQ,cR,cW,dA,cX,cY,dD,dF,dL,dH,dM,dU] H1=some (r,H')/\Ext H0 H'/\Iw H' r ((tW p w q l v).getD [])/\New H0 r:=by
 intro q;have h6:=hk.h6;have h15:=hk.e15;induction q with
 |zero=>intro k H1 u l v h1 h2;omega
 |succ q ih=>
  intro k H1 u l v hql hln hk2 hv he hu hnew;intros;obtain⟨k,rfl⟩:=aB k U
  rw[cU,aH5];unfold tW;by_cases hvw:v=w
  ·have d:(v !=w)=false:=by simp[hvw]
   rw[if_pos hvw];simp only[gsR,d];rw[aH6]
   exact⟨H1,_,rfl,he,hu,hnew⟩
  ·have d:(v !=w)=true:=by simp[hvw]
   rw[if_neg hvw];have b1:=dT hb he;have p1:=hp.ext he;have l10:=dE b1 10 _ rfl;obtain⟨a1,u1,a2,g1,g2,g3,g4⟩:=yT hk p1 hv hw;obtain⟨x,hx⟩:=aD (nx p v w);rw[<-hx] at g4⊢;have l11:=fL b1;obtain⟨H2,g5,x2⟩:=aHt p1 (m:=m) U U v x
   have hpn:=aIT p.edges v x;have l0:=dE (dT b1 x2) 0 _ rfl;rw[hk.hn] at l0;have hu2:Iw H2 u l:=hu.fG λb hb=>x2.2 b (hu.fY hb) id
   have hlen:=hu2.qZ;cases hc:(kZ p.edges v).contains x with
   |false=>
    rw[hc] at hpn;rw[if_pos (.inr rfl)];simp only[gsR,d,l10,g1,g2,g3,g4,l11,g5,hpn];rw[Wm]
    exact⟨H2,_,rfl,he.tr x2,Rw.fW,New.iI _⟩
   |true=>
    rw[hc] at hpn;by_cases hl:l.length=n
    ·have dl:decide ((n:Int)<=(l.length:Int))=true:=aQw U
     rw[if_pos (.inl (by rw[hk.hn];omega))]
     simp only[gsR,d,l10,g1,g2,g3,g4,l11,g5,hpn,hlen,l0,dl];rw[Wm]
     exact⟨H2,_,rfl,he.tr x2,Rw.fW,New.iI _⟩
    ·have dl:decide ((n:Int)<=(l.length:Int))=false:=aQx U
     rw[if_neg (by rw[hk.hn];rintro (h|h);omega;cases h)]
     have hxin:=Ax hk.ve (D9 _ _ _ |>.mpr (List.contains_iff_mem.mp hc));obtain⟨u2,H3,t1,t2,t3,t4⟩:=hu2.o8 (by':=8) fA lD aC x hnew (he.tr x2) (fV (n:=1000000) aC U)
     simp only[gsR,d,l10,g1,g2,g3,g4,l11,g5,hpn,hlen,l0,dl,lU,t1];exact ih k H3 u2 (l++[x]) x (by simp;omega) (by simp;omega) U ⟨hxin.1,hxin.2.1⟩ t4 t2 t3 ..
theorem aIU (hp:PV H p ev wv nv)(v w:Int)(hm:17592186045200<m)(hm2:m<=72057594037927936):
  ∃H' u,lvl prog bL m (.func 114) [plV p ev wv nv,.I v,.I w] H=some (u,H')/\Ext H H'/\Iw H' u (nU p v w)/\New H u:=by
 obtain⟨H0,hH0⟩:=aD (H++[plB p ev wv nv]);have x0:Ext H H0:=by rw[hH0];exact Fr.app _ _ _
 have b0:H0[H.length]? =some (plB p ev wv nv):=by rw[hH0];exact eL _ _
 have p0:=hp.ext x0;have l11:=fL b0;obtain⟨H1,g1,x1⟩:=Li p0 (m:=m-1) U U
 have b1:=dT b0 x1;have p1:=p0.ext x1;have l0:=dE b1 0 _ rfl;refine fJ (fB rfl rfl) U ?_
 rw[aH7];cases hc:kM p with
 |false=>
  rw[hc] at g1;have en:(nI false !=0)=true:=rfl;have e:nU p v w=[]:=by unfold nU;rw[if_neg (by simp[hc])]
  simp only[gsR,eZ,<-hH0,l11,g1,en]
  exact⟨H1,_,rfl,x0.tr x1,by rw[e];exact Rw.fW,New.iI _⟩
 |true=>
  rw[hc] at g1;have en:(nI true !=0)=false:=rfl;obtain⟨n,hk⟩:=vE hc;have hn:=hk.hn;cases d1:decide (v<0) with
  |true=>
   have e:nU p v w=[]:=by unfold nU;rw[if_neg (by have:=of_decide_eq_true d1;omega)]
   simp only[gsR,eZ,<-hH0,l11,g1,en,d1]
   exact⟨H1,_,rfl,x0.tr x1,by rw[e];exact Rw.fW,New.iI _⟩
  |false=>
   cases d2:decide (p.nodes<=v) with
   |true=>
    have e:nU p v w=[]:=by unfold nU;rw[if_neg (by have:=of_decide_eq_true d2;omega)]
    simp only[gsR,eZ,<-hH0,l11,g1,en,d1,l0,d2]
    exact⟨H1,_,rfl,x0.tr x1,by rw[e];exact Rw.fW,New.iI _⟩
   |false=>
    cases d3:decide (w<0) with
    |true=>
     have e:nU p v w=[]:=by unfold nU;rw[if_neg (by have:=of_decide_eq_true d3;omega)]
     simp only[gsR,eZ,<-hH0,l11,g1,en,d1,l0,d2,d3]
     exact⟨H1,_,rfl,x0.tr x1,by rw[e];exact Rw.fW,New.iI _⟩
    |false=>
     cases d4:decide (p.nodes<=w) with
     |true=>
      have e:nU p v w=[]:=by unfold nU;rw[if_neg (by have:=of_decide_eq_true d4;omega)]
      simp only[gsR,eZ,<-hH0,l11,g1,en,d1,l0,d2,d3,d4]
      exact⟨H1,_,rfl,x0.tr x1,by rw[e];exact Rw.fW,New.iI _⟩
     |false=>
      have e1:=of_decide_eq_false d1;have e2:=of_decide_eq_false d2;have e3:=of_decide_eq_false d3;have e4:=of_decide_eq_false d4;have e:nU p v w=(lF p v w).getD []:=by unfold nU;rw[if_pos ⟨hc,by omega,by omega,by omega,by omega⟩]
      have one:Iw (H1++[.cells (inC v) 3 .row]) (.slice (some ⟨H1.length,0,none⟩) 1 1) [v]:=⟨rfl,.inr ⟨_,1,[],rfl,by simp,rfl,by simp⟩⟩
      have hnew:New H1 (.slice (some ⟨H1.length,0,none⟩) 1 1):=λb ⟨_,_,_,hh⟩=>by cases hh;exact aPS _
      have xx:Ext H1 (H1++[Blk.cells (inC v) 3 .row]):=Fr.app _ _ _;have hq:p.nodes.toNat=n:=by rw[hk.hn];rfl
      have h6:=hk.h6;have h2:=hk.h2;have:=aIV hk (w:=w) U p1 b1 (m:=m-1) U U n (m-1) _ _ [v] v (by simp) (by simp;omega) U U xx one hnew
      simp only[gsR,eZ,<-hH0,l11,g1,en,d1,l0,d2,d3,d4,lU];rw[e];unfold lF;rw[hq];exact Exists.imp (λH' h=>Exists.imp (λr h=>⟨h.1,(x0.tr x1).tr h.2.1,h.2.2.1,λb hb=>aP3 (x0.tr x1).1 (h.2.2.2 b hb)⟩) h) (this ..)
end
def pL (p:PlanD)(a b:Ed)(w:Nat):Bool:=a.2==b.1&&((w:Int)!=a.2&&((w:Int)!=a.1&&(nx p a.1 w==a.2&&nx p a.2 w==b.2)))
def wt (p:PlanD)(n:Nat)(a b:Ed):Bool:=(List.range n).any (pL p a b)
def mP (p:PlanD)(n:Nat)(hs:List Ed)(a:Ed):List Int:=((List.range hs.length).filter λk=>wt p n a (hs.getD k (0,0))).map (λk:Nat=>(k:Int))
def kN (p:PlanD):List (List Int):=if kM p=true then(kE p).map (mP p p.nodes.toNat (kE p)) else []
def qF (hs:List Ed)(y:Ed):Int:=fst (λj=>hs[j]? ==some y) hs.length 0
def mZ (p:PlanD)(hs:List Ed)(h:Ed)(w:Nat):List Int:=
 if(w:Int)=h.1∨(w:Int)=h.2∨nx p h.1 w≠h.2 then [] else if 0<=qF hs (h.2,nx p h.2 w) then [qF hs (h.2,nx p h.2 w)] else []
def E7 (p:PlanD)(n:Nat)(hs:List Ed)(h:Ed):List Int:=(List.range n).flatMap (mZ p hs h)
theorem Xm (p:Nat->Bool): ∀q i,0<=fst p q i->p (fst p q i).toNat=true
 |0,i=>by simp[fst]
 |q+1,i=>by
  unfold fst;split
  ·rename_i h
   intro _;simpa using h
  ·exact Xm p q (i+1)
theorem Xp {hs:List Ed}(hn:hs.Nodup)(y:Ed)(k:Nat):qF hs y=k↔hs[k]? =some y:=by
 have key:0<=qF hs y->hs[(qF hs y).toNat]? =some y:=λh=>by
  unfold qF at h⊢;have:=Xm _ _ _ h;simpa using this
 constructor
 ·intro h
  have:=key U
  rw[h] at this;simpa using this
 ·intro h
  have hk:=(aPN.mp h).1;have h0:0<=qF hs y:=(K6 _ _ _).mpr ⟨k,by omega,by omega,by rw[h];simp⟩
  have h1:=key h0;have hk1:=(aPN.mp h1).1;have:=(List.getElem_inj (h₀:=hk1) (h₁:=hk) hn).mp (by
   rw[(aPN.mp h1).2,(aPN.mp h).2])
  omega
theorem aIY (p:PlanD)(hs:List Ed)(h:Ed)(w:Nat):(mZ p hs h w).length<=1:=by
 unfold mZ;split
 ·simp
 ·split<;>simp
theorem Mt (p:PlanD)(hs:List Ed)(h:Ed): ∀i,((List.range i).flatMap (mZ p hs h)).length<=i
 |0=>by simp
 |i+1=>by
  have:=Mt p hs h i;have:=aIY p hs h i;rw[aQm,List.flatMap_append];simp only[aPZ,List.flatMap_cons,List.flatMap_nil,List.append_nil];omega
theorem Xr {p:PlanD}{n:Nat}{hs:List Ed}{a:Ed}{z:Int}:z∈mP p n hs a↔ ∃k b,z=(k:Nat)/\hs[k]? =some b/\wt p n a b=true:=by
 unfold mP;simp only[aQq,List.mem_filter,aQr];constructor
 ·rintro ⟨k,⟨h1,h2⟩,rfl⟩
  exact⟨k,hs[k],rfl,aPP h1,by rwa [aPR,aPP h1,aQg] at h2⟩
 ·rintro ⟨k,b,rfl,h1,h2⟩
  refine⟨k,⟨(aPN.mp h1).1,?_⟩,rfl⟩;rwa [aPR,h1,aQg]
theorem aI5 (p:PlanD)(n:Nat)(hs:List Ed)(a:Ed):(mP p n hs a).Pairwise (· < ·):=by
 unfold mP;rw[List.pairwise_map]
 exact(List.Pairwise.filter _ List.pairwise_lt_range).imp λh=>by omega
theorem aI4 (z:Int)(l:List Int):z∈srt l↔z∈l:=(yG l).mem_iff
theorem aIZ {p:PlanD}{n:Nat}{hs:List Ed}(hn:hs.Nodup)(a:Ed):dd (srt (E7 p n hs a))=mP p n hs a:=by
 refine Lg _ _ (D4 _ (Ad _)) (aI5 p n hs a) λz=> ?_
 rw[Aw,aI4,Xr];unfold E7 wt;simp only[List.mem_flatMap,aQr,List.any_eq_true];constructor
 ·rintro ⟨w,hw,hz⟩
  unfold mZ at hz
  split at hz
  ·simp at hz
  ·rename_i hc
   split at hz
   ·rename_i h0
    simp only[List.mem_singleton] at hz;have e:qF hs (a.2,nx p a.2 w)=((qF hs (a.2,nx p a.2 w)).toNat:Nat):=U
    refine⟨_,_,by rw[hz];exact e,(Xp hn _ _).mp e,w,hw,?_⟩
    unfold pL;simp only[aPV,bne_iff_ne,beq_iff_eq];refine⟨trivial,?_,?_,?_,trivial⟩<;>omega
   ·simp at hz
 ·rintro ⟨k,b,rfl,hk,w,hw,hz⟩
  unfold pL at hz;simp only[aPV,bne_iff_ne,beq_iff_eq] at hz;obtain⟨h1,h2,h3,h4,h5⟩:=hz;refine⟨w,hw,?_⟩;unfold mZ;rw[if_neg U]
  have:(a.2,nx p a.2 w)=b:=by rw[h5,h1]
  rw[this,(Xp hn b k).mpr hk,if_pos U]
  simp
theorem Xo {p:PlanD}{n:Nat}(hk:OkP p n):(kE p).Nodup/\kE p=(List.range n).flatMap (nJ p.edges):=by
 have hN:iN p=n:=by have:=hk.h6;unfold iN;rw[hk.hn];omega
 have hho:kE p=(List.range n).flatMap (nJ p.edges):=by unfold kE;rw[hN]
 refine⟨?_,hho⟩;rw[hho]
 exact(aH2 hk.ve hk.h6).imp λh hh=>by subst hh;omega
theorem Xn {p:PlanD}{n:Nat}(hk:OkP p n){h:Ed}(hh:h∈kE p):0<=h.1/\h.1<n/\0<=h.2/\h.2<n:=by
 rw[(Xo hk).2] at hh;have:=Ax hk.ve ((aH1 hk.ve hk.h6).mp hh);omega
section
variable {H : aE} {m : Nat} {p : PlanD} {ev wv nv : Value}
def hpB (h:Ed):Blk:= .cells (edC h) 67 .fix
theorem Mu (h:Ed):Blk.cells (edV h).cells.toList 67 .fix=hpB h:=rfl
theorem Mw {b:Nat}{h:Ed}(hb:H[b]? =some (hpB h)):ld1 (.Q b 0) H=some (.I h.1,H):=zX hb rfl
theorem Mx {b:Nat}{h:Ed}(hb:H[b]? =some (hpB h)):ld1 (.Q b 1) H=some (.I h.2,H):=zX hb rfl
theorem Xq {b:Nat}{h:Ed}(hb:H[b]? =some (hpB h)):ldN 2 (.Q b 0) H=some (edV h,H):=by
 rw[qU,hb];unfold hpB;rw[rW _ _ _ _ _ (by simp[edC])]
 rfl
theorem Xl (a b:Ed):bin prog .eql 67 (edV a) (edV b)=some (.bool (a==b)):=by
 have k:sK prog 67=some [true,true]:=by kernel_rfl
 obtain⟨a1,a2⟩:=a;obtain⟨b1,b2⟩:=b;simp[bin,edV,eG,o5,k,eqT,edC];rfl
theorem aI3 {v:Value}{xs:List Ed}{a:Nat}{y:Ed}(hx:Hs H v xs)(ha:H[a]? =some (hpB y))(hn:xs.length<=72057594037927936): ∀(q i k:Nat),xs.length-i=q->i<=xs.length->q<k-> ∀(x1 x2 x4 x5 x6 x9 bG b9 aS aP aQ aO aT aU aR:Value),
  aJ k (aM prog (lvl prog bL m) (aJ m) Kf) (Dp (lvl prog bL m) (aJ m)) [v,x1,x2,(.pointer (some ⟨a,0,none⟩)),x4,x5,x6,(.int .i64 xs.length),(.int .i64 (i:Nat)),x9,bG,b9,aS,aP,aQ,aO,aT,aU,aR] H=some (.int .i64 (fst (λj=>xs[j]? ==some y) q i),H):=by
 intro q;have la:=Xq ha;induction q with
 |zero=>
  intro i k hr hi hk;intros;obtain⟨k,rfl⟩:=aB k U
  obtain rfl:i=xs.length:=U
  have e:decide ((xs.length:Int)<xs.length)=false:=by simp
  rw[cU,U3];simp only[gsR,e];rw[aGn];rfl
 |succ q ih=>
  intro i k hr hi hk;intros;obtain⟨k,rfl⟩:=aB k U
  have e:decide ((i:Int)<xs.length)=true:=by simp;omega
  have e3:=aA (i:=i) U
  have hxi:xs[i]? =some xs[i]:=aPP U
  obtain⟨b,o,g1,g2,g3⟩:=hx.fZ oS hxi .i64;have l1:ldN 2 (.Q b o) H=some (edV xs[i],H):=(g3 H rfl).1;rw[cU,U3];unfold fst;by_cases h:y=xs[i]
  ·have d:(y==xs[i])=true:=by rw[h];simp
   have d2:(xs[i]? ==some y)=true:=by rw[hxi,h];simp
   simp only[gsR,e,la,g1,l1,Xl,d];rw[aGp,if_pos d2];rfl
  ·have d:(y==xs[i])=false:=by simpa using h
   have d2: ¬(xs[i]? ==some y)=true:=by rw[hxi];simpa using λhh=>h hh.symm
   simp only[gsR,e,la,g1,l1,Xl,d,cO,e3];rw[if_neg d2];exact ih (i+1) k U U U ..
theorem aI2 {v:Value}{xs:List Ed}(hx:Hs H v xs)(y:Ed)(hn:xs.length+10<m)(hm:m<=72057594037927936): ∃H',lvl prog bL m (.func 162) [v,edV y] H=some (.I (qF xs y),H')/\Ext H H':=by
 have x2:Ext H (H++[hpB y]):=Fr.app _ _ _;have hlen:=hx.fD;refine⟨H++[hpB y],dI (fB rfl rfl) U ?_,x2⟩
 rw[aGo];simp only[gsR,Mu,hlen];exact aI3 (hx.ext x2) (eL H _) U xs.length 0 (m-1) U U U ..
theorem aI1 {n:Nat}(hk:OkP p n){H0:aE}{a hb:Nat}{h:Ed}{u:Value}{hs:List Ed}(hh:0<=h.1/\h.1<n/\0<=h.2/\h.2<n)(hp:PV H0 p ev wv nv)(hb0:H0[a]? =some (plB p ev wv nv))(hhb:H0[hb]? =some (hpB h))(hu:Hs H0 u hs)(hsl:hs.length<=100)(hm:300<m)(hm2:m<=72057594037927936):
  ∀(q i k:Nat)(H1:aE)(acc:Value),n-i=q->i<=n->q<k->Ext H0 H1->Iw H1 acc ((List.range i).flatMap (mZ p hs h))->New H0 acc-> ∀(x0 x1 x5 x6 x8 x9 bG aP aQ aO aT aU aR bA bK bX bJ bE aV aW aX aY aZ bB bC bH bI bM bN bO bP bQ bR bS bT bU bY cA cD cE cI cJ cN cP cK cQ cR cW dA cX cY dD dF dL dH dM dU dW:Value),
  ∃H' r,aJ k (aM prog (lvl prog bL m) (aJ m) Er) (Et (lvl prog bL m) (aJ m)) [x0,x1,u,(.Q a 0),(.Q hb 0),x5,x6,acc,x8,x9,bG,(.I n),(.I (i:Nat)),aP,aQ,aO,aT,aU,aR,bA,bK,bX,bJ,bE,aV,aW,aX,aY,aZ,bB,bC,bH,bI,bM,bN,bO,bP,bQ,bR,bS,bT,bU,bY,cA,cD,cE,cI,cJ,cN,cP,cK,cQ,cR,cW,dA,cX,cY,dD,dF,dL,dH,dM,dU,dW] H1=some (r,H')/\Ext H0 H'/\Iw H' r (dd (srt (E7 p n hs h)))/\New H0 r:=by
 intro q;have h6:=hk.h6;induction q with
 |zero=>
  intro i k H1 acc hr hi hk2 he ha hnew;intros;obtain⟨k,rfl⟩:=aB k U
  obtain rfl:i=n:=U
  have e:decide ((i:Int)<(i:Int))=false:=by simp
  have hal:=Mt p hs h i;obtain⟨H2,g1,g2,g3⟩:=Tu ha U hnew he
  have g1':=Vk m U [acc] H1
  rw[g1] at g1';have hsl:=qY ((List.range i).flatMap (mZ p hs h));obtain⟨H3,r,q1,q2,q3,q4⟩:=Vv (m:=m) g2 hnew g3 U U
  refine⟨H3,r,?_,q2,q3,q4⟩;rw[cU,Wv];simp only[gsR,e];rw[aIg];simp only[gsR,g1',q1]
 |succ q ih=>
  intro i k H1 acc hr hi hk2 he ha hnew;intros;obtain⟨k,rfl⟩:=aB k U
  have e:decide ((i:Int)<(n:Int))=true:=aQw U
  have e3:=aA (i:=i) U
  have hb1:=dT hhb he;have h0:=Mw hb1;have h1:=Mx hb1;have bp:=dT hb0 he;have l10:=dE bp 10 _ rfl;have p1:=hp.ext he;have hran:(List.range (i+1)).flatMap (mZ p hs h)=(List.range i).flatMap (mZ p hs h)++mZ p hs h i:=by
   rw[aQm,List.flatMap_append];simp
  have hal:=Mt p hs h i;have skip:mZ p hs h i=[]-> ∀(x0 x1 x5 x6 x8 x9 bG aP aQ aO aT aU aR bA bK bX bJ bE aV aW aX aY aZ bB bC bH bI bM bN bO bP bQ bR bS bT bU bY cA cD cE cI cJ cN cP cK cQ cR cW dA cX cY dD dF dL dH dM dU dW:Value),∃H' r,aJ k (aM prog (lvl prog bL m) (aJ m) Er) (Et (lvl prog bL m) (aJ m)) [x0,x1,u,(.Q a 0),(.Q hb 0),x5,x6,acc,x8,x9,bG,(.I n),(.I (i+1:Nat)),aP,aQ,aO,aT,aU,aR,bA,bK,bX,bJ,bE,aV,aW,aX,aY,aZ,bB,bC,bH,bI,bM,bN,bO,bP,bQ,bR,bS,bT,bU,bY,cA,cD,cE,cI,cJ,cN,cP,cK,cQ,cR,cW,dA,cX,cY,dD,dF,dL,dH,dM,dU,dW] H1=some (r,H')/\Ext H0 H'/\Iw H' r (dd (srt (E7 p n hs h)))/\New H0 r:=by
   intro h0;exact ih (i+1) k H1 acc U U U he (by rw[hran,h0,List.append_nil];exact ha) hnew
  rw[cU,Wv];cases c1:((i:Int)==h.1) with
  |true=>
   simp only[gsR,e,h0,c1,cO,e3];exact skip (by unfold mZ;rw[if_pos (.inl (by simpa using c1))]) ..
  |false=>
   cases c2:((i:Int)==h.2) with
   |true=>
    simp only[gsR,e,h0,h1,c1,c2,cO,e3];exact skip (by unfold mZ;rw[if_pos (.inr (.inl (by simpa using c2)))]) ..
   |false=>
    obtain⟨a1,u1,a2,g1,g2,g3,g4⟩:=yT hk p1 (v:=h.1) (w:=i) U U
    cases c3:(nx p h.1 i !=h.2) with
    |true=>
     simp only[gsR,e,h0,h1,c1,c2,l10,g1,g2,g3,g4,c3,cO,e3];exact skip (by unfold mZ;rw[if_pos (.inr (.inr (by simpa using c3)))]) ..
    |false=>
     obtain⟨a3,u3,a4,k1,k2,k3,k4⟩:=yT hk p1 (v:=h.2) (w:=i) U U
     have bh:bld prog 67 [(0,.I h.2),(1,.I (nx p h.2 i))]=some (edV (h.2,nx p h.2 i)):=Lc _ _;obtain⟨H2,x1,x2⟩:=aI2 (hu.ext he) (h.2,nx p h.2 i) (m:=m) U U
     have hnot: ¬((i:Int)=h.1∨(i:Int)=h.2∨nx p h.1 i≠h.2):=by
      have c1': ¬(i:Int)=h.1:=by simpa using c1
      have c2': ¬(i:Int)=h.2:=by simpa using c2
      have c3':nx p h.1 i=h.2:=by simpa using c3
      rintro (hx|hx|hx)
      ·exact c1' hx
      ·exact c2' hx
      ·exact hx c3'
     have ha2:Iw H2 acc ((List.range i).flatMap (mZ p hs h)):=ha.fG λb hb=>x2.2 b (ha.fY hb) id
     cases c4:decide (0<=qF hs (h.2,nx p h.2 i)) with
     |true=>
      obtain⟨acc2,H3,t1,t2,t3,t4⟩:=ha2.o8 (by':=8) fA lD aC (qF hs (h.2,nx p h.2 i)) hnew (he.tr x2) (fV (n:=1000000) aC U)
      simp only[gsR,e,h0,h1,c1,c2,l10,g1,g2,g3,g4,c3,k1,k2,k3,k4,bh,x1,c4,lU,t1,cO,e3];refine ih (i+1) k H3 acc2 U U U t4 ?_ t3 ..
      have:mZ p hs h i=[qF hs (h.2,nx p h.2 i)]:=by unfold mZ;rw[if_neg hnot,if_pos (of_decide_eq_true c4)]
      rw[hran,this];exact t2
     |false=>
      simp only[gsR,e,h0,h1,c1,c2,l10,g1,g2,g3,g4,c3,k1,k2,k3,k4,bh,x1,c4,cO,e3];refine ih (i+1) k H2 acc U U U (he.tr x2) ?_ hnew ..
      have:mZ p hs h i=[]:=by unfold mZ;rw[if_neg hnot,if_neg (of_decide_eq_false c4)]
      rw[hran,this,List.append_nil];exact ha2
theorem aI0 {n:Nat}(hk:OkP p n){h:Ed}{u:Value}{hs:List Ed}(hh:0<=h.1/\h.1<n/\0<=h.2/\h.2<n)(hp:PV H p ev wv nv)(hu:Hs H u hs)(hsl:hs.length<=100)(hnd:hs.Nodup)(hm:400<m)(hm2:m<=72057594037927936):
  ∃H' r,lvl prog bL m (.func 132) [plV p ev wv nv,edV h,u] H=some (r,H')/\Ext H H'/\Iw H' r (mP p n hs h)/\New H r:=by
 obtain⟨H0,hH0⟩:=aD (H++[plB p ev wv nv]);have x0:Ext H H0:=by rw[hH0];exact Fr.app _ _ _
 have b0:H0[H.length]? =some (plB p ev wv nv):=by rw[hH0];exact eL _ _
 obtain⟨H1,hH1⟩:=aD (H0++[hpB h]);have x1:Ext H0 H1:=by rw[hH1];exact Fr.app _ _ _
 have b1:H1[H0.length]? =some (hpB h):=by rw[hH1];exact eL _ _
 have l0:=dE (dT b0 x1) 0 _ rfl;rw[hk.hn] at l0;have x01:=x0.tr x1;have h6:=hk.h6;refine fJ (fB rfl rfl) U ?_
 rw[aIh];simp only[gsR,eZ,<-hH0,Mu,<-hH1,l0];rw[<-aIZ hnd];exact Exists.imp (λH' h=>Exists.imp (λr h=>⟨h.1,x01.tr h.2.1,h.2.2.1,λb hb=>aP3 x01.1 (h.2.2.2 b hb)⟩) h) (aI1 hk hh (hp.ext x01) (dT b0 x1) b1 (hu.ext x01) hsl (m:=m-1) U U n 0 (m-1) H1 (.slice none 0 0) U U U (Fr.iQ _ _) Rw.fW (New.iI _) ..)
structure WR (H:aE)(us:List SV)(xss:List (List Int)):Prop where
 len:us.length=xss.length
 row: ∀(j:Nat)(s:SV)(xs:List Int),us[j]? =some s->xss[j]? =some xs->Iw H s.1 xs
theorem WR.wV {us:List SV}{xss:List (List Int)}{H':aE}(h:WR H us xss)(hk: ∀(b:Nat)(cs:List Value),H[b]? =some (.cells cs 3 .row)->H'[b]? =H[b]?):WR H' us xss:=
 ⟨h.len,λj s xs h1 h2=>(h.row j s xs h1 h2).fG λb hb=>by
  obtain⟨cs,hc⟩:=(h.row j s xs h1 h2).blk hb;exact hk b cs hc⟩
theorem WR.Ms {us:List SV}{xss:List (List Int)}{s:SV}{xs:List Int}(h:WR H us xss)(hs:Iw H s.1 xs):WR H (us++[s]) (xss++[xs]):=by
 refine⟨by simp[h.len],λj s' xs' h1 h2=> ?_⟩
 by_cases hj:j<us.length
 ·rw[aPQ hj] at h1
  rw[aPQ (by have:=h.len;omega)] at h2
  exact h.row j s' xs' h1 h2
 ·have hj2:j=us.length:=by
   have:=(aPN.mp h1).1;simp at this;omega
  subst hj2;simp at h1;rw[h.len] at h2;simp at h2;subst h1 h2;exact hs
theorem WR.E6 {us:List SV}{xss:List (List Int)}{v:Value}(h:WR H us xss)(hv:Rs sC 25 H v us):Rows H v xss:=by
 refine⟨us.map (·.1),?_,by simp[h.len],λj u xs h1 h2=> ?_⟩
 ·rcases hv with⟨h1,h2⟩|⟨b,o,cap,h1,h2,h3⟩
  ·exact .inl ⟨h1,by rw[h2];rfl⟩
  ·refine .inr ⟨b,o,cap,by rw[aP1];exact h1,by rw[aP1];exact h2,λhne=> ?_⟩
   rw[<-Lj];exact h3 λhh=>hne (by rw[hh];rfl)
 ·rw[aP0] at h1
  obtain⟨s,hs,rfl⟩:=aQj.mp h1
  exact(h.row j s xs hs h2).rs
def oD {u:Value}{xs:List Int}(h:Iw H u xs):SV:=⟨u,Rs.sv h.rs⟩
def My:SV:=⟨.slice none 0 0,rfl,rfl⟩
theorem aIX {n:Nat}(hk:OkP p n){H0:aE}{a ob:Nat}{u:Value}{hs:List Ed}(hin: ∀h∈hs,0<=h.1/\h.1<n/\0<=h.2/\h.2<n)(hsl:hs.length<=100)(hnd:hs.Nodup)(hm:500<m)(hm2:m<=72057594037927936)(hp:PV H0 p ev wv nv)(hb0:H0[a]? =some (plB p ev wv nv))(hu:Hs H0 u hs)(hob:H0.length=ob):
  ∀(q i k:Nat)(H1:aE)(us:List SV),hs.length-i=q->i<=hs.length->q<k->Ext H0 H1->OwS sC 25 H1 (.slice (some ⟨ob,0,none⟩) hs.length hs.length) ob us->us.length=hs.length->WR H1 (us.take i) ((hs.take i).map (mP p n hs))-> ∀(x0 x2 x5 x6 x7 x8 x9 bG b9 aS aP aQ aR bA bK bX bJ bE aV aW aX aY aZ bB bC:Value),
  ∃H' r,aJ k (aM prog (lvl prog bL m) (aJ m) Mq) (Mr (lvl prog bL m) (aJ m)) [x0,(.Q a 0),x2,u,(.slice (some ⟨ob,0,none⟩) hs.length hs.length),x5,x6,x7,x8,x9,bG,b9,aS,aP,aQ,u,(.I hs.length),(.I (i:Nat)),aR,bA,bK,bX,bJ,bE,aV,aW,aX,aY,aZ,bB,bC] H1=some (r,H')/\Ext H0 H'/\Rows H' r (hs.map (mP p n hs)):=by
 intro q;induction q with
 |zero=>
  intro i k H1 us hr hi hk2 he ho hul hwr;intros;obtain⟨k,rfl⟩:=aB k U
  obtain rfl:i=hs.length:=U
  have e:decide ((hs.length:Int)<(hs.length:Int))=false:=by simp
  rw[cU,Xf];simp only[gsR,e];rw[aIM];rw[List.take_of_length_le (aPS _),List.take_of_length_le U] at hwr
  refine⟨H1,.slice (some ⟨ob,0,none⟩) hs.length hs.length,rfl,he,hwr.E6 (.inr ⟨ob,0,hs.length,by rw[hul],by omega,λ_=>⟨25,.row,[],[],rfl,λ_=>rfl,?_⟩⟩)⟩
  rw[ho.blk];simp
 |succ q ih=>
  intro i k H1 us hr hi hk2 he ho hul hwr;intros;obtain⟨k,rfl⟩:=aB k U
  have e:decide ((i:Int)<(hs.length:Int))=true:=aQw U
  have e3:=aA (i:=i) U
  obtain⟨h,hh⟩: ∃h,hs[i]? =some h:=⟨_,aPP U⟩
  obtain⟨b,o,g1,_,g3⟩:=(hu.ext he).fZ oS hh .i64;have g4:ldN 2 (.Q b o) H1=some (edV h,H1):=(g3 H1 rfl).1;obtain⟨H2,hH2⟩:=aD (H1++[hpB h]);have x2:Ext H1 H2:=by rw[hH2];exact Fr.app _ _ _
  have b2:H2[H1.length]? =some (hpB h):=by rw[hH2];exact eL _ _
  have st:stN 2 (.Q H1.length 0) (edV h) (H1++[.cells [.I 0,.I 0] 67 .fix])=some (undef,H2):=by
   rw[mB 2 _ _ _ rfl,eL,nG _ _ _ _ _ _ aC (by show 0+2<=2;omega) rfl,hH2]
   simp[eK,edV,edC,Value.cells,hpB]
  have l11:=fL (dT hb0 (he.tr x2));have l2:=Xq b2;obtain⟨H3,r,g5,x3,g6,g7⟩:=aI0 hk (hin h (aPX hh)) (hp.ext (he.tr x2)) (hu.ext (he.tr x2)) hsl hnd (m:=m) U U
  have aP:Ext H1 H3:=x2.tr x3;have ho3:OwS sC 25 H3 (.slice (some ⟨ob,0,none⟩) hs.length hs.length) ob us:=⟨ho.val,by rw[aP.2 ob (aPN.mp ho.blk).1 id];exact ho.blk⟩
  have ga:=ho3.aDM 1 i .i64 U
  obtain⟨s1,s2⟩:=ho3.st (sz:=1) yR yQ (i:=i) U (oD g6)
  have st2:stN 1 (.Q ob (i*1)) r H3=some (undef,H3.set ob (.cells ((us.set i (oD g6)).map sC).flatten 25 .row)):=by
   have hcl:r.cells.toList=sC (oD g6):=by
    have:=(oD g6).2.2;show r.cells.toList=[r]
    rw[show r.cells= #[r] from this]
   rw[mB 1 _ _ _ (by rw[hcl];rfl),hcl]
   exact s1
  rw[cU,Xf];simp only[gsR,e,g1,g4,st,l11,l2,g5,ga,st2,cO,e3];obtain⟨H4,hH4⟩:=aD (H3.set ob (.cells ((us.set i (oD g6)).map sC).flatten 25 .row));rw[<-hH4] at s2⊢;have x04:Ext H0 H4:=by rw[hH4];exact qE (he.tr aP) U
  have kp: ∀(b:Nat)(cs:List Value),H3[b]? =some (.cells cs 3 .row)->H4[b]? =H3[b]? :=λb cs hb=>by
   rw[hH4];refine aPO λhh=> ?_
   subst hh;rw[ho3.blk] at hb;simp at hb
  have w3:WR H3 (us.take i) ((hs.take i).map (mP p n hs)):=hwr.wV λb cs hb=>by rw[aP.2 b (aPN.mp hb).1 id]
  have w4:=(w3.Ms (s:=oD g6) g6).wV kp;refine ih (i+1) k H4 (us.set i (oD g6)) U U U x04 s2 (by simp[hul]) ?_ ..
  have e1:(us.set i (oD g6)).take (i+1)=us.take i++[oD g6]:=by
   rw[List.take_add_one,aPT U,List.take_set_of_le (aPS _)]
   rfl
  have e2:(hs.take (i+1)).map (mP p n hs)=(hs.take i).map (mP p n hs)++[mP p n hs h]:=by
   rw[List.take_add_one,hh,List.map_append];rfl
  rw[e1,e2];exact w4
theorem aIW (hp:PV H p ev wv nv)(hm:17592186045200<m)(hm2:m<=72057594037927936):
  ∃H' r,lvl prog bL m (.func 77) [plV p ev wv nv] H=some (r,H')/\Ext H H'/\Rows H' r (kN p):=by
 obtain⟨H0,hH0⟩:=aD (H++[plB p ev wv nv]);have x0:Ext H H0:=by rw[hH0];exact Fr.app _ _ _
 have b0:H0[H.length]? =some (plB p ev wv nv):=by rw[hH0];exact eL _ _
 have p0:=hp.ext x0;have l11:=fL b0;obtain⟨H1,g1,x1⟩:=Vq p0 (m:=m-1) U U
 have b1:=dT b0 x1;have p1:=p0.ext x1;have l12:=fL b1;refine fJ (fB rfl rfl) U ?_
 rw[aIN];cases hc:kM p with
 |false=>
  rw[hc] at g1;have en:(nI false !=0)=true:=rfl;have e:kN p=[]:=by unfold kN;rw[if_neg (by simp[hc])]
  simp only[gsR,eZ,<-hH0,l11,g1,en]
  exact⟨H1,_,rfl,x0.tr x1,by rw[e];exact⟨[],.inl ⟨rfl,rfl⟩,rfl,λi u xs h=>by simp at h⟩⟩
 |true=>
  rw[hc] at g1;have en:(nI true !=0)=false:=rfl;obtain⟨n,hk⟩:=vE hc;have h15:=hk.e15;obtain⟨H2,u,g2,x2,q2,_⟩:=aHi p1 (m:=m-1) U U
  have hlen:=q2.qZ;have hhl:=D6 p;have mk:=sT (H:=H2) 25 1 24 [.slice none 0 0] .i64 .i64 ((kE p).length:Int) U U U rfl
  simp only[aQf] at mk;have e:kN p=(kE p).map (mP p n (kE p)):=by unfold kN;rw[if_pos hc,hk.hn];rfl
  have hfl:(List.replicate (kE p).length [Value.slice none 0 0]).flatten=((List.replicate (kE p).length My).map sC).flatten:=by rw[List.map_replicate];rfl
  simp only[gsR,eZ,<-hH0,l11,g1,en,l12,g2,hlen,mk];rw[e,hfl];have hx:Ext H2 (H2++[Blk.cells ((List.replicate (kE p).length My).map sC).flatten 25 .row]):=Fr.app _ _ _;exact Exists.imp (λH' h=>Exists.imp (λr h=>⟨h.1,((x0.tr x1).tr x2).tr h.2.1,h.2.2⟩) h) (aIX hk (λh hh=>Xn hk hh) U (Xo hk).1 (m:=m-1) U U (p1.ext x2) (dT b1 x2) q2.rs rfl (kE p).length 0 (m-1) _ (List.replicate (kE p).length My) U U U hx ⟨by simp,eL _ _⟩ (by simp) ⟨by simp,λj s xs h=>by simp at h⟩ ..)
end
end Go.Proofs.YtkeilicinggjmaaGreatDoor
