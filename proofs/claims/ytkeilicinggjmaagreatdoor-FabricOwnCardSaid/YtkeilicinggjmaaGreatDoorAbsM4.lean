/-
  PARTS OF THIS CLAIM'S PROOF, laid together by a program of mine.
-/
import Derived.Ground.NamesProg
import Derived.Shelf.Sort.Plain
import Derived.Shelf.Slices.In.SortNone
import Derived.Test.YtkeilicinggjmaaGreatDoorAbsM3
set_option linter.unusedVariables false
set_option linter.unusedSimpArgs false
set_option linter.unusedSectionVars false
namespace Go.Proofs.YtkeilicinggjmaaGreatDoor
open Go.Proofs.Tryz
open Go.Shelf
def Tryz.aIs:Go.Shelf.Ren:=⟨λ|189=>82|125=>135|257=>134|128=>172|129=>173|294=>163|295=>164|296=>165|297=>166|298=>167|299=>168|216=>169|300=>170|301=>171|328=>183|329=>184|330=>185|331=>186|332=>187|215=>188|343=>189|n=>n,λ|28=>25|3=>3|46=>116|0=>0|51=>37|53=>55|4=>4|183=>276|182=>275|131=>258|5=>5|9=>9|218=>293|222=>296|228=>299|229=>300|n=>n,λ|n=>n⟩
theorem Tryz.Yj:Go.Proofs.Lays.n189 prog Tryz.aIs:={
 mixed:=by kernel_rfl
 f125:=Tryz.func135.trans (congrArg some (by kernel_rfl))
 f128:=Tryz.func172.trans (congrArg some (by kernel_rfl))
 f129:=Tryz.func173.trans (congrArg some (by kernel_rfl))
 f189:=Tryz.func82.trans (congrArg some (by kernel_rfl))
 f215:=Tryz.func188.trans (congrArg some (by kernel_rfl))
 f216:=Tryz.func169.trans (congrArg some (by kernel_rfl))
 f257:=Tryz.func134.trans (congrArg some (by kernel_rfl))
 f294:=Tryz.func163.trans (congrArg some (by kernel_rfl))
 f295:=Tryz.func164.trans (congrArg some (by kernel_rfl))
 f296:=Tryz.func165.trans (congrArg some (by kernel_rfl))
 f297:=Tryz.func166.trans (congrArg some (by kernel_rfl))
 f298:=Tryz.func167.trans (congrArg some (by kernel_rfl))
 f299:=Tryz.func168.trans (congrArg some (by kernel_rfl))
 f300:=Tryz.func170.trans (congrArg some (by kernel_rfl))
 f301:=Tryz.func171.trans (congrArg some (by kernel_rfl))
 f328:=Tryz.func183.trans (congrArg some (by kernel_rfl))
 f329:=Tryz.func184.trans (congrArg some (by kernel_rfl))
 f330:=Tryz.func185.trans (congrArg some (by kernel_rfl))
 f331:=Tryz.func186.trans (congrArg some (by kernel_rfl))
 f332:=Tryz.func187.trans (congrArg some (by kernel_rfl))
 f343:=Tryz.func189.trans (congrArg some (by kernel_rfl))
 t0:=Tryz.underlying0
 a0:=Tryz.isAgg0
 z0:=Tryz.sizeOf0
 v0:=Tryz.zeroValue0
 t3:=Tryz.underlying3
 a3:=Tryz.isAgg3
 z3:=Tryz.sizeOf3
 v3:=Tryz.zeroValue3
 t4:=Tryz.underlying4
 a4:=Tryz.isAgg4
 z4:=Tryz.sizeOf4
 v4:=Tryz.zeroValue4
 t5:=Tryz.underlying5
 a5:=Tryz.isAgg5
 z5:=Tryz.sizeOf5
 v5:=Tryz.zeroValue5
 t9:=Tryz.underlying9
 a9:=Tryz.isAgg9
 z9:=Tryz.sizeOf9
 v9:=Tryz.zeroValue9
 t28:=Tryz.underlying25
 a28:=Tryz.isAgg25
 z28:=Tryz.sizeOf25
 v28:=Tryz.zeroValue25
 t46:=Tryz.underlying116
 a46:=Tryz.isAgg116
 z46:=Tryz.sizeOf116
 v46:=Tryz.zeroValue116
 t51:=Tryz.underlying37
 a51:=Tryz.isAgg37
 z51:=Tryz.sizeOf37
 v51:=Tryz.zeroValue37
 t53:=Tryz.underlying55
 a53:=Tryz.isAgg55
 z53:=Tryz.sizeOf55
 v53:=Tryz.zeroValue55
 t131:=Tryz.underlying258
 a131:=Tryz.isAgg258
 z131:=Tryz.sizeOf258
 v131:=Tryz.zeroValue258
 t182:=Tryz.underlying275
 a182:=Tryz.isAgg275
 z182:=Tryz.sizeOf275
 v182:=Tryz.zeroValue275
 t183:=Tryz.underlying276
 a183:=Tryz.isAgg276
 z183:=Tryz.sizeOf276
 v183:=Tryz.zeroValue276
 t218:=Tryz.underlying293
 a218:=Tryz.isAgg293
 z218:=Tryz.sizeOf293
 v218:=Tryz.zeroValue293
 t222:=Tryz.underlying296
 a222:=Tryz.isAgg296
 z222:=Tryz.sizeOf296
 v222:=Tryz.zeroValue296
 t228:=Tryz.underlying299
 a228:=Tryz.isAgg299
 z228:=Tryz.sizeOf299
 v228:=Tryz.zeroValue299
 t229:=Tryz.underlying300
 a229:=Tryz.isAgg300
 z229:=Tryz.sizeOf300
 v229:=Tryz.zeroValue300}
end Go.Proofs.YtkeilicinggjmaaGreatDoor
namespace Go.Abs
open M
theorem gsR:type_of%(And.intro @r_opt (And.intro @r_ret (And.intro @ob_some (And.intro @ifB_true (And.intro @iteV_true (And.intro @iteV_false (And.intro @r_gdt (And.intro @r_gdt2 (And.intro @r_gdtf (And.intro @r_gdtf2 (And.intro @r_gdff (And.intro @r_gdff2 (And.intro @r_gdft (And.intro @r_gdft2 (And.intro @r_gdu (And.intro @r_gdu2 (And.intro @pick_t (And.intro @pick_f (And.intro @ext_0 (And.intro @ext_1 (And.intro @x_newB (And.intro @r_nil (And.intro @r_fAddr (And.intro @Nat.zero_add (And.intro @b_lss (And.intro @b_leq (And.intro @b_gtr (And.intro @b_geq (And.intro @b_eql (And.intro @b_neq (And.intro @u_not (And.intro @Bool.not_true (And.intro @Bool.not_false (And.intro @oneOf_one (And.intro @oneOf_two (And.intro @again_normal (And.intro @again_exit (And.intro @again_ret @Bool.and_true)))))))))))))))))))))))))))))))))))))):=And.intro @r_opt (And.intro @r_ret (And.intro @ob_some (And.intro @ifB_true (And.intro @iteV_true (And.intro @iteV_false (And.intro @r_gdt (And.intro @r_gdt2 (And.intro @r_gdtf (And.intro @r_gdtf2 (And.intro @r_gdff (And.intro @r_gdff2 (And.intro @r_gdft (And.intro @r_gdft2 (And.intro @r_gdu (And.intro @r_gdu2 (And.intro @pick_t (And.intro @pick_f (And.intro @ext_0 (And.intro @ext_1 (And.intro @x_newB (And.intro @r_nil (And.intro @r_fAddr (And.intro @Nat.zero_add (And.intro @b_lss (And.intro @b_leq (And.intro @b_gtr (And.intro @b_geq (And.intro @b_eql (And.intro @b_neq (And.intro @u_not (And.intro @Bool.not_true (And.intro @Bool.not_false (And.intro @oneOf_one (And.intro @oneOf_two (And.intro @again_normal (And.intro @again_exit (And.intro @again_ret @Bool.and_true)))))))))))))))))))))))))))))))))))))
end Go.Abs
set_option maxRecDepth 100000
namespace Go.Proofs.YtkeilicinggjmaaGreatDoor
open Go.Proofs.Tryz
open Go.Abs Go.Abs.M
theorem aIu:SortOk prog 82:=⟨enters_of Tryz.func82 (by kernel_rfl) rfl,Any.slices_Sort_int_none Tryz.Yj,Any.slices_Sort_int Tryz.Yj⟩
theorem Gv:prog.follows .mixedOrders=true:=by kernel_rfl
theorem aIt:PrimsOk prog (uM []):=aFB Gv λg hg=>by simp at hg
theorem aIv:PrimsOk prog (rV [] 82):=aF9 aIt aIu
abbrev pkN:iA:=rY 103 u5 (rY 101 (vY 23) (rV [] 82))
abbrev cN:iA:=pkN
theorem tW:FrP pkN:=Xp aHk (Xp (aHl _) (aG5 _ _))
theorem gX {k:FuncId}(h:((k==103)||(k==101))=false)(h2:(k==82)=false):pkN (.func k)=none:=by
 rw[Bool.or_eq_false_iff] at h;rw[pkN,C2 h.1,C2 h.2];exact aF8 h2 rfl
theorem cH {k:FuncId}(h:((k==103)||(k==101)||(k==82))=false):pkN (.func k)=none:=by
 rw[Bool.or_eq_false_iff] at h;exact gX h.1 h.2
theorem Yk (n:Nat)(hn:0<n)(args:List Value)(H:aF):lvl prog cN n (.func 82) args H=sS args H:=
 L6 (((C2 rfl).trans (C2 rfl)).trans aGa) hn args H
theorem Nk (n:Nat)(hn:0<n)(args:List Value)(H:aF):lvl prog pkN n (.func 103) args H=u5 args H:=L6 Xt hn args H
theorem aIw (n:Nat)(hn:0<n)(args:List Value)(H:aF):lvl prog pkN n (.func 101) args H=vY 23 args H:=L6 ((C2 rfl).trans Xt) hn args H
end Go.Proofs.YtkeilicinggjmaaGreatDoor
namespace Go.Proofs.YtkeilicinggjmaaGreatDoor
open Go.Proofs.Tryz
open Go Go.RowKit Go.Abs Go.Abs.M
theorem aIA:Ka prog=some 0:=by kernel_rfl
theorem aIB:yI=Lib.deBruijn32tab.map Int.ofNat:=by decide+kernel
theorem Yl {w:World}(h:Ca prog w):TabC w:=by
 obtain⟨cs,e,r,h1,h2⟩:=h 0 aIA;intro j hj;unfold World.cell?;rw[h1];show cs[j]? =_
 rw[<-Array.getElem?_toList,h2,aIB,List.map_map,aR7];have hl:Lib.deBruijn32tab.length=32:=by decide+kernel
 rw[aRW U,aRY,aRW U]
 rfl
theorem aIx {args:List Value}{H H':aF}{v:Value}(h:u5 args H=some (v,H')):H'=H:=by
 unfold u5 at h
 split at h
 ·split at h
  ·cases h
   rfl
  ·cases h
 ·cases h
theorem aIC {t:TypeId}{args:List Value}{H H':aF}{v:Value}(h:vY t args H=some (v,H')):H.length<=H'.length:=by
 unfold vY at h
 split at h
 ·split at h
  ·split at h
   ·split at h
    ·split at h
     ·cases h
      simp
     ·cases h
    ·cases h
   ·cases h
  ·cases h
 ·cases h
theorem aIy {args:List Value}{H H':aF}{v:Value}(h:u5 args H=some (v,H')){ρ:Ren}{w:World}{args':List Value}(hr:Rel prog ρ (dW H) w)(ha:Vrs ρ args args'):
  yM prog (.func 103) args'.toArray w (Post prog ρ H w v H'):=by
 have he:(callFunc 103 args'.toArray).run prog w= .ok (.enter 103 args'.toArray) w:=enters_of Tryz.func103 (by kernel_rfl) rfl _ _
 refine⟨he,?_⟩;unfold u5 at h
 split at h
 ·rename_i m fr n
  split at h
  ·rename_i hm
   cases h;obtain⟨hl,h1⟩:=ha
   match args',hl with
   |[a',b',c'],_=>
    obtain rfl:=(h1 0 _ a' rfl rfl).lT rfl
    obtain rfl:=(h1 1 _ b' rfl rfl).lT rfl
    obtain rfl:=(h1 2 _ c' rfl rfl).lT rfl
    exact(aHs m fr n hm.1 hm.2 w (Yl hr.J8)).mono λe w' ⟨h2,hB⟩=>⟨_,h2,ρ,.pM rfl,Step.Vs hr hB.size (λc hc=>hB.block c hc) hB.os hB.tape hB.output⟩
  ·cases h
 ·cases h
theorem aIz (rows:List Nat)(n:Nat):(lB (λk=>dU (λi=>(rows.getD i 0).testBit k) rows.length) n).toList=(kQ rows n).map λz:Nat=>Value.int .u16 (z:Int):=by
 unfold lB kQ;rw[List.map_map];rfl
theorem aID {args:List Value}{H H':aF}{v:Value}(h:vY 23 args H=some (v,H')){ρ:Ren}{w:World}{args':List Value}(hr:Rel prog ρ (dW H) w)(ha:Vrs ρ args args')
  (hfree: ∀b,H.length<=b->b<H'.length->ρ b=none):yM prog (.func 101) args'.toArray w (Post prog ρ H w v H'):=by
 have he:(callFunc 101 args'.toArray).run prog w= .ok (.enter 101 args'.toArray) w:=enters_of Tryz.func101 (by kernel_rfl) rfl _ _
 refine⟨he,?_⟩;unfold vY at h
 split at h
 ·rename_i b o len cap n
  try dsimp only at h
  split at h
  ·rename_i hc
   try dsimp only at h
   split at h
   ·rename_i cs e k hb
    try dsimp only at h
    split at h
    ·rename_i hlen
     try dsimp only at h
     split at h
     ·rename_i rows hrows
      cases h;obtain⟨hl,h1⟩:=ha
      match args',hl with
      |[a',b'],_=>
       obtain rfl:=(h1 1 _ b' rfl rfl).lT rfl
       have hv:=h1 0 _ a' rfl rfl;cases hv with
       |same hls=>simp[fT] at hls
       |slice0=>omega
       | @slice _ _ _ _ cap' pl hpl hn hcc hroom=>
        obtain⟨ccs,ce,lo,hi,ho,hcv,_,_,_⟩:=hr.blk b pl _ hpl hb;obtain⟨hz,h16⟩:=Xs _ _ hrows;have hzl:rows.length=len:=by
         have:=congrArg List.length hz;simp at this;omega
        obtain⟨n',rfl⟩: ∃n':Nat,n=n':=⟨n.toNat,by omega⟩
        have hin: ∀i,i<len->w.cell? ⟨pl.c,pl.base+o+i,none⟩=some (.int .u16 (rows.getD i 0:Nat)):=by
         intro i hi;have hzi:rows[i]? =some rows[i]:=aRW U
         have h2:cs[o+i]? =some (.int .u16 (rows[i]:Nat)):=by
          have:=congrArg (·[i]?) hz
          simp only[List.getElem?_take,List.getElem?_drop,aR7,hzi,if_pos hi,Option.map_some] at this;exact this
         obtain⟨v',h3,h4⟩:=hcv (o+i) _ h2;have h5:=h4.lT rfl;subst h5;rw[Cd ho,aRY,hzi,Nat.add_assoc];exact h3
        have hcall:=(callsIn_wide (n:=6)).1 (aHM pl.c (pl.base+o) len cap' n' U U U U U w (Yl hr.J8) rows hzl h16 (hr.lt b pl hpl) hin)
        refine hcall.mono λe w' ⟨h2,hB,hrow⟩=>⟨_,h2,ρ.upd H.length ⟨w.heap.size,0,some (1,n')⟩,?_,?_⟩
        ·have:=Vr.slice (ρ:=ρ.upd H.length ⟨w.heap.size,0,some (1,n')⟩) (o:=0) (n:=n') (cap:=n') (cap':=n') (Ren.pN _ _ _) (aRZ _) (aRZ _) (by
          intro e' T hT;simp only[aSl,Prod.mk.injEq] at hT;obtain⟨rfl,rfl⟩:=hT;simp)
         simpa using this
        ·have hlt:w.heap.size<w'.heap.size:=(aSj.mp hrow).1
         have hcell:prog.cellsOf 23=1:=by kernel_rfl
         refine Step.Kc hr (hfree _ (aRZ _) (by simp)) (aRZ _) hB.size hlt (λc hc=>hB.block c hc) ?_ (by simp) hB.os hB.tape hB.output
         refine⟨_,_,0,0,hrow,λi v hi=> ?_,λ_ off _=>by omega,λ_=> ?_,λhk=>absurd rfl hk⟩
         ·refine⟨v,?_,?_⟩
          ·rw[<-hi,aSm,<-aIz,<-hzl,Array.getElem?_toList]
           simp
          ·rw[aR7] at hi
           cases hx:(kQ rows (n':Int).toNat)[i]? with
           |none=>rw[hx] at hi;cases hi
           |some z=>
            rw[hx] at hi;cases hi;exact .pM rfl
         ·show some (1,n')=some (prog.cellsOf 23,_)
          rw[hcell,X0]
     ·cases h
    ·cases h
   ·cases h
  ·cases h
 ·cases h
theorem Ym {P:Program}{g:FuncId}{p:List Value->aF->Option (Value×aF)}{pr:iA}(h:PrimsOk P pr)(hm: ∀args H v H',p args H=some (v,H')->H.length<=H'.length)
  (hs: ∀args H v H',p args H=some (v,H')-> ∀ρ w args',Rel P ρ (dW H) w->Vrs ρ args args'->(∀b,H.length<=b->b<H'.length->ρ b=none)->yM P (.func g) args'.toArray w (Post P ρ H w v H')):PrimsOk P (rY g p pr):=by
 constructor
 ·intro f q hf args H v H' hp
  cases f with
  |func k=>
   by_cases hk:k=g
   ·simp only[rY,if_pos hk] at hf
    cases hf;exact hm _ _ _ _ hp
   ·simp only[rY,if_neg hk] at hf
    exact h.mono _ _ hf _ _ _ _ hp
  |_=>cases hf
 ·intro f q hf args H v H' hp ρ w args' hr ha hfree
  cases f with
  |func k=>
   by_cases hk:k=g
   ·simp only[rY,if_pos hk] at hf
    cases hf;subst hk;exact hs _ _ _ _ hp _ _ _ hr ha hfree
   ·simp only[rY,if_neg hk] at hf
    exact h.sound _ _ hf _ _ _ _ hp _ _ _ hr ha hfree
  |_=>cases hf
theorem Nl:PrimsOk prog pkN:=
 Ym (Ym aIv (λ_ _ _ _ h=>aIC h) λ_ _ _ _ h _ _ _ hr ha hf=>aID h hr ha hf) (λ_ _ _ _ h=>by rw[aIx h];exact aRZ _) λ_ _ _ _ h _ _ _ hr ha _=>aIy h hr ha
end Go.Proofs.YtkeilicinggjmaaGreatDoor
namespace Go.Proofs.YtkeilicinggjmaaGreatDoor
open Go.Proofs.Tryz
open Go.Abs Go.Abs.M
theorem szI:prog.cellsOf 3=1:=by kernel_rfl
theorem aIM:prog.cellsOf 34=2:=by kernel_rfl
abbrev Ed:=Int×Int
def edC (e:Ed):List Value:=[.I e.1,.I e.2]
theorem o7 (e:Ed):(edC e).length=2:=rfl
theorem Ba (e:Ed):dV (edC e)=true:=rfl
def edV (e:Ed):Value:= .agg ⟨edC e⟩
abbrev Is (H:aF)(v:Value)(xs:List Int):=Rs inC 3 H v xs
abbrev Iw (H:aF)(v:Value)(xs:List Int):=Rw inC 3 1 H v xs
abbrev Es (H:aF)(v:Value)(xs:List Ed):=Rs edC 34 H v xs
abbrev Ew (H:aF)(v:Value)(xs:List Ed):=Rw edC 34 2 H v xs
def vC (u:Value):List Value:=[u]
theorem Yq (u:Value):(vC u).length=1:=rfl
def Rows (H:aF)(v:Value)(xss:List (List Int)):Prop:= ∃us,Rs vC 25 H v us/\us.length=xss.length/\ ∀(i:Nat)(u:Value)(xs:List Int),us[i]? =some u->xss[i]? =some xs->Is H u xs
theorem Rows.ext {H H':aF}{v:Value}{xss:List (List Int)}(h:Rows H v xss)(he:Ext H H'):Rows H' v xss:=by
 obtain⟨us,h1,h2,h3⟩:=h
 exact⟨us,h1.ext he,h2,λi u xs hu hx=>(h3 i u xs hu hx).ext he⟩
theorem Rows.Yn {H:aF}{v:Value}{xss:List (List Int)}(h:Rows H v xss):aZ v=some (.I xss.length):=by
 obtain⟨us,h1,h2,h3⟩:=h;rw[h1.gW,h2]
theorem Rows.Gw {H:aF}{v:Value}{xss:List (List Int)}(h:Rows H v xss){i:Nat}{xs:List Int}(hx:xss[i]? =some xs)(k:IntKind): ∃p u,aT 1 v (.int k i)=some p/\ld1 p H=some (u,H)/\Is H u xs:=by
 obtain⟨us,h1,h2,h3⟩:=h;have hi:=(aRU.mp hx).1;have hu:us[i]? =some us[i]:=aRW U
 obtain⟨b,o,g1,g2,g3⟩:=h1.fS Yq hu k;have:=(g3 H rfl).2.1 0 us[i] rfl
 exact⟨_,_,g1,this,h3 i _ _ hu hx⟩
structure PlanD where
 nodes:Int
 edges:List Ed
 lanes:Int
 room:Int
 queue:Int
 rounds:Int
 every:Int
 bag:Int
 weights:List Int
 start:Int
 next:List (List Int)
def plC (p:PlanD)(ev wv nv:Value):List Value:=[.I p.nodes,ev,.I p.lanes,.I p.room,.I p.queue,.I p.rounds,.I p.every,.I p.bag,wv,.int .u16 p.start,nv]
def plV (p:PlanD)(ev wv nv:Value):Value:= .agg ⟨plC p ev wv nv⟩
def plB (p:PlanD)(ev wv nv:Value):Blk:= .cells (plC p ev wv nv) 28 .fix
structure PV (H:aF)(p:PlanD)(ev wv nv:Value):Prop where
 e:Es H ev p.edges
 w:Is H wv p.weights
 n:Rows H nv p.next
 be:p.edges.length<=17592186043000
 bw:p.weights.length<=17592186044500
 bn:p.next.length<=17592186043000
theorem PV.ext {H H':aF}{p:PlanD}{ev wv nv:Value}(h:PV H p ev wv nv)(he:Ext H H'):PV H' p ev wv nv:=⟨h.e.ext he,h.w.ext he,h.n.ext he,h.be,h.bw,h.bn⟩
theorem mC (p:PlanD)(ev wv nv:Value):Blk.cells (plV p ev wv nv).cells.toList 28 .fix=plB p ev wv nv:=rfl
theorem eC {H:aF}{b:Nat}{p:PlanD}{ev wv nv:Value}(h:H[b]? =some (plB p ev wv nv))(j:Nat)(v:Value)(hv:(plC p ev wv nv)[j]? =some v):ld1 (.Q b j) H=some (v,H):=by
 rw[kM,h];unfold plB;rw[uN,hv,vU]
theorem lC {H:aF}{b:Nat}{p:PlanD}{ev wv nv:Value}(h:H[b]? =some (plB p ev wv nv)):ldN 11 (.Q b 0) H=some (plV p ev wv nv,H):=by
 rw[tT,h];unfold plB;rw[uO _ _ _ _ _ (by simp[plC])]
 rfl
theorem fA (H:aF)(x:Blk):(H++[x])[H.length]? =some x:=by simp
theorem eS {H H':aF}{b:Nat}{x:Blk}(h:H[b]? =some x)(he:Ext H H'):H'[b]? =some x:=by
 rw[he.2 b (aRU.mp h).1 id,h]
def wi (x lo hi:Int):Bool:=decide (lo<=x)&&decide (x<=hi)
def rZ (p:PlanD):Bool:=wi p.nodes 2 6&&(wi p.lanes 1 3&&(wi p.room 1 8&&(wi p.queue 1 8&&(wi p.rounds 1 4&&(wi p.every 1 8&&wi p.bag 1 64)))))
section
variable {H : aF} {m : Nat} {p : PlanD} {ev wv nv : Value}
theorem Yr (hm:0<m)(x lo hi:Int)(H:aF):lvl prog cN m (.func 121) [.I x,.I lo,.I hi] H=some (.bool (wi x lo hi),H):=by
 refine cS (gX rfl rfl) hm ?_;rw[aHN];unfold wi;by_cases h:lo<=x
 ·simp only[gsR,h,decide_true,aSh]
 ·simp only[gsR,h,decide_false,Bool.false_and]
theorem aIL (hm:1<m)(p:PlanD)(ev wv nv:Value):lvl prog cN m (.func 128) [plV p ev wv nv] H=some (.bool (rZ p),H++[plB p ev wv nv]):=by
 refine cS (gX rfl rfl) U ?_
 have w:=λx lo hi H=>Yr (m:=m-1) U x lo hi H
 have hb:=fA H (plB p ev wv nv);have l0:=eC hb 0 _ rfl;have l2:=eC hb 2 _ rfl;have l3:=eC hb 3 _ rfl;have l4:=eC hb 4 _ rfl;have l5:=eC hb 5 _ rfl;have l6:=eC hb 6 _ rfl;have l7:=eC hb 7 _ rfl;rw[aHP];unfold rZ;cases c1:wi p.nodes 2 6 with
 |false=>simp only[gsR,mC,w,l0,l2,l3,l4,l5,l6,c1,Bool.false_and,aSh]
 |true=>
   cases c2:wi p.lanes 1 3 with
   |false=>simp only[gsR,mC,w,l0,l2,l3,l4,l5,l6,c1,c2,Bool.false_and,aSh]
   |true=>
     cases c3:wi p.room 1 8 with
     |false=>simp only[gsR,mC,w,l0,l2,l3,l4,l5,l6,c1,c2,c3,Bool.false_and,aSh]
     |true=>
       cases c4:wi p.queue 1 8 with
       |false=>simp only[gsR,mC,w,l0,l2,l3,l4,l5,l6,c1,c2,c3,c4,Bool.false_and,aSh]
       |true=>
         cases c5:wi p.rounds 1 4 with
         |false=>simp only[gsR,mC,w,l0,l2,l3,l4,l5,l6,c1,c2,c3,c4,c5,Bool.false_and,aSh]
         |true=>
           cases c6:wi p.every 1 8 with
           |false=>simp only[gsR,mC,w,l0,l2,l3,l4,l5,l6,c1,c2,c3,c4,c5,c6,Bool.false_and,aSh]
           |true=>
             simp only[gsR,mC,w,l0,l2,l3,l4,l5,l6,l7,c1,c2,c3,c4,c5,c6,aSh]
def fst (p:Nat->Bool):Nat->Nat->Int
 |0,_=> -1
 |q+1,i=>if p i=true then i else fst p q (i+1)
theorem Nm (p:Nat->Bool): ∀q i,(0<=fst p q i)↔ ∃j,i<=j/\j<i+q/\p j=true
 |0,i=>by simp[fst];omega
 |q+1,i=>by
  unfold fst;by_cases h:p i=true
  ·rw[if_pos h]
   exact⟨λ_=>⟨i,by omega,by omega,h⟩,λ_=>by omega⟩
  ·rw[if_neg h,Nm p q (i+1)]
   constructor
   ·rintro ⟨j,h1,h2,h3⟩
    exact⟨j,by omega,by omega,h3⟩
   ·rintro ⟨j,h1,h2,h3⟩
    have:j≠i:=λhh=>h (hh▸h3)
    exact⟨j,by omega,by omega,h3⟩
theorem Gx (p:Nat->Bool)(n:Nat):decide (0<=fst p n 0)=(List.range n).any p:=by
 rw[Bool.eq_iff_iff,decide_eq_true_iff,Nm,List.any_eq_true];constructor
 ·rintro ⟨j,h1,h2,h3⟩
  exact⟨j,aSy.mpr U,h3⟩
 ·rintro ⟨j,h1,h2⟩
  exact⟨j,by omega,by have:=aSy.mp h1;omega,h2⟩
theorem C6 {α:Type}(xs:List α)(q:α->Bool)(p:Nat->Bool)(h: ∀i x,xs[i]? =some x->p i=q x):(List.range xs.length).any p=xs.any q:=by
 rw[Bool.eq_iff_iff,List.any_eq_true,List.any_eq_true];constructor
 ·rintro ⟨i,h1,h2⟩
  have hi:=aSy.mp h1;have hx:xs[i]? =some xs[i]:=aRW hi
  exact⟨xs[i],List.getElem_mem hi,by rw[<-h i _ hx];exact h2⟩
 ·rintro ⟨x,h1,h2⟩
  obtain⟨i,hi⟩:=List.getElem?_of_mem h1
  exact⟨i,aSy.mpr (aRU.mp hi).1,by rw[h i x hi];exact h2⟩
theorem aII {v fv:Value}{n:Nat}(p:Nat->Bool)(hd: ∀i,i<n-> ∃a u,aT 1 v (.I (i:Nat))=some a/\ld1 a H=some (u,H)/\oJ (lvl prog cN m) fv [u] H=some (.bool (p i),H))(hn:n<=72057594037927936): ∀(q i k:Nat),n-i=q->i<=n->q<k-> ∀(x2 x3 x4 x5 x6 x9 bS cE aV aR aS aQ aW aX aU:Value),
  aM k (aN prog (lvl prog cN m) (aM m) Ms) (Gp (lvl prog cN m) (aM m)) [v,fv,x2,x3,x4,x5,x6,(.I n),(.I (i:Nat)),x9,bS,cE,aV,aR,aS,aQ,aW,aX,aU] H=some (.I (fst p q i),H):=by
 intro q;induction q with
 |zero=>
  intro i k hr hi hk;intros;obtain⟨k,rfl⟩:=aB k U
  obtain rfl:i=n:=U
  have e:decide ((i:Int)<i)=false:=by simp
  rw[dR,X3];simp only[gsR,e];rw[aHU];rfl
 |succ q ih=>
  intro i k hr hi hk;intros;obtain⟨k,rfl⟩:=aB k U
  have e:decide ((i:Int)<n)=true:=by simp;omega
  have e3:=aA (i:=i) U
  obtain⟨a,u,g1,g2,g3⟩:=hd i U
  rw[dR,X3];unfold fst;cases h:p i with
  |true=>
   rw[h] at g3;simp only[gsR,e,g1,g2,g3,if_true];rw[aHW];rfl
  |false=>
   rw[h] at g3;simp only[gsR,e,g1,g2,g3,cR,e3,Bool.false_eq_true,if_false];exact ih (i+1) k U U U ..
theorem Yo {v fv:Value}{n:Nat}(p:Nat->Bool)(hl:aZ v=some (.I n))(hn:n+10<m)(hm:m<=72057594037927936)(hd: ∀i,i<n-> ∃a u,aT 1 v (.I (i:Nat))=some a/\ld1 a H=some (u,H)/\oJ (lvl prog cN (m-1-1)) fv [u] H=some (.bool (p i),H)):
  lvl prog cN m (.func 80) [v,fv] H=some (.bool ((List.range n).any p),H):=by
 have g:lvl prog cN (m-1) (.func 133) [v,fv] H=some (.I (fst p n 0),H):=by
  refine cS (gX rfl rfl) U ?_
  rw[aHV];simp only[gsR,hl];exact aII p hd U n 0 (m-1-1) U U U ..
 refine cS (gX rfl rfl) U ?_
 rw[aIn];simp only[gsR,g,Gx]
theorem aIJ {v fv:Value}{n:Nat}(p:Nat->Bool)(hd: ∀i,i<n-> ∃a u,aT 1 v (.I (i:Nat))=some a/\ld1 a H=some (u,H)/\oJ (lvl prog cN m) fv [u] H=some (.bool (p i),H))(hn:n<=72057594037927936): ∀(q i k:Nat),n-i=q->i<=n->q<k-> ∀(x2 x3 x4 x5 x6 x9 bS cE aV aR aS aQ aW aX aU:Value),
  aM k (aN prog (lvl prog cN m) (aM m) Mt) (Gq (lvl prog cN m) (aM m)) [v,fv,x2,x3,x4,x5,x6,(.I n),(.I (i:Nat)),x9,bS,cE,aV,aR,aS,aQ,aW,aX,aU] H=some (.I (fst p q i),H):=by
 intro q;induction q with
 |zero=>
  intro i k hr hi hk;intros;obtain⟨k,rfl⟩:=aB k U
  obtain rfl:i=n:=U
  have e:decide ((i:Int)<i)=false:=by simp
  rw[dR,X4];simp only[gsR,e];rw[aHY];rfl
 |succ q ih=>
  intro i k hr hi hk;intros;obtain⟨k,rfl⟩:=aB k U
  have e:decide ((i:Int)<n)=true:=by simp;omega
  have e3:=aA (i:=i) U
  obtain⟨a,u,g1,g2,g3⟩:=hd i U
  rw[dR,X4];unfold fst;cases h:p i with
  |true=>
   rw[h] at g3;simp only[gsR,e,g1,g2,g3,if_true];rw[aH0];rfl
  |false=>
   rw[h] at g3;simp only[gsR,e,g1,g2,g3,cR,e3,Bool.false_eq_true,if_false];exact ih (i+1) k U U U ..
theorem aIE {v fv:Value}{n:Nat}(p:Nat->Bool)(hl:aZ v=some (.I n))(hn:n+10<m)(hm:m<=72057594037927936)(hd: ∀i,i<n-> ∃a u,aT 1 v (.I (i:Nat))=some a/\ld1 a H=some (u,H)/\oJ (lvl prog cN (m-1-1)) fv [u] H=some (.bool (p i),H)):
  lvl prog cN m (.func 130) [v,fv] H=some (.bool ((List.range n).any p),H):=by
 have g:lvl prog cN (m-1) (.func 160) [v,fv] H=some (.I (fst p n 0),H):=by
  refine cS (gX rfl rfl) U ?_
  rw[aHZ];simp only[gsR,hl];exact aIJ p hd U n 0 (m-1-1) U U U ..
 refine cS (gX rfl rfl) U ?_
 rw[aHS];simp only[gsR,g,Gx]
theorem Yp (a b:Ed):bin prog .eql 34 (edV a) (edV b)=some (.bool (a==b)):=by
 have k:tN prog 34=some [true,true]:=by kernel_rfl
 obtain⟨a1,a2⟩:=a;obtain⟨b1,b2⟩:=b;simp[bin,edV,eE,nL,k,eqT,edC];rfl
theorem aIK {v:Value}{xs:List Ed}{a:Nat}{y:Ed}(hx:Es H v xs)(ha:H[a]? =some (.cells (edC y) 34 .fix))(hn:xs.length<=72057594037927936): ∀(q i k:Nat),xs.length-i=q->i<=xs.length->q<k-> ∀(x1 x2 x4 x5 x6 x9 bS cE aV aR aS aQ aW aX aU:Value),
  aM k (aN prog (lvl prog cN m) (aM m) M9) (Gt (lvl prog cN m) (aM m)) [v,x1,x2,(.pointer (some ⟨a,0,none⟩)),x4,x5,x6,(.int .i64 xs.length),(.int .i64 (i:Nat)),x9,bS,cE,aV,aR,aS,aQ,aW,aX,aU] H=some (.int .i64 (fst (λj=>xs[j]? ==some y) q i),H):=by
 intro q;have la:ldN 2 (.Q a 0) H=some (edV y,H):=by
  rw[tT,ha,uO _ _ _ _ _ (by simp[edC])]
  rfl
 induction q with
 |zero=>
  intro i k hr hi hk;intros;obtain⟨k,rfl⟩:=aB k U
  obtain rfl:i=xs.length:=U
  have e:decide ((xs.length:Int)<xs.length)=false:=by simp
  rw[dR,Yd];simp only[gsR,e];rw[aId];rfl
 |succ q ih=>
  intro i k hr hi hk;intros;obtain⟨k,rfl⟩:=aB k U
  have e:decide ((i:Int)<xs.length)=true:=by simp;omega
  have e3:=aA (i:=i) U
  have hxi:xs[i]? =some xs[i]:=aRW U
  obtain⟨b,o,g1,g2,g3⟩:=hx.fS o7 hxi .i64;have l1:ldN 2 (.Q b o) H=some (edV xs[i],H):=(g3 H rfl).1;rw[dR,Yd];unfold fst;by_cases h:y=xs[i]
  ·have d:(y==xs[i])=true:=by rw[h];simp
   have d2:(xs[i]? ==some y)=true:=by rw[hxi,h];simp
   simp only[gsR,e,la,g1,l1,Yp,d];rw[aIf,if_pos d2];rfl
  ·have d:(y==xs[i])=false:=by simpa using h
   have d2: ¬(xs[i]? ==some y)=true:=by rw[hxi];simpa using λhh=>h hh.symm
   simp only[gsR,e,la,g1,l1,Yp,d,cR,e3];rw[if_neg d2];exact ih (i+1) k U U U ..
theorem aIH {v:Value}{xs:List Ed}(hx:Es H v xs)(y:Ed)(hn:xs.length+10<m)(hm:m<=72057594037927936): ∃H',lvl prog cN m (.func 159) [v,edV y] H=some (.bool (xs.any λx=>x==y),H')/\Ext H H':=by
 have c:Blk.cells (edV y).cells.toList 34 .fix= .cells (edC y) 34 .fix:=rfl;have b0:=fA H (.cells (edC y) 34 .fix);have l0:ldN 2 (.pointer (some ⟨H.length,0,none⟩)) (H++[.cells (edC y) 34 .fix])=some (edV y,H++[.cells (edC y) 34 .fix]):=by
  rw[tT,b0,uO _ _ _ _ _ (by simp[edC])]
  rfl
 obtain⟨H1,hH1⟩:=aD (H++[Blk.cells (edC y) 34 .fix]);have x1:Ext H H1:=by rw[hH1];exact Fr.app _ _ _
 have x2:Ext H (H1++[.cells (edC y) 34 .fix]):=x1.tr (Fr.app _ _ _);have hx2:=hx.ext x2;have hlen:=hx.gW;have g:lvl prog cN (m-1) (.func 182) [v,edV y] H1=some (.I (fst (λj=>xs[j]? ==some y) xs.length 0),H1++[.cells (edC y) 34 .fix]):=by
  refine cS (gX rfl rfl) U ?_
  rw[aIe];simp only[gsR,c,hlen];exact aIK hx2 (fA H1 _) U xs.length 0 (m-1-1) U U U ..
 refine⟨_,cS (gX rfl rfl) U ?_,x2⟩
 rw[aHX];have hb:decide (0<=fst (λj=>xs[j]? ==some y) xs.length 0)=xs.any λx=>x==y:=by
  rw[Gx];exact C6 xs _ _ λi x h=>by rw[h];rfl
 rw[<-hH1] at l0;simp only[gsR,c,<-hH1,l0,g,hb]
def vZ (n:Int):List Ed->List Ed->Bool
 |_,[]=>true
 |old,e::r=>(!(decide (e.1<0)||(decide (e.2<=e.1)||(decide (n<=e.2)||old.any λx=>x==e))))&&vZ n (old++[e]) r
def zC (p:PlanD):Bool:=vZ p.nodes [] p.edges&&decide ((p.edges.length:Int)<=15)
theorem aIG {a:Nat}(hx:Es H ev p.edges)(hn:p.edges.length+20<m)(hm:m<=72057594037927936): ∀(q i k:Nat)(H':aF),p.edges.length-i=q->i<=p.edges.length->q<k->Ext H H'->H'[a]? =some (plB p ev wv nv)-> ∀(x0 x3 x4 x5 x9 bS cE aV aR aS aQ aW aX aU bA bP bQ bO bK aY bC bE bG bH bI bJ bM bN bU cK cL cD bV bX bY b9 cA cF:Value),
  ∃H2,aM k (aN prog (lvl prog cN m) (aM m) Mr) (Gm (lvl prog cN m) (aM m)) [x0,(.Q a 0),(.bool false),x3,x4,x5,ev,(.I p.edges.length),(.I (i:Nat)),x9,bS,cE,aV,aR,aS,aQ,aW,aX,aU,bA,bP,bQ,bO,bK,aY,bC,bE,bG,bH,bI,bJ,bM,bN,bU,cK,cL,cD,bV,bX,bY,b9,cA,cF] H'=some (.bool (vZ p.nodes (p.edges.take i) (p.edges.drop i)&&decide ((p.edges.length:Int)<=15)),H2)/\Ext H H2:=by
 intro q;induction q with
 |zero=>
  intro i k H' hr hi hk he ha;intros;obtain⟨k,rfl⟩:=aB k U
  obtain rfl:i=p.edges.length:=U
  have e:decide ((p.edges.length:Int)<p.edges.length)=false:=by simp
  have l1:=eC ha 1 _ rfl;have hlen:=hx.gW;refine⟨H',?_,he⟩;rw[dR,X2];simp only[gsR,e];rw[aHQ];rw[List.drop_length,vZ,aSh];simp only[gsR,l1,hlen]
 |succ q ih=>
  intro i k H' hr hi hk he ha;intros;obtain⟨k,rfl⟩:=aB k U
  have e:decide ((i:Int)<p.edges.length)=true:=by simp;omega
  have e3:=aA (i:=i) U
  have hxi:p.edges[i]? =some p.edges[i]:=aRW U
  obtain⟨b,o,g1,g2,g3⟩:=(hx.ext he).fS o7 hxi .i64;obtain⟨y,hy⟩:=aD (p.edges[i]);have l1:ldN 2 (.Q b o) H'=some (edV y,H'):=by rw[hy];exact(g3 H' rfl).1
  have hdrop:p.edges.drop i=y::p.edges.drop (i+1):=by rw[hy];exact List.drop_eq_getElem_cons U
  have htake:p.edges.take i++[y]=p.edges.take (i+1):=by rw[List.take_add_one,hxi,hy];rfl
  have z:Blk.cells [Value.int .i64 0,.int .i64 0] 34 .fix= .cells (edC (0,0)) 34 .fix:=rfl;have st:stN 2 (.pointer (some ⟨H'.length,0,none⟩)) (edV y) (H'++[.cells (edC (0,0)) 34 .fix])=some (undef,H'++[.cells (edC y) 34 .fix]):=by
   rw[mA 2 _ _ _ rfl,fA,oK _ _ _ _ _ _ aC (by simp[edC,edV,Value.cells]) rfl]
   simp[edC,edV,Value.cells,eT]
  obtain⟨H1,hH1⟩:=aD (H'++[Blk.cells (edC y) 34 .fix]);rw[<-hH1] at st;have x1:Ext H' H1:=by rw[hH1];exact Fr.app _ _ _
  have hb1:H1[H'.length]? =some (.cells (edC y) 34 .fix):=by rw[hH1];exact fA _ _
  have la:ld1 (.Q H'.length 0) H1=some (.I y.1,H1):=by rw[kM,hb1];rfl
  have lb:ld1 (.Q H'.length 1) H1=some (.I y.2,H1):=by rw[kM,hb1];rfl
  have lab:ldN 2 (.Q H'.length 0) H1=some (edV y,H1):=by
   rw[tT,hb1,uO _ _ _ _ _ (by simp[edC])]
   rfl
  have ha1:=eS ha x1;have p0:=eC ha1 0 _ rfl;have p1:=eC ha1 1 _ rfl;obtain⟨v',s1,s2,s3⟩:=((hx.ext he).ext x1).Gd (P:=prog) o7 aIM (λh=>by have:=congrArg List.length h;simp only[List.length_nil] at this;omega) (lo:=none) rfl (lU p.edges.length .i64 i) (Nat.zero_le _) U
  rw[List.drop_zero] at s2;obtain⟨H2,t1,t2⟩:=aIH s2 y (m:=m) (by rw[List.length_take];omega) hm
  rw[dR,X2,hdrop,vZ,htake];by_cases c1:y.1<0
  ·refine⟨H1,?_,he.tr x1⟩
   simp only[gsR,e,g1,l1,z,st,la,lb,c1,decide_true,Bool.true_or,Bool.false_and];rw[Gn];rfl
  ·by_cases c2:y.2<=y.1
   ·refine⟨H1,?_,he.tr x1⟩
    simp only[gsR,e,g1,l1,z,st,la,lb,c1,c2,decide_true,decide_false,Bool.false_or,Bool.true_or,Bool.false_and];rw[Gn];rfl
   ·by_cases c3:p.nodes<=y.2
    ·refine⟨H1,?_,he.tr x1⟩
     simp only[gsR,e,g1,l1,z,st,la,lb,p0,c1,c2,c3,decide_true,decide_false,Bool.false_or,Bool.true_or,Bool.false_and];rw[Gn];rfl
    ·cases c4:(p.edges.take i).any λx=>x==y with
     |true=>
      rw[c4] at t1;refine⟨H2,?_,(he.tr x1).tr t2⟩;simp only[gsR,e,g1,l1,z,st,la,lb,lab,p0,p1,s1,t1,c1,c2,c3,decide_true,decide_false,Bool.false_or,Bool.false_and];rw[Gn];rfl
     |false=>
      rw[c4] at t1;simp only[gsR,e,g1,l1,z,st,la,lb,lab,p0,p1,s1,t1,c1,c2,c3,decide_false,Bool.false_or,aSh,cR,e3];exact ih (i+1) k H2 U U U ((he.tr x1).tr t2) (eS ha1 t2) ..
theorem aIF (hp:PV H p ev wv nv)(hn:p.edges.length+20<m-1)(hm:m<=72057594037927936): ∃H',lvl prog cN m (.func 129) [plV p ev wv nv] H=some (.bool (zC p),H')/\Ext H H':=by
 refine nQ (gX rfl rfl) U ?_
 have hb:=fA H (plB p ev wv nv);have l1:=eC hb 1 _ rfl;have hlen:=hp.e.gW;rw[aHR];simp only[gsR,mC,l1,hlen];exact aIG hp.e (m:=m-1) hn U p.edges.length 0 (m-1) _ U U U (Fr.app _ _ _) hb ..
end
def sV (n:Int):Bool:=decide (n<1)||decide (5<n)
def wOk (ws:List Int):Bool:= !(decide ((ws.length:Int)=0)||(decide ((3:Int)<ws.length)||ws.any sV))
def xB (p:PlanD):Bool:= !(p.next.any λr=>decide ((r.length:Int)≠p.nodes))
def gY (p:PlanD):Bool:=rZ p&&(zC p&&(decide ((p.weights.length:Int)=p.lanes)&&(wOk p.weights&&(decide ((p.next.length:Int)=p.nodes)&&xB p))))
def xA (b:Bool):Int:=if b=true then 0 else 120
section
variable {H : aF} {m : Nat} {p : PlanD} {ev wv nv : Value}
theorem Yt (hm:0<m)(n:Int)(H:aF):lvl prog cN m (.func 79) [.I n] H=some (.bool (sV n),H):=by
 refine cS (gX rfl rfl) hm ?_;rw[aIm];unfold sV;by_cases h:n<1
 ·simp only[gsR,h,decide_true,Bool.true_or]
 ·simp only[gsR,h,decide_false,Bool.false_or]
theorem aIN (b o n c:Nat):bin prog .eql 25 (.slice (some ⟨b,o,none⟩) n c) (.slice none 0 0)=some (.bool false):=by
 have h1:prog.underlying 25=some (.slice 3):=by kernel_rfl
 simp[bin,eE,nL,lS,eqV,h1]
theorem Gy {v:Value}{xs:List Int}(hx:Is H v xs)(hne:xs≠[])(hl:xs.length<=1000)(hm:0<m): ∃H' u,lvl prog cN m (.func 81) [v] H=some (u,H')/\Ext H H'/\Iw H' u xs/\New H u:=by
 have hv: ∃b o c,v= .slice (some ⟨b,o,none⟩) xs.length c:=by
  rcases hx with⟨_,h⟩|⟨b,o,cap,h,_⟩
  ·exact absurd h hne
  ·exact⟨b,o,cap,h⟩
 have b0:dT 3 1 0 [.I 0] [] H=some (.slice (some ⟨H.length,0,none⟩) 0 0,H++[.cells [] 3 .row]):=rfl;have h0:Iw (H++[.cells [] 3 .row]) (.slice (some ⟨H.length,0,none⟩) 0 0) []:=⟨rfl,.inr ⟨H.length,0,[],rfl,aRZ _,rfl,by simp⟩⟩
 obtain⟨u,H',g1,g2,g3,g4⟩:=h0.yY gV pR aC (by':=8) (H0:=H) (hx.ext (Fr.app _ _ _)) (λb ⟨_,_,_,h⟩=>by cases h;exact aRZ _) (Fr.app _ _ _) (iE (n:=1000) aC (by simp;omega))
 refine gN (gX rfl rfl) U ⟨H',u,?_,g4,g2,g3⟩
 obtain⟨b,o,c,rfl⟩:=hv;rw[Nh];simp only[gsR,aIN,b0,g1]
theorem ePW (a:Addr):bin prog .eql 90 (.pointer (some a)) (.pointer none)=some (.bool false):=Fq 90 171 (by kernel_rfl) a
theorem Nn:bin prog .eql 90 (.pointer none) (.pointer none)=some (.bool true):=Vz 90 171 (by kernel_rfl)
theorem aIO {v:Value}{ws:List Int}(hw:Is H v ws)(hl:ws.length<=17592186044500)(hm:ws.length+100<m)(hm2:m<=72057594037927936): ∃H' u,lvl prog cN m (.func 36) [v] H=some (u,H')/\Ext H H'/\bin prog .eql 90 u (.pointer none)=some (.bool (!wOk ws)):=by
 have hlen:=hw.gW;have hcf:lvl prog cN (m-1) (.func 80) [v,.func (.func 79) #[] #[]] H=some (.bool (ws.any sV),H):=by
  have:=Yo (H:=H) (m:=m-1) (v:=v) (fv:= .func (.func 79) #[] #[]) (n:=ws.length) (λi=>(ws[i]?.map sV).getD false) hlen U U (λi hi=>by
   have hx:ws[i]? =some ws[i]:=aRW hi;obtain⟨b,o,g1,g2,g3⟩:=hw.fS gV hx .i64;have l1:=(g3 H rfl).2.1 0 _ rfl;refine⟨_,_,g1,l1,?_⟩;have:=Yt (m:=m-1-1-1) U ws[i] H
   rw[hx];exact this)
  rw[this,C6 ws sV _ λi x h=>by rw[h];rfl]
 by_cases c1:(ws.length:Int)=0
 ·have e1:((ws.length:Int)==0)=true:=by simpa using c1
  have hno:wOk ws=false:=by unfold wOk;simp only[c1,decide_true,Bool.true_or,Bool.not_true]
  refine gN (gX rfl rfl) U ⟨H,.pointer none,?_,Fr.kO _ _,by rw[hno];exact Nn⟩
  rw[C4];simp only[gsR,hlen,e1]
 ·have e1:((ws.length:Int)==0)=false:=by simpa using c1
  by_cases c2:(3:Int)<ws.length
  ·have hno:wOk ws=false:=by unfold wOk;simp only[c2,decide_true,Bool.true_or,Bool.or_true,Bool.not_true]
   refine gN (gX rfl rfl) U ⟨H,.pointer none,?_,Fr.kO _ _,by rw[hno];exact Nn⟩
   rw[C4];simp only[gsR,hlen,e1,c2,decide_true]
  ·cases c3:ws.any sV with
   |true=>
    have hno:wOk ws=false:=by unfold wOk;simp only[c3,Bool.or_true,Bool.not_true]
    rw[c3] at hcf;refine gN (gX rfl rfl) U ⟨H,.pointer none,?_,Fr.kO _ _,by rw[hno];exact Nn⟩
    rw[C4];simp only[gsR,hlen,e1,c2,decide_false,hcf]
   |false=>
    have hyes:wOk ws=true:=by unfold wOk;simp only[c1,c2,c3,decide_false,Bool.or_false,Bool.not_false]
    rw[c3] at hcf;obtain⟨H1,u1,g1,g2,g3,g4⟩:=Gy (m:=m-1) hw (λh=>c1 (by rw[h];rfl)) U U
    obtain⟨H2,u2,q1,q2,q3,q4⟩:=Gy (m:=m-1) (hw.ext g2) (λh=>c1 (by rw[h];rfl)) U U
    have hb:bld prog 171 [(0,u1),(1,u2)]=some (.agg #[u1,u2,.I 0]):=by
     rcases g3 with⟨_,⟨rfl,_⟩|⟨_,_,_,rfl,_⟩⟩<;>rcases q3 with⟨_,⟨rfl,_⟩|⟨_,_,_,rfl,_⟩⟩<;>rfl
    refine gN (gX rfl rfl) U ⟨H2++[.cells (Value.agg #[u1,u2,.I 0]).cells.toList 171 .fix],.Q H2.length 0,?_,(g2.tr q2).tr (Fr.app _ _ _),by rw[hyes];exact ePW _⟩
    rw[C4];simp only[gsR,hlen,e1,c2,decide_false,hcf,g1,q1,hb]
theorem Ys (hp:PV H p ev wv nv)(hm:17592186045000<m)(hm2:m<=72057594037927936): ∃H',lvl prog cN m (.func 75) [plV p ev wv nv] H=some (.int .u16 (xA (gY p)),H')/\Ext H H':=by
 have h1:=hp.be;have h2:=hp.bw;have h3:=hp.bn;obtain⟨H0,hH0⟩:=aD (H++[plB p ev wv nv]);have x0:Ext H H0:=by rw[hH0];exact Fr.app _ _ _
 have b0:H0[H.length]? =some (plB p ev wv nv):=by rw[hH0];exact fA _ _
 have l11:=lC b0;have g1:=aIL (H:=H0) (m:=m-1) U p ev wv nv
 obtain⟨H1,hH1⟩:=aD (H0++[plB p ev wv nv]);have x1:Ext H0 H1:=by rw[hH1];exact Fr.app _ _ _
 rw[<-hH1] at g1;have b1:=eS b0 x1;have l11':=lC b1;obtain⟨H2,g2,x2⟩:=aIF (m:=m-1) (hp.ext (x0.tr x1)) U U
 have b2:=eS b1 x2;have w2:=eC b2 8 _ rfl;have la2:=eC b2 2 _ rfl;have p2:=hp.ext ((x0.tr x1).tr x2);have wl:=p2.w.gW;obtain⟨H3,u3,g3,x3,g4⟩:=aIO p2.w (m:=m-1) U U U
 have b3:=eS b2 x3;have n3:=eC b3 10 _ rfl;have no3:=eC b3 0 _ rfl;have p3:=p2.ext x3;have nl:=p3.n.Yn;have hcf:lvl prog cN (m-1) (.func 130) [nv,.func (.func 127) #[] #[.pointer (some ⟨H.length,0,none⟩)]] H3=some (.bool (p.next.any λr=>decide ((r.length:Int)≠p.nodes)),H3):=by
  have:=aIE (H:=H3) (m:=m-1) (v:=nv) (fv:= .func (.func 127) #[] #[.pointer (some ⟨H.length,0,none⟩)]) (n:=p.next.length) (λi=>(p.next[i]?.map λr=>decide ((r.length:Int)≠p.nodes)).getD false) nl U U (λi hi=>by
   have hx:p.next[i]? =some p.next[i]:=aRW hi;obtain⟨a,u,q1,q2,q3⟩:=p3.n.Gw hx .i64;refine⟨a,u,q1,q2,?_⟩;have hlen:=q3.gW;have:lvl prog cN (m-1-1-1+0) (.func 127) [u,.Q H.length 0] H3=some (.bool (decide ((p.next[i].length:Int)≠p.nodes)),H3):=by
    refine cS (gX rfl rfl) U ?_
    rw[aHO];have e:(((p.next[i].length:Nat):Int)!=p.nodes)=decide ((p.next[i].length:Int)≠p.nodes):=by
     rw[Bool.eq_iff_iff];simp
    simp only[gsR,hlen,no3,e]
   rw[hx];exact this)
  rw[this,C6 p.next (λr=>decide ((r.length:Int)≠p.nodes)) _ λi x h=>by rw[h];rfl]
 have hn1:((p.weights.length:Int)!=p.lanes)= !decide ((p.weights.length:Int)=p.lanes):=by rw[Bool.eq_iff_iff];simp
 have hn2:((p.next.length:Int)!=p.nodes)= !decide ((p.next.length:Int)=p.nodes):=by rw[Bool.eq_iff_iff];simp
 have hr:(p.next.any λr=>decide ((r.length:Int)≠p.nodes))= !xB p:=by unfold xB;rw[Bool.not_not]
 rw[hr] at hcf;have hz:xA false=120:=rfl;have hz1:xA true=0:=rfl;refine nQ (gX rfl rfl) U ?_
 rw[aIl];unfold gY;cases c1:rZ p with
 |false=>exact⟨H1,by simp only[gsR,mC,<-hH0,l11,g1,c1,hz,hz1,Bool.false_and,aSh],x0.tr x1⟩
 |true=>
   cases c2:zC p with
   |false=>exact⟨H2,by simp only[gsR,mC,<-hH0,l11,g1,l11',g2,c1,c2,hz,hz1,Bool.false_and,aSh],(x0.tr x1).tr x2⟩
   |true=>
     cases c3:decide ((p.weights.length:Int)=p.lanes) with
     |false=>exact⟨H2,by simp only[gsR,mC,<-hH0,l11,g1,l11',g2,w2,wl,la2,hn1,c1,c2,c3,hz,hz1,Bool.false_and,aSh],(x0.tr x1).tr x2⟩
     |true=>
       cases c4:wOk p.weights with
       |false=>exact⟨H3,by simp only[gsR,mC,<-hH0,l11,g1,l11',g2,w2,wl,la2,hn1,g3,g4,c1,c2,c3,c4,hz,hz1,Bool.false_and,aSh],((x0.tr x1).tr x2).tr x3⟩
       |true=>
         cases c5:decide ((p.next.length:Int)=p.nodes) with
         |false=>exact⟨H3,by simp only[gsR,mC,<-hH0,l11,g1,l11',g2,w2,wl,la2,hn1,g3,g4,n3,nl,no3,hn2,c1,c2,c3,c4,c5,hz,hz1,Bool.false_and,aSh],((x0.tr x1).tr x2).tr x3⟩
         |true=>
           cases c6:xB p with
           |false=>exact⟨H3,by simp only[gsR,mC,<-hH0,l11,g1,l11',g2,w2,wl,la2,hn1,g3,g4,n3,nl,no3,hn2,hcf,c1,c2,c3,c4,c5,c6,hz,hz1,Bool.false_and,aSh],((x0.tr x1).tr x2).tr x3⟩
           |true=>
             exact⟨H3,by simp only[gsR,mC,<-hH0,l11,g1,l11',g2,w2,wl,la2,hn1,g3,g4,n3,nl,no3,hn2,hcf,c1,c2,c3,c4,c5,c6,hz,hz1,Bool.false_and,aSh],((x0.tr x1).tr x2).tr x3⟩
end
def dd:List Int->List Int
 |[]=>[]
 |[x]=>[x]
 |x::y::r=>if x=y then dd (y::r) else x::dd (y::r)
theorem Yx: ∀(l:List Int)(a b:Int),dd (l++[a,b])=if a=b then dd (l++[a]) else dd (l++[a])++[b]
 |[],a,b=>by
  by_cases h:a=b<;>simp[dd,h]
 |[x],a,b=>by
  by_cases h:a=b<;>by_cases h2:x=a<;>simp[dd,h,h2]<;>simp_all
 |x::y::l,a,b=>by
  have ih:=Yx (y::l) a b;simp only[List.cons_append] at ih⊢;simp only[dd];by_cases h2:x=y
  ·rw[if_pos h2,if_pos h2,ih]
  ·rw[if_neg h2,if_neg h2,ih]
   by_cases h:a=b
   ·rw[if_pos h,if_pos h]
   ·rw[if_neg h,if_neg h]
    rfl
theorem Yy {zs:List Int}{j:Nat}{a b:Int}(h0:0<j)(ha:zs[j-1]? =some a)(hb:zs[j]? =some b):dd (zs.take (j+1))=if b=a then dd (zs.take j) else dd (zs.take j)++[b]:=by
 have e1:zs.take j=zs.take (j-1)++[a]:=by
  have:=List.take_add_one (l:=zs) (i:=j-1);rw[ha,show j-1+1=j by omega] at this
  simpa using this
 have e2:zs.take (j+1)=zs.take (j-1)++[a,b]:=by
  rw[List.take_add_one,hb,e1];simp
 rw[e2,Yx,<-e1];by_cases h:a=b
 ·rw[if_pos h,if_pos h.symm]
 ·rw[if_neg h,if_neg (Ne.symm h)]
theorem Yw: ∀l:List Int,(dd l).length<=l.length
 |[]=>aRZ _
 |[x]=>aRZ _
 |x::y::r=>by
  have:=Yw (y::r);unfold dd;split
  ·simp only[aSg] at *; omega
  ·simp only[aSg] at *; omega
section
variable {H : aF} {m c cap : Nat} {ys rest : List Value}
theorem ia {o n i:Nat}(h:i<n):aT 1 (.slice (some ⟨c,o,none⟩) n cap) (.I (i:Nat))=some (.Q c (o+i)):=by
 rw[pQ _ _ _ _ _ _ _ U U]
 simp
def pT (ys:List Int)(rest:List Value):Blk:= .cells (ys.map (Value.int .i64)++rest) 3 .row
theorem Bb {ys:List Int}{i:Nat}{y:Int}(hc:H[c]? =some (pT ys rest))(hi:ys[i]? =some y):ld1 (.Q c i) H=some (.I y,H):=by
 have:=(aRU.mp hi).1;rw[kM,hc];unfold pT;rw[uN,aRX (by rw[aR8];exact this),aR7,hi]
 rfl
theorem Yz {ys:List Int}{i:Nat}(y:Int)(hc:H[c]? =some (pT ys rest))(hi:i<ys.length):stN 1 (.Q c i) (.I y) H=some (undef,H.set c (pT (ys.set i y) rest)):=by
 rw[mA 1 _ _ _ rfl,hc];unfold pT;have e:(Value.I y).cells.toList=[.I y]:=rfl;rw[e,oK _ _ _ _ _ _ aC (by simp;omega) rfl]
 congr 3
 simp only[eT];rw[List.set_append_left _ _ (by rw[aR8];exact hi),<-List.map_set]
theorem aIR {zs ys:List Int}{k:Nat}(hc:H[c]? =some (pT ys rest))(hy:ys.length=zs.length)(hk:k<zs.length)(hcap:zs.length<=cap)(hrest:rest.length=cap-zs.length)(hd:ys.take k=dd zs):
  ∃w H',slc prog 1 (.slice (some ⟨c,0,none⟩) zs.length cap) (some (.I (k:Nat))) none none H=some (w,H)/\clr 1 [.I 0] w H=some (.tuple #[],H')/\
   slc prog 1 (.slice (some ⟨c,0,none⟩) zs.length cap) none (some (.I (k:Nat))) none H'=some (.slice (some ⟨c,0,none⟩) k cap,H')/\Iw H' (.slice (some ⟨c,0,none⟩) k cap) (dd zs)/\H'.length=H.length/\ ∀b,b≠c->H'[b]? =H[b]? :=by
 have hlt:=(aRU.mp hc).1;have g1:=rW (P:=prog) (H:=H) (o:=0) (sz:=1) (len:=zs.length) (cap:=cap) (lo:=some (.I (k:Nat))) (hi:=none) (mx:=none) (h:=zs.length) (m:=cap) (l:=k) hc (λ_=>szI) (lU 0 .i64 k) rfl rfl U U (aRZ _)
 rw[aSf,Nat.mul_one] at g1;obtain⟨H',hH'⟩: ∃H',H'=H.set c (pT (ys.take k) ((List.replicate (zs.length-k) [Value.I 0]).flatten++rest)):=⟨_,rfl⟩;have hc':H'[c]? =some (pT (ys.take k) ((List.replicate (zs.length-k) [Value.I 0]).flatten++rest)):=by rw[hH'];exact aR0 hlt
 have hyk:(ys.take k).length=k:=by rw[List.length_take];omega
 have g2:clr 1 [.I 0] (.slice (some ⟨c,k,none⟩) (zs.length-k) (cap-k)) H=some (.tuple #[],H'):=by
  unfold clr;simp only;rw[if_neg U,hc]
  unfold pT;simp only;rw[if_pos ⟨by decide,by simp;omega,rfl,rfl⟩,hH']
  congr 3
  unfold pT
  congr 1
  have hsplit:ys.map (Value.int .i64)=(ys.take k).map (Value.int .i64)++(ys.drop k).map (Value.int .i64):=by rw[<-List.map_append,List.take_append_drop]
  have hl:((List.replicate (zs.length-k) [Value.I 0]).flatten).length=zs.length-k:=by simp
  rw[hsplit];have:=uU ((List.replicate (zs.length-k) [Value.I 0]).flatten) ((ys.drop k).map (Value.int .i64)) ((ys.take k).map (Value.int .i64)) rest (by rw[hl,aR8,List.length_drop];omega)
  rw[aR8,hyk] at this;rw[this,aR1]
 have g3:=rW (P:=prog) (H:=H') (o:=0) (sz:=1) (len:=zs.length) (cap:=cap) (lo:=none) (hi:=some (.I (k:Nat))) (mx:=none) (h:=k) (m:=cap) (l:=0) hc' (λ_=>szI) rfl (lU _ .i64 k) rfl U U (aRZ _)
 rw[Nat.zero_mul,aSf,Nat.sub_zero,Nat.sub_zero] at g3;refine⟨_,H',g1,g2,g3,?_,by rw[hH'];simp,λb hb=>by rw[hH'];exact aRV (Ne.symm hb)⟩
 have hdl:(dd zs).length=k:=by rw[<-hd,hyk]
 refine⟨by rw[vW,aR8,Nat.mul_one],.inr ⟨c,cap,(List.replicate (zs.length-k) [Value.I 0]).flatten++rest,by rw[hdl],by omega,?_,by rw[vW,hc',hd];rfl⟩⟩
 simp[hdl];omega
def Yu (H0:aF)(c cap:Nat)(zs:List Int)(v:Value)(H':aF):Prop:=Iw H' v (dd zs)/\(∀b,cJ v b->b=c)/\H'.length=H0.length/\ ∀b,b≠c->H'[b]? =H0[b]?
theorem aIT {zs:List Int}{rest:List Value}{k0 kk:Nat}{H0:aF}{Q:aF->Value->Prop}(hQ: ∀H' v,Yu H0 c cap zs v H'->Q H' v)(hcap:zs.length<=cap)(hrest:rest.length=cap-zs.length)(hn:zs.length<=72057594037927936)(h1:1<=k0):
  ∀(q j t k:Nat)(H:aF)(ys:List Int),zs.length-j=q->j<=zs.length->q<k->k0<j->t<j->H[c]? =some (pT ys rest)->ys.length=zs.length->ys.take t=dd (zs.take j)->ys.drop t=zs.drop t->H.length=H0.length->(∀b,b≠c->H[b]? =H0[b]?)-> ∀(x1 x2 x6 x7 x8 x9 bS cE aV aR aS aQ aW aX aU bA bP bQ bO bK aY bC bE bG bH bI bJ bM bN bU cK cL cD bV bX bY b9 cA cF cM cO cP cT dB dE dF cU cV cW cY dJ dG dH cZ dP dS dQ:Value),
  ∃H' v,aM k (aN prog (lvl prog cN m) (aM m) Ni) (Nj (lvl prog cN m) (aM m) (Ck kk (aN prog (lvl prog cN m) (aM m) Gu) (C5 (lvl prog cN m) (aM m)))) [(.slice (some ⟨c,0,none⟩) zs.length cap),x1,x2,(.I (t:Nat)),(.slice (some ⟨c,k0,none⟩) (zs.length-k0) (cap-k0)),(.I (j-k0:Nat)),x6,x7,x8,x9,bS,cE,aV,aR,aS,aQ,aW,aX,aU,bA,bP,bQ,bO,bK,aY,bC,bE,bG,bH,bI,bJ,bM,bN,bU,cK,cL,cD,bV,bX,bY,b9,cA,cF,cM,cO,cP,cT,dB,dE,dF,cU,cV,cW,cY,dJ,dG,dH,cZ,dP,dS,dQ] H=some (v,H')/\Q H' v:=by
 intro q;induction q with
 |zero=>
  intro j t k H ys hr hj hk hkj htj hc hy hd hdr hl hf;intros;obtain⟨k,rfl⟩:=aB k U
  obtain rfl:j=zs.length:=U
  rw[List.take_of_length_le (aRZ _)] at hd;obtain⟨w,H',g1,g2,g3,g4,g5,g6⟩:=aIR hc hy htj hcap hrest hd;have e:decide (((zs.length-k0:Nat):Int)<(zs.length-k0:Nat))=false:=by simp
  refine⟨H',.slice (some ⟨c,0,none⟩) t cap,?_,hQ _ _ ⟨g4,λb ⟨_,_,_,h⟩=>by cases h;rfl,by omega,λb hb=>by rw[g6 b hb,hf b hb]⟩⟩
  rw[dR,Yi];simp only[gsR,vT,e];rw[aIp];simp only[gsR,g1,g2,g3];rw[aIr];rfl
 |succ q ih=>
  intro j t k H ys hr hj hk hkj htj hc hy hd hdr hl hf;intros;obtain⟨k,rfl⟩:=aB k U
  have e:decide (((j-k0:Nat):Int)<(zs.length-k0:Nat))=true:=by simp;omega
  have e3:IntKind.i64.wrap (((j-k0:Nat):Int)+1)=((j+1-k0:Nat):Int):=by rw[dL U U];omega
  have e4:IntKind.i64.wrap (((j-k0:Nat):Int)-1)=((j-1-k0:Nat):Int):=by rw[dL U U];omega
  have e5:=aA (i:=t) U
  have get: ∀i,t<=i->ys[i]? =zs[i]? :=λi hi=>by
   have:=congrArg (·[i-t]?) hdr
   simp only[List.getElem?_drop] at this;rwa [show t+(i-t)=i by omega] at this
  have ga:ys[j-1]? =some (zs[j-1]' U):=by rw[get _ U];exact aRW U
  have gb:ys[j]? =some (zs[j]' U):=by rw[get _ U];exact aRW U
  have i1:aT 1 (.slice (some ⟨c,k0,none⟩) (zs.length-k0) (cap-k0)) (.I (j-k0:Nat))=some (.Q c j):=by rw[ia U,show k0+(j-k0)=j by omega]
  have i2:aT 1 (.slice (some ⟨c,k0,none⟩) (zs.length-k0) (cap-k0)) (.I (j-1-k0:Nat))=some (.Q c (j-1)):=by rw[ia U,show k0+(j-1-k0)=j-1 by omega]
  have i3:aT 1 (.slice (some ⟨c,0,none⟩) zs.length cap) (.I (t:Nat))=some (.Q c t):=by rw[ia U,aSf]
  have l1:=Bb hc gb;have l2:=Bb hc ga;have s1:=Yz (i:=t) (zs[j]' U) hc U
  have hdt:=Yy (zs:=zs) (j:=j) U (aRW (show j-1<zs.length by omega)) (aRW (show j<zs.length by omega))
  rw[dR,Yi];by_cases hx:zs[j]' U=zs[j-1]' U
  ·have d:((zs[j]' U)!=(zs[j-1]' U))=false:=by simp[hx]
   rw[if_pos hx] at hdt;simp only[gsR,vT,e,i1,l1,iC,e4,i2,l2,d,cR,e3];exact ih (j+1) t k H ys U U U U U hc hy (by rw[hdt];exact hd) hdr hl hf ..
  ·have d:((zs[j]' U)!=(zs[j-1]' U))=true:=by simp[hx]
   rw[if_neg hx] at hdt;simp only[gsR,vT,e,i1,l1,iC,e4,i2,l2,d,i3,s1,cR,e3,e5];refine ih (j+1) (t+1) k _ (ys.set t (zs[j]' U)) U U U U U (aR0 (aRU.mp hc).1) (by rw[List.length_set];exact hy) ?_ ?_ (by rw[List.length_set];exact hl) (λb hb=>by rw[aRV (Ne.symm hb)];exact hf b hb) ..
   ·rw[hdt,<-hd,List.take_add_one,aR0 U,List.take_set_of_le (aRZ _)]
    rfl
   ·rw[List.drop_set_of_lt U,<-aSD (i:=1),hdr,aSD]
theorem aIS {zs:List Int}{rest:List Value}{Q:aF->Value->Prop}(hQ: ∀H' v,Yu H c cap zs v H'->Q H' v)(hcap:zs.length<=cap)(hrest:rest.length=cap-zs.length)(hn:zs.length+10<m)(hm:m<=72057594037927936)(hc:H[c]? =some (pT zs rest)):
  ∀(q j k:Nat),zs.length-j=q->1<=j->j<=zs.length->q<k->dd (zs.take j)=zs.take j-> ∀(x1 x2 x4 x5 x6 x7 x8 x9 bS cE aV aR aS aQ aW aX aU bA bP bQ bO bK aY bC bE bG bH bI bJ bM bN bU cK cL cD bV bX bY b9 cA cF cM cO cP cT dB dE dF cU cV cW cY dJ dG dH cZ dP dS dQ:Value),
  ∃H' v,aM k (aN prog (lvl prog cN m) (aM m) Gu) (C5 (lvl prog cN m) (aM m)) [(.slice (some ⟨c,0,none⟩) zs.length cap),x1,x2,(.I (j:Nat)),x4,x5,x6,x7,x8,x9,bS,cE,aV,aR,aS,aQ,aW,aX,aU,bA,bP,bQ,bO,bK,aY,bC,bE,bG,bH,bI,bJ,bM,bN,bU,cK,cL,cD,bV,bX,bY,b9,cA,cF,cM,cO,cP,cT,dB,dE,dF,cU,cV,cW,cY,dJ,dG,dH,cZ,dP,dS,dQ] H=some (v,H')/\Q H' v:=by
 intro q;induction q with
 |zero=>
  intro j k hr h1 hj hk hd;intros;obtain⟨k,rfl⟩:=aB k U
  obtain rfl:j=zs.length:=U
  rw[List.take_of_length_le (aRZ _)] at hd;have e:decide ((zs.length:Int)<zs.length)=false:=by simp
  refine⟨H,.slice (some ⟨c,0,none⟩) zs.length cap,?_,hQ _ _ ⟨?_,λb ⟨_,_,_,h⟩=>by cases h;rfl,rfl,λb hb=>rfl⟩⟩
  ·rw[dR,Yh]
   simp only[gsR,vT,e];rw[aIo];rfl
  ·rw[hd]
   exact⟨by rw[vW,aR8,Nat.mul_one],.inr ⟨c,cap,rest,rfl,hcap,by rw[hrest,Nat.mul_one],by rw[vW,hc];rfl⟩⟩
 |succ q ih=>
  intro j k hr h1 hj hk hd;intros;obtain⟨k,rfl⟩:=aB k U
  have e:decide ((j:Int)<zs.length)=true:=by simp;omega
  have e3:=aA (i:=j) U
  have e4:IntKind.i64.wrap ((j:Int)-1)=((j-1:Nat):Int):=by rw[dL U U];omega
  have i1:aT 1 (.slice (some ⟨c,0,none⟩) zs.length cap) (.I (j:Nat))=some (.Q c j):=by rw[ia U,aSf]
  have i2:aT 1 (.slice (some ⟨c,0,none⟩) zs.length cap) (.I (j-1:Nat))=some (.Q c (j-1)):=by rw[ia U,aSf]
  have ga:zs[j-1]? =some (zs[j-1]' U):=aRW U
  have gb:zs[j]? =some (zs[j]' U):=aRW U
  have l1:=Bb hc gb;have l2:=Bb hc ga;have hdt:=Yy (zs:=zs) (j:=j) U ga gb
  rw[dR,Yh];by_cases hx:zs[j]' U=zs[j-1]' U
  ·have d:((zs[j]' U)==(zs[j-1]' U))=true:=by simp[hx]
   have g1:=rW (P:=prog) (H:=H) (o:=0) (sz:=1) (len:=zs.length) (cap:=cap) (lo:=some (.I (j:Nat))) (hi:=none) (mx:=none) (h:=zs.length) (m:=cap) (l:=j) hc (λ_=>szI) (lU 0 .i64 j) rfl rfl U U (aRZ _)
   rw[aSf,Nat.mul_one] at g1;rw[if_pos hx] at hdt;have e1:(1:Int)=((j+1-j:Nat):Int):=U
   simp only[gsR,vT,e,i1,l1,iC,e4,i2,l2,d,g1];have:=aIT (m:=m) (kk:=k) (H0:=H) (cap:=cap) (c:=c) (k0:=j) hQ hcap hrest U h1 (zs.length-(j+1)) (j+1) j m H zs rfl U U U U hc rfl (by rw[hdt,hd]) rfl rfl (λ_ _=>rfl)
   rw[<-e1] at this;exact this ..
  ·have d:((zs[j]' U)==(zs[j-1]' U))=false:=by simp[hx]
   rw[if_neg hx] at hdt;simp only[gsR,vT,e,i1,l1,iC,e4,i2,l2,d,cR,e3];exact ih (j+1) k U U U U (by rw[hdt,hd,List.take_add_one,gb];rfl) ..
theorem Yv {v:Value}{zs:List Int}{H0:aF}(hv:Iw H v zs)(hnew:New H0 v)(he:Ext H0 H)(hn:zs.length+20<m)(hm:m<=72057594037927936): ∃H' u,lvl prog cN m (.func 83) [v] H=some (u,H')/\Ext H0 H'/\Iw H' u (dd zs)/\New H0 u:=by
 have hlen:=hv.rX;refine gN (gX rfl rfl) U ?_
 rw[aIq];by_cases h2:zs.length<2
 ·have e:decide ((zs.length:Int)<2)=true:=by simp;omega
  have hd:dd zs=zs:=by
   match zs,h2 with
   |[],_=>rfl
   |[x],_=>rfl
   |x::y::r,h=>exact absurd h (by simp only[aSg];omega)
  refine⟨H,v,?_,he,by rw[hd];exact hv,hnew⟩
  simp only[gsR,hlen,e]
 ·have e:decide ((zs.length:Int)<2)=false:=by simp;omega
  obtain⟨hcs,⟨rfl,h0⟩|⟨c,cap,rest,rfl,h1,h2',h3⟩⟩:=hv
  ·omega
  ·rw[vW] at h3
   rw[Nat.mul_one] at h2';have hcl:=hnew c ⟨_,_,_,rfl⟩;simp only[gsR,hlen,e];have hd1:dd (zs.take 1)=zs.take 1:=by
    match zs with
    |[]=>rfl
    |x::r=>rfl
   refine aIS (λH' u hC=> ?_) h1 h2' U U h3 (zs.length-1) 1 (m-1) rfl (aRZ _) U U hd1 ..
   obtain⟨g2,g3,g4,g5⟩:=hC;refine⟨⟨by rw[g4];exact he.1,λb hb _=> ?_⟩,g2,λb hb=>by rw[g3 b hb];exact hcl⟩
   rw[g5 b U,he.2 b hb id]
end
def oA (v:Int)(e:Ed):List Int:=if e.1=e.2 then [] else if e.1=v then [e.2] else if e.2=v then [e.1] else []
def iF (es:List Ed)(v:Int):List Int:=es.flatMap (oA v)
def bes (es:List Ed)(v:Int):List Int:=dd (srt (iF es v))
theorem Gz (v:Int): ∀es:List Ed,(iF es v).length<=es.length
 |[]=>aRZ _
 |e::es=>by
  have:=Gz v es;unfold iF at*;rw[List.flatMap_cons,aR6];have h1:(oA v e).length<=1:=by
   unfold oA;split
   ·simp
   ·split
    ·simp
    ·split<;>simp
  simp only[aSg];omega
theorem aIQ {es:List Ed}{i:Nat}{e:Ed}(v:Int)(h:es[i]? =some e):iF (es.take (i+1)) v=iF (es.take i) v++oA v e:=by
 unfold iF;rw[List.take_add_one,h];simp
theorem pS (H:aF)(k:Int):dT 3 1 1 [.I 0] [(0,.I k)] H=some (.slice (some ⟨H.length,0,none⟩) 1 1,H++[.cells (inC k) 3 .row]):=rfl
theorem zEd:Blk.cells [Value.int .i64 0,.int .i64 0] 34 .fix= .cells (edC (0,0)) 34 .fix:=rfl
def edB (y:Ed):Blk:= .cells (edC y) 34 .fix
theorem aIW (y:Ed)(H:aF):stN 2 (.Q H.length 0) (edV y) (H++[.cells (edC (0,0)) 34 .fix])=some (undef,H++[edB y]):=by
 rw[mA 2 _ _ _ rfl,fA,oK _ _ _ _ _ _ aC (by simp[edC,edV,Value.cells]) rfl]
 simp[edC,edV,Value.cells,eT,edB]
theorem aIU {H:aF}{b:Nat}{y:Ed}(h:H[b]? =some (edB y)):ld1 (.Q b 0) H=some (.I y.1,H):=by rw[kM,h];rfl
theorem aIV {H:aF}{b:Nat}{y:Ed}(h:H[b]? =some (edB y)):ld1 (.Q b 1) H=some (.I y.2,H):=by rw[kM,h];rfl
section
variable {H : aF} {m : Nat} {p : PlanD} {ev wv nv : Value}
theorem aIP {v:Int}{Q:aF->Value->Prop}(hQ: ∀H' u,Ext H H'->Iw H' u (bes p.edges v)->New H u->Q H' u)(hx:Es H ev p.edges)(hL:p.edges.length<=17592186043000)(hn:p.edges.length+30<m)(hm:m<=72057594037927936): ∀(q i k:Nat)(H1:aF)(acc:Value),p.edges.length-i=q->i<=p.edges.length->q<k->Ext H H1->Iw H1 acc (iF (p.edges.take i) v)->New H acc-> ∀(x0 x2 x3 x4 x6 x7 x8 aV aR aS aQ aW aX aU bA bP bQ bO bK aY bC bE bG bH bI bJ bM bN bU cK cL cD bV bX bY b9 cA cF cM cO cP:Value),
  ∃H' u,aM k (aN prog (lvl prog cN m) (aM m) Na) (Nb (lvl prog cN m) (aM m)) [x0,(.I v),x2,x3,x4,acc,x6,x7,x8,ev,(.I p.edges.length),(.I (i:Nat)),aV,aR,aS,aQ,aW,aX,aU,bA,bP,bQ,bO,bK,aY,bC,bE,bG,bH,bI,bJ,bM,bN,bU,cK,cL,cD,bV,bX,bY,b9,cA,cF,cM,cO,cP] H1=some (u,H')/\Q H' u:=by
 intro q;induction q with
 |zero=>
  intro i k H1 acc hr hi hk he ha hnew;intros;obtain⟨k,rfl⟩:=aB k U
  obtain rfl:i=p.edges.length:=U
  have e:decide ((p.edges.length:Int)<p.edges.length)=false:=by simp
  rw[List.take_of_length_le (aRZ _)] at ha;have hcl:=Gz v p.edges;obtain⟨H2,g1,g2,g3⟩:=Xf ha U hnew he
  have g1':=Yk m U [acc] H1
  rw[g1] at g1';have hsl:=sT (iF p.edges v);obtain⟨H3,u,q1,q2,q3,q4⟩:=Yv (m:=m) g2 hnew g3 U U
  refine⟨H3,u,?_,hQ _ _ q2 q3 q4⟩;rw[dR,Ye];simp only[gsR,e];rw[aIg];simp only[gsR,g1',q1]
 |succ q ih=>
  intro i k H1 acc hr hi hk he ha hnew;intros;obtain⟨k,rfl⟩:=aB k U
  have e:decide ((i:Int)<p.edges.length)=true:=by simp;omega
  have e3:=aA (i:=i) U
  have hxi:p.edges[i]? =some p.edges[i]:=aRW U
  obtain⟨b,o,g1,g2,g3⟩:=(hx.ext he).fS o7 hxi .i64;obtain⟨y,hy⟩:=aD (p.edges[i]);have l1:ldN 2 (.Q b o) H1=some (edV y,H1):=by rw[hy];exact(g3 H1 rfl).1
  rw[<-hy] at hxi;have hct:=aIQ v hxi;have hcl:=Gz v (p.edges.take i);rw[List.length_take] at hcl;have st:=aIW y H1;obtain⟨H2,hH2⟩:=aD (H1++[edB y]);rw[<-hH2] at st;have x1:Ext H1 H2:=by rw[hH2];exact Fr.app _ _ _
  have hb:H2[H1.length]? =some (edB y):=by rw[hH2];exact fA _ _
  have la:=aIU hb;have lb:=aIV hb;have ha2:Iw H2 acc (iF (p.edges.take i) v):=by rw[hH2];exact ha.wY _
  rw[dR,Ye];by_cases c1:y.1=y.2
  ·have d1:(y.1==y.2)=true:=by simpa using c1
   have hc0:oA v y=[]:=if_pos c1;rw[hc0,List.append_nil] at hct;simp only[gsR,e,g1,l1,zEd,st,la,lb,d1,cR,e3];exact ih (i+1) k H2 acc U U U (he.tr x1) (by rw[hct];exact ha2) hnew ..
  ·have d1:(y.1==y.2)=false:=by simpa using c1
   by_cases c2:y.1=v
   ·have d2:(y.1==v)=true:=by simpa using c2
    have hc0:oA v y=[y.2]:=by unfold oA;rw[if_neg c1,if_pos c2]
    rw[hc0] at hct;obtain⟨u,H3,t1,t2,t3,t4⟩:=ha2.tV (by':=8) gV pR aC y.2 hnew (he.tr x1) (iE (n:=17592186044100) aC U)
    simp only[gsR,e,g1,l1,zEd,st,la,lb,d1,d2,pS,t1,cR,e3];exact ih (i+1) k H3 u U U U t4 (by rw[hct];exact t2) t3 ..
   ·have d2:(y.1==v)=false:=by simpa using c2
    by_cases c3:y.2=v
    ·have d3:(y.2==v)=true:=by simpa using c3
     have hc0:oA v y=[y.1]:=by unfold oA;rw[if_neg c1,if_neg c2,if_pos c3]
     rw[hc0] at hct;obtain⟨u,H3,t1,t2,t3,t4⟩:=ha2.tV (by':=8) gV pR aC y.1 hnew (he.tr x1) (iE (n:=17592186044100) aC U)
     simp only[gsR,e,g1,l1,zEd,st,la,lb,d1,d2,d3,pS,t1,cR,e3];exact ih (i+1) k H3 u U U U t4 (by rw[hct];exact t2) t3 ..
    ·have d3:(y.2==v)=false:=by simpa using c3
     have hc0:oA v y=[]:=by unfold oA;rw[if_neg c1,if_neg c2,if_neg c3]
     rw[hc0,List.append_nil] at hct;simp only[gsR,e,g1,l1,zEd,st,la,lb,d1,d2,d3,cR,e3];exact ih (i+1) k H2 acc U U U (he.tr x1) (by rw[hct];exact ha2) hnew ..
theorem No (hp:PV H p ev wv nv)(hn:p.edges.length+40<m)(hm:m<=72057594037927936)(v:Int): ∃H' u,lvl prog cN m (.func 37) [plV p ev wv nv,.I v] H=some (u,H')/\Ext H H'/\Iw H' u (bes p.edges v)/\New H u:=by
 refine gN (gX rfl rfl) U ?_
 have hb:=fA H (plB p ev wv nv);have l1:=eC hb 1 _ rfl;have hlen:=hp.e.gW;rw[aIh];simp only[gsR,mC,l1,hlen];exact aIP (λH' u h1 h2 h3=>⟨h1,h2,h3⟩) hp.e hp.be (m:=m-1) U U p.edges.length 0 (m-1) _ _ U U U (Fr.app _ _ _) (Rw.kP (el:=inC)) (New.mT _) ..
end
def Nq (xs:List Int)(w:Int):Int:=fst (λj=>xs[j]? ==some w) xs.length 0
def o9 (es:List Ed)(v:Nat):List Ed:=((bes es v).filter λw=>wi w 0 5).map λw=>((v:Int),w)
def nR (p:PlanD):Nat:=(min (max p.nodes 0) 6).toNat
def dM (p:PlanD):List Ed:=(List.range (nR p)).flatMap (o9 p.edges)
abbrev Hs (H:aF)(v:Value)(xs:List Ed):=Rs edC 67 H v xs
abbrev Hw (H:aF)(v:Value)(xs:List Ed):=Rw edC 67 2 H v xs
theorem C7 (z:Int): ∀l,z∈dd l↔z∈l
 |[]=>Iff.rfl
 |[x]=>Iff.rfl
 |x::y::r=>by
  have ih:=C7 z (y::r);unfold dd;split
  ·rename_i h
   subst h;rw[ih];simp
  ·simp only[aSd] at ih⊢
   rw[ih]
theorem He: ∀l:List Int,l.Pairwise (· <= ·)->(dd l).Pairwise (· < ·)
 |[],_=>List.Pairwise.nil
 |[x],_=>by simp[dd]
 |x::y::r,h=>by
  obtain⟨h1,h2⟩:=List.pairwise_cons.mp h;have ih:=He (y::r) h2;unfold dd;split
  ·exact ih
  ·rename_i hne
   refine List.pairwise_cons.mpr ⟨λz hz=> ?_,ih⟩
   have hz':=(C7 z _).mp hz;have h3:=h1 y (by simp)
   have h4:y<=z:=by
    rcases aSd.mp hz' with rfl|hz'
    ·exact Int.le_refl _
    ·exact(List.pairwise_cons.mp h2).1 z hz'
   omega
theorem G9 (es:List Ed)(v:Int):(bes es v).Pairwise (· < ·):=He _ (Cq _)
theorem Hf: ∀(l:List Int)(lo hi:Int),l.Pairwise (· < ·)->(∀x∈l,lo<=x/\x<=hi)->lo<=hi+1->(l.length:Int)<=hi+1-lo
 |[],lo,hi,_,_,h=>by simp;omega
 |x::r,lo,hi,hp,hb,h=>by
  obtain⟨h1,h2⟩:=List.pairwise_cons.mp hp;have hx:=hb x (by simp)
  have:=Hf r (x+1) hi h2 (λy hy=>⟨by have:=h1 y hy;omega,(hb y (by simp[hy])).2⟩) U
  simp only[aSg];omega
theorem Y2 (l:List Int)(h:l.Pairwise (· < ·)):(l.filter λw=>wi w 0 5).length<=6:=by
 have:=Hf (l.filter λw=>wi w 0 5) 0 5 (h.sublist (List.filter_sublist)) (λx hx=>by
  have:=(List.mem_filter.mp hx).2;unfold wi at this;simpa using this) U
 omega
section
variable {H : aF} {m : Nat} {p : PlanD} {ev wv nv : Value}
theorem aI2 {v:Value}{xs:List Int}{w:Int}(hx:Is H v xs)(hn:xs.length<=72057594037927936): ∀(q i k:Nat),xs.length-i=q->i<=xs.length->q<k-> ∀(x2 x3 x4 x5 x6 x9 bS cE aV aR aS aQ aW aX aU:Value),
  aM k (aN prog (lvl prog cN m) (aM m) Mu) (Gr (lvl prog cN m) (aM m)) [v,(.I w),x2,x3,x4,x5,x6,(.I xs.length),(.I (i:Nat)),x9,bS,cE,aV,aR,aS,aQ,aW,aX,aU] H=some (.I (fst (λj=>xs[j]? ==some w) q i),H):=by
 intro q;induction q with
 |zero=>
  intro i k hr hi hk;intros;obtain⟨k,rfl⟩:=aB k U
  obtain rfl:xs.length=i:=U
  have e:decide (((xs.length:Nat):Int)<(xs.length:Nat))=false:=by simp
  rw[dR,X5];simp only[gsR,e];rw[aH1];rfl
 |succ q ih=>
  intro i k hr hi hk;intros;obtain⟨k,rfl⟩:=aB k U
  have e:decide ((i:Int)<(xs.length:Nat))=true:=aSE U
  have e3:=aA (i:=i) U
  have hxi:xs[i]? =some xs[i]:=aRW U
  obtain⟨b,o,g1,g2,g3⟩:=hx.fS gV hxi .i64;have l1:ld1 (.Q b o) H=some (.I xs[i],H):=(g3 H rfl).2.1 0 _ rfl;rw[dR,X5];unfold fst;by_cases h:w=xs[i]
  ·have d:(w==xs[i])=true:=by rw[h];simp
   have d2:(xs[i]? ==some w)=true:=by rw[hxi,h];simp
   simp only[gsR,e,g1,l1,d];rw[aH3,if_pos d2];rfl
  ·have d:(w==xs[i])=false:=by simpa using h
   have d2: ¬(xs[i]? ==some w)=true:=by rw[hxi];simpa using λhh=>h hh.symm
   simp only[gsR,e,g1,l1,d,cR,e3];rw[if_neg d2];exact ih (i+1) k U U U ..
theorem aI1 {v:Value}{xs:List Int}(hx:Is H v xs)(w:Int)(hn:xs.length+10<m)(hm:m<=72057594037927936):lvl prog cN m (.func 161) [v,.I w] H=some (.I (Nq xs w),H):=by
 have hlen:=hx.gW;refine cS (gX rfl rfl) U ?_
 rw[aH2];simp only[gsR,hlen];exact aI2 hx U xs.length 0 (m-1) U U U ..
theorem Y1 (es:List Ed)(v:Int):(bes es v).length<=es.length:=by
 have h1:=Yw (srt (iF es v));have h2:=sT (iF es v);have h3:=Gz v es;unfold bes;omega
theorem Y0 (a b:Int):bld prog 67 [(0,.I a),(1,.I b)]=some (edV (a,b)):=rfl
theorem aIX (H:aF)(y:Ed):dT 67 2 1 [.I 0,.I 0] [(0,edV y)] H=some (.slice (some ⟨H.length,0,none⟩) 1 1,H++[.cells (edC y) 67 .row]):=rfl
theorem aI0 {H0:aF}{a:Nat}{v:Nat}{ws:List Int}{hs:List Ed}{Q:aF->Value->Prop}{K:Ex->K (Value×aF)}{bn:Int}{u:Value}(hs1:hs.length+(ws.filter λw=>wi w 0 5).length<=1000)(hws:ws.length<=72057594037927936)(hm:0<m)
  (hK: ∀(H':aF)(acc:Value),Ext H0 H'->Hw H' acc (hs++(ws.filter λw=>wi w 0 5).map λw=>((v:Int),w))->New H0 acc-> ∀(x0 x2 x4 x5 x6 x7 x8 x9 aV aR aS aQ aW aX aU bA bP bQ bO bK aY bC bE bG bH bI bJ bM bN:Value),∃H2 u2,K .normal [x0,(.pointer (some ⟨a,0,none⟩)),x2,acc,x4,x5,x6,x7,x8,x9,(.int .i64 bn),(.int .i64 (IntKind.i64.wrap ((v:Int)+1))),aV,aR,aS,aQ,aW,aX,aU,bA,bP,bQ,bO,bK,aY,bC,bE,bG,bH,bI,bJ,bM,bN] H'=some (u2,H2)/\Q H2 u2): ∀(q i k:Nat)(H1:aF)(acc:Value),ws.length-i=q->i<=ws.length->q<k->Ext H0 H1->Is H1 u ws->Apart H1 u acc->Hw H1 acc (hs++((ws.take i).filter λw=>wi w 0 5).map λw=>((v:Int),w))->New H0 acc-> ∀(x0 x2 x5 x6 x7 x8 x9 aV aR aS aQ bA bP bQ bO bK aY bC bE bG bH bI bJ bM bN:Value),
  ∃H' u2,aM k (aN prog (lvl prog cN m) (aM m) Nd) (Ng (lvl prog cN m) (aM m) K) [x0,(.Q a 0),x2,acc,(.I (v:Nat)),x5,x6,x7,x8,x9,(.I bn),(.I (v:Nat)),aV,aR,aS,aQ,u,(.I ws.length),(.I (i:Nat)),bA,bP,bQ,bO,bK,aY,bC,bE,bG,bH,bI,bJ,bM,bN] H1=some (u2,H')/\Q H' u2:=by
 intro q;induction q with
 |zero=>
  intro i k H1 acc hr hi hk he hu hap ha hnew;intros;obtain⟨k,rfl⟩:=aB k U
  obtain rfl:ws.length=i:=U
  have e:decide (((ws.length:Nat):Int)<(ws.length:Nat))=false:=by simp
  rw[List.take_of_length_le (aRZ _)] at ha;rw[dR,Yg];simp only[gsR,e];rw[aIj];simp only[gsR,cR];exact hK H1 acc he ha hnew ..
 |succ q ih=>
  intro i k H1 acc hr hi hk he hu hap ha hnew;intros;obtain⟨k,rfl⟩:=aB k U
  have e:decide ((i:Int)<(ws.length:Nat))=true:=aSE U
  have e3:=aA (i:=i) U
  have hxi:ws[i]? =some ws[i]:=aRW U
  obtain⟨b,o,g1,g2,g3⟩:=hu.fS gV hxi .i64;have l1:ld1 (.Q b o) H1=some (.I ws[i],H1):=(g3 H1 rfl).2.1 0 _ rfl;have htake:ws.take (i+1)=ws.take i++[ws[i]]:=by rw[List.take_add_one,hxi];rfl
  have w1:=Yr (m:=m) hm ws[i] 0 5 H1;have hfl:((ws.take i).filter λw=>wi w 0 5).length<=(ws.filter λw=>wi w 0 5).length:=(List.Sublist.filter _ (List.take_sublist i ws)).length_le
  rw[dR,Yg];cases c:wi ws[i] 0 5 with
  |true=>
   rw[c] at w1;obtain⟨acc2,H2,t1,t2,t3,t4,t5,t6⟩:=ha.Mj (by':=16) o7 Ba aC ((v:Int),ws[i]) hnew he (iE (n:=1000000) aC (by simp only[aR6,aR8];omega))
   simp only[gsR,e,g1,l1,w1,Y0,aIX,t1,cR,e3];refine ih (i+1) k H2 acc2 U U U t4 (hu.aGZ hap t5) (hap.up t5 t6) ?_ t3 ..
   ·rw[htake,List.filter_append,List.map_append,<-aR1]
    have:([ws[i]].filter λw=>wi w 0 5)=[ws[i]]:=by rw[List.filter_cons,if_pos c];rfl
    rw[this];exact t2
  |false=>
   rw[c] at w1;simp only[gsR,e,g1,l1,w1,cR,e3];refine ih (i+1) k H1 acc U U U he hu hap ?_ hnew ..
   have:([ws[i]].filter λw=>wi w 0 5)=[]:=by rw[List.filter_cons,if_neg (by rw[c];decide)];rfl
   rw[htake,List.filter_append,this,List.append_nil];exact ha
theorem aIY (es:List Ed)(v:Nat):(o9 es v).length<=6:=by
 have h2:=Y2 _ (G9 es v);unfold o9;rw[aR8];omega
theorem Np (es:List Ed): ∀i,((List.range i).flatMap (o9 es)).length<=i*6
 |0=>by simp
 |i+1=>by
  have:=Np es i;have:=aIY es i;rw[aSt,List.flatMap_append,aR6,Nat.succ_mul];simp only[List.flatMap_cons,List.flatMap_nil,List.append_nil];omega
theorem xC (p:PlanD):(dM p).length<=36:=by
 have:=Np p.edges (nR p);have h6:nR p<=6:=by unfold nR;omega
 unfold dM;omega
theorem aI4 (a b:Int):nC prog false [.I a,.I b]=some (.I (min a b)):=by
 simp[nC,eE,iI,pur,Builtin.min_,Builtin.min2,pure,bind,Sem.bind]
 split<;>omega
theorem aI3 (a b:Int):nC prog true [.I a,.I b]=some (.I (max a b)):=by
 simp[nC,eE,iI,pur,Builtin.max_,Builtin.max2,pure,bind,Sem.bind]
 split<;>omega
theorem aIZ {H0:aF}{a:Nat}(hp:PV H0 p ev wv nv)(hn:p.edges.length+60<m)(hm:m<=72057594037927936): ∀(q i k:Nat)(H1:aF)(acc:Value),(nR p)-i=q->i<=(nR p)->q<k->Ext H0 H1->H0[a]? =some (plB p ev wv nv)->Hw H1 acc ((List.range i).flatMap (o9 p.edges))->New H0 acc-> ∀(x0 x2 x4 x5 x6 x7 x8 x9 aV aR aS aQ aW aX aU bA bP bQ bO bK aY bC bE bG bH bI bJ bM bN:Value),
  ∃H' u2,aM k (aN prog (lvl prog cN m) (aM m) Nc) (Nf (lvl prog cN m) (aM m)) [x0,(.Q a 0),x2,acc,x4,x5,x6,x7,x8,x9,(.I (nR p)),(.I (i:Nat)),aV,aR,aS,aQ,aW,aX,aU,bA,bP,bQ,bO,bK,aY,bC,bE,bG,bH,bI,bJ,bM,bN] H1=some (u2,H')/\Ext H0 H'/\Hw H' u2 (dM p)/\New H0 u2:=by
 intro q;have h6:nR p<=6:=by unfold nR;omega
 induction q with
 |zero=>
  intro i k H1 acc hr hi hk he hb0 ha hnew;intros;obtain⟨k,rfl⟩:=aB k U
  obtain rfl:(nR p)=i:=U
  have e:decide ((((nR p):Nat):Int)<((nR p):Nat))=false:=by simp
  refine⟨H1,acc,?_,he,ha,hnew⟩;rw[dR,Yf];simp only[gsR,e];rw[aIi];rfl
 |succ q ih=>
  intro i k H1 acc hr hi hk he hb0 ha hnew;intros;obtain⟨k,rfl⟩:=aB k U
  have e:decide ((i:Int)<((nR p):Nat))=true:=aSE U
  have e3:=aA (i:=i) U
  have hb:=eS hb0 he;have l11:=lC hb;obtain⟨H2,u,g1,g2,g3,g4⟩:=No (hp.ext he) (m:=m) U U (i:Int)
  have hlen:=g3.rX;have hble:=Y1 p.edges (i:Int);have hol:=Np p.edges i;have hff:=Y2 _ (G9 p.edges (i:Int));have hL:=hp.be;have hap:Apart H2 u acc:=λb hb=>⟨g3.gU hb,λhc=>by have:=g4 b hb;have:=ha.gU hc;omega⟩
  have ha2:Hw H2 acc ((List.range i).flatMap (o9 p.edges)):=ha.eY λb hb=>g2.2 b (ha.gU hb) id
  rw[dR,Yf];simp only[gsR,e,l11,g1,hlen];refine aI0 (H0:=H0) (a:=a) (v:=i) (ws:=bes p.edges (i:Int)) (hs:=(List.range i).flatMap (o9 p.edges)) (Q:=λH' u2=>Ext H0 H'/\Hw H' u2 (dM p)/\New H0 u2) U U U ?_ (bes p.edges (i:Int)).length 0 m H2 acc U U U (he.tr g2) g3.rs hap (by simpa using ha2) hnew ..
  intro H3 acc3 k1 k2 k3;intros;rw[again_normal,e3];refine ih (i+1) k H3 acc3 U U U k1 hb0 ?_ k3 ..
  rw[aSt,List.flatMap_append];simpa[o9] using k2
theorem Y3 (hp:PV H p ev wv nv)(hn:p.edges.length+70<m)(hm:m<=72057594037927936): ∃H' u,lvl prog cN m (.func 66) [plV p ev wv nv] H=some (u,H')/\Ext H H'/\Hw H' u (dM p)/\New H u:=by
 have hL:=hp.be;obtain⟨H0,hH0⟩:=aD (H++[plB p ev wv nv]);have x0:Ext H H0:=by rw[hH0];exact Fr.app _ _ _
 have b0:H0[H.length]? =some (plB p ev wv nv):=by rw[hH0];exact fA _ _
 have l0:=eC b0 0 _ rfl;have h6:nR p<=6:=by unfold nR;omega
 have e1:nC prog true [.I p.nodes,.I 0]=some (.I (max p.nodes 0)):=aI3 p.nodes 0;have e2:nC prog false [.I (max p.nodes 0),.I 6]=some (.I (nR p)):=by
  rw[aI4]
  congr 2
  unfold nR;omega
 obtain⟨H',u,g1,g2,g3,g4⟩: ∃H' u,lvl prog cN m (.func 66) [plV p ev wv nv] H=some (u,H')/\Ext H0 H'/\Hw H' u (dM p)/\New H0 u:=by
  refine gN (gX rfl rfl) U ?_
  rw[aIk];simp only[gsR,mC,<-hH0,l0,e1,e2];exact aIZ (hp.ext x0) (m:=m-1) U U (nR p) 0 (m-1) H0 _ U U U (Fr.kO _ _) b0 (Rw.kP (el:=edC)) (New.mT _) ..
 exact⟨H',u,g1,x0.tr g2,g3,λb hb=>aSa x0.1 (g4 b hb)⟩
end
def r8 (x:Int):List Int->List Int
 |[]=>[x]
 |y::r=>if y<x then y::r8 x r else if y=x then x::r else x::y::r
theorem Hg (x z:Int): ∀l,z∈r8 x l↔z=x∨z∈l
 |[]=>by simp[r8]
 |y::r=>by
  unfold r8;split
  ·simp only[aSd,Hg x z r]
   constructor
   ·rintro (h|h|h)
    ·exact .inr (.inl h)
    ·exact .inl h
    ·exact .inr (.inr h)
   ·rintro (h|h|h)
    ·exact .inr (.inl h)
    ·exact .inl h
    ·exact .inr (.inr h)
  ·split
   ·rename_i h
    subst h;simp
   ·simp
theorem Y4 (x:Int): ∀l,l.Pairwise (· < ·)->(r8 x l).Pairwise (· < ·)
 |[],_=>by simp[r8]
 |y::r,h=>by
  obtain⟨h1,h2⟩:=List.pairwise_cons.mp h;unfold r8;split
  ·rename_i hyx
   refine List.pairwise_cons.mpr ⟨λz hz=> ?_,Y4 x r h2⟩
   rcases(Hg x z r).mp hz with rfl|hz
   ·exact hyx
   ·exact h1 z hz
  ·rename_i hyx
   split
   ·rename_i hh
    subst hh;exact h
   ·rename_i hne
    refine List.pairwise_cons.mpr ⟨λz hz=> ?_,h⟩
    rcases aSd.mp hz with rfl|hz
    ·omega
    ·have:=h1 z hz
     omega
theorem Ns: ∀(l l':List Int),l.Pairwise (· < ·)->l'.Pairwise (· < ·)->(∀z,z∈l↔z∈l')->l=l'
 |[],[],_,_,_=>rfl
 |[],y::r,_,_,h=>absurd ((h y).mpr (by simp)) (by simp)
 |x::l,[],_,_,h=>absurd ((h x).mp (by simp)) (by simp)
 |x::l,y::r,h1,h2,h=>by
  obtain⟨a1,a2⟩:=List.pairwise_cons.mp h1;obtain⟨b1,b2⟩:=List.pairwise_cons.mp h2;have hxy:x=y:=by
   have h3:=(h x).mp (by simp)
   have h4:=(h y).mpr (by simp)
   rcases aSd.mp h3 with h3|h3
   ·exact h3
   ·rcases aSd.mp h4 with h4|h4
    ·exact h4.symm
    ·have:=b1 x h3
     have:=a1 y h4;omega
  subst hxy;rw[Ns l r a2 b2 λz=> ?_]
  constructor
  ·intro hz
   rcases aSd.mp ((h z).mp (by simp[hz])) with h3|h3
   ·have:=a1 z hz
    omega
   ·exact h3
  ·intro hz
   rcases aSd.mp ((h z).mpr (by simp[hz])) with h3|h3
   ·have:=b1 z hz
    omega
   ·exact h3
def xG (l xs:List Int):List Int:=xs.foldl (λl x=>r8 x l) l
theorem Y5 (z:Int): ∀(xs l:List Int),z∈xG l xs↔z∈l∨z∈xs
 |[],l=>by simp[xG]
 |x::xs,l=>by
  have:=Y5 z xs (r8 x l);unfold xG at*;rw[List.foldl_cons,this,Hg,aSd];constructor
  ·rintro ((h|h)|h)
   ·exact .inr (.inl h)
   ·exact .inl h
   ·exact .inr (.inr h)
  ·rintro (h|h|h)
   ·exact .inl (.inr h)
   ·exact .inl (.inl h)
   ·exact .inr h
theorem Y6: ∀(xs l:List Int),l.Pairwise (· < ·)->(xG l xs).Pairwise (· < ·)
 |[],l,h=>h
 |x::xs,l,h=>by
  unfold xG;exact Y6 xs (r8 x l) (Y4 x l h)
theorem aI5 (es:List Ed)(v:Int):bes es v=xG [] (iF es v):=by
 refine Ns _ _ (He _ (Cq _)) (Y6 _ _ List.Pairwise.nil) λz=> ?_
 rw[Y5];unfold bes;rw[C7,(A0 _).mem_iff];simp
theorem Nr (es:List Ed)(v z:Int):z∈bes es v↔z∈iF es v:=by
 unfold bes;rw[C7,(A0 _).mem_iff]
section
variable {H : aF} {m : Nat} {p : PlanD} {ev wv nv : Value}
end
def mkN (nodes:Nat):Nat:=2+nodes%5
def mkW (more:Nat)(i:Nat):Int:=((1+(i+more)%5:Nat):Int)
def prs (n:Nat):List (Nat×Nat):=(List.range n).flatMap λb=>(List.range b).map λa=>(a,b)
def pA:Nat->List (Nat×Nat)->List Ed
 |_,[]=>[]
 |bit,(a,b)::r=>if bit%2=1 then((a:Int),(b:Int))::pA (bit/2) r else pA (bit/2) r
def nxt (n:Nat)(next:List Nat)(k w:Nat):Nat:=match next[k]? with
 |some x=>if x%4=0 then(x/4)%n else w
 |none=>w
def xH (n:Nat)(next:List Nat)(v:Nat):List Int:=(List.range n).map λw=>((nxt n next (v*n+w) w:Nat):Int)
def mkP (nodes room more joined:Nat)(next:List Nat):PlanD where
 nodes:=mkN nodes
 edges:=pA joined (prs (mkN nodes))
 lanes:=((1+more%3:Nat):Int)
 room:=((1+room%8:Nat):Int)
 queue:=((1+room/8%8:Nat):Int)
 rounds:=((1+more/3%4:Nat):Int)
 every:=((1+more/12%8:Nat):Int)
 bag:=64
 weights:=(List.range (1+more%3)).map (mkW more)
 start:=joined
 next:=(List.range (mkN nodes)).map (xH (mkN nodes) next)
def u8C (n:Nat):List Value:=[.int .u8 n]
theorem Nu (n:Nat):(u8C n).length=1:=rfl
abbrev Us (H:aF)(v:Value)(xs:List Nat):=Rs u8C 5 H v xs
theorem cvU (H:aF)(n:Nat)(h:n<256):eA prog 5 3 (.int .u8 n) H=some (.I n,H):=by
 have h1:prog.underlying 5=some (.int .u8):=by kernel_rfl
 have h2:prog.underlying 3=some (.int .i64):=by kernel_rfl
 rw[fU _ _ h1 h2,dL U U]
theorem wA (a b:Nat)(c:Int)(hc:c=b)(hb:0<b):bin prog .rem 5 (.int .u8 a) (.int .u8 c)=some (.int .u8 (a%b:Nat)):=by rw[hc,Ld _ _ _ _ U,Int.tmod_eq_emod_of_nonneg U];congr 2
theorem zD (a b:Nat)(c:Int)(hc:c=b)(hb:0<b):bin prog .rem 3 (.I a) (.I c)=some (.I (a%b:Nat)):=by rw[hc,Ld _ _ _ _ U,Int.tmod_eq_emod_of_nonneg U];congr 2
theorem aJi (a b:Nat)(c:Int)(hc:c=b)(hb:0<b):bin prog .rem 23 (.int .u16 a) (.int .u16 c)=some (.int .u16 (a%b:Nat)):=by rw[hc,Ld _ _ _ _ U,Int.tmod_eq_emod_of_nonneg U];congr 2
theorem aJk {n:Nat}(h:n<256):IntKind.u8.wrap (n:Int)=n:=by simp[IntKind.wrap,IntKind.bits,IntKind.signed];omega
theorem aJj {n:Nat}(h:n<65536):IntKind.u16.wrap (n:Int)=n:=by simp[IntKind.wrap,IntKind.bits,IntKind.signed];omega
theorem Hk (a b:Nat)(c:Int)(hc:c=b)(hb:0<b)(ha:a<256):bin prog .quo 5 (.int .u8 a) (.int .u8 c)=some (.int .u8 (a/b:Nat)):=by
 rw[hc,Vx _ _ _ _ U,Int.tdiv_eq_ediv_of_nonneg U]
 have h2:((a:Int)/(b:Int))=((a/b:Nat):Int):=by simp
 rw[h2,aJk (Nat.lt_of_le_of_lt (Nat.div_le_self a b) ha)]
theorem aJh (a b:Nat)(c:Int)(hc:c=b)(hb:0<b)(ha:a<65536):bin prog .quo 23 (.int .u16 a) (.int .u16 c)=some (.int .u16 (a/b:Nat)):=by
 rw[hc,Vx _ _ _ _ U,Int.tdiv_eq_ediv_of_nonneg U]
 have h2:((a:Int)/(b:Int))=((a/b:Nat):Int):=by simp
 rw[h2,aJj (Nat.lt_of_le_of_lt (Nat.div_le_self a b) ha)]
def Hi (b:Nat)(e:TypeId)(H H':aF):Prop:= ∀(c:Nat)(y:Blk),c≠b->(∀cs,y≠ .cells cs e .row)->H[c]? =some y->H'[c]? =some y
section
variable {H : aF} {m : Nat} {p : PlanD} {ev wv nv : Value}
theorem C8 {α:Type}{el:α->List Value}{e:TypeId}{sz by':Nat}{tb:TypeId}(hsz: ∀x,(el x).length=sz)(hall: ∀x,dV (el x)=true)(h0:0<sz){H0:aF}{v:Value}{xs:List α}{b j:Nat}{cs:List Value}(x:α)
  (hb:H[b]? =some (.cells cs tb .fix))(hj:j<cs.length)(hv:Rw el e sz H v xs)(hn:New H0 v)(hbn:H0.length<=b)(he:Ext H0 H)(hr:hP (xs.length+1) by'=true):
  ∃v' H1 H',app e sz by' v (.slice (some ⟨H.length,0,none⟩) 1 1) (H++[.cells (el x) e .row])=some (v',H1)/\stN 1 (.Q b j) v' H1=some (undef,H')/\
   Rw el e sz H' v' (xs++[x])/\New H0 v'/\Ext H0 H'/\H'[b]? =some (.cells (cs.set j v') tb .fix)/\Hi b e H H':=by
 obtain⟨v',H1,g1,g2,g3,g4,g5,g6⟩:=hv.Mj hsz hall h0 (by':=by') x hn he hr;have hbl:=(aRU.mp hb).1;have hnh: ¬cJ v b:=λhh=>by
  obtain⟨c',hc'⟩:=hv.blk hh;rw[hb] at hc';simp at hc'
 have hb1:H1[b]? =some (.cells cs tb .fix):=by rw[g5.2 b hbl hnh,hb]
 obtain⟨s1,s2⟩:=g2.uW;have hb1l:=(aRU.mp hb1).1;refine⟨v',H1,H1.set b (.cells (cs.set j v') tb .fix),g1,?_,g2.eY λc hc=> ?_,g3,⟨by rw[List.length_set];exact g4.1,λc hc _=> ?_⟩,aR0 hb1l,λc y hcb hA hy=> ?_⟩
 ·rw[mA 1 _ _ _ (by rw[s1];rfl),hb1,s1,oK _ _ _ _ _ _ aC (by simp;omega) s2]
  rfl
 ·refine aRV λhh=> ?_
  subst hh;obtain⟨c',hc'⟩:=g2.blk hc;rw[hb1] at hc';simp at hc'
 ·rw[aRV U,g4.2 c hc id]
 ·have hch: ¬cJ v c:=λhh=>by
   obtain⟨c',hc'⟩:=hv.blk hh;rw[hy] at hc';cases hc';exact hA _ rfl
  rw[aRV (Ne.symm hcb),g5.2 c (aRU.mp hy).1 hch,hy]
theorem Rw.Bc {α:Type}{el:α->List Value}{e e' tb:TypeId}{sz b:Nat}{H':aF}{v:Value}{xs:List α}{cs:List Value}(h:Rw el e' sz H v xs)(hk:Hi b e H H')(hb:H[b]? =some (.cells cs tb .fix))(hne:e'≠e):Rw el e' sz H' v xs:=h.eY λc hc=>by
 obtain⟨cs',hx⟩:=h.blk hc;have hcb:c≠b:=λhh=>by
  subst hh;rw[hb] at hx;simp at hx
 rw[hx];exact hk c _ hcb (λcs'' hh=>by cases hh;exact hne rfl) hx
theorem bEd (a b:Int):bld prog 34 [(0,.I a),(1,.I b)]=some (edV (a,b)):=rfl
theorem aI8 (H:aF)(y:Ed):dT 34 2 1 [.I 0,.I 0] [(0,edV y)] H=some (.slice (some ⟨H.length,0,none⟩) 1 1,H++[.cells (edC y) 34 .row]):=rfl
theorem aJe {H0:aF}{b rb n v joined:Nat}{a4:Value}{next:List Nat}{zs:List Value}{Q:aF->Value->Prop}{K:Ex->K (Value×aF)}(hn6:n<=6)(hv6:v<n)(hnx:Us H0 a4 next)(hu8: ∀x∈next,x<256)(hnl:next.length<=72057594037927936)(hpn:p.nodes=(n:Int))(hbr:H0[rb]? =some (.cells zs 28 .fix))(hb:H0[b]? =some (plB p ev wv nv))
  (hK: ∀(H':aF)(u:Value),Ext H0 H'->Iw H' u (xH n next v)->New H0 u-> ∀(x0 x1 x2 x5 x6 x7 x8 x9 aV aR aS aQ bA bP bQ bO bK aY bC bE bG bH bI bJ bM bN bU cK cL cD bV bX bY b9 cA cF cM cO cP cT dB dE dF cU cV cW cY dJ dG dH cZ dP dS dQ dX eG eH eM eN eO eP eU eV eW fF fG fH fI fJ fK fL fM fN fO fP fQ fX fY fZ gB gJ gK gL gM iL iM iN iO iP iQ iR iS iT iV iW iX iY iZ jA jB jC jD jE jH jI jJ jK jL jM jO jQ jV jX jY jZ j7 j8 mH mI mJ mK mL mM mN mO mP mQ mR qD qE qF qG:Value),∃H2 u2,M3 (lvl prog cN m) (aM m) K x0 x1 x2 (.int .u16 joined) a4 x5 x6 x7 x8 x9 (.pointer (some ⟨rb,0,none⟩)) (.pointer (some ⟨b,0,none⟩)) aV aR aS aQ (.int .i64 ((v+1)*n:Nat)) (.int .i64 (v:Nat)) u bA bP bQ bO bK aY bC bE bG bH bI bJ bM bN bU cK cL cD bV bX bY b9 cA cF cM cO cP cT dB dE dF cU cV cW cY dJ dG dH cZ dP dS dQ dX eG eH eM eN eO eP eU eV eW fF fG fH fI fJ fK fL fM fN fO fP fQ fX fY fZ gB gJ gK gL gM iL iM iN iO iP iQ iR iS iT iV iW iX iY iZ jA jB jC jD jE jH jI jJ jK jL jM jO jQ jV jX jY jZ j7 j8 mH mI mJ mK mL mM mN mO mP mQ mR qD qE qF qG H'=some (u2,H2)/\Q H2 u2): ∀(q i k:Nat)(H1:aF)(acc:Value),n-i=q->i<=n->q<k->Ext H0 H1->Iw H1 acc ((List.range i).map λw=>((nxt n next (v*n+w) w:Nat):Int))->New H0 acc-> ∀(x0 x1 x2 x5 x6 x7 x8 x9 aV aR aS aQ bP bQ bO bK aY bC bE bG bH bI bJ bM bN bU cK cL cD bV bX bY b9 cA cF cM cO cP cT dB dE dF cU cV cW cY dJ dG dH cZ dP dS dQ dX eG eH eM eN eO eP eU eV eW fF fG fH fI fJ fK fL fM fN fO fP fQ fX fY fZ gB gJ gK gL gM iL iM iN iO iP iQ iR iS iT iV iW iX iY iZ jA jB jC jD jE jH jI jJ jK jL jM jO jQ jV jX jY jZ j7 j8 mH mI mJ mK mL mM mN mO mP mQ mR qD qE qF qG:Value),
  ∃H2 u2,aM k (aN prog (lvl prog cN m) (aM m) M1) (M8 (lvl prog cN m) (aM m) K) [x0,x1,x2,(.int .u16 joined),a4,x5,x6,x7,x8,x9,(.Q rb 0),(.Q b 0),aV,aR,aS,aQ,(.I (v*n+i:Nat)),(.I (v:Nat)),acc,(.I (i:Nat)),bP,bQ,bO,bK,aY,bC,bE,bG,bH,bI,bJ,bM,bN,bU,cK,cL,cD,bV,bX,bY,b9,cA,cF,cM,cO,cP,cT,dB,dE,dF,cU,cV,cW,cY,dJ,dG,dH,cZ,dP,dS,dQ,dX,eG,eH,eM,eN,eO,eP,eU,eV,eW,fF,fG,fH,fI,fJ,fK,fL,fM,fN,fO,fP,fQ,fX,fY,fZ,gB,gJ,gK,gL,gM,iL,iM,iN,iO,iP,iQ,iR,iS,iT,iV,iW,iX,iY,iZ,jA,jB,jC,jD,jE,jH,jI,jJ,jK,jL,jM,jO,jQ,jV,jX,jY,jZ,j7,j8,mH,mI,mJ,mK,mL,mM,mN,mO,mP,mQ,mR,qD,qE,qF,qG] H1=some (u2,H2)/\Q H2 u2:=by
 intro q;induction q with
 |zero=>
  intro i k H1 acc hr hi hk he ha hnew;intros;obtain⟨k,rfl⟩:=aB k U
  obtain rfl:n=i:=U
  have e:decide (((n:Nat):Int)<(n:Nat))=false:=by simp
  have l0:=eC (eS hb he) 0 _ rfl;rw[hpn] at l0;rw[dR,Yc];simp only[gsR,l0,e];rw[aIb];have hk:v*n+n=(v+1)*n:=by rw[Nat.succ_mul]
  rw[hk];exact hK H1 acc he ha hnew ..
 |succ q ih=>
  intro i k H1 acc hr hi hk he ha hnew;intros;obtain⟨k,rfl⟩:=aB k U
  have e:decide ((i:Int)<(n:Nat))=true:=aSE U
  have e3:=aA (i:=i) U
  have l0:=eC (eS hb he) 0 _ rfl;rw[hpn] at l0;have hlen:=(hnx.ext he).gW;have hvn:v*n+i<42:=by
   have:v*n<=5*n:=Nat.mul_le_mul_right _ U
   omega
  have e4:IntKind.i64.wrap (((v*n+i:Nat):Int)+1)=((v*n+(i+1):Nat):Int):=by rw[dL U U];omega
  have hrange:(List.range (i+1)).map (λw=>((nxt n next (v*n+w) w:Nat):Int))=(List.range i).map (λw=>((nxt n next (v*n+w) w:Nat):Int))++[((nxt n next (v*n+i) i:Nat):Int)]:=by rw[aSt,List.map_append];rfl
  obtain⟨acc2,H2,t1,t2,t3,t4⟩:=ha.tV (by':=8) gV pR aC ((nxt n next (v*n+i) i:Nat):Int) hnew he (iE (n:=1000) aC (by simp;omega))
  rw[<-hrange] at t2;rw[dR,Yc];by_cases c:v*n+i<next.length
  ·have d:decide (((v*n+i:Nat):Int)<next.length)=true:=aSE U
   have hx:next[v*n+i]? =some next[v*n+i]:=aRW c
   obtain⟨bb,oo,g1,g2,g3⟩:=(hnx.ext he).fS Nu hx .i64;have l1:ld1 (.Q bb oo) H1=some (.int .u8 (next[v*n+i]:Nat),H1):=(g3 H1 rfl).2.1 0 _ rfl
   have hx8:=hu8 _ (List.getElem_mem c);have r4:=wA next[v*n+i] 4 4 rfl U
   by_cases c4:next[v*n+i]%4=0
   ·have d4:(((next[v*n+i]%4:Nat):Int)==0)=true:=by rw[c4];rfl
    have q4:=Hk next[v*n+i] 4 4 rfl U hx8
    have hcv:=λH=>cvU H (next[v*n+i]/4) U
    have rn:=zD (next[v*n+i]/4) n n rfl U
    have hval:nxt n next (v*n+i) i=next[v*n+i]/4%n:=by unfold nxt;rw[hx];simp only;rw[if_pos c4]
    rw[hval] at t1;simp only[gsR,l0,e,hlen,d,g1,l1,r4,d4,q4,hcv,rn,pS,t1,cR,e4,e3];exact ih (i+1) k H2 acc2 U U U t4 t2 t3 ..
   ·have d4:(((next[v*n+i]%4:Nat):Int)==0)=false:=by simpa using λh=>c4 U
    have hval:nxt n next (v*n+i) i=i:=by unfold nxt;rw[hx];simp only;rw[if_neg c4]
    rw[hval] at t1;simp only[gsR,l0,e,hlen,d,g1,l1,r4,d4,pS,t1,cR,e4,e3];exact ih (i+1) k H2 acc2 U U U t4 t2 t3 ..
  ·have d:decide (((v*n+i:Nat):Int)<next.length)=false:=aSF U
   have hval:nxt n next (v*n+i) i=i:=by unfold nxt;rw[aR5 U]
   rw[hval] at t1;simp only[gsR,l0,e,hlen,d,pS,t1,cR,e4,e3];exact ih (i+1) k H2 acc2 U U U t4 t2 t3 ..
def SV:={u:Value // dV [u]=true/\u.cells= #[u]}
def sC (u:SV):List Value:=[u.1]
theorem Bd (u:SV):(sC u).length=1:=rfl
theorem Hl (u:SV):dV (sC u)=true:=u.2.1
theorem C9: ∀us:List SV,(us.map sC)=(us.map (·.1)).map vC
 |[]=>rfl
 |u::us=>by rw[aSp,aSp,aSp,C9 us];rfl
structure RowsI (H:aF)(v:Value)(xss:List (List Int))(us:List SV):Prop where
 row:Rw sC 25 1 H v us
 len:us.length=xss.length
 el: ∀(j:Nat)(u:SV)(xs:List Int),us[j]? =some u->xss[j]? =some xs->Iw H u.1 xs
 ap: ∀(j j':Nat)(u u':SV),j<j'->us[j]? =some u->us[j']? =some u'-> ∀b,cJ u.1 b->cJ u'.1 b->False
def RowsW (H:aF)(v:Value)(xss:List (List Int)):Prop:= ∃us,RowsI H v xss us
theorem RowsI.Y7 {H':aF}{v:Value}{xss:List (List Int)}{us:List SV}(h:RowsI H v xss us)(h1: ∀b,cJ v b->H'[b]? =H[b]?)(h2: ∀u∈us,∀b,cJ u.1 b->H'[b]? =H[b]?):RowsI H' v xss us:=
 ⟨h.row.eY h1,h.len,λj u xs hu hx=>(h.el j u xs hu hx).eY λb hb=>h2 u (aR4 hu) b hb,h.ap⟩
theorem RowsI.Y8 {v:Value}{xss:List (List Int)}{us:List SV}(h:RowsI H v xss us){u:SV}(hu:u∈us){b:Nat}(hb:cJ u.1 b):b<H.length:=by
 obtain⟨j,hj⟩:=List.getElem?_of_mem hu;have:=(aRU.mp hj).1
 exact(h.el j u _ hj (aRW (by rw[<-h.len];exact this))).gU hb
theorem RowsI.blk {v:Value}{xss:List (List Int)}{us:List SV}(h:RowsI H v xss us){u:SV}(hu:u∈us){b:Nat}(hb:cJ u.1 b): ∃cs,H[b]? =some (.cells cs 3 .row):=by
 obtain⟨j,hj⟩:=List.getElem?_of_mem hu;have:=(aRU.mp hj).1
 exact(h.el j u _ hj (aRW (by rw[<-h.len];exact this))).blk hb
theorem RowsW.aI7 {v:Value}{xss:List (List Int)}(h:RowsW H v xss):Rows H v xss:=by
 obtain⟨us,hi⟩:=h;refine⟨us.map (·.1),?_,by rw[aR8,hi.len],λj u xs hu hx=> ?_⟩
 ·have:=hi.row.rs
  unfold Rs at this⊢;rw[aR8,<-C9];rcases this with⟨h1,h2⟩|⟨b,o,cap,h1,h2,h3⟩
  ·exact .inl ⟨h1,by rw[h2];rfl⟩
  ·exact .inr ⟨b,o,cap,h1,h2,λhne=>h3 λhh=>hne (by rw[hh];rfl)⟩
 ·rw[aR7] at hu
  cases hj:us[j]? with
  |none=>rw[hj] at hu;cases hu
  |some u'=>
   rw[hj] at hu;cases hu
   exact(hi.el j u' xs hj hx).rs
def RowsA (H0 H:aF)(v:Value)(xss:List (List Int))(wv:Value):Prop:= ∃us,RowsI H v xss us/\ ∀u∈us,∀b,cJ u.1 b-> ¬cJ wv b/\H0.length<=b
theorem RowsA.rw {H0:aF}{v wv:Value}{xss:List (List Int)}(h:RowsA H0 H v xss wv):RowsW H v xss:=let⟨us,hi,_⟩:=h;⟨us,hi⟩
structure MS (H0 H1:aF)(pb rb:Nat)(zs:List Value)(p:PlanD)(ev wv nv:Value)(E:List Ed)(W:List Int):Prop where
 ext:Ext H0 H1
 hb:H1[pb]? =some (plB p ev wv nv)
 hr:H1[rb]? =some (.cells zs 28 .fix)
 e:Ew H1 ev E
 en:New H0 ev
 w:Iw H1 wv W
 wn:New H0 wv
 ne:rb≠pb
 lp:H0.length<=pb
 lr:H0.length<=rb
 zl:zs.length=11
theorem MS.aI6 {H0 H1 H2:aF}{pb rb:Nat}{zs:List Value}{E:List Ed}{W:List Int}(h:MS H0 H1 pb rb zs p ev wv nv E W)(he:Ext H1 H2):MS H0 H2 pb rb zs p ev wv nv E W:=
 ⟨h.ext.tr he,eS h.hb he,eS h.hr he,h.e.eY λb hb=>he.2 b (h.e.gU hb) id,h.en,h.w.eY λb hb=>he.2 b (h.w.gU hb) id,h.wn,h.ne,h.lp,h.lr,h.zl⟩
theorem aJd {H0 H1:aF}{pb rb:Nat}{zs:List Value}{E:List Ed}{W:List Int}{N:List (List Int)}(h:MS H0 H1 pb rb zs p ev wv nv E W)(hn:RowsA H0 H1 nv N wv){Q:aF->Value->Prop}(hQ: ∀H2,Ext H0 H2->Ew H2 ev E->Iw H2 wv W->RowsA H0 H2 nv N wv->Q H2 (plV p ev wv nv))(x0 x1 x2 x3 x4 x5 x6 x7 x8 x9 aV aR aS aQ aW aX aU bA bP bQ bO bK aY bC bE bG bH bI bJ bM bN bU cK cL cD bV bX bY b9 cA cF cM cO cP cT dB dE dF cU cV cW cY dJ dG dH cZ dP dS dQ dX eG eH eM eN eO eP eU eV eW fF fG fH fI fJ fK fL fM fN fO fP fQ fX fY fZ gB gJ gK gL gM iL iM iN iO iP iQ iR iS iT iV iW iX iY iZ jA jB jC jD jE jH jI jJ jK jL jM jO jQ jV jX jY jZ j7 j8 mH mI mJ mK mL mM mN mO mP mQ mR qD qE qF qG:Value):
  ∃H2 u2,M2 (lvl prog cN m) (aM m) x0 x1 x2 x3 x4 x5 x6 x7 x8 x9 (.Q rb 0) (.Q pb 0) aV aR aS aQ aW aX aU bA bP bQ bO bK aY bC bE bG bH bI bJ bM bN bU cK cL cD bV bX bY b9 cA cF cM cO cP cT dB dE dF cU cV cW cY dJ dG dH cZ dP dS dQ dX eG eH eM eN eO eP eU eV eW fF fG fH fI fJ fK fL fM fN fO fP fQ fX fY fZ gB gJ gK gL gM iL iM iN iO iP iQ iR iS iT iV iW iX iY iZ jA jB jC jD jE jH jI jJ jK jL jM jO jQ jV jX jY jZ j7 j8 mH mI mJ mK mL mM mN mO mP mQ mR qD qE qF qG H1=some (u2,H2)/\Q H2 u2:=by
 have l11:=lC h.hb;have hrl:=(aRU.mp h.hr).1;obtain⟨a1,a2⟩:=Rw.uW h.e;obtain⟨b1,b2⟩:=Rw.uW h.w;obtain⟨us,hi,hap⟩:=hn;obtain⟨c1,c2⟩:=Rw.uW hi.row;have hall:dV (plC p ev wv nv)=true:=by
  have e1: ∀(v:Value)(vs:List Value),dV [v]=true->dV (v::vs)=dV vs:=λv vs h=>by
   simp only[dV,List.all_cons,List.all_nil,Bool.and_true] at h⊢;rw[h,aSh]
  simp only[plC,V3,e1 _ _ a2,e1 _ _ b2,e1 _ _ c2,V4]
 have st:stN 11 (.Q rb 0) (plV p ev wv nv) H1=some (undef,H1.set rb (plB p ev wv nv)):=by
  have e1:(plV p ev wv nv).cells.toList=plC p ev wv nv:=rfl;rw[mA 11 _ _ _ rfl,h.hr,e1,oK _ _ _ _ _ _ aC (by rw[h.zl];simp[plC]) hall]
  have hs:eT zs 0 (plC p ev wv nv)=plC p ev wv nv:=by
   match zs,h.zl with
   |[z1,z2,z3,z4,z5,z6,z7,z8,z9,z10,z11],_=>rfl
  rw[hs];rfl
 have hb2:(H1.set rb (plB p ev wv nv))[rb]? =some (plB p ev wv nv):=aR0 hrl;have l2:=lC hb2;have kp: ∀(b:Nat)(cs:List Value)(e:TypeId),H1[b]? =some (.cells cs e .row)->(H1.set rb (plB p ev wv nv))[b]? =H1[b]? :=λb cs e hb=>by
  refine aRV λhh=> ?_
  subst hh;rw[h.hr] at hb;simp at hb
 refine⟨H1.set rb (plB p ev wv nv),plV p ev wv nv,?_,hQ _ ⟨by rw[List.length_set];exact h.ext.1,λb hb _=> ?_⟩ (h.e.eY λb hb=> ?_) (h.w.eY λb hb=> ?_) ⟨us,hi.Y7 (λb hb=> ?_) (λu hu b hb=> ?_),hap⟩⟩
 ·unfold M2
  simp only[gsR,l11,st,l2]
 ·rw[aRV (by have:=h.lr;omega),h.ext.2 b hb id]
 ·obtain⟨cs,hc⟩:=h.e.blk hb
  exact kp b cs _ hc
 ·obtain⟨cs,hc⟩:=h.w.blk hb
  exact kp b cs _ hc
 ·obtain⟨cs,hc⟩:=hi.row.blk hb
  exact kp b cs _ hc
 ·obtain⟨cs,hc⟩:=hi.blk hu hb
  exact kp b cs _ hc
def Made (H0:aF)(p:PlanD)(H2:aF)(u:Value):Prop:= ∃ev wv nv,u=plV p ev wv nv/\Ext H0 H2/\Ew H2 ev p.edges/\Iw H2 wv p.weights/\RowsA H0 H2 nv p.next wv
theorem aJf {H0:aF}{pb rb n joined:Nat}{a4:Value}{next:List Nat}{zs:List Value}(hn6:n<=6)(hnx:Us H0 a4 next)(hu8: ∀x∈next,x<256)(hnl:next.length<=72057594037927936)(hpn:p.nodes=(n:Int))(hm:50<m)(hpx:p.next=(List.range n).map (xH n next)): ∀(q i k:Nat)(H1:aF)(nv1:Value),n-i=q->i<=n->q<k->MS H0 H1 pb rb zs p ev wv nv1 p.edges p.weights->RowsA H0 H1 nv1 ((List.range i).map (xH n next)) wv->New H0 nv1-> ∀(x0 x1 x2 x5 x6 x7 x8 x9 aV aR aS aQ aU bA bP bQ bO bK aY bC bE bG bH bI bJ bM bN bU cK cL cD bV bX bY b9 cA cF cM cO cP cT dB dE dF cU cV cW cY dJ dG dH cZ dP dS dQ dX eG eH eM eN eO eP eU eV eW fF fG fH fI fJ fK fL fM fN fO fP fQ fX fY fZ gB gJ gK gL gM iL iM iN iO iP iQ iR iS iT iV iW iX iY iZ jA jB jC jD jE jH jI jJ jK jL jM jO jQ jV jX jY jZ j7 j8 mH mI mJ mK mL mM mN mO mP mQ mR qD qE qF qG:Value),
  ∃H2 u2,aM k (aN prog (lvl prog cN m) (aM m) M0) (M7 (lvl prog cN m) (aM m)) [x0,x1,x2,(.int .u16 joined),a4,x5,x6,x7,x8,x9,(.Q rb 0),(.Q pb 0),aV,aR,aS,aQ,(.I (i*n:Nat)),(.I (i:Nat)),aU,bA,bP,bQ,bO,bK,aY,bC,bE,bG,bH,bI,bJ,bM,bN,bU,cK,cL,cD,bV,bX,bY,b9,cA,cF,cM,cO,cP,cT,dB,dE,dF,cU,cV,cW,cY,dJ,dG,dH,cZ,dP,dS,dQ,dX,eG,eH,eM,eN,eO,eP,eU,eV,eW,fF,fG,fH,fI,fJ,fK,fL,fM,fN,fO,fP,fQ,fX,fY,fZ,gB,gJ,gK,gL,gM,iL,iM,iN,iO,iP,iQ,iR,iS,iT,iV,iW,iX,iY,iZ,jA,jB,jC,jD,jE,jH,jI,jJ,jK,jL,jM,jO,jQ,jV,jX,jY,jZ,j7,j8,mH,mI,mJ,mK,mL,mM,mN,mO,mP,mQ,mR,qD,qE,qF,qG] H1=some (u2,H2)/\Made H0 p H2 u2:=by
 intro q;induction q with
 |zero=>
  intro i k H1 nv1 hr hi hk hM hR hnew;intros;obtain⟨k,rfl⟩:=aB k U
  obtain rfl:n=i:=U
  have e:decide (((n:Nat):Int)<(n:Nat))=false:=by simp
  have l0:=eC hM.hb 0 _ rfl;rw[hpn] at l0;rw[dR,Yb];simp only[gsR,l0,e];rw[aIa];exact aJd hM hR (λH2 g2 g3 g4 g5=>⟨ev,wv,nv1,rfl,g2,g3,g4,by rw[hpx];exact g5⟩) ..
 |succ q ih=>
  intro i k H1 nv1 hr hi hk hM hR hnew;intros;obtain⟨k,rfl⟩:=aB k U
  have e:decide ((i:Int)<(n:Nat))=true:=aSE U
  have e3:=aA (i:=i) U
  have l0:=eC hM.hb 0 _ rfl;rw[hpn] at l0;rw[dR,Yb];simp only[gsR,l0,e];have hz0:i*n=i*n+0:=rfl;rw[hz0];refine aJe (H0:=H1) (b:=pb) (rb:=rb) (v:=i) (zs:=zs) (next:=next) (Q:=Made H0 p) hn6 U (hnx.ext hM.ext) hu8 hnl hpn hM.hr hM.hb ?_ n 0 m H1 (.slice none 0 0) U U U (Fr.kO _ _) (Rw.kP (el:=inC)) (New.mT _) ..
  intro H2 u x2 hu hun;intros;have hM2:=hM.aI6 x2;obtain⟨us,hi1,hap⟩:=hR;have hi:RowsI H2 nv1 ((List.range i).map (xH n next)) us:=hi1.Y7 (λb hb=>x2.2 b (hi1.row.gU hb) id) λu hu b hb=>x2.2 b (hi1.Y8 hu hb) id
  have l10:=eC hM2.hb 10 _ rfl;obtain⟨s1,s2⟩:=Rw.uW hu;have s3:u.cells= #[u]:=Array.toList_inj.mp s1;obtain⟨su,rfl⟩: ∃su:SV,su.1=u:=⟨⟨u,s2,s3⟩,rfl⟩;have hb1:=Xa 25 (.slice none 0 0) su.1 s2 s3 H2;obtain⟨nv2,H3,H4,g1,g2,g3,g4,g5,g6,g7⟩:=C8 (by':=24) Bd Hl aC (j:=10) (H0:=H0) su hM2.hb (by simp[plC]) hi.row hnew hM.lp hM2.ext (iE (n:=1000) aC (by have:=hi.len;rw[aR8,aSo] at this;omega))
  have g1':app 25 1 24 nv1 (.slice (some ⟨H2.length,0,none⟩) 1 1) (H2++[.cells [su.1] 25 .row])=some (nv2,H3):=g1;have hb4:H4[pb]? =some (plB p ev wv nv2):=g6;have e5:IntKind.i64.wrap ((i:Int)+1)=((i+1:Nat):Int):=e3;unfold M3;simp only[gsR,l10,hb1,g1',g2,cR,e5];have kI: ∀(w:Value)(xs:List Int),Iw H2 w xs->Iw H4 w xs:=λw xs hw=>Rw.Bc hw g7 hM2.hb aC
  refine ih (i+1) k H4 nv2 U U U ⟨g5,hb4,g7 _ _ hM.ne (λcs hh=>by cases hh) hM2.hr,Rw.Bc hM2.e g7 hM2.hb aC,hM.en,kI _ _ hM2.w,hM.wn,hM.ne,hM.lp,hM.lr,hM.zl⟩ ⟨us++[su],⟨g3,?_,?_,?_⟩,?_⟩ g4 ..
  ·rw[aR6,hi.len]
   simp
  ·intro j w xs hw hxs
   rw[aSt,List.map_append] at hxs;by_cases hj:j<us.length
   ·rw[aRX hj] at hw
    rw[aRX (by rw[<-hi.len];exact hj)] at hxs
    exact kI _ _ (hi.el j w xs hw hxs)
   ·rw[aSe U] at hw
    rw[aSe (by rw[<-hi.len];omega),<-hi.len] at hxs
    by_cases h0:j-us.length=0
    ·rw[h0] at hw hxs
     cases hw;cases hxs;exact kI _ _ hu
    ·rw[aR5 (by simp;omega)] at hw
     cases hw
  ·intro j j' w w' hjj hw hw' bb hb1' hb2'
   by_cases hj':j'<us.length
   ·rw[aRX hj'] at hw'
    rw[aRX U] at hw
    exact hi.ap j j' w w' hjj hw hw' bb hb1' hb2'
   ·rw[aSe U] at hw'
    by_cases h0:j'-us.length=0
    ·rw[h0] at hw'
     cases hw';rw[aRX U] at hw
     have h1:=hi1.Y8 (aR4 hw) hb1';have h2:=hun bb hb2';omega
    ·rw[aR5 (by simp;omega)] at hw'
     cases hw'
  ·intro w hw bb hb1'
   rcases List.mem_append.mp hw with hw|hw
   ·exact hap w hw bb hb1'
   ·have:w=su:=by simpa using hw
    subst this;have h1:=hun bb hb1';have h3:=hM.ext.1
    exact⟨λhb2'=>by have h2:=hM.w.gU hb2';omega,by omega⟩
theorem Za (a b:Nat): ∀(L:List (Nat×Nat))(bit:Nat),pA bit (L++[(a,b)])=pA bit L++(if bit/2 ^ L.length%2=1 then [((a:Int),(b:Int))] else [])
 |[],bit=>by
  simp only[List.nil_append,pA,List.length_nil,Nat.pow_zero,Nat.div_one]
 |(c,d)::L,bit=>by
  have ih:=Za a b L (bit/2);have hp:bit/2/2 ^ L.length=bit/2 ^ (L.length+1):=by rw[Nat.div_div_eq_div_mul,Nat.pow_succ,Nat.mul_comm]
  rw[hp] at ih;simp only[List.cons_append,pA,aSg,ih];by_cases h:bit%2=1
  ·rw[if_pos h,if_pos h];rfl
  ·rw[if_neg h,if_neg h]
theorem Nt: ∀(L:List (Nat×Nat))(bit:Nat),(pA bit L).length<=L.length
 |[],_=>aRZ _
 |(c,d)::L,bit=>by
  have ih:=Nt L (bit/2);unfold pA;split
  ·simp only[aSg];omega
  ·simp only[aSg];omega
theorem Hj (n:Nat):prs (n+1)=prs n++(List.range n).map λa=>(a,n):=by
 unfold prs;rw[aSt,List.flatMap_append];simp
theorem Y9: ∀n,(prs n).length<=n*n
 |0=>by simp[prs]
 |n+1=>by
  have:=Y9 n;rw[Hj,aR6,aR8,aSo];have e:(n+1)*(n+1)=n*n+n+n+1:=by rw[Nat.succ_mul,Nat.mul_succ];omega
  omega
theorem aI9 (bit k:Nat):bit/2 ^ k/2=bit/2 ^ (k+1):=by rw[Nat.div_div_eq_div_mul,Nat.pow_succ]
theorem aJa {H0:aF}{pb rb B joined:Nat}{a4:Value}{zs:List Value}{Wt:List Int}(hB:B<=6)(hj:joined<65536){Q:aF->Value->Prop}{K:Ex->K (Value×aF)}
  (hK: ∀(H':aF)(ev':Value),MS H0 H' pb rb zs p ev' wv nv (pA joined (prs (B+1))) Wt-> ∀(x0 x1 x2 x5 x6 x7 x8 x9 aV aQ aW aX aU bA bP bQ bO bK aY bC bE bG bH bI bJ bM bN bU cK cL cD bV bX bY b9 cA cF cM cO cP cT dB dE dF cU cV cW cY dJ dG dH cZ dP dS dQ dX eG eH eM eN eO eP eU eV eW fF fG fH fI fJ fK fL fM fN fO fP fQ fX fY fZ gB gJ gK gL gM iL iM iN iO iP iQ iR iS iT iV iW iX iY iZ jA jB jC jD jE jH jI jJ jK jL jM jO jQ jV jX jY jZ j7 j8 mH mI mJ mK mL mM mN mO mP mQ mR qD qE qF qG:Value),∃H2 u2,K .normal [x0,x1,x2,(.int .u16 joined),a4,x5,x6,x7,x8,x9,(.pointer (some ⟨rb,0,none⟩)),(.pointer (some ⟨pb,0,none⟩)),aV,(.int .u16 (joined/2 ^ (prs (B+1)).length:Nat)),(.int .i64 (IntKind.i64.wrap ((B:Int)+1))),aQ,aW,aX,aU,bA,bP,bQ,bO,bK,aY,bC,bE,bG,bH,bI,bJ,bM,bN,bU,cK,cL,cD,bV,bX,bY,b9,cA,cF,cM,cO,cP,cT,dB,dE,dF,cU,cV,cW,cY,dJ,dG,dH,cZ,dP,dS,dQ,dX,eG,eH,eM,eN,eO,eP,eU,eV,eW,fF,fG,fH,fI,fJ,fK,fL,fM,fN,fO,fP,fQ,fX,fY,fZ,gB,gJ,gK,gL,gM,iL,iM,iN,iO,iP,iQ,iR,iS,iT,iV,iW,iX,iY,iZ,jA,jB,jC,jD,jE,jH,jI,jJ,jK,jL,jM,jO,jQ,jV,jX,jY,jZ,j7,j8,mH,mI,mJ,mK,mL,mM,mN,mO,mP,mQ,mR,qD,qE,qF,qG] H'=some (u2,H2)/\Q H2 u2): ∀(q i k:Nat)(H1:aF)(ev1:Value),B-i=q->i<=B->q<k->MS H0 H1 pb rb zs p ev1 wv nv (pA joined (prs B++(List.range i).map λa=>(a,B))) Wt-> ∀(x0 x1 x2 x5 x6 x7 x8 x9 aV aW aX aU bA bP bQ bO bK aY bC bE bG bH bI bJ bM bN bU cK cL cD bV bX bY b9 cA cF cM cO cP cT dB dE dF cU cV cW cY dJ dG dH cZ dP dS dQ dX eG eH eM eN eO eP eU eV eW fF fG fH fI fJ fK fL fM fN fO fP fQ fX fY fZ gB gJ gK gL gM iL iM iN iO iP iQ iR iS iT iV iW iX iY iZ jA jB jC jD jE jH jI jJ jK jL jM jO jQ jV jX jY jZ j7 j8 mH mI mJ mK mL mM mN mO mP mQ mR qD qE qF qG:Value),
  ∃H2 u2,aM k (aN prog (lvl prog cN m) (aM m) Mz) (M6 (lvl prog cN m) (aM m) K) [x0,x1,x2,(.int .u16 joined),a4,x5,x6,x7,x8,x9,(.Q rb 0),(.Q pb 0),aV,(.int .u16 (joined/2 ^ ((prs B).length+i):Nat)),(.I (B:Nat)),(.I (i:Nat)),aW,aX,aU,bA,bP,bQ,bO,bK,aY,bC,bE,bG,bH,bI,bJ,bM,bN,bU,cK,cL,cD,bV,bX,bY,b9,cA,cF,cM,cO,cP,cT,dB,dE,dF,cU,cV,cW,cY,dJ,dG,dH,cZ,dP,dS,dQ,dX,eG,eH,eM,eN,eO,eP,eU,eV,eW,fF,fG,fH,fI,fJ,fK,fL,fM,fN,fO,fP,fQ,fX,fY,fZ,gB,gJ,gK,gL,gM,iL,iM,iN,iO,iP,iQ,iR,iS,iT,iV,iW,iX,iY,iZ,jA,jB,jC,jD,jE,jH,jI,jJ,jK,jL,jM,jO,jQ,jV,jX,jY,jZ,j7,j8,mH,mI,mJ,mK,mL,mM,mN,mO,mP,mQ,mR,qD,qE,qF,qG] H1=some (u2,H2)/\Q H2 u2:=by
 intro q;induction q with
 |zero=>
  intro i k H1 ev1 hr hi hk hM;intros;obtain⟨k,rfl⟩:=aB k U
  obtain rfl:B=i:=U
  have e:decide (((B:Nat):Int)<(B:Nat))=false:=by simp
  rw[<-Hj] at hM;have hl:(prs B).length+B=(prs (B+1)).length:=by rw[Hj,aR6,aR8,aSo]
  rw[hl];rw[dR,Ya];simp only[gsR,e];rw[aH9];simp only[gsR,cR];exact hK H1 ev1 hM ..
 |succ q ih=>
  intro i k H1 ev1 hr hi hk hM;intros;obtain⟨k,rfl⟩:=aB k U
  have e:decide ((i:Int)<(B:Nat))=true:=aSE U
  have e3:=aA (i:=i) U
  have hpl:=Y9 B;have hpl2:B*B<=36:=Nat.mul_le_mul hB hB;have hbit:joined/2 ^ ((prs B).length+i)<65536:=Nat.lt_of_le_of_lt (Nat.div_le_self _ _) hj;have r2:=aJi (joined/2 ^ ((prs B).length+i)) 2 2 rfl U
  have q2:=aJh (joined/2 ^ ((prs B).length+i)) 2 2 rfl U hbit
  rw[aI9,Nat.add_assoc] at q2;have l1:=eC hM.hb 1 _ rfl;have hlen:(prs B++(List.range i).map λa=>(a,B)).length=(prs B).length+i:=by rw[aR6,aR8,aSo]
  have hsn:=Za i B (prs B++(List.range i).map λa=>(a,B)) joined
  rw[hlen] at hsn;have hap:prs B++(List.range (i+1)).map (λa=>(a,B))=(prs B++(List.range i).map λa=>(a,B))++[(i,B)]:=by rw[aSt,List.map_append,aR1];rfl
  have hsl:=Nt (prs B++(List.range i).map λa=>(a,B)) joined
  rw[hlen] at hsl;rw[dR,Ya];by_cases c:joined/2 ^ ((prs B).length+i)%2=1
  ·have d:(((joined/2 ^ ((prs B).length+i)%2:Nat):Int)==1)=true:=by rw[c];rfl
   rw[if_pos c] at hsn;obtain⟨ev2,H3,H4,g1,g2,g3,g4,g5,g6,g7⟩:=C8 (by':=16) o7 Ba aC (j:=1) (H0:=H0) ((i:Int),(B:Int)) hM.hb (by simp[plC]) hM.e hM.en hM.lp hM.ext (iE (n:=1000) aC U)
   have hb4:H4[pb]? =some (plB p ev2 wv nv):=g6;simp only[gsR,e,r2,d,l1,bEd,aI8,g1,g2,q2,cR,e3];exact ih (i+1) k H4 ev2 U U U ⟨g5,hb4,g7 _ _ hM.ne (λcs hh=>by cases hh) hM.hr,by rw[hap,hsn];exact g3,g4,Rw.Bc hM.w g7 hM.hb aC,hM.wn,hM.ne,hM.lp,hM.lr,hM.zl⟩ ..
  ·have d:(((joined/2 ^ ((prs B).length+i)%2:Nat):Int)==1)=false:=beq_eq_false_iff_ne.mpr (λh=>c (Int.ofNat.inj h))
   rw[if_neg c,List.append_nil] at hsn;simp only[gsR,e,r2,d,q2,cR,e3];exact ih (i+1) k H1 ev1 U U U (by rw[hap,hsn];exact hM) ..
theorem aJb {H0:aF}{pb rb n joined:Nat}{a4:Value}{next:List Nat}{zs:List Value}(hn6:n<=6)(hnx:Us H0 a4 next)(hu8: ∀x∈next,x<256)(hnl:next.length<=72057594037927936)(hpn:p.nodes=(n:Int))(hm:50<m)(hj:joined<65536)(hpx:p.next=(List.range n).map (xH n next))(hpe:p.edges=pA joined (prs n))(hn1:1<=n): ∀(q i k:Nat)(H1:aF)(ev1:Value),n-i=q->i<=n->q<k->1<=i->MS H0 H1 pb rb zs p ev1 wv (.slice none 0 0) (pA joined (prs i)) p.weights-> ∀(x0 x1 x2 x5 x6 x7 x8 x9 aV aQ aW aX aU bA bP bQ bO bK aY bC bE bG bH bI bJ bM bN bU cK cL cD bV bX bY b9 cA cF cM cO cP cT dB dE dF cU cV cW cY dJ dG dH cZ dP dS dQ dX eG eH eM eN eO eP eU eV eW fF fG fH fI fJ fK fL fM fN fO fP fQ fX fY fZ gB gJ gK gL gM iL iM iN iO iP iQ iR iS iT iV iW iX iY iZ jA jB jC jD jE jH jI jJ jK jL jM jO jQ jV jX jY jZ j7 j8 mH mI mJ mK mL mM mN mO mP mQ mR qD qE qF qG:Value),
  ∃H2 u2,aM k (aN prog (lvl prog cN m) (aM m) My) (M5 (lvl prog cN m) (aM m)) [x0,x1,x2,(.int .u16 joined),a4,x5,x6,x7,x8,x9,(.Q rb 0),(.Q pb 0),aV,(.int .u16 (joined/2 ^ (prs i).length:Nat)),(.I (i:Nat)),aQ,aW,aX,aU,bA,bP,bQ,bO,bK,aY,bC,bE,bG,bH,bI,bJ,bM,bN,bU,cK,cL,cD,bV,bX,bY,b9,cA,cF,cM,cO,cP,cT,dB,dE,dF,cU,cV,cW,cY,dJ,dG,dH,cZ,dP,dS,dQ,dX,eG,eH,eM,eN,eO,eP,eU,eV,eW,fF,fG,fH,fI,fJ,fK,fL,fM,fN,fO,fP,fQ,fX,fY,fZ,gB,gJ,gK,gL,gM,iL,iM,iN,iO,iP,iQ,iR,iS,iT,iV,iW,iX,iY,iZ,jA,jB,jC,jD,jE,jH,jI,jJ,jK,jL,jM,jO,jQ,jV,jX,jY,jZ,j7,j8,mH,mI,mJ,mK,mL,mM,mN,mO,mP,mQ,mR,qD,qE,qF,qG] H1=some (u2,H2)/\Made H0 p H2 u2:=by
 intro q;induction q with
 |zero=>
  intro i k H1 ev1 hr hi hk h1i hM;intros;obtain⟨k,rfl⟩:=aB k U
  obtain rfl:n=i:=U
  have e:decide (((n:Nat):Int)<(n:Nat))=false:=by simp
  have l0:=eC hM.hb 0 _ rfl;rw[hpn] at l0;rw[<-hpe] at hM;rw[dR,X9];simp only[gsR,l0,e];rw[aH8];have:=aJf (m:=m) (pb:=pb) (rb:=rb) (zs:=zs) (wv:=wv) (ev:=ev1) (joined:=joined) hn6 hnx hu8 hnl hpn hm hpx n 0 m H1 (.slice none 0 0) U U U hM ⟨[],⟨Rw.kP,rfl,λj u xs h=>by simp at h,λj j' u u' _ h=>by simp at h⟩,λu hu=>by cases hu⟩ (New.mT _)
  rw[Nat.zero_mul] at this;exact this ..
 |succ q ih=>
  intro i k H1 ev1 hr hi hk h1i hM;intros;obtain⟨k,rfl⟩:=aB k U
  have e:decide ((i:Int)<(n:Nat))=true:=aSE U
  have e3:=aA (i:=i) U
  have l0:=eC hM.hb 0 _ rfl;rw[hpn] at l0;rw[dR,X9];simp only[gsR,l0,e];refine aJa (H0:=H0) (pb:=pb) (rb:=rb) (B:=i) (joined:=joined) (zs:=zs) (wv:=wv) (Wt:=p.weights) (Q:=Made H0 p) U hj ?_ i 0 m H1 ev1 U U U (by simpa using hM) ..
  intro H2 ev2 hM2;intros;rw[again_normal,e3];exact ih (i+1) k H2 ev2 U U U U hM2 ..
theorem aJg {H0:aF}{pb rb n joined:Nat}{a4:Value}{next:List Nat}{zs:List Value}(hn6:n<=6)(hnx:Us H0 a4 next)(hu8: ∀x∈next,x<256)(hnl:next.length<=72057594037927936)(hpn:p.nodes=(n:Int))(hm:50<m){more:Nat}(hmore:more<256)(hj:joined<65536)(hpx:p.next=(List.range n).map (xH n next))(hpe:p.edges=pA joined (prs n))(hpw:p.weights=(List.range (1+more%3)).map (mkW more))(hpl:p.lanes=((1+more%3:Nat):Int))(hn1:1<=n): ∀(q i k:Nat)(H1:aF)(wv1:Value),(1+more%3)-i=q->i<=(1+more%3)->q<k->MS H0 H1 pb rb zs p (.slice none 0 0) wv1 (.slice none 0 0) [] ((List.range i).map (mkW more))-> ∀(x0 x1 x5 x6 x7 x8 x9 aR aS aQ aW aX aU bA bP bQ bO bK aY bC bE bG bH bI bJ bM bN bU cK cL cD bV bX bY b9 cA cF cM cO cP cT dB dE dF cU cV cW cY dJ dG dH cZ dP dS dQ dX eG eH eM eN eO eP eU eV eW fF fG fH fI fJ fK fL fM fN fO fP fQ fX fY fZ gB gJ gK gL gM iL iM iN iO iP iQ iR iS iT iV iW iX iY iZ jA jB jC jD jE jH jI jJ jK jL jM jO jQ jV jX jY jZ j7 j8 mH mI mJ mK mL mM mN mO mP mQ mR qD qE qF qG:Value),
  ∃H2 u2,aM k (aN prog (lvl prog cN m) (aM m) Mx) (M4 (lvl prog cN m) (aM m)) [x0,x1,(.int .u8 more),(.int .u16 joined),a4,x5,x6,x7,x8,x9,(.Q rb 0),(.Q pb 0),(.I (i:Nat)),aR,aS,aQ,aW,aX,aU,bA,bP,bQ,bO,bK,aY,bC,bE,bG,bH,bI,bJ,bM,bN,bU,cK,cL,cD,bV,bX,bY,b9,cA,cF,cM,cO,cP,cT,dB,dE,dF,cU,cV,cW,cY,dJ,dG,dH,cZ,dP,dS,dQ,dX,eG,eH,eM,eN,eO,eP,eU,eV,eW,fF,fG,fH,fI,fJ,fK,fL,fM,fN,fO,fP,fQ,fX,fY,fZ,gB,gJ,gK,gL,gM,iL,iM,iN,iO,iP,iQ,iR,iS,iT,iV,iW,iX,iY,iZ,jA,jB,jC,jD,jE,jH,jI,jJ,jK,jL,jM,jO,jQ,jV,jX,jY,jZ,j7,j8,mH,mI,mJ,mK,mL,mM,mN,mO,mP,mQ,mR,qD,qE,qF,qG] H1=some (u2,H2)/\Made H0 p H2 u2:=by
 intro q;induction q with
 |zero=>
  intro i k H1 wv1 hr hi hk hM;intros;obtain⟨k,rfl⟩:=aB k U
  obtain rfl:(1+more%3)=i:=U
  have e:decide ((((1+more%3):Nat):Int)<((1+more%3):Nat))=false:=by simp
  have l2:=eC hM.hb 2 _ rfl;rw[hpl] at l2;rw[<-hpw] at hM;rw[dR,X7];simp only[gsR,l2,e];rw[aH7];have:=aJb (m:=m) (pb:=pb) (rb:=rb) (zs:=zs) (wv:=wv1) (joined:=joined) hn6 hnx hu8 hnl hpn hm hj hpx hpe hn1 (n-1) 1 m H1 (.slice none 0 0) rfl hn1 U (aRZ _) hM
  have hp1:joined/2 ^ (prs 1).length=joined:=by
   have:(prs 1).length=0:=rfl;rw[this,Nat.pow_zero,Nat.div_one]
  rw[hp1] at this;exact this ..
 |succ q ih=>
  intro i k H1 wv1 hr hi hk hM;intros;obtain⟨k,rfl⟩:=aB k U
  have e:decide ((i:Int)<((1+more%3):Nat))=true:=aSE U
  have e3:=aA (i:=i) U
  have l2:=eC hM.hb 2 _ rfl;rw[hpl] at l2;have l8:=eC hM.hb 8 _ rfl;have hcv:=λH=>cvU H more hmore
  have a1:IntKind.i64.wrap ((i:Int)+(more:Int))=((i+more:Nat):Int):=by rw[dL U U];omega
  have a2:=zD (i+more) 5 5 rfl U
  have a3:IntKind.i64.wrap (1+((((i+more)%5:Nat)):Int))=mkW more i:=by unfold mkW;rw[dL U U];omega
  obtain⟨wv2,H2,H3,g1,g2,g3,g4,g5,g6,g7⟩:=C8 (by':=8) gV pR aC (j:=8) (H0:=H0) (mkW more i) hM.hb (by simp[plC]) hM.w hM.wn hM.lp hM.ext (iE (n:=1000) aC (by simp;omega))
  have hb3:H3[pb]? =some (plB p (.slice none 0 0) wv2 (.slice none 0 0)):=g6;rw[dR,X7];simp only[gsR,l2,e,l8,hcv,cR,a1,a2,a3,pS,g1,g2,e3];exact ih (i+1) k H3 wv2 U U U ⟨g5,hb3,g7 _ _ hM.ne (λcs hh=>by cases hh) hM.hr,Rw.kP,New.mT _,by rw[aSt,List.map_append];exact g3,g4,hM.ne,hM.lp,hM.lr,hM.zl⟩ ..
theorem bPl (a b c d e f g h:Int):bld prog 28 [(0,.I a),(2,.I b),(3,.I c),(4,.I d),(5,.I e),(6,.I f),(7,.I g),(9,.int .u16 h)]=some (.agg #[.I a,.slice none 0 0,.I b,.I c,.I d,.I e,.I f,.I g,.slice none 0 0,.int .u16 h,.slice none 0 0]):=by kernel_rfl
theorem aJc (nodes room more joined:Nat)(h1:nodes<256)(h2:room<256)(h3:more<256)(h4:joined<65536){a4:Value}{next:List Nat}(hnx:Us H a4 next)(hu8: ∀x∈next,x<256)(hnl:next.length<=72057594037927936)(hm:60<m):
  ∃H2 u,lvl prog cN m (.func 16) [.int .u8 nodes,.int .u8 room,.int .u8 more,.int .u16 joined,a4] H=some (u,H2)/\Made H (mkP nodes room more joined next) H2 u:=by
 obtain⟨p,hp⟩:=aD (mkP nodes room more joined next)
 rw[<-hp];obtain⟨zs,hzs⟩:=aD ([Value.int .i64 0,.slice none 0 0,.int .i64 0,.int .i64 0,.int .i64 0,.int .i64 0,.int .i64 0,.int .i64 0,.slice none 0 0,.int .u16 0,.slice none 0 0]);obtain⟨H1,hH1⟩:=aD (H++[Blk.cells zs 28 .fix]);have x1:Ext H H1:=by rw[hH1];exact Fr.app _ _ _
 have n1:=wA nodes 5 5 rfl U
 have n2:=λH=>cvU H (nodes%5) U
 have n3:IntKind.i64.wrap (2+((nodes%5:Nat):Int))=p.nodes:=by rw[dL U U,hp];simp[mkP,mkN]
 have n4:=wA more 3 3 rfl U
 have n5:=λH=>cvU H (more%3) U
 have n6:IntKind.i64.wrap (1+((more%3:Nat):Int))=p.lanes:=by rw[dL U U,hp];simp[mkP]
 have r1:=wA room 8 8 rfl U
 have r2:=λH=>cvU H (room%8) U
 have r3:IntKind.i64.wrap (1+((room%8:Nat):Int))=p.room:=by rw[dL U U,hp];simp[mkP]
 have r4:=Hk room 8 8 rfl U h2
 have r5:=wA (room/8) 8 8 rfl U
 have r6:=λH=>cvU H (room/8%8) U
 have r7:IntKind.i64.wrap (1+((room/8%8:Nat):Int))=p.queue:=by rw[dL U U,hp];simp[mkP]
 have m1:=Hk more 3 3 rfl U h3
 have m2:=wA (more/3) 4 4 rfl U
 have m3:=λH=>cvU H (more/3%4) U
 have m4:IntKind.i64.wrap (1+((more/3%4:Nat):Int))=p.rounds:=by rw[dL U U,hp];simp[mkP]
 have m5:=Hk more 12 12 rfl U h3
 have m6:=wA (more/12) 8 8 rfl U
 have m7:=λH=>cvU H (more/12%8) U
 have m8:IntKind.i64.wrap (1+((more/12%8:Nat):Int))=p.every:=by rw[dL U U,hp];simp[mkP]
 have b64:p.bag=64:=by rw[hp];rfl
 have bst:p.start=joined:=by rw[hp];rfl
 obtain⟨H2,hH2⟩:=aD (H1++[plB p (.slice none 0 0) (.slice none 0 0) (.slice none 0 0)]);have x2:Ext H1 H2:=by rw[hH2];exact Fr.app _ _ _
 have st:stN 11 (.Q H1.length 0) (.agg #[.I p.nodes,.slice none 0 0,.I p.lanes,.I p.room,.I p.queue,.I p.rounds,.I p.every,.I 64,.slice none 0 0,.int .u16 joined,.slice none 0 0]) (H1++[.cells zs 28 .fix])=some (undef,H2):=by
  rw[mA 11 _ _ _ rfl,fA,oK _ _ _ _ _ _ aC (by rw[hzs];simp[Value.cells]) rfl,hH2,hzs]
  simp[eT,Value.cells,plB,plC,b64,bst]
 have hr1:H1[H.length]? =some (.cells zs 28 .fix):=by rw[hH1];exact fA _ _
 have hM:MS H H2 H1.length H.length zs p (.slice none 0 0) (.slice none 0 0) (.slice none 0 0) [] ((List.range 0).map (mkW more)):=
  ⟨x1.tr x2,by rw[hH2];exact fA _ _,eS hr1 x2,Rw.kP,New.mT _,Rw.kP,New.mT _,by rw[hH1,aR6];simp,x1.1,aRZ _,by rw[hzs];rfl⟩
 refine gN (gX rfl rfl) U ?_
 rw[aIc];simp only[gsR,<-hzs,<-hH1,n1,n2,cR,n3,n4,n5,n6,r1,r2,r3,r4,r5,r6,r7,m1,m2,m3,m4,m5,m6,m7,m8,bPl,st];exact aJg (m:=m-1) (n:=mkN nodes) (p:=p) (pb:=H1.length) (rb:=H.length) (zs:=zs) (by unfold mkN;omega) hnx hu8 hnl (by rw[hp];rfl) U h3 h4 (by rw[hp];rfl) (by rw[hp];rfl) (by rw[hp];rfl) (by rw[hp];rfl) (by unfold mkN;omega) (1+more%3) 0 (m-1) H2 (.slice none 0 0) U U U hM ..
end
def okE (n:Int)(e:Ed):Prop:=0<=e.1/\e.1<e.2/\e.2<n
structure VE (n:Int)(E:List Ed):Prop where
 ok: ∀e∈E,okE n e
 nd:E.Nodup
theorem Ze (n:Int): ∀(E old:List Ed),vZ n old E=true↔((∀e∈E,okE n e)/\E.Nodup/\ ∀e∈E,e∉old)
 |[],old=>by simp[vZ]
 |e::E,old=>by
  have ih:=Ze n E (old++[e]);have hany:(old.any λx=>x==e)=true↔e∈old:=by
   rw[List.any_eq_true];constructor
   ·rintro ⟨x,h1,h2⟩
    have:x=e:=by simpa using h2
    exact this▸h1
   ·intro h
    exact⟨e,h,by simp⟩
  unfold vZ;rw[aR2,ih,Bool.not_eq_true',Bool.or_eq_false_iff,Bool.or_eq_false_iff,Bool.or_eq_false_iff];simp only[decide_eq_false_iff_not,List.nodup_cons,aSd,List.mem_append,aSk,or_false];have hany':(old.any λx=>x==e)=false↔e∉old:=by rw[<-Bool.not_eq_true,hany]
  rw[hany'];constructor
  ·rintro ⟨⟨h1,h2,h3,h4⟩,h5,h6,h7⟩
   refine⟨?_,⟨λhh=>(h7 e hh) (.inr rfl),h6⟩,?_⟩
   ·rintro x (rfl|hx)
    ·exact⟨by omega,by omega,by omega⟩
    ·exact h5 x hx
   ·rintro x (rfl|hx)
    ·exact h4
    ·exact λhh=>h7 x hx (.inl hh)
  ·rintro ⟨h1,⟨h2,h3⟩,h4⟩
   obtain⟨a1,a2,a3⟩:=h1 e (.inl rfl);refine⟨⟨by omega,by omega,by omega,h4 e (.inl rfl)⟩,λx hx=>h1 x (.inr hx),h3,λx hx=> ?_⟩
   rintro (hh|rfl)
   ·exact h4 x (.inr hx) hh
   ·exact h2 hx
theorem Zf (n:Int)(E:List Ed):vZ n [] E=true↔VE n E:=by
 rw[Ze]
 exact⟨λh=>⟨h.1,h.2.1⟩,λh=>⟨h.ok,h.nd,λ_ _=>aSk⟩⟩
def Be (p:Nat×Nat):Ed:=((p.1:Int),(p.2:Int))
theorem Ny: ∀(L:List (Nat×Nat))(bit:Nat),(pA bit L).Sublist (L.map Be)
 |[],_=>List.Sublist.slnil
 |(a,b)::L,bit=>by
  unfold pA;split
  ·exact(Ny L (bit/2)).cons_cons _
  ·exact(Ny L (bit/2)).cons _
theorem Zj {n a b:Nat}:(a,b)∈prs n↔a<b/\b<n:=by
 unfold prs;rw[List.mem_flatMap];constructor
 ·rintro ⟨x,h1,h2⟩
  obtain⟨y,h3,h4⟩:=aSx.mp h2;cases h4
  exact⟨aSy.mp h3,aSy.mp h1⟩
 ·rintro ⟨h1,h2⟩
  exact⟨b,aSy.mpr h2,aSx.mpr ⟨a,aSy.mpr h1,rfl⟩⟩
theorem Zk: ∀n,(prs n).Nodup
 |0=>List.Pairwise.nil
 |n+1=>by
  rw[Hj];refine List.nodup_append.mpr ⟨Zk n,?_,?_⟩
  ·exact(List.nodup_range).map (λa=>(a,n)) λa b hab h=>hab (by cases h;rfl)
  ·intro x hx y hy
   obtain⟨a,_,rfl⟩:=aSx.mp hy;obtain⟨x1,x2⟩:=x;have:=(Zj.mp hx).2;intro hh;cases hh;omega
theorem aJn {x y:Nat×Nat}(h:Be x=Be y):x=y:=by
 obtain⟨a,b⟩:=x;obtain⟨c,d⟩:=y;simp only[Be,Prod.mk.injEq] at h;have h1:a=c:=U
 have h2:b=d:=U
 rw[h1,h2]
theorem aJq (bit n:Nat):VE n (pA bit (prs n)):=by
 have hs:=Ny (prs n) bit;refine⟨λe he=> ?_,(((Zk n).map Be λa b hab h=>hab (aJn h)).sublist hs)⟩
 obtain⟨⟨a,b⟩,h1,rfl⟩:=aSx.mp (hs.subset he);obtain⟨h2,h3⟩:=Zj.mp h1;simp only[okE,Be];omega
theorem aJp {n:Nat}(h:n<=6):(prs n).length<=15:=by
 have:n=0∨n=1∨n=2∨n=3∨n=4∨n=5∨n=6:=U
 rcases this with rfl|rfl|rfl|rfl|rfl|rfl|rfl<;>decide
theorem Hm {v w:Int}{e:Ed}:w∈oA v e↔v≠w/\(e=(v,w)∨e=(w,v)):=by
 obtain⟨a,b⟩:=e;unfold oA;simp only[Prod.mk.injEq];by_cases h1:a=b
 ·rw[if_pos h1]
  constructor
  ·intro h;cases h
  ·rintro ⟨h,⟨h2,h3⟩|⟨h2,h3⟩⟩
   ·exact absurd (h2.symm.trans (h1.trans h3)) h
   ·exact absurd (h3.symm.trans (h1.symm.trans h2)) h
 ·rw[if_neg h1]
  by_cases h2:a=v
  ·rw[if_pos h2,List.mem_singleton]
   constructor
   ·rintro rfl
    exact⟨λhh=>h1 (h2.trans hh),.inl ⟨h2,rfl⟩⟩
   ·rintro ⟨h,⟨_,h3⟩|⟨h3,h4⟩⟩
    ·exact h3.symm
    ·exact absurd (h2.symm.trans h3) h
  ·rw[if_neg h2]
   by_cases h3:b=v
   ·rw[if_pos h3,List.mem_singleton]
    constructor
    ·rintro rfl
     exact⟨λhh=>h2 hh.symm,.inr ⟨rfl,h3⟩⟩
    ·rintro ⟨h,⟨h4,_⟩|⟨h4,_⟩⟩
     ·exact absurd h4 h2
     ·exact h4.symm
   ·rw[if_neg h3]
    constructor
    ·intro h;cases h
    ·rintro ⟨h,⟨h4,_⟩|⟨_,h4⟩⟩
     ·exact absurd h4 h2
     ·exact absurd h4 h3
theorem Zc {E:List Ed}{v w:Int}:w∈iF E v↔v≠w/\((v,w)∈E∨(w,v)∈E):=by
 unfold iF;rw[List.mem_flatMap];constructor
 ·rintro ⟨e,h1,h2⟩
  obtain⟨h3,h4⟩:=Hm.mp h2;rcases h4 with rfl|rfl
  ·exact⟨h3,.inl h1⟩
  ·exact⟨h3,.inr h1⟩
 ·rintro ⟨h3,h4|h4⟩
  ·exact⟨_,h4,Hm.mpr ⟨h3,.inl rfl⟩⟩
  ·exact⟨_,h4,Hm.mpr ⟨h3,.inr rfl⟩⟩
theorem Zb {E:List Ed}{v w:Int}:w∈bes E v↔v≠w/\((v,w)∈E∨(w,v)∈E):=by rw[Nr,Zc]
theorem zF {n:Int}{E:List Ed}(hE:VE n E){v w:Int}(h:w∈bes E v):0<=w/\w<n/\0<=v/\v<n:=by
 obtain⟨_,h|h⟩:=Zb.mp h
 ·have:=hE.ok _ h
  simp only[okE] at this;omega
 ·have:=hE.ok _ h
  simp only[okE] at this;omega
theorem Zg (x:Int): ∀l:List Int,x∉l->(r8 x l).length=l.length+1
 |[],_=>rfl
 |y::r,h=>by
  have ih:=Zg x r (λhh=>h (by simp[hh]))
  unfold r8;split
  ·simp only[aSg,ih]
  ·split
   ·rename_i hh
    exact absurd (by simp[hh]) h
   ·simp only[aSg]
theorem Zl: ∀(xs l:List Int),xs.Nodup->(∀x∈xs,x∉l)->(xG l xs).length=l.length+xs.length
 |[],l,_,_=>rfl
 |x::xs,l,h,hd=>by
  obtain⟨h1,h2⟩:=List.nodup_cons.mp h;have:=Zl xs (r8 x l) h2 (λy hy hh=>by
   rcases(Hg x y l).mp hh with rfl|hh
   ·exact h1 hy
   ·exact hd y (by simp[hy]) hh)
  have h3:=Zg x l (hd x (by simp))
  unfold xG at*;rw[List.foldl_cons,this,h3,aSg];omega
theorem Zd {n:Int}: ∀(E:List Ed),VE n E-> ∀v,(iF E v).Nodup
 |[],_,v=>List.Pairwise.nil
 |e::E,h,v=>by
  have hE:VE n E:=⟨λx hx=>h.ok x (by simp[hx]),(List.nodup_cons.mp h.nd).2⟩
  have ih:=Zd E hE v;have hc:iF (e::E) v=oA v e++iF E v:=by unfold iF;rw[List.flatMap_cons]
  rw[hc];refine List.nodup_append.mpr ⟨?_,ih,?_⟩
  ·unfold oA
   split
   ·exact List.Pairwise.nil
   ·split
    ·simp
    ·split<;>simp
  ·intro x hx y hy hh
   subst hh;obtain⟨h1,h2⟩:=Hm.mp hx;obtain⟨_,h3⟩:=Zc.mp hy;have he:=(List.nodup_cons.mp h.nd).1;have o1:=h.ok e (by simp)
   rcases h2 with rfl|rfl
   ·rcases h3 with h3|h3
    ·exact he h3
    ·have o2:=hE.ok _ h3
     simp only[okE] at o1 o2;omega
   ·rcases h3 with h3|h3
    ·have o2:=hE.ok _ h3
     simp only[okE] at o1 o2;omega
    ·exact he h3
theorem aJl {n:Int}{E:List Ed}(h:VE n E)(v:Int):(bes E v).length=(iF E v).length:=by
 rw[aI5,Zl _ _ (Zd E h v) (λ_ _=>aSk)]
 simp
def rE (E:List Ed):Nat->Nat
 |0=>0
 |n+1=>rE E n+(iF E n).length
theorem Zm (e:Ed)(E:List Ed): ∀n,rE (e::E) n=rE [e] n+rE E n
 |0=>rfl
 |n+1=>by
  have ih:=Zm e E n;have hc:iF (e::E) n=oA n e++iF E n:=by unfold iF;rw[List.flatMap_cons]
  have hc1:iF [e] n=oA n e:=by unfold iF;simp
  unfold rE;rw[ih,hc,hc1,aR6];omega
def sA (x:Int)(n:Nat):Nat:=if x<n then 1 else 0
theorem Zo (x:Int)(n:Nat):sA x (n+1)=sA x n+(if x=n then 1 else 0):=by
 unfold sA;by_cases h1:x<n
 ·rw[if_pos h1,if_pos U,if_neg U]
 ·rw[if_neg h1]
  by_cases h2:x=n
  ·rw[if_pos h2,if_pos U]
  ·rw[if_neg h2,if_neg U]
theorem aJm {v:Int}{e:Ed}(h:e.1<e.2):(oA v e).length=(if e.1=v then 1 else 0)+(if e.2=v then 1 else 0):=by
 unfold oA;rw[if_neg U]
 by_cases h1:e.1=v
 ·rw[if_pos h1,if_pos h1,if_neg U]
  rfl
 ·rw[if_neg h1,if_neg h1]
  by_cases h2:e.2=v
  ·rw[if_pos h2,if_pos h2]
   rfl
  ·rw[if_neg h2,if_neg h2]
   rfl
theorem Zn (e:Ed)(h0:0<=e.1)(h:e.1<e.2): ∀n:Nat,rE [e] n=sA e.1 n+sA e.2 n
 |0=>by
  have h1:sA e.1 0=0:=by unfold sA;rw[if_neg U]
  have h2:sA e.2 0=0:=by unfold sA;rw[if_neg U]
  rw[h1,h2];rfl
 |n+1=>by
  have ih:=Zn e h0 h n;have hc1:iF [e] n=oA n e:=by unfold iF;simp
  have:rE [e] (n+1)=rE [e] n+(iF [e] n).length:=rfl;rw[this,ih,hc1,aJm h,Zo,Zo];omega
theorem Nz {n:Nat}: ∀E:List Ed,(∀e∈E,okE n e)->rE E n=2*E.length
 |[],_=>by
  have: ∀m,rE [] m=0:=λm=>by
   induction m with
   |zero=>rfl
   |succ m ih=>unfold rE;rw[ih];rfl
  rw[this];rfl
 |e::E,h=>by
  have ih:=Nz E λx hx=>h x (by simp[hx])
  obtain⟨h1,h2,h3⟩:=h e (by simp)
  have u1:sA e.1 n=1:=by unfold sA;rw[if_pos U]
  have u2:sA e.2 n=1:=by unfold sA;rw[if_pos h3]
  rw[Zm,ih,Zn e h1 h2,u1,u2,aSg];omega
theorem Nv {n:Nat}{E:List Ed}(h:VE n E)(hn:n<=6): ∀k,((List.range k).flatMap (o9 E)).length=rE E k
 |0=>rfl
 |k+1=>by
  have ih:=Nv h hn k;rw[aSt,List.flatMap_append,aR6,ih];have hsu:rE E (k+1)=rE E k+(iF E k).length:=rfl;rw[hsu,<-aJl h];have hf:((bes E k).filter λw=>wi w 0 5)=bes E k:=by
   rw[List.filter_eq_self];intro x hx;have:=zF h hx;unfold wi;rw[aSE U,aSE U]
   rfl
  simp[o9,hf]
theorem Nx (nodes:Nat):2<=mkN nodes/\mkN nodes<=6:=by unfold mkN;omega
theorem aJo (nodes room more joined:Nat)(next:List Nat):VE (mkP nodes room more joined next).nodes (mkP nodes room more joined next).edges:=aJq joined (mkN nodes)
theorem Zh (nodes room more joined:Nat)(next:List Nat):(mkP nodes room more joined next).edges.length<=15:=
 aSa (Nt _ _) (aJp (Nx nodes).2)
theorem Zi (nodes room more joined:Nat)(next:List Nat):gY (mkP nodes room more joined next)=true:=by
 have hn:=Nx nodes;unfold gY;simp only[aR2,decide_eq_true_eq];refine⟨?_,by unfold zC;rw[aR2,decide_eq_true_eq];exact⟨(Zf _ _).mpr (aJo ..),by have:=Zh nodes room more joined next;omega⟩,?_,?_,?_,?_⟩
 ·unfold rZ wi mkP
  simp only[aR2,decide_eq_true_eq];omega
 ·simp[mkP]
 ·unfold wOk
  simp only[mkP,aR8,aSo];rw[aSF U,aSF U]
  simp only[Bool.false_or,Bool.not_eq_true',List.any_eq_false];intro x hx;obtain⟨i,_,rfl⟩:=aSx.mp hx;unfold sV mkW;rw[aSF U,aSF U]
  simp
 ·simp[mkP]
 ·unfold xB
  simp only[Bool.not_eq_true',List.any_eq_false];intro x hx;obtain⟨i,_,rfl⟩:=aSx.mp hx;simp[xH,mkP]
theorem Made.pv {H0 H2:aF}{nodes room more joined:Nat}{next:List Nat}{u:Value}(h:Made H0 (mkP nodes room more joined next) H2 u): ∃ev wv nv,u=plV (mkP nodes room more joined next) ev wv nv/\Ext H0 H2/\PV H2 (mkP nodes room more joined next) ev wv nv:=by
 obtain⟨ev,wv,nv,h1,h2,h3,h4,h5⟩:=h;have:=Zh nodes room more joined next
 have hn:=Nx nodes
 exact⟨ev,wv,nv,h1,h2,h3.rs,h4.rs,h5.rw.aI7,by omega,by simp[mkP];omega,by simp[mkP];omega⟩
def plZ:Blk:= .cells [Value.int .i64 0,.slice none 0 0,.int .i64 0,.int .i64 0,.int .i64 0,.int .i64 0,.int .i64 0,.int .i64 0,.slice none 0 0,.int .u16 0,.slice none 0 0] 28 .fix
theorem Bf:Blk.cells [Value.int .i64 0,.slice none 0 0,.int .i64 0,.int .i64 0,.int .i64 0,.int .i64 0,.int .i64 0,.int .i64 0,.slice none 0 0,.int .u16 0,.slice none 0 0] 28 .fix=plZ:=rfl
section
variable {H : aF} {m : Nat} {p : PlanD} {ev wv nv : Value}
theorem Rs.Dc {α:Type}{el:α->List Value}{e:TypeId}{v:Value}{xs:List α}(h:Rs el e H v xs):v.cells.toList=[v]/\dV [v]=true/\veq 3 v v=true:=by
 rcases h with⟨rfl,_⟩|⟨b,o,cap,rfl,_⟩
 ·exact⟨rfl,rfl,rfl⟩
 ·exact⟨rfl,rfl,by simp[veq]⟩
theorem Rows.Zp {v:Value}{xss:List (List Int)}(h:Rows H v xss):v.cells.toList=[v]/\dV [v]=true/\veq 3 v v=true:=by
 obtain⟨us,h1,_⟩:=h;exact Rs.Dc h1
theorem PV.Db (h:PV H p ev wv nv):dV (plC p ev wv nv)=true:=by
 have e1: ∀(v:Value)(vs:List Value),dV [v]=true->dV (v::vs)=dV vs:=λv vs h=>by
  simp only[dV,List.all_cons,List.all_nil,Bool.and_true] at h⊢;rw[h,aSh]
 simp only[plC,V3,e1 _ _ (Rs.Dc h.e).2.1,e1 _ _ (Rs.Dc h.w).2.1,e1 _ _ (Rows.Zp h.n).2.1,V4]
theorem PV.chk (h:PV H p ev wv nv)(H':aF):Go.Abs.chk (some (plV p ev wv nv,H')) (plV p ev wv nv)=true:=by
 have h1:=(Rs.Dc h.e).2.2;have h2:=(Rs.Dc h.w).2.2;have h3:=(Rows.Zp h.n).2.2;have hi: ∀(k:IntKind)(a:Int),veq 3 (.int k a) (.int k a)=true:=λk a=>by simp[veq]
 show veq 4 (plV p ev wv nv) (plV p ev wv nv)=true
 unfold plV plC;rw[veq];simp only[uI,hi,h1,h2,h3,Bool.and_self]
theorem Dd (h:PV H p ev wv nv)(H':aF):stN 11 (.Q H'.length 0) (plV p ev wv nv) (H'++[plZ])=some (undef,H'++[plB p ev wv nv]):=by
 have e1:(plV p ev wv nv).cells.toList=plC p ev wv nv:=rfl;rw[mA 11 _ _ _ rfl,fA,e1];unfold plZ;rw[oK _ _ _ _ _ _ aC (by simp[plC]) h.Db]
 simp[eT,plC,plB]
theorem N0 {q q':PlanD}{ev' wv' nv' v:Value}{b j:Nat}(hb:H[b]? =some (plB q ev wv nv))(hv:v.cells.toList=[v])(ha:dV [v]=true)(hj:j<11)(hq:(plC q ev wv nv).set j v=plC q' ev' wv' nv'):stN 1 (.Q b j) v H=some (undef,H.set b (plB q' ev' wv' nv')):=by
 rw[mA 1 _ _ _ (by rw[hv];rfl),hb]
 unfold plB;rw[hv,oK _ _ _ _ _ _ aC (by simp[plC];omega) ha]
 rw[<-hq];rfl
theorem pU {H0 H1:aF}{b:Nat}{x:Blk}(he:Ext H0 H1)(hb:H0.length<=b):Ext H0 (H1.set b x):=⟨by rw[List.length_set];exact he.1,λc hc _=>by rw[aRV U,he.2 c hc id]⟩
end
section
variable {H : aF} {m : Nat} {p : PlanD} {ev wv nv : Value}
theorem aJr (H:aF):Us H (.slice none 0 0) []:= .inl ⟨rfl,rfl⟩
end
section
variable {H : aF} {m : Nat} {p : PlanD} {ev wv nv : Value}
theorem Hn {n:Nat}{E:List Ed}(hE:VE n E)(hn:n<=6){v:Nat}{x:Ed}:x∈o9 E v↔x.1=v/\x.2∈bes E v:=by
 unfold o9;simp only[aSx,List.mem_filter];constructor
 ·rintro ⟨w,⟨h1,_⟩,rfl⟩
  exact⟨rfl,h1⟩
 ·rintro ⟨h1,h2⟩
  obtain⟨a,b⟩:=x;simp only at h1 h2;refine⟨b,⟨h2,?_⟩,by rw[h1]⟩
  have:=zF hE h2;unfold wi;simp;omega
theorem N3 {n:Nat}{E:List Ed}(hE:VE n E)(hn:n<=6){x:Ed}:x∈(List.range n).flatMap (o9 E)↔x.2∈bes E x.1:=by
 rw[List.mem_flatMap];constructor
 ·rintro ⟨v,_,h2⟩
  obtain⟨h3,h4⟩:=(Hn hE hn).mp h2;rw[h3];exact h4
 ·intro h
  have:=zF hE h;have e:((x.1.toNat:Nat):Int)=x.1:=U
  refine⟨x.1.toNat,aSy.mpr U,(Hn hE hn).mpr ⟨e.symm,?_⟩⟩
  rw[e];exact h
theorem aJs {n:Nat}{E:List Ed}(hE:VE n E)(hn:n<=6):((List.range n).flatMap (o9 E)).Pairwise (λa b=>a.1<b.1∨(a.1=b.1/\a.2<b.2)):=by
 rw[List.pairwise_flatMap];constructor
 ·intro v _
  unfold o9;rw[List.pairwise_map]
  exact(List.Pairwise.filter _ (G9 E v)).imp λh=> .inr ⟨rfl,h⟩
 ·refine List.pairwise_lt_range.imp λ{a b} hab x hx y hy=> ?_
  have h1:=((Hn hE hn).mp hx).1;have h2:=((Hn hE hn).mp hy).1
  left;omega
end
section
variable {H : aF} {m : Nat} {p : PlanD} {ev wv nv : Value}
theorem aJt (H:aF)(x:Ed):dT 34 2 1 [.I 0,.I 0] [(0,edV x)] H=some (.slice (some ⟨H.length,0,none⟩) 1 1,H++[.cells (edC x) 34 .row]):=rfl
end
section
variable {H : aF} {m : Nat} {p : PlanD} {ev wv nv : Value}
theorem Rs.sv {α:Type}{el:α->List Value}{e:TypeId}{v:Value}{xs:List α}(h:Rs el e H v xs):dV [v]=true/\v.cells= #[v]:=by
 rcases h with⟨rfl,_⟩|⟨b,o,cap,rfl,_⟩<;>exact⟨rfl,rfl⟩
theorem aJu {H0 H1:aF}{a u:Value}(he:Ext H0 H1)(h:ld1 a H0=some (u,H0)):ld1 a H1=some (u,H1):=by
 unfold ld1 at*;cases a with
 |pointer x=>
  cases x with
  |none=>simp at h
  |some ad=>
   obtain⟨b,o,s⟩:=ad;cases s with
   |some s=>simp at h
   |none=>
    simp only at h⊢;cases hb:H0[b]? with
    |none=>rw[hb] at h;simp at h
    |some y=>
     rw[eS hb he];rw[hb] at h;cases y with
     |cells cs e k=>
      simp only at h⊢;cases hc:cs[o]? with
      |none=>rw[hc] at h;simp at h
      |some z=>
       rw[hc] at h;simp at h;subst h;rfl
     |map=>simp at h
     |dead=>simp at h
 |_=>simp at h
end
end Go.Proofs.YtkeilicinggjmaaGreatDoor
noncomputable section
namespace Go.Proofs.YtkeilicinggjmaaGreatDoor
open Go.Proofs.Tryz
open Go.Abs Go.Abs.M
variable (O:aH)(L:LV)(k:KV)(N P Q R S T U V W X Y Z a b c d e f g i j l m n o p q r s t u v w x y z A B C D E F G H I J zz zy zx zw zv zu zt zs zr zq zp zo zn zm zl zk zj zi zh zg zf ze zd zc zb za yz yy yx yw yv yu yt ys yr yq yp yo yn ym yl yk yj yi yh yg yf ye yd yc yb ya xz xy xx xw xv xu xt xs xr xq xp xo xn xm xl xk xj xi xh xg xf xe xd xc xb xa wz wy wx ww wv wu wt ws wr wq wp wo wn wm wl wk wj wi wh wg wf we wd wc wb wa vz:Value)(h:aF)
theorem aJv:bT prog O L 10 [N,P,Q,R] h=ob (cX 28 [(.I 0),(.slice none 0 0),(.I 0),(.I 0),(.I 0),(.I 0),(.I 0),(.I 0),(.slice none 0 0),(.int .u16 0),(.slice none 0 0)] .fix h) λaa h=>ob (O (.func 16) [(.int .u8 0),P,Q,R,(.slice none 0 0)] h) λab h=>ob (O (.func 33) [N] h) λac h=>ob (O (.func 32) [ab,ac] h) λad h=>ob (aG (ext 0 ad) h) λae h=>ob (aG (ext 1 ad) h) λaf h=>ob (cX 28 [(.I 0),(.slice none 0 0),(.I 0),(.I 0),(.I 0),(.I 0),(.I 0),(.I 0),(.slice none 0 0),(.int .u16 0),(.slice none 0 0)] .fix h) λag h=>ob (stN 11 ag ae h) λah h=>ob (ldN 11 ag h) λai h=>ob (stN 11 aa ai h) λaj h=>ob (ldN 11 aa h) λw10 _=>some (aL [w10],h):=by kernel_rfl
def N8:Code:=bR [1,1,1,1,1,1,1,1,1,1,0,1,0,0,1,0,0,1,0,1,0,0] (cG prog 32)
def Oc:KV:=(dY 4 (eK prog O L (bR [1,1,1,1,1,1,1,1,1,1,0,1,0,0,1,0,0,1,1] (cG prog 32)) (dY 3 (eK prog O L (bR [1,1,1,1,1,1,1,1,1,1,0,1,0,0,1,1] (cG prog 32)) k))))
def N9 (O:aH)(L:LV) (k:KV) (a b c d e f g i j l m n o p q r s t u v w x y z A B C D E F G H I J zz zy zx zw zv zu zt zs zr zq zp zo zn zm zl zk zj zi zh zg zf ze zd zc zb za yz yy yx yw yv yu yt ys yr yq yp yo yn ym yl yk yj yi yh yg yf ye yd:Value) (h:aF):OV:=ob (aG (aJ 10 c) h) λaa h=>ob (ld1 aa h) λab h=>ob (dT 25 1 1 [(.slice none 0 0)] [(0,m)] h) λac h=>ob (app 25 1 24 ab ac h) λad h=>ob (aG (aJ 10 c) h) λae h=>ob (stN 1 ae ad h) λaf h=>ob (aG (bin prog .add 3 l (.I 1)) h) λag h=>k .normal [a,b,c,d,e,f,g,i,j,ag,m,n,o,p,q,r,s,t,u,v,w,x,y,z,A,B,C,D,E,F,G,H,I,J,zz,zy,zx,zw,zv,zu,zt,zs,zr,zq,zp,zo,zn,zm,zl,zk,zj,zi,zh,zg,zf,l,ag,zc,zb,za,yz,yy,yx,yw,yv,yu,yt,ys,yr,yq,yp,yo,yn,ym,yl,yk,aa,ab,m,ac,ad,ae,yd] h
theorem aJB:Oc O L k (.exit 4) [a,b,c,d,e,f,g,i,j,l,m,n,o,p,q,r,s,t,u,v,w,x,y,z,A,B,C,D,E,F,G,H,I,J,zz,zy,zx,zw,zv,zu,zt,zs,zr,zq,zp,zo,zn,zm,zl,zk,zj,zi,zh,zg,zf,ze,zd,zc,zb,za,yz,yy,yx,yw,yv,yu,yt,ys,yr,yq,yp,yo,yn,ym,yl,yk,yj,yi,yh,yg,yf,ye,yd] h=N9 O L k a b c d e f g i j l m n o p q r s t u v w x y z A B C D E F G H I J zz zy zx zw zv zu zt zs zr zq zp zo zn zm zl zk zj zi zh zg zf ze zd zc zb za yz yy yx yw yv yu yt ys yr yq yp yo yn ym yl yk yj yi yh yg yf ye yd h:=by kernel_rfl
theorem Zv:aN prog O L N8 k [a,b,c,d,e,f,g,i,j,l,m,n,o,p,q,r,s,t,u,v,w,x,y,z,A,B,C,D,E,F,G,H,I,J,zz,zy,zx,zw,zv,zu,zt,zs,zr,zq,zp,zo,zn,zm,zl,zk,zj,zi,zh,zg,zf,ze,zd,zc,zb,za,yz,yy,yx,yw,yv,yu,yt,ys,yr,yq,yp,yo,yn,ym,yl,yk,yj,yi,yh,yg,yf,ye,yd] h=ob (aG (bin prog .lss 3 n g) h) λaa h=>aO aa (ob (aG (bin prog .neq 3 l n) h) λab h=>aO ab (ob (O (.func 74) [b,l,n] h) λac h=>ob (aG (aT 1 ac (.I 1)) h) λad h=>ob (ld1 ad h) λae h=>ob (dT 3 1 1 [(.I 0)] [(0,ae)] h) λaf h=>ob (app 3 1 8 m af h) λag h=>ob (aG (bin prog .add 3 n (.I 1)) h) λah h=>k .normal [a,b,c,d,e,f,g,i,j,l,ag,ah,ae,p,q,r,s,t,u,v,w,x,y,z,A,B,C,D,E,F,G,H,I,J,zz,zy,zx,zw,zv,zu,zt,zs,zr,zq,zp,zo,zn,zm,zl,zk,zj,zi,zh,zg,zf,ze,zd,n,g,aa,n,ah,l,l,n,ab,b,l,n,ac,ad,ae,m,ae,af,ag,yj,yi,yh,yg,yf,ye,yd] h) (ob (dT 3 1 1 [(.I 0)] [(0,l)] h) λai h=>ob (app 3 1 8 m ai h) λaj h=>ob (aG (bin prog .add 3 n (.I 1)) h) λak h=>k .normal [a,b,c,d,e,f,g,i,j,l,aj,ak,l,p,q,r,s,t,u,v,w,x,y,z,A,B,C,D,E,F,G,H,I,J,zz,zy,zx,zw,zv,zu,zt,zs,zr,zq,zp,zo,zn,zm,zl,zk,zj,zi,zh,zg,zf,ze,zd,n,g,aa,n,ak,l,l,n,ab,yt,ys,yr,yq,yp,yo,m,l,ai,aj,yj,yi,yh,yg,yf,ye,yd] h)) (k (.exit 4) [a,b,c,d,e,f,g,i,j,l,m,n,o,p,q,r,s,t,u,v,w,x,y,z,A,B,C,D,E,F,G,H,I,J,zz,zy,zx,zw,zv,zu,zt,zs,zr,zq,zp,zo,zn,zm,zl,zk,zj,zi,zh,zg,zf,ze,zd,n,g,aa,yz,yy,yx,yw,yv,yu,yt,ys,yr,yq,yp,yo,yn,ym,yl,yk,yj,yi,yh,yg,yf,ye,yd] h):=by kernel_rfl
def N7:Code:=bR [1,1,1,1,1,1,1,1,1,1,0,1,0,0] (cG prog 32)
def Ob:KV:=(dY 2 (eK prog O L (bR [1,1,1,1,1,1,1,1,1,1,1] (cG prog 32)) (eX prog Tryz.f32)))
theorem aJA:Ob O L (.exit 2) [a,b,c,d,e,f,g,i,j,l,m,n,o,p,q,r,s,t,u,v,w,x,y,z,A,B,C,D,E,F,G,H,I,J,zz,zy,zx,zw,zv,zu,zt,zs,zr,zq,zp,zo,zn,zm,zl,zk,zj,zi,zh,zg,zf,ze,zd,zc,zb,za,yz,yy,yx,yw,yv,yu,yt,ys,yr,yq,yp,yo,yn,ym,yl,yk,yj,yi,yh,yg,yf,ye,yd] h=ob (ldN 11 c h) λaa h=>ob (stN 11 e aa h) λab h=>ob (ldN 11 e h) λw39 _=>some (aL [w39,(.I 0)],h):=by kernel_rfl
theorem Zu:aN prog O L N7 k [a,b,c,d,e,f,g,i,j,l,m,n,o,p,q,r,s,t,u,v,w,x,y,z,A,B,C,D,E,F,G,H,I,J,zz,zy,zx,zw,zv,zu,zt,zs,zr,zq,zp,zo,zn,zm,zl,zk,zj,zi,zh,zg,zf,ze,zd,zc,zb,za,yz,yy,yx,yw,yv,yu,yt,ys,yr,yq,yp,yo,yn,ym,yl,yk,yj,yi,yh,yg,yf,ye,yd] h=ob (aG (bin prog .lss 3 l g) h) λaa h=>aO aa (L (aN prog O L N8) (Oc O L k) [a,b,c,d,e,f,g,i,j,l,(.slice none 0 0),(.I 0),o,p,q,r,s,t,u,v,w,x,y,z,A,B,C,D,E,F,G,H,I,J,zz,zy,zx,zw,zv,zu,zt,zs,zr,zq,zp,zo,zn,zm,zl,zk,zj,zi,l,g,aa,ze,zd,zc,zb,za,yz,yy,yx,yw,yv,yu,yt,ys,yr,yq,yp,yo,yn,ym,yl,yk,yj,yi,yh,yg,yf,ye,yd] h) (k (.exit 2) [a,b,c,d,e,f,g,i,j,l,m,n,o,p,q,r,s,t,u,v,w,x,y,z,A,B,C,D,E,F,G,H,I,J,zz,zy,zx,zw,zv,zu,zt,zs,zr,zq,zp,zo,zn,zm,zl,zk,zj,zi,l,g,aa,ze,zd,zc,zb,za,yz,yy,yx,yw,yv,yu,yt,ys,yr,yq,yp,yo,yn,ym,yl,yk,yj,yi,yh,yg,yf,ye,yd] h):=by kernel_rfl
def N6:Code:=bR [1,1,1,1,1,0,1,0,0] (cG prog 32)
def Oa:KV:=(dY 0 (eK prog O L (bR [1,1,1,1,1,1] (cG prog 32)) (eX prog Tryz.f32)))
theorem aJz:Oa O L (.exit 0) [a,b,c,d,e,f,g,i,j,l,m,n,o,p,q,r,s,t,u,v,w,x,y,z,A,B,C,D,E,F,G,H,I,J,zz,zy,zx,zw,zv,zu,zt,zs,zr,zq,zp,zo,zn,zm,zl,zk,zj,zi,zh,zg,zf,ze,zd,zc,zb,za,yz,yy,yx,yw,yv,yu,yt,ys,yr,yq,yp,yo,yn,ym,yl,yk,yj,yi,yh,yg,yf,ye,yd] h=ob (aG (aJ 8 c) h) λaa h=>ob (ld1 aa h) λab h=>ob (app 3 1 8 (.slice none 0 0) ab h) λac h=>ob (aG (aJ 8 c) h) λad h=>ob (stN 1 ad ac h) λae h=>ob (aG (aJ 10 c) h) λaf h=>ob (stN 1 af (.slice none 0 0) h) λag h=>L (aN prog O L N7) (Ob O L) [a,b,c,d,e,f,g,i,ac,(.I 0),m,n,o,p,q,r,s,t,u,v,w,x,y,z,A,B,C,D,E,F,G,H,I,J,zz,zy,zx,zw,zv,zu,zt,zs,zr,zq,zp,(.slice none 0 0),aa,ab,ac,ac,ad,af,zh,zg,zf,ze,zd,zc,zb,za,yz,yy,yx,yw,yv,yu,yt,ys,yr,yq,yp,yo,yn,ym,yl,yk,yj,yi,yh,yg,yf,ye,yd] h:=by kernel_rfl
theorem Zt:aN prog O L N6 k [a,b,c,d,e,f,g,i,j,l,m,n,o,p,q,r,s,t,u,v,w,x,y,z,A,B,C,D,E,F,G,H,I,J,zz,zy,zx,zw,zv,zu,zt,zs,zr,zq,zp,zo,zn,zm,zl,zk,zj,zi,zh,zg,zf,ze,zd,zc,zb,za,yz,yy,yx,yw,yv,yu,yt,ys,yr,yq,yp,yo,yn,ym,yl,yk,yj,yi,yh,yg,yf,ye,yd] h=ob (aG (bin prog .lss 3 i g) h) λaa h=>aO aa (ob (aG (aJ 1 c) h) λab h=>ob (ld1 ab h) λac h=>ifB (true) (ob (aG (bin prog .sub 3 i (.I 1)) h) λad h=>ob (aG (aT 1 b ad) h) λae h=>ob (ld1 ae h) λaf h=>ifB (true) (ob (aG (bld prog 34 [(0,af),(1,i)]) h) λag h=>ob (dT 34 2 1 [(.I 0),(.I 0)] [(0,ag)] h) λah h=>ob (app 34 2 16 ac ah h) λai h=>ifB (true) (ob (aG (aJ 1 c) h) λaj h=>ob (stN 1 aj ai h) λak h=>ifB (true) (ob (aG (bin prog .add 3 i (.I 1)) h) λal h=>k .normal [a,b,c,d,e,f,g,al,j,l,m,n,o,p,q,r,s,t,u,v,w,x,y,z,A,B,C,D,i,g,aa,i,al,ab,ac,b,i,ad,ae,af,i,ag,ah,ai,aj,zo,zn,zm,zl,zk,zj,zi,zh,zg,zf,ze,zd,zc,zb,za,yz,yy,yx,yw,yv,yu,yt,ys,yr,yq,yp,yo,yn,ym,yl,yk,yj,yi,yh,yg,yf,ye,yd] h))))) (k (.exit 0) [a,b,c,d,e,f,g,i,j,l,m,n,o,p,q,r,s,t,u,v,w,x,y,z,A,B,C,D,i,g,aa,H,I,J,zz,zy,zx,zw,zv,zu,zt,zs,zr,zq,zp,zo,zn,zm,zl,zk,zj,zi,zh,zg,zf,ze,zd,zc,zb,za,yz,yy,yx,yw,yv,yu,yt,ys,yr,yq,yp,yo,yn,ym,yl,yk,yj,yi,yh,yg,yf,ye,yd] h):=by kernel_rfl
theorem aJC:bT prog O L 32 [N,P] h=ob (cX 28 (Value.cells N).toList .fix h) λaa h=>ob (cX 28 [(.I 0),(.slice none 0 0),(.I 0),(.I 0),(.I 0),(.I 0),(.I 0),(.I 0),(.slice none 0 0),(.int .u16 0),(.slice none 0 0)] .fix h) λab h=>ob (O (.func 73) [P] h) λac h=>ob (aG (un prog .not ac) h) λad h=>ob (gd ad false (cI P) h) λae h=>ob (gd ad false (aG (aZ ae)) h) λaf h=>ob (gd ad false (aG (bin prog .eql 3 af (.I 0))) h) λag h=>ob (aG (cQ ad (.bool true) ag) h) λah h=>aO ah (ob (aG (bld prog 28 []) h) λai h=>ob (stN 11 ab ai h) λaj h=>ob (ldN 11 ab h) λw10 _=>some (aL [w10,(.I 120)],h)) (ob (aG (aZ P) h) λak h=>ob (aG (bin prog .add 3 ak (.I 1)) h) λal h=>ob (aG (aJ 0 aa) h) λam h=>ob (stN 1 am al h) λan h=>ob (aG (aJ 1 aa) h) λao h=>ob (stN 1 ao (.slice none 0 0) h) λap h=>L (aN prog O L N6) (Oa O L) [N,P,aa,undef,ab,(.I 0),al,(.I 1),undef,undef,undef,undef,undef,P,ac,ad,ad,ae,af,ag,ah,undef,P,ak,al,al,am,ao,undef,undef,undef,undef,undef,undef,undef,undef,undef,undef,undef,undef,undef,undef,undef,undef,undef,undef,undef,undef,undef,undef,undef,undef,undef,undef,undef,undef,undef,undef,undef,undef,undef,undef,undef,undef,undef,undef,undef,undef,undef,undef,undef,undef,undef,undef,undef,undef,undef,undef,undef,undef,undef,undef,undef] h):=by kernel_rfl
def Od:Code:=bR [1,1,0,1,0,0] (cG prog 33)
def Of:KV:=(dY 0 (eK prog O L (bR [1,1,1] (cG prog 33)) (eX prog Tryz.f33)))
def Oe (O:aH)(L:LV) (a b c d e f g i j l m n o p q r s t u v w x y z A B C D E F G H I:Value) (h:aF):OV:=ob (aG (aZ d) h) λaa h=>ob (aG (bin prog .eql 3 aa (.I 0)) h) λab h=>aO ab (ob (dT 3 1 1 [(.I 0)] [(0,(.I 0))] h) λac h=>ob (app 3 1 8 d ac h) λad h=>some (aL [ad],h)) (some (aL [d],h))
theorem Zx:Of O L (.exit 0) [a,b,c,d,e,f,g,i,j,l,m,n,o,p,q,r,s,t,u,v,w,x,y,z,A,B,C,D,E,F,G,H,I] h=Oe O L a b c d e f g i j l m n o p q r s t u v w x y z A B C D E F G H I h:=by kernel_rfl
theorem Zw:aN prog O L Od k [a,b,c,d,e,f,g,i,j,l,m,n,o,p,q,r,s,t,u,v,w,x,y,z,A,B,C,D,E,F,G,H,I] h=ob (aG (aZ a) h) λaa h=>ob (aG (bin prog .lss 3 e aa) h) λab h=>ob (gd ab true (cI e) h) λac h=>ob (gd ab true (aG (bin prog .lss 3 ac (.I 5))) h) λad h=>ob (aG (cQ ab ad (.bool false)) h) λae h=>aO ae (ob (aG (aT 1 a e) h) λaf h=>ob (ld1 af h) λag h=>ob (eA prog 5 3 ag h) λah h=>ob (aG (bin prog .add 3 e (.I 1)) h) λai h=>ob (aG (bin prog .rem 3 ah ai) h) λaj h=>ob (dT 3 1 1 [(.I 0)] [(0,aj)] h) λak h=>ob (app 3 1 8 d ak h) λal h=>ob (aG (bin prog .add 3 e (.I 1)) h) λam h=>k .normal [a,b,c,al,am,e,a,aa,ab,ab,ac,ad,ae,e,am,d,a,e,af,ag,ah,e,ai,aj,ak,al,C,D,E,F,G,H,I] h) (k (.exit 0) [a,b,c,d,e,e,a,aa,ab,ab,ac,ad,ae,p,q,r,s,t,u,v,w,x,y,z,A,B,C,D,E,F,G,H,I] h):=by kernel_rfl
theorem aJD:bT prog O L 33 [N] h=L (aN prog O L Od) (Of O L) [N,undef,(.slice none 0 0),(.slice none 0 0),(.I 0),undef,undef,undef,undef,undef,undef,undef,undef,undef,undef,undef,undef,undef,undef,undef,undef,undef,undef,undef,undef,undef,undef,undef,undef,undef,undef,undef,undef] h:=by kernel_rfl
def Oi:Code:=bR [1,1,1,1,1,0,1,0,0] (cG prog 34)
def Ht:KV:=(dY 4 (eK prog O L (bR [1,1,1,1,1,1] (cG prog 34)) (eX prog Tryz.f34)))
theorem aJG:Ht O L (.exit 4) [a,b,c,d,e,f,g,i,j,l,m,n,o,p,q,r,s,t,u,v,w,x,y,z,A,B,C,D,E,F,G,H,I,J,zz,zy,zx,zw,zv,zu,zt,zs,zr,zq,zp,zo,zn,zm,zl,zk,zj,zi,zh,zg,zf,ze,zd,zc,zb,za,yz,yy,yx,yw,yv,yu,yt,ys,yr,yq,yp] h=some (aL [(.int .u16 0)],h):=by kernel_rfl
theorem aJK:Ht O L .ret [a,b,c,d,e,f,g,i,j,l,m,n,o,p,q,r,s,t,u,v,w,x,y,z,A,B,C,D,E,F,G,H,I,J,zz,zy,zx,zw,zv,zu,zt,zs,zr,zq,zp,zo,zn,zm,zl,zk,zj,zi,zh,zg,zf,ze,zd,zc,zb,za,yz,yy,yx,yw,yv,yu,yt,ys,yr,yq,yp] h=some (aL [c],h):=by kernel_rfl
theorem Z0:aN prog O L Oi k [a,b,c,d,e,f,g,i,j,l,m,n,o,p,q,r,s,t,u,v,w,x,y,z,A,B,C,D,E,F,G,H,I,J,zz,zy,zx,zw,zv,zu,zt,zs,zr,zq,zp,zo,zn,zm,zl,zk,zj,zi,zh,zg,zf,ze,zd,zc,zb,za,yz,yy,yx,yw,yv,yu,yt,ys,yr,yq,yp] h=ob (aG (bin prog .lss 3 zf zg) h) λaa h=>aO aa (ob (aG (aP j) h) λab h=>ob (aG (aJ 0 ab) h) λac h=>ob (ld1 ac h) λad h=>ob (aG (aT 1 ad zf) h) λae h=>ob (ld1 ae h) λaf h=>ob (aG (bin prog .eql 3 af (.I 0)) h) λag h=>ob (gd ag true (cI j) h) λah h=>ob (gd ag true (cI zf) h) λai h=>ob (gd ag true (O (.func 78) [ah,ai]) h) λaj h=>ob (aG (cQ ag aj (.bool false)) h) λak h=>aO ak (k .ret [a,b,(.int .u16 140),d,e,f,g,i,j,zf,m,n,o,p,q,r,s,t,u,v,w,x,y,z,A,B,C,D,E,F,G,H,I,J,zz,zy,zx,zw,zv,zu,zt,zs,zr,zq,zp,zo,zn,zm,zl,zk,zj,zi,zh,zg,zf,aa,zf,j,ab,ac,ad,zf,ae,af,ag,ag,ah,ai,aj,ak,yp] h) (ob (aG (bin prog .add 3 zf (.I 1)) h) λal h=>k .normal [a,b,c,d,e,f,g,i,j,zf,m,n,o,p,q,r,s,t,u,v,w,x,y,z,A,B,C,D,E,F,G,H,I,J,zz,zy,zx,zw,zv,zu,zt,zs,zr,zq,zp,zo,zn,zm,zl,zk,zj,zi,zh,zg,al,aa,zf,j,ab,ac,ad,zf,ae,af,ag,ag,ah,ai,aj,ak,al] h)) (k (.exit 4) [a,b,c,d,e,f,g,i,j,l,m,n,o,p,q,r,s,t,u,v,w,x,y,z,A,B,C,D,E,F,G,H,I,J,zz,zy,zx,zw,zv,zu,zt,zs,zr,zq,zp,zo,zn,zm,zl,zk,zj,zi,zh,zg,zf,aa,zd,zc,zb,za,yz,yy,yx,yw,yv,yu,yt,ys,yr,yq,yp] h):=by kernel_rfl
def Oh:Code:=bR [1,1,0,1,0,0,1,1,0,0,1,1,0,0] (cG prog 34)
def Hr:KV:=(dY 2 (dY 1 (eK prog O L (bR [1,1,0,1,0,0,1,1,1] (cG prog 34)) k)))
theorem aJF:Hr O L k (.exit 2) [a,b,c,d,e,f,g,i,j,l,m,n,o,p,q,r,s,t,u,v,w,x,y,z,A,B,C,D,E,F,G,H,I,J,zz,zy,zx,zw,zv,zu,zt,zs,zr,zq,zp,zo,zn,zm,zl,zk,zj,zi,zh,zg,zf,ze,zd,zc,zb,za,yz,yy,yx,yw,yv,yu,yt,ys,yr,yq,yp] h=ob (aG (bin prog .add 3 t (.I 1)) h) λaa h=>k .normal [a,b,c,d,e,f,g,i,j,l,m,n,o,p,q,r,s,aa,u,v,w,x,y,z,A,B,C,D,E,F,G,H,I,J,zz,aa,zx,zw,zv,zu,zt,zs,zr,zq,zp,zo,zn,zm,zl,zk,zj,zi,zh,zg,zf,ze,zd,zc,zb,za,yz,yy,yx,yw,yv,yu,yt,ys,yr,yq,yp] h:=by kernel_rfl
theorem aJJ:Hr O L k .ret [a,b,c,d,e,f,g,i,j,l,m,n,o,p,q,r,s,t,u,v,w,x,y,z,A,B,C,D,E,F,G,H,I,J,zz,zy,zx,zw,zv,zu,zt,zs,zr,zq,zp,zo,zn,zm,zl,zk,zj,zi,zh,zg,zf,ze,zd,zc,zb,za,yz,yy,yx,yw,yv,yu,yt,ys,yr,yq,yp] h=k .ret [a,b,c,d,e,f,g,i,j,l,m,n,o,p,q,r,s,t,u,v,w,x,y,z,A,B,C,D,E,F,G,H,I,J,zz,zy,zx,zw,zv,zu,zt,zs,zr,zq,zp,zo,zn,zm,zl,zk,zj,zi,zh,zg,zf,ze,zd,zc,zb,za,yz,yy,yx,yw,yv,yu,yt,ys,yr,yq,yp] h:=by kernel_rfl
theorem Zz:aN prog O L Oh k [a,b,c,d,e,f,g,i,j,l,m,n,o,p,q,r,s,t,u,v,w,x,y,z,A,B,C,D,E,F,G,H,I,J,zz,zy,zx,zw,zv,zu,zt,zs,zr,zq,zp,zo,zn,zm,zl,zk,zj,zi,zh,zg,zf,ze,zd,zc,zb,za,yz,yy,yx,yw,yv,yu,yt,ys,yr,yq,yp] h=ob (aG (bin prog .lss 3 y x) h) λaa h=>aO aa (ob (ldN 11 b h) λab h=>ob (O (.func 76) [ab,e,y] h) λac h=>ob (aG (ext 0 ac) h) λad h=>ob (aG (ext 1 ac) h) λae h=>ob (aG (un prog .not ae) h) λaf h=>aO af (k .ret [a,b,(.int .u16 140),d,e,y,ad,ae,j,l,m,n,o,p,q,r,s,t,u,v,w,x,y,aa,y,ac,ab,e,y,ac,ad,ae,ae,af,zz,zy,zx,zw,zv,zu,zt,zs,zr,zq,zp,zo,zn,zm,zl,zk,zj,zi,zh,zg,zf,ze,zd,zc,zb,za,yz,yy,yx,yw,yv,yu,yt,ys,yr,yq,yp] h) (ob (aG (bin prog .add 3 y (.I 1)) h) λag h=>k .normal [a,b,c,d,e,y,ad,ae,j,l,m,n,o,p,q,r,s,t,u,v,w,x,ag,aa,y,ac,ab,e,y,ac,ad,ae,ae,af,ag,zy,zx,zw,zv,zu,zt,zs,zr,zq,zp,zo,zn,zm,zl,zk,zj,zi,zh,zg,zf,ze,zd,zc,zb,za,yz,yy,yx,yw,yv,yu,yt,ys,yr,yq,yp] h)) (k (.exit 2) [a,b,c,d,e,f,g,i,j,l,m,n,o,p,q,r,s,t,u,v,w,x,y,aa,A,B,C,D,E,F,G,H,I,J,zz,zy,zx,zw,zv,zu,zt,zs,zr,zq,zp,zo,zn,zm,zl,zk,zj,zi,zh,zg,zf,ze,zd,zc,zb,za,yz,yy,yx,yw,yv,yu,yt,ys,yr,yq,yp] h):=by kernel_rfl
def Og:Code:=bR [1,1,0,1,0,0] (cG prog 34)
def Hq:KV:=(dY 0 (eK prog O L (bR [1,1,1] (cG prog 34)) (eX prog Tryz.f34)))
def Oj (O:aH)(L:LV) (a b c d e f g i j l m n o p q r s t u v w x y z A B C D E F G H I J zz zy zx zw zv zu zt zs zr zq zp zo zn zm zl zk zj zi zh zg zf ze zd zc zb za yz yy yx yw yv yu yt ys yr yq yp:Value) (h:aF):OV:=ob (ldN 11 b h) λaa h=>ob (O (.func 77) [aa] h) λab h=>ob (aG (bld prog 163 [(1,ab)]) h) λac h=>ob (cX 163 (Value.cells ac).toList .fix h) λad h=>ob (aG (aP ad) h) λae h=>ob (aG (aJ 1 ae) h) λaf h=>ob (ld1 af h) λag h=>ob (aG (aZ ag) h) λah h=>ob (lR 3 1 8 [(.I 0)] ah ah h) λai h=>ob (aG (aP ad) h) λaj h=>ob (aG (aJ 0 aj) h) λak h=>ob (stN 1 ak ai h) λal h=>ob (aG (aP ad) h) λam h=>ob (aG (aJ 0 am) h) λan h=>ob (ld1 an h) λao h=>ob (aG (aZ ao) h) λap h=>L (aN prog O L Oi) (Ht O L) [a,b,c,d,e,f,g,i,ad,l,m,n,o,p,q,r,s,t,u,v,w,x,y,z,A,B,C,D,E,F,G,H,I,J,zz,zy,aa,ab,ac,ad,ad,ad,ae,af,ag,ah,ai,aj,ak,ad,am,an,ao,ap,(.I 0),ze,zd,zc,zb,za,yz,yy,yx,yw,yv,yu,yt,ys,yr,yq,yp] h
theorem aJE:Hq O L (.exit 0) [a,b,c,d,e,f,g,i,j,l,m,n,o,p,q,r,s,t,u,v,w,x,y,z,A,B,C,D,E,F,G,H,I,J,zz,zy,zx,zw,zv,zu,zt,zs,zr,zq,zp,zo,zn,zm,zl,zk,zj,zi,zh,zg,zf,ze,zd,zc,zb,za,yz,yy,yx,yw,yv,yu,yt,ys,yr,yq,yp] h=Oj O L a b c d e f g i j l m n o p q r s t u v w x y z A B C D E F G H I J zz zy zx zw zv zu zt zs zr zq zp zo zn zm zl zk zj zi zh zg zf ze zd zc zb za yz yy yx yw yv yu yt ys yr yq yp h:=by kernel_rfl
theorem aJI:Hq O L .ret [a,b,c,d,e,f,g,i,j,l,m,n,o,p,q,r,s,t,u,v,w,x,y,z,A,B,C,D,E,F,G,H,I,J,zz,zy,zx,zw,zv,zu,zt,zs,zr,zq,zp,zo,zn,zm,zl,zk,zj,zi,zh,zg,zf,ze,zd,zc,zb,za,yz,yy,yx,yw,yv,yu,yt,ys,yr,yq,yp] h=some (aL [c],h):=by kernel_rfl
theorem Zy:aN prog O L Og k [a,b,c,d,e,f,g,i,j,l,m,n,o,p,q,r,s,t,u,v,w,x,y,z,A,B,C,D,E,F,G,H,I,J,zz,zy,zx,zw,zv,zu,zt,zs,zr,zq,zp,zo,zn,zm,zl,zk,zj,zi,zh,zg,zf,ze,zd,zc,zb,za,yz,yy,yx,yw,yv,yu,yt,ys,yr,yq,yp] h=ob (aG (bin prog .lss 3 t s) h) λaa h=>aO aa (ob (aG (aJ 0 b) h) λab h=>ob (ld1 ab h) λac h=>L (aN prog O L Oh) (Hr O L k) [a,b,c,d,t,f,g,i,j,l,m,n,o,p,q,r,s,t,aa,t,ab,ac,(.I 0),z,A,B,C,D,E,F,G,H,I,J,zz,zy,zx,zw,zv,zu,zt,zs,zr,zq,zp,zo,zn,zm,zl,zk,zj,zi,zh,zg,zf,ze,zd,zc,zb,za,yz,yy,yx,yw,yv,yu,yt,ys,yr,yq,yp] h) (k (.exit 0) [a,b,c,d,e,f,g,i,j,l,m,n,o,p,q,r,s,t,aa,v,w,x,y,z,A,B,C,D,E,F,G,H,I,J,zz,zy,zx,zw,zv,zu,zt,zs,zr,zq,zp,zo,zn,zm,zl,zk,zj,zi,zh,zg,zf,ze,zd,zc,zb,za,yz,yy,yx,yw,yv,yu,yt,ys,yr,yq,yp] h):=by kernel_rfl
theorem aJH:bT prog O L 34 [N] h=ob (cX 28 (Value.cells N).toList .fix h) λaa h=>ob (ldN 11 aa h) λab h=>ob (O (.func 75) [ab] h) λac h=>ob (aG (bin prog .neq 51 ac (.int .u16 0)) h) λad h=>aO ad (some (aL [ac],h)) (ob (aG (aJ 0 aa) h) λae h=>ob (ld1 ae h) λaf h=>L (aN prog O L Og) (Hq O L) [N,aa,(.int .u16 0),ac,undef,undef,undef,undef,undef,undef,ab,ac,ac,ad,undef,ae,af,(.I 0),undef,undef,undef,undef,undef,undef,undef,undef,undef,undef,undef,undef,undef,undef,undef,undef,undef,undef,undef,undef,undef,undef,undef,undef,undef,undef,undef,undef,undef,undef,undef,undef,undef,undef,undef,undef,undef,undef,undef,undef,undef,undef,undef,undef,undef,undef,undef,undef,undef,undef,undef,undef,undef] h):=by kernel_rfl
def Ol:Code:=bR [1,0,1,0,0] (cG prog 73)
def Hu:KV:=(dY 0 (eK prog O L (bR [1,1] (cG prog 73)) (eX prog Tryz.f73)))
theorem aJL:Hu O L (.exit 0) [a,b,c,d,e,f,g,i,j,l,m,n,o,p,q,r,s,t,u,v,w,x,y,z,A,B] h=ob (aG (aZ a) h) λaa h=>ob (aG (bin prog .leq 3 aa (.I 5)) h) λab h=>some (aL [ab],h):=by kernel_rfl
theorem Z2:Hu O L .ret [a,b,c,d,e,f,g,i,j,l,m,n,o,p,q,r,s,t,u,v,w,x,y,z,A,B] h=some (aL [c],h):=by kernel_rfl
theorem Z1:aN prog O L Ol k [a,b,c,d,e,f,g,i,j,l,m,n,o,p,q,r,s,t,u,v,w,x,y,z,A,B] h=ob (aG (aZ a) h) λaa h=>ob (aG (bin prog .lss 3 d aa) h) λab h=>aO ab (ob (aG (aT 1 a d) h) λac h=>ob (ld1 ac h) λad h=>ob (aG (bin prog .lss 3 ad (.I 0)) h) λae h=>ob (gd ae false (cI a) h) λaf h=>ob (gd ae false (cI d) h) λag h=>ob (gd ae false (aG (aT 1 af ag)) h) λah h=>ob (gd ae false (ld1 ah) h) λai h=>ob (gd ae false (cI d) h) λaj h=>ob (gd ae false (aG (bin prog .gtr 3 ai aj)) h) λak h=>ob (aG (cQ ae (.bool true) ak) h) λal h=>aO al (k .ret [a,b,(.bool false),d,d,a,aa,ab,j,l,a,d,ac,ad,ae,ae,af,ag,ah,ai,aj,ak,al,z,A,B] h) (ob (aG (bin prog .add 3 d (.I 1)) h) λam h=>k .normal [a,b,c,am,d,a,aa,ab,d,am,a,d,ac,ad,ae,ae,af,ag,ah,ai,aj,ak,al,z,A,B] h)) (k (.exit 0) [a,b,c,d,d,a,aa,ab,j,l,m,n,o,p,q,r,s,t,u,v,w,x,y,z,A,B] h):=by kernel_rfl
theorem aJM:bT prog O L 73 [N] h=L (aN prog O L Ol) (Hu O L) [N,undef,(.bool false),(.I 0),undef,undef,undef,undef,undef,undef,undef,undef,undef,undef,undef,undef,undef,undef,undef,undef,undef,undef,undef,undef,undef,undef] h:=by kernel_rfl
def On:Code:=bR [1,1,1,1,1,1,1,0,1,0,0] (cG prog 74)
def Ou:KV:=(dY 2 (eK prog O L (bR [1,1,1,1,1,1,1,1] (cG prog 74)) (eX prog Tryz.f74)))
theorem aJO:Ou O L (.exit 2) [a,b,c,d,e,f,g,i,j,l,m,n,o,p,q,r,s,t,u,v,w,x,y,z,A,B,C,D,E,F,G,H,I,J,zz,zy,zx,zw,zv,zu,zt,zs,zr,zq,zp,zo,zn,zm,zl,zk,zj,zi,zh,zg,zf,ze,zd,zc,zb,za,yz,yy,yx,yw,yv,yu,yt,ys,yr,yq,yp,yo,yn,ym,yl,yk,yj,yi,yh,yg,yf,ye,yd,yc,yb,ya,xz,xy,xx,xw,xv] h=some (aL [l],h):=by kernel_rfl
theorem Z3:aN prog O L On k [a,b,c,d,e,f,g,i,j,l,m,n,o,p,q,r,s,t,u,v,w,x,y,z,A,B,C,D,E,F,G,H,I,J,zz,zy,zx,zw,zv,zu,zt,zs,zr,zq,zp,zo,zn,zm,zl,zk,zj,zi,zh,zg,zf,ze,zd,zc,zb,za,yz,yy,yx,yw,yv,yu,yt,ys,yr,yq,yp,yo,yn,ym,yl,yk,yj,yi,yh,yg,yf,ye,yd,yc,yb,ya,xz,xy,xx,xw,xv] h=ob (aG (bin prog .geq 3 m (.I 0)) h) λaa h=>aO aa (ob (aG (aT 1 j m) h) λab h=>ob (ld1 ab h) λac h=>ob (dT 3 1 1 [(.I 0)] [(0,ac)] h) λad h=>ob (app 3 1 8 l ad h) λae h=>ob (aG (bin prog .sub 3 m (.I 1)) h) λaf h=>k .normal [a,b,c,d,e,f,g,i,j,ae,af,n,o,p,q,r,s,t,u,v,w,x,y,z,A,B,C,D,E,F,G,H,I,J,zz,zy,zx,zw,zv,zu,zt,zs,zr,zq,zp,zo,zn,zm,zl,zk,zj,zi,zh,zg,zf,ze,zd,zc,zb,za,yz,yy,yx,yw,yv,yu,yt,ys,yr,yq,yp,yo,yn,ym,yl,yk,yj,yi,yh,m,aa,m,af,l,j,m,ab,ac,ad,ae,xv] h) (k (.exit 2) [a,b,c,d,e,f,g,i,j,l,m,n,o,p,q,r,s,t,u,v,w,x,y,z,A,B,C,D,E,F,G,H,I,J,zz,zy,zx,zw,zv,zu,zt,zs,zr,zq,zp,zo,zn,zm,zl,zk,zj,zi,zh,zg,zf,ze,zd,zc,zb,za,yz,yy,yx,yw,yv,yu,yt,ys,yr,yq,yp,yo,yn,ym,yl,yk,yj,yi,yh,m,aa,ye,yd,yc,yb,ya,xz,xy,xx,xw,xv] h):=by kernel_rfl
def Om:Code:=bR [1,1,1,1,0,0,0] (cG prog 74)
def Ot:KV:=(dY 0 (eK prog O L (bR [1,1,1,1,1] (cG prog 74)) (eX prog Tryz.f74)))
def Oo (O:aH)(L:LV) (a b c d e f g i j l m n o p q r s t u v w x y z A B C D E F G H I J zz zy zx zw zv zu zt zs zr zq zp zo zn zm zl zk zj zi zh zg zf ze zd zc zb za yz yy yx yw yv yu yt ys yr yq yp yo yn ym yl yk yj yi yh yg yf ye yd yc yb ya xz xy xx xw xv:Value) (h:aF):OV:=ob (app 3 1 8 (.slice none 0 0) i h) λaa h=>ob (aG (aZ j) h) λab h=>ob (aG (bin prog .sub 3 ab (.I 2)) h) λac h=>L (aN prog O L On) (Ou O L) [a,b,c,d,e,f,g,i,j,aa,ac,n,o,p,q,r,s,t,u,v,w,x,y,z,A,B,C,D,E,F,G,H,I,J,zz,zy,zx,zw,zv,zu,zt,zs,zr,zq,zp,zo,zn,zm,zl,zk,zj,zi,zh,zg,zf,ze,zd,zc,zb,za,yz,yy,yx,yw,yv,yu,yt,ys,yr,yq,yp,yo,yn,(.slice none 0 0),i,aa,j,ab,ac,yg,yf,ye,yd,yc,yb,ya,xz,xy,xx,xw,xv] h
theorem Oq:Ot O L (.exit 0) [a,b,c,d,e,f,g,i,j,l,m,n,o,p,q,r,s,t,u,v,w,x,y,z,A,B,C,D,E,F,G,H,I,J,zz,zy,zx,zw,zv,zu,zt,zs,zr,zq,zp,zo,zn,zm,zl,zk,zj,zi,zh,zg,zf,ze,zd,zc,zb,za,yz,yy,yx,yw,yv,yu,yt,ys,yr,yq,yp,yo,yn,ym,yl,yk,yj,yi,yh,yg,yf,ye,yd,yc,yb,ya,xz,xy,xx,xw,xv] h=Oo O L a b c d e f g i j l m n o p q r s t u v w x y z A B C D E F G H I J zz zy zx zw zv zu zt zs zr zq zp zo zn zm zl zk zj zi zh zg zf ze zd zc zb za yz yy yx yw yv yu yt ys yr yq yp yo yn ym yl yk yj yi yh yg yf ye yd yc yb ya xz xy xx xw xv h:=by kernel_rfl
theorem aJN:aN prog O L Om k [a,b,c,d,e,f,g,i,j,l,m,n,o,p,q,r,s,t,u,v,w,x,y,z,A,B,C,D,E,F,G,H,I,J,zz,zy,zx,zw,zv,zu,zt,zs,zr,zq,zp,zo,zn,zm,zl,zk,zj,zi,zh,zg,zf,ze,zd,zc,zb,za,yz,yy,yx,yw,yv,yu,yt,ys,yr,yq,yp,yo,yn,ym,yl,yk,yj,yi,yh,yg,yf,ye,yd,yc,yb,ya,xz,xy,xx,xw,xv] h=ob (aG (aZ i) h) λaa h=>ob (aG (bin prog .gtr 3 aa (.I 1)) h) λab h=>ob (gd ab true (cI j) h) λac h=>ob (gd ab true (aG (aZ ac)) h) λad h=>ob (gd ab true (aG (bin prog .gtr 3 ad (.I 1))) h) λae h=>ob (aG (cQ ab ae (.bool false)) h) λaf h=>ob (gd af true (cI i) h) λag h=>ob (gd af true (cI i) h) λah h=>ob (gd af true (aG (aZ ah)) h) λai h=>ob (gd af true (aG (bin prog .sub 3 ai (.I 2))) h) λaj h=>ob (gd af true (aG (aT 1 ag aj)) h) λak h=>ob (gd af true (ld1 ak) h) λal h=>ifB (true) (ob (gd af true (cI j) h) λam h=>ob (gd af true (cI j) h) λan h=>ob (gd af true (aG (aZ an)) h) λao h=>ob (gd af true (aG (bin prog .sub 3 ao (.I 2))) h) λap h=>ob (gd af true (aG (aT 1 am ap)) h) λaq h=>ob (gd af true (ld1 aq) h) λar h=>ifB (true) (ob (gd af true (aG (bin prog .eql 3 al ar)) h) λau h=>ob (aG (cQ af au (.bool false)) h) λav h=>aO av (ob (aG (aZ i) h) λaw h=>ob (aG (bin prog .sub 3 aw (.I 1)) h) λax h=>ob (slc prog 1 i none (some ax) none h) λay h=>ob (aG (aZ j) h) λaz h=>ob (aG (bin prog .sub 3 az (.I 1)) h) λba h=>ob (slc prog 1 j none (some ba) none h) λbb h=>k .normal [a,b,c,d,e,f,g,ay,bb,l,m,n,o,p,q,r,s,t,u,v,w,x,y,z,A,B,C,D,E,F,G,H,I,J,zz,zy,zx,zw,zv,zu,i,aa,ab,ab,ac,ad,ae,af,af,ag,ah,ai,aj,ak,al,am,an,ao,ap,aq,ar,au,av,i,i,aw,ax,ay,j,j,az,ba,bb,ym,yl,yk,yj,yi,yh,yg,yf,ye,yd,yc,yb,ya,xz,xy,xx,xw,xv] h) (k (.exit 0) [a,b,c,d,e,f,g,i,j,l,m,n,o,p,q,r,s,t,u,v,w,x,y,z,A,B,C,D,E,F,G,H,I,J,zz,zy,zx,zw,zv,zu,i,aa,ab,ab,ac,ad,ae,af,af,ag,ah,ai,aj,ak,al,am,an,ao,ap,aq,ar,au,av,yw,yv,yu,yt,ys,yr,yq,yp,yo,yn,ym,yl,yk,yj,yi,yh,yg,yf,ye,yd,yc,yb,ya,xz,xy,xx,xw,xv] h))):=by kernel_rfl
theorem aJP:bT prog O L 74 [N,P,Q] h=ob (O (.func 73) [N] h) λaa h=>ob (aG (un prog .not aa) h) λab h=>ob (gd ab false (cI P) h) λac h=>ob (gd ab false (aG (bin prog .lss 3 ac (.I 0))) h) λad h=>ob (aG (cQ ab (.bool true) ad) h) λae h=>ob (gd ae false (cI P) h) λaf h=>ob (gd ae false (cI N) h) λag h=>ob (gd ae false (aG (aZ ag)) h) λah h=>ob (gd ae false (aG (bin prog .gtr 3 af ah)) h) λai h=>ob (aG (cQ ae (.bool true) ai) h) λaj h=>ob (gd aj false (cI Q) h) λak h=>ob (gd aj false (aG (bin prog .lss 3 ak (.I 0))) h) λal h=>ob (aG (cQ aj (.bool true) al) h) λam h=>ob (gd am false (cI Q) h) λan h=>ob (gd am false (cI N) h) λao h=>ob (gd am false (aG (aZ ao)) h) λap h=>ob (gd am false (aG (bin prog .gtr 3 an ap)) h) λaq h=>ob (aG (cQ am (.bool true) aq) h) λar h=>aO ar (some (aL [(.slice none 0 0)],h)) (ob (O (.func 126) [N,P] h) λau h=>ob (O (.func 126) [N,Q] h) λav h=>L (aN prog O L Om) (Ot O L) [N,P,Q,undef,undef,undef,(.slice none 0 0),au,av,undef,undef,N,aa,ab,ab,ac,ad,ae,ae,af,ag,ah,ai,aj,aj,ak,al,am,am,an,ao,ap,aq,ar,N,P,au,N,Q,av,undef,undef,undef,undef,undef,undef,undef,undef,undef,undef,undef,undef,undef,undef,undef,undef,undef,undef,undef,undef,undef,undef,undef,undef,undef,undef,undef,undef,undef,undef,undef,undef,undef,undef,undef,undef,undef,undef,undef,undef,undef,undef,undef,undef,undef,undef,undef,undef,undef,undef,undef] h):=by kernel_rfl
def Ov:Code:=bR [1,1,0,0,0] (cG prog 76)
def Hv:KV:=(dY 0 (eK prog O L (bR [1,1,1] (cG prog 76)) (eX prog Tryz.f76)))
theorem aJR:Hv O L (.exit 0) [a,b,c,d,e,f,g,i,j,l,m,n,o,p,q,r,s,t,u,v,w,x,y,z,A,B,C,D,E,F,G,H,I,J,zz,zy,zx,zw,zv,zu,zt,zs] h=some (aL [j,(.bool true)],h):=by kernel_rfl
theorem Z4:Hv O L .ret [a,b,c,d,e,f,g,i,j,l,m,n,o,p,q,r,s,t,u,v,w,x,y,z,A,B,C,D,E,F,G,H,I,J,zz,zy,zx,zw,zv,zu,zt,zs] h=some (aL [g,i],h):=by kernel_rfl
theorem aJQ:aN prog O L Ov k [a,b,c,d,e,f,g,i,j,l,m,n,o,p,q,r,s,t,u,v,w,x,y,z,A,B,C,D,E,F,G,H,I,J,zz,zy,zx,zw,zv,zu,zt,zs] h=ob (aG (bin prog .neq 3 b c) h) λaa h=>aO aa (ob (aG (aJ 10 d) h) λab h=>ob (ld1 ab h) λac h=>ob (aG (aT 1 ac b) h) λad h=>ob (ld1 ad h) λae h=>ob (aG (aT 1 ae c) h) λaf h=>ob (ld1 af h) λag h=>ob (aG (aZ j) h) λah h=>ob (aG (aJ 0 d) h) λai h=>ob (ld1 ai h) λaj h=>ob (aG (bin prog .eql 3 ah aj) h) λak h=>ob (gd ak false (ldN 11 d) h) λal h=>ob (gd ak false (cI b) h) λam h=>ob (gd ak false (O (.func 37) [al,am]) h) λan h=>ob (gd ak false (cI ag) h) λao h=>ob (gd ak false (O (.func 131) [an,ao]) h) λap h=>ob (gd ak false (aG (un prog .not ap)) h) λaq h=>ob (aG (cQ ak (.bool true) aq) h) λar h=>aO ar (k .ret [a,b,c,d,e,f,(.slice none 0 0),(.bool false),j,ag,m,n,b,c,aa,ab,ac,b,ad,ae,c,af,ag,j,ah,ai,aj,ak,ak,al,am,an,ao,ap,aq,ar,zx,zw,zv,zu,zt,zs] h) (ob (dT 3 1 1 [(.I 0)] [(0,ag)] h) λau h=>ob (app 3 1 8 j au h) λav h=>k .normal [a,ag,c,d,e,f,g,i,av,ag,m,n,b,c,aa,ab,ac,b,ad,ae,c,af,ag,j,ah,ai,aj,ak,ak,al,am,an,ao,ap,aq,ar,j,ag,au,av,ag,zs] h)) (k (.exit 0) [a,b,c,d,e,f,g,i,j,l,m,n,b,c,aa,r,s,t,u,v,w,x,y,z,A,B,C,D,E,F,G,H,I,J,zz,zy,zx,zw,zv,zu,zt,zs] h):=by kernel_rfl
theorem aJS:bT prog O L 76 [N,P,Q] h=ob (cX 28 (Value.cells N).toList .fix h) λaa h=>ob (dT 3 1 1 [(.I 0)] [(0,P)] h) λab h=>L (aN prog O L Ov) (Hv O L) [N,P,Q,aa,undef,undef,(.slice none 0 0),(.bool false),ab,undef,P,ab,undef,undef,undef,undef,undef,undef,undef,undef,undef,undef,undef,undef,undef,undef,undef,undef,undef,undef,undef,undef,undef,undef,undef,undef,undef,undef,undef,undef,undef,undef] h:=by kernel_rfl
def Ow:Code:=bR [1,1,1,1,0,1,0,0] (cG prog 77)
def Ox:KV:=(dY 0 (eK prog O L (bR [1,1,1,1,1] (cG prog 77)) (eX prog Tryz.f77)))
theorem aJT:Ox O L (.exit 0) [a,b,c,d,e,f,g,i,j,l,m,n,o,p,q,r,s,t,u,v,w,x,y,z,A,B,C,D,E,F,G] h=some (aL [e],h):=by kernel_rfl
theorem Z5:aN prog O L Ow k [a,b,c,d,e,f,g,i,j,l,m,n,o,p,q,r,s,t,u,v,w,x,y,z,A,B,C,D,E,F,G] h=ob (aG (bin prog .lss 3 t s) h) λaa h=>aO aa (ob (aG (aT 2 r t) h) λab h=>ob (ldN 2 ab h) λac h=>ob (cX 67 [(.I 0),(.I 0)] .fix h) λad h=>ob (stN 2 ad ac h) λae h=>ob (ldN 11 b h) λaf h=>ob (ldN 2 ad h) λag h=>ob (O (.func 132) [af,ag,d] h) λah h=>ob (aG (aT 1 e t) h) λai h=>ob (stN 1 ai ah h) λaj h=>ob (aG (bin prog .add 3 t (.I 1)) h) λak h=>k .normal [a,b,c,d,e,t,ad,i,j,l,m,n,o,p,q,r,s,ak,aa,t,ab,ac,e,t,af,ag,d,ah,ai,ak,G] h) (k (.exit 0) [a,b,c,d,e,f,g,i,j,l,m,n,o,p,q,r,s,t,aa,v,w,x,y,z,A,B,C,D,E,F,G] h):=by kernel_rfl
theorem aJU:bT prog O L 77 [N] h=ob (cX 28 (Value.cells N).toList .fix h) λaa h=>ob (ldN 11 aa h) λab h=>ob (O (.func 75) [ab] h) λac h=>ob (aG (bin prog .neq 51 ac (.int .u16 0)) h) λad h=>aO ad (some (aL [(.slice none 0 0)],h)) (ob (ldN 11 aa h) λae h=>ob (O (.func 66) [ae] h) λaf h=>ob (aG (aZ af) h) λag h=>ob (lR 25 1 24 [(.slice none 0 0)] ag ag h) λah h=>ob (aG (aZ af) h) λai h=>L (aN prog O L Ow) (Ox O L) [N,aa,(.slice none 0 0),af,ah,undef,undef,ab,ac,ad,ae,af,af,ag,ah,af,ai,(.I 0),undef,undef,undef,undef,undef,undef,undef,undef,undef,undef,undef,undef,undef] h):=by kernel_rfl
def Hx:Code:=bR [1,0,1,1,0,1,0,0] (cG prog 78)
def De:KV:=(dY 0 (eK prog O L (bR [1,0,1,1,1] (cG prog 78)) (eX prog Tryz.f78)))
theorem aJV:De O L (.exit 0) [a,b,c,d,e,f,g,i,j,l,m,n,o,p,q,r,s,t,u,v,w,x,y,z,A,B,C,D,E,F,G,H,I,J,zz,zy,zx,zw,zv,zu,zt,zs,zr,zq,zp,zo,zn,zm,zl,zk,zj,zi,zh,zg] h=ob (aG (aP a) h) λaa h=>ob (aG (aJ 0 aa) h) λab h=>ob (ld1 ab h) λac h=>ob (aG (aT 1 ac b) h) λad h=>ob (stN 1 ad (.I 2) h) λae h=>some (aL [(.bool false)],h):=by kernel_rfl
theorem Z7:De O L .ret [a,b,c,d,e,f,g,i,j,l,m,n,o,p,q,r,s,t,u,v,w,x,y,z,A,B,C,D,E,F,G,H,I,J,zz,zy,zx,zw,zv,zu,zt,zs,zr,zq,zp,zo,zn,zm,zl,zk,zj,zi,zh,zg] h=some (aL [e],h):=by kernel_rfl
theorem Z6:aN prog O L Hx k [a,b,c,d,e,f,g,i,j,l,m,n,o,p,q,r,s,t,u,v,w,x,y,z,A,B,C,D,E,F,G,H,I,J,zz,zy,zx,zw,zv,zu,zt,zs,zr,zq,zp,zo,zn,zm,zl,zk,zj,zi,zh,zg] h=ob (aG (bin prog .lss 3 x w) h) λaa h=>aO aa (ob (aG (aT 1 v x) h) λab h=>ob (ld1 ab h) λac h=>ob (aG (aP a) h) λad h=>ob (aG (aJ 0 ad) h) λae h=>ob (ld1 ae h) λaf h=>ob (aG (aT 1 af ac) h) λag h=>ob (ld1 ag h) λah h=>ob (aG (bin prog .eql 3 ah (.I 1)) h) λai h=>aO ai (k .ret [a,b,c,d,(.bool true),f,ac,i,j,l,m,n,o,p,q,r,s,t,u,v,w,x,aa,ab,ac,ai,a,ad,ae,af,ac,ag,ah,ai,zz,zy,zx,zw,zv,zu,zt,zs,zr,zq,zp,zo,zn,zm,zl,zk,zj,zi,zh,zg] h) (ob (aG (aP a) h) λaj h=>ob (aG (aJ 0 aj) h) λak h=>ob (ld1 ak h) λal h=>ob (aG (aT 1 al ac) h) λam h=>ob (ld1 am h) λan h=>ob (aG (bin prog .eql 3 an (.I 2)) h) λao h=>aO ao (ob (aG (bin prog .add 3 x (.I 1)) h) λap h=>k .normal [a,b,c,d,e,f,ac,i,j,l,m,n,o,p,q,r,s,t,u,v,w,ap,aa,ab,ac,ai,a,ad,ae,af,ac,ag,ah,ai,ao,a,aj,ak,al,ac,am,an,ao,zq,zp,zo,zn,ap,zl,zk,zj,zi,zh,zg] h) (ob (O (.func 78) [a,ac] h) λaq h=>aO aq (k .ret [a,b,c,d,(.bool true),f,ac,i,j,l,m,n,o,p,q,r,s,t,u,v,w,x,aa,ab,ac,ai,a,ad,ae,af,ac,ag,ah,ai,ao,a,aj,ak,al,ac,am,an,ao,aq,a,ac,aq,zm,zl,zk,zj,zi,zh,zg] h) (ob (aG (bin prog .add 3 x (.I 1)) h) λar h=>k .normal [a,b,c,d,e,f,ac,i,j,l,m,n,o,p,q,r,s,t,u,v,w,ar,aa,ab,ac,ai,a,ad,ae,af,ac,ag,ah,ai,ao,a,aj,ak,al,ac,am,an,ao,aq,a,ac,aq,ar,zl,zk,zj,zi,zh,zg] h)))) (k (.exit 0) [a,b,c,d,e,f,g,i,j,l,m,n,o,p,q,r,s,t,u,v,w,x,aa,z,A,B,C,D,E,F,G,H,I,J,zz,zy,zx,zw,zv,zu,zt,zs,zr,zq,zp,zo,zn,zm,zl,zk,zj,zi,zh,zg] h):=by kernel_rfl
theorem aJW:bT prog O L 78 [N,P] h=ob (aG (aP N) h) λaa h=>ob (aG (aJ 0 aa) h) λab h=>ob (ld1 ab h) λac h=>ob (aG (aT 1 ac P) h) λad h=>ob (stN 1 ad (.I 1) h) λae h=>ob (aG (aP N) h) λaf h=>ob (aG (aJ 1 af) h) λag h=>ob (ld1 ag h) λah h=>ob (aG (aT 1 ah P) h) λai h=>ob (ld1 ai h) λaj h=>ob (aG (aZ aj) h) λak h=>L (aN prog O L Hx) (De O L) [N,P,undef,undef,(.bool false),undef,undef,N,aa,ab,ac,P,ad,N,af,ag,ah,P,ai,aj,ak,(.I 0),undef,undef,undef,undef,undef,undef,undef,undef,undef,undef,undef,undef,undef,undef,undef,undef,undef,undef,undef,undef,undef,undef,undef,undef,undef,undef,undef,undef,undef,undef,undef,undef] h:=by kernel_rfl
def N4:Code:=bR [1,1,0,0,0] (cG prog 126)
def N5:KV:=(dY 0 (eK prog O L (bR [1,1,1] (cG prog 126)) (eX prog Tryz.f126)))
theorem Zr:N5 O L (.exit 0) [a,b,c,d,e,f,g,i,j,l,m,n,o,p,q,r,s,t,u,v] h=some (aL [f],h):=by kernel_rfl
theorem Zq:aN prog O L N4 k [a,b,c,d,e,f,g,i,j,l,m,n,o,p,q,r,s,t,u,v] h=ob (aG (bin prog .gtr 3 b (.I 0)) h) λaa h=>aO aa (ob (aG (bin prog .sub 3 b (.I 1)) h) λab h=>ob (aG (aT 1 a ab) h) λac h=>ob (ld1 ac h) λad h=>ob (dT 3 1 1 [(.I 0)] [(0,ad)] h) λae h=>ob (app 3 1 8 f ae h) λaf h=>k .normal [a,ad,c,d,e,af,g,i,b,aa,a,b,ab,ac,ad,f,ad,ae,af,v] h) (k (.exit 0) [a,b,c,d,e,f,g,i,b,aa,m,n,o,p,q,r,s,t,u,v] h):=by kernel_rfl
theorem aJw:bT prog O L 126 [N,P] h=ob (dT 3 1 1 [(.I 0)] [(0,P)] h) λaa h=>L (aN prog O L N4) (N5 O L) [N,P,undef,undef,(.slice none 0 0),aa,P,aa,undef,undef,undef,undef,undef,undef,undef,undef,undef,undef,undef,undef] h:=by kernel_rfl
def Ho:Code:=bR [1,1,0,1,0,0] (cG prog 132)
def Hp:KV:=(dY 0 (eK prog O L (bR [1,1,1] (cG prog 132)) (eX prog Tryz.f132)))
theorem aJx:Hp O L (.exit 0) [a,b,c,d,e,f,g,i,j,l,m,n,o,p,q,r,s,t,u,v,w,x,y,z,A,B,C,D,E,F,G,H,I,J,zz,zy,zx,zw,zv,zu,zt,zs,zr,zq,zp,zo,zn,zm,zl,zk,zj,zi,zh,zg,zf,ze,zd,zc,zb,za,yz,yy,yx,yw] h=ob (O (.func 82) [i] h) λaa h=>ob (O (.func 83) [i] h) λab h=>some (aL [ab],h):=by kernel_rfl
theorem Zs:aN prog O L Ho k [a,b,c,d,e,f,g,i,j,l,m,n,o,p,q,r,s,t,u,v,w,x,y,z,A,B,C,D,E,F,G,H,I,J,zz,zy,zx,zw,zv,zu,zt,zs,zr,zq,zp,zo,zn,zm,zl,zk,zj,zi,zh,zg,zf,ze,zd,zc,zb,za,yz,yy,yx,yw] h=ob (aG (bin prog .lss 3 o n) h) λaa h=>aO aa (ob (aG (aJ 0 e) h) λab h=>ob (ld1 ab h) λac h=>ifB (true) (ob (aG (bin prog .eql 3 o ac) h) λad h=>ob (gd ad false (cI o) h) λae h=>ob (gd ad false (aG (aJ 1 e)) h) λaf h=>ob (gd ad false (ld1 af) h) λag h=>ifB (true) (ob (gd ad false (aG (bin prog .eql 3 ae ag)) h) λah h=>ob (aG (cQ ad (.bool true) ah) h) λai h=>ob (gd ai false (aG (aJ 10 d)) h) λaj h=>ob (gd ai false (ld1 aj) h) λak h=>ifB (true) (ob (gd ai false (aG (aJ 0 e)) h) λal h=>ob (gd ai false (ld1 al) h) λam h=>ifB (true) (ob (gd ai false (aG (aT 1 ak am)) h) λan h=>ob (gd ai false (ld1 an) h) λao h=>ifB (true) (ob (gd ai false (cI o) h) λap h=>ob (gd ai false (aG (aT 1 ao ap)) h) λaq h=>ob (gd ai false (ld1 aq) h) λar h=>ifB (true) (ob (gd ai false (aG (aJ 1 e)) h) λau h=>ob (gd ai false (ld1 au) h) λav h=>ifB (true) (ob (gd ai false (aG (bin prog .neq 3 ar av)) h) λaw h=>ob (aG (cQ ai (.bool true) aw) h) λax h=>aO ax (ob (aG (bin prog .add 3 o (.I 1)) h) λay h=>k .normal [a,b,c,d,e,f,g,i,o,l,m,n,ay,aa,o,o,ab,ac,ad,ad,ae,af,ag,ah,ai,ai,aj,ak,al,am,an,ao,ap,aq,ar,au,av,aw,ax,zu,zt,zs,zr,zq,zp,zo,zn,zm,zl,zk,zj,zi,zh,zg,zf,ze,zd,zc,zb,ay,yz,yy,yx,yw] h) (ob (aG (aJ 1 e) h) λaz h=>ob (ld1 az h) λba h=>ifB (true) (ob (aG (aJ 10 d) h) λbb h=>ob (ld1 bb h) λbc h=>ifB (true) (ob (aG (aJ 1 e) h) λbd h=>ob (ld1 bd h) λbe h=>ifB (true) (ob (aG (aT 1 bc be) h) λbf h=>ob (ld1 bf h) λbg h=>ifB (true) (ob (aG (aT 1 bg o) h) λbh h=>ob (ld1 bh h) λbi h=>ifB (true) (ob (aG (bld prog 67 [(0,ba),(1,bi)]) h) λbj h=>ob (O (.func 162) [c,bj] h) λbk h=>ifB (true) (ob (aG (bin prog .geq 3 bk (.I 0)) h) λbl h=>aO bl (ob (dT 3 1 1 [(.I 0)] [(0,bk)] h) λbm h=>ob (app 3 1 8 i bm h) λbn h=>ob (aG (bin prog .add 3 o (.I 1)) h) λbo h=>k .normal [a,b,c,d,e,f,g,bn,o,bk,m,n,bo,aa,o,o,ab,ac,ad,ad,ae,af,ag,ah,ai,ai,aj,ak,al,am,an,ao,ap,aq,ar,au,av,aw,ax,c,az,ba,bb,bc,bd,be,bf,bg,o,bh,bi,bj,bk,bk,bl,i,bk,bm,bn,bo,yz,yy,yx,yw] h) (ob (aG (bin prog .add 3 o (.I 1)) h) λbp h=>k .normal [a,b,c,d,e,f,g,i,o,bk,m,n,bp,aa,o,o,ab,ac,ad,ad,ae,af,ag,ah,ai,ai,aj,ak,al,am,an,ao,ap,aq,ar,au,av,aw,ax,c,az,ba,bb,bc,bd,be,bf,bg,o,bh,bi,bj,bk,bk,bl,ze,zd,zc,zb,bp,yz,yy,yx,yw] h)))))))))))))))) (k (.exit 0) [a,b,c,d,e,f,g,i,j,l,m,n,o,aa,q,r,s,t,u,v,w,x,y,z,A,B,C,D,E,F,G,H,I,J,zz,zy,zx,zw,zv,zu,zt,zs,zr,zq,zp,zo,zn,zm,zl,zk,zj,zi,zh,zg,zf,ze,zd,zc,zb,za,yz,yy,yx,yw] h):=by kernel_rfl
theorem aJy:bT prog O L 132 [N,P,Q] h=ob (cX 28 (Value.cells N).toList .fix h) λaa h=>ob (cX 67 (Value.cells P).toList .fix h) λab h=>ob (aG (aJ 0 aa) h) λac h=>ob (ld1 ac h) λad h=>L (aN prog O L Ho) (Hp O L) [N,P,Q,aa,ab,undef,(.slice none 0 0),(.slice none 0 0),undef,undef,ac,ad,(.I 0),undef,undef,undef,undef,undef,undef,undef,undef,undef,undef,undef,undef,undef,undef,undef,undef,undef,undef,undef,undef,undef,undef,undef,undef,undef,undef,undef,undef,undef,undef,undef,undef,undef,undef,undef,undef,undef,undef,undef,undef,undef,undef,undef,undef,undef,undef,undef,undef,undef,undef,undef] h:=by kernel_rfl
end Go.Proofs.YtkeilicinggjmaaGreatDoor
end
namespace Go.Proofs.YtkeilicinggjmaaGreatDoor
open Go.Proofs.Tryz
open Go.Abs Go.Abs.M
def nx (p:PlanD)(v w:Int):Int:=(p.next.getD v.toNat []).getD w.toNat 0
def zG (p:PlanD)(w:Int):Nat->List Int->Int->Option (List Int)
 |0,_,_=>none
 |q+1,l,v=>if v=w then some l else if((l.length:Int)=p.nodes∨(iF p.edges v).contains (nx p v w)=false) then none else zG p w q (l++[nx p v w]) (nx p v w)
def qM (p:PlanD)(v w:Int):Option (List Int):=zG p w p.nodes.toNat [v] v
def xJ (p:PlanD)(v w:Int):List Int:=if gY p=true/\0<=v/\v<p.nodes/\0<=w/\w<p.nodes then(qM p v w).getD [] else []
structure OkP (p:PlanD)(n:Nat):Prop where
 hn:p.nodes=(n:Int)
 h2:2<=n
 h6:n<=6
 ve:VE n p.edges
 e15:p.edges.length<=15
 nl:p.next.length=n
 rl: ∀r∈p.next,r.length=n
theorem sW {p:PlanD}(h:gY p=true): ∃n,OkP p n:=by
 unfold gY rZ zC xB wi at h;simp only[aR2,decide_eq_true_eq,Bool.not_eq_true'] at h;obtain⟨⟨⟨h1,h2⟩,_⟩,⟨h3,h4⟩,_,_,h5,h6⟩:=h;have hn:p.nodes=((p.nodes.toNat:Nat):Int):=U
 refine⟨p.nodes.toNat,hn,by omega,by omega,?_,by omega,by omega,λr hr=> ?_⟩
 ·rw[<-hn];exact(Zf _ _).mp h3
 ·rw[List.any_eq_false] at h6
  have:=h6 r hr;simp only[decide_eq_true_eq,ne_eq,Decidable.not_not] at this;omega
theorem aJX {E:List Ed}{v x:Int}:(bes E v).contains x=(iF E v).contains x:=by
 rw[Bool.eq_iff_iff,List.contains_iff_mem,List.contains_iff_mem,Nr]
section
variable {H : aF} {m : Nat} {p : PlanD} {ev wv nv : Value}
theorem aJZ (xs:List Int)(w:Int):decide (0<=Nq xs w)=xs.contains w:=by
 unfold Nq;rw[Gx,C6 xs (λx=>x==w) _ (λi x hx=>by rw[hx];rfl)]
 rw[Bool.eq_iff_iff,List.any_eq_true,List.contains_iff_mem];constructor
 ·rintro ⟨x,h1,h2⟩
  have:x=w:=by simpa using h2
  exact this▸h1
 ·exact λh=>⟨w,h,by simp⟩
theorem aJY {v:Value}{xs:List Int}(hx:Is H v xs)(w:Int)(hn:xs.length+20<m)(hm:m<=72057594037927936):lvl prog cN m (.func 131) [v,.I w] H=some (.bool (xs.contains w),H):=by
 have g:=aI1 hx w (m:=m-1) U U
 refine cS (gX rfl rfl) U ?_
 rw[aHT];simp only[gsR,g,aJZ]
theorem Oy {n:Nat}(hk:OkP p n)(hp:PV H p ev wv nv){v w:Int}(hv:0<=v/\v<n)(hw:0<=w/\w<n): ∃a u a2,aT 1 nv (.I v)=some a/\ld1 a H=some (u,H)/\aT 1 u (.I w)=some a2/\ld1 a2 H=some (.I (nx p v w),H):=by
 have ev':v=((v.toNat:Nat):Int):=U
 have ew':w=((w.toNat:Nat):Int):=U
 have h1:=hk.nl;obtain⟨r,hr⟩: ∃r,p.next[v.toNat]? =some r:=⟨_,aRW U⟩
 have h2:=hk.rl r (aR4 hr);obtain⟨x,hx⟩: ∃x,r[w.toNat]? =some x:=⟨_,aRW U⟩
 obtain⟨a,u,g1,g2,g3⟩:=hp.n.Gw hr .i64;obtain⟨b,o,g4,_,g6⟩:=g3.fS gV hx .i64;rw[<-ev'] at g1;rw[<-ew'] at g4;have e:nx p v w=x:=by
  unfold nx;simp only[aRY,hr,hx,aSn]
 rw[e]
 exact⟨a,u,_,g1,g2,g4,(g6 H rfl).2.1 0 _ rfl⟩
def Z8 (H0:aF)(o:Option (List Int))(H':aF)(u:Value):Prop:=Ext H0 H'/\ ∃lv,u= .tuple #[lv,.bool o.isSome]/\Iw H' lv (o.getD [])/\New H0 lv
theorem aJ1 {n:Nat}(hk:OkP p n){H0:aF}{a:Nat}{w:Int}(hw:0<=w/\w<n)(hp:PV H0 p ev wv nv)(hb:H0[a]? =some (plB p ev wv nv))(hm:200<m)(hm2:m<=72057594037927936):
  ∀(q k:Nat)(H1:aF)(u:Value)(l:List Int)(v:Int),q+l.length=n+1->l.length<=n->q<k->0<=v/\v<n->Ext H0 H1->Iw H1 u l->New H0 u-> ∀(x0 x4 x5 x6 x7 x9 bS cE aV aR aS aQ aW aX aU bA bP bQ bO bK aY bC bE bG bH bI bJ bM bN bU cK cL cD bV bX bY b9 cA:Value),
  ∃H' r,aM k (aN prog (lvl prog cN m) (aM m) Ov) (Hv (lvl prog cN m) (aM m)) [x0,(.I v),(.I w),(.Q a 0),x4,x5,x6,x7,u,x9,bS,cE,aV,aR,aS,aQ,aW,aX,aU,bA,bP,bQ,bO,bK,aY,bC,bE,bG,bH,bI,bJ,bM,bN,bU,cK,cL,cD,bV,bX,bY,b9,cA] H1=some (r,H')/\Z8 H0 (zG p w q l v) H' r:=by
 intro q;have h6:=hk.h6;have h15:=hk.e15;induction q with
 |zero=>intro k H1 u l v h1 h2;omega
 |succ q ih=>
  intro k H1 u l v hql hln hk2 hv he hu hnew;intros;obtain⟨k,rfl⟩:=aB k U
  rw[dR,aJQ];unfold zG;by_cases hvw:v=w
  ·have d:(v !=w)=false:=by simp[hvw]
   rw[if_pos hvw];simp only[gsR,d];rw[aJR]
   exact⟨H1,_,rfl,he,u,rfl,hu,hnew⟩
  ·have d:(v !=w)=true:=by simp[hvw]
   rw[if_neg hvw];have b1:=eS hb he;have p1:=hp.ext he;have l10:=eC b1 10 _ rfl;have l0:=eC b1 0 _ rfl;rw[hk.hn] at l0;obtain⟨a1,u1,a2,g1,g2,g3,g4⟩:=Oy hk p1 hv hw;have hlen:=hu.rX;obtain⟨x,hx⟩:=aD (nx p v w);rw[<-hx] at g4⊢;by_cases hl:l.length=n
   ·have dl:((l.length:Int)==(n:Int))=true:=by simp[hl]
    rw[if_pos (.inl (by rw[hk.hn];omega))]
    simp only[gsR,d,l10,g1,g2,g3,g4,hlen,l0,dl];rw[Z4]
    exact⟨H1,_,rfl,he,.slice none 0 0,rfl,Rw.kP,New.mT _⟩
   ·have dl:((l.length:Int)==(n:Int))=false:=by simp;omega
    have l11:=lC b1;obtain⟨H2,ub,g5,x2,q2,_⟩:=No p1 (m:=m) U U v
    have hbl:=Y1 p.edges v;have g6:=aJY q2.rs x (m:=m) U U
    rw[aJX] at g6;cases hc:(iF p.edges v).contains x with
    |false=>
     rw[hc] at g6;rw[if_pos (.inr rfl)];simp only[gsR,d,l10,g1,g2,g3,g4,hlen,l0,dl,l11,g5,g6];rw[Z4]
     exact⟨H2,_,rfl,he.tr x2,.slice none 0 0,rfl,Rw.kP,New.mT _⟩
    |true=>
     rw[hc] at g6;rw[if_neg (by rw[hk.hn];rintro (h|h);omega;cases h)]
     have hxin:=zF hk.ve (Nr _ _ _ |>.mpr (List.contains_iff_mem.mp hc));have hu2:Iw H2 u l:=hu.eY λb hb=>x2.2 b (hu.gU hb) id
     obtain⟨u2,H3,t1,t2,t3,t4⟩:=hu2.tV (by':=8) gV pR aC x hnew (he.tr x2) (iE (n:=1000000) aC U)
     simp only[gsR,d,l10,g1,g2,g3,g4,hlen,l0,dl,l11,g5,g6,pS,t1];exact ih k H3 u2 (l++[x]) x (by simp;omega) (by simp;omega) U ⟨hxin.1,hxin.2.1⟩ t4 t2 t3 ..
theorem aJ0 {n:Nat}(hk:OkP p n)(hp:PV H p ev wv nv){v w:Int}(hv:0<=v/\v<n)(hw:0<=w/\w<n)(hm:300<m)(hm2:m<=72057594037927936):
  ∃H' r,lvl prog cN m (.func 76) [plV p ev wv nv,.I v,.I w] H=some (r,H')/\Z8 H (qM p v w) H' r:=by
 obtain⟨H0,hH0⟩:=aD (H++[plB p ev wv nv]);have x0:Ext H H0:=by rw[hH0];exact Fr.app _ _ _
 have b0:H0[H.length]? =some (plB p ev wv nv):=by rw[hH0];exact fA _ _
 have h6:=hk.h6;have h2:=hk.h2;have one:Iw (H0++[.cells (inC v) 3 .row]) (.slice (some ⟨H0.length,0,none⟩) 1 1) [v]:=⟨rfl,.inr ⟨_,1,[],rfl,by simp,rfl,by simp⟩⟩
 have hnew:New H0 (.slice (some ⟨H0.length,0,none⟩) 1 1):=λb ⟨_,_,_,hh⟩=>by cases hh;exact aRZ _
 have x1:Ext H0 (H0++[Blk.cells (inC v) 3 .row]):=Fr.app _ _ _;refine gN (gX rfl rfl) U ?_
 rw[aJS];simp only[gsR,mC,<-hH0,pS];have hq:p.nodes.toNat=n:=by rw[hk.hn];rfl
 unfold qM;rw[hq];have:=aJ1 hk hw (hp.ext x0) b0 (m:=m-1) U U n (m-1) _ _ [v] v (by simp) (by simp;omega) U hv x1 one hnew
 refine Exists.imp (λH' h=>Exists.imp (λr h=>⟨h.1,x0.tr h.2.1,?_⟩) h) (this ..)
 obtain⟨lv,e1,e2,e3⟩:=h.2.2
 exact⟨lv,e1,e2,λb hb=>aSa x0.1 (e3 b hb)⟩
end
def Hz (p:PlanD)(a b:Ed)(w:Nat):Bool:=a.2==b.1&&((w:Int)!=a.2&&((w:Int)!=a.1&&(nx p a.1 w==a.2&&nx p a.2 w==b.2)))
def wt (p:PlanD)(n:Nat)(a b:Ed):Bool:=(List.range n).any (Hz p a b)
def oW (p:PlanD)(n:Nat)(hs:List Ed)(a:Ed):List Int:=((List.range hs.length).filter λk=>wt p n a (hs.getD k (0,0))).map (λk:Nat=>(k:Int))
def nF (p:PlanD):List (List Int):=if gY p=true then(dM p).map (oW p p.nodes.toNat (dM p)) else []
def sB (hs:List Ed)(y:Ed):Int:=fst (λj=>hs[j]? ==some y) hs.length 0
def oB (p:PlanD)(hs:List Ed)(h:Ed)(w:Nat):List Int:=
 if(w:Int)=h.1∨(w:Int)=h.2∨nx p h.1 w≠h.2 then [] else if 0<=sB hs (h.2,nx p h.2 w) then [sB hs (h.2,nx p h.2 w)] else []
def Hy (p:PlanD)(n:Nat)(hs:List Ed)(h:Ed):List Int:=(List.range n).flatMap (oB p hs h)
theorem aAb (p:Nat->Bool): ∀q i,0<=fst p q i->p (fst p q i).toNat=true
 |0,i=>by simp[fst]
 |q+1,i=>by
  unfold fst;split
  ·rename_i h
   intro _;simpa using h
  ·exact aAb p q (i+1)
theorem aAd {hs:List Ed}(hn:hs.Nodup)(y:Ed)(k:Nat):sB hs y=k↔hs[k]? =some y:=by
 have key:0<=sB hs y->hs[(sB hs y).toNat]? =some y:=λh=>by
  unfold sB at h⊢;have:=aAb _ _ _ h;simpa using this
 constructor
 ·intro h
  have:=key U
  rw[h] at this;simpa using this
 ·intro h
  have hk:=(aRU.mp h).1;have h0:0<=sB hs y:=(Nm _ _ _).mpr ⟨k,by omega,by omega,by rw[h];simp⟩
  have h1:=key h0;have hk1:=(aRU.mp h1).1;have:=(List.getElem_inj (h₀:=hk1) (h₁:=hk) hn).mp (by
   rw[(aRU.mp h1).2,(aRU.mp h).2])
  omega
theorem aJ4 (p:PlanD)(hs:List Ed)(h:Ed)(w:Nat):(oB p hs h w).length<=1:=by
 unfold oB;split
 ·simp
 ·split<;>simp
theorem O0 (p:PlanD)(hs:List Ed)(h:Ed): ∀i,((List.range i).flatMap (oB p hs h)).length<=i
 |0=>by simp
 |i+1=>by
  have:=O0 p hs h i;have:=aJ4 p hs h i;rw[aSt,List.flatMap_append];simp only[aR6,List.flatMap_cons,List.flatMap_nil,List.append_nil];omega
theorem aAf {p:PlanD}{n:Nat}{hs:List Ed}{a:Ed}{z:Int}:z∈oW p n hs a↔ ∃k b,z=(k:Nat)/\hs[k]? =some b/\wt p n a b=true:=by
 unfold oW;simp only[aSx,List.mem_filter,aSy];constructor
 ·rintro ⟨k,⟨h1,h2⟩,rfl⟩
  exact⟨k,hs[k],rfl,aRW h1,by rwa [aRY,aRW h1,aSn] at h2⟩
 ·rintro ⟨k,b,rfl,h1,h2⟩
  refine⟨k,⟨(aRU.mp h1).1,?_⟩,rfl⟩;rwa [aRY,h1,aSn]
theorem aKe (p:PlanD)(n:Nat)(hs:List Ed)(a:Ed):(oW p n hs a).Pairwise (· < ·):=by
 unfold oW;rw[List.pairwise_map]
 exact(List.Pairwise.filter _ List.pairwise_lt_range).imp λh=>by omega
theorem aKd (z:Int)(l:List Int):z∈srt l↔z∈l:=(A0 l).mem_iff
theorem aJ5 {p:PlanD}{n:Nat}{hs:List Ed}(hn:hs.Nodup)(a:Ed):dd (srt (Hy p n hs a))=oW p n hs a:=by
 refine Ns _ _ (He _ (Cq _)) (aKe p n hs a) λz=> ?_
 rw[C7,aKd,aAf];unfold Hy wt;simp only[List.mem_flatMap,aSy,List.any_eq_true];constructor
 ·rintro ⟨w,hw,hz⟩
  unfold oB at hz
  split at hz
  ·simp at hz
  ·rename_i hc
   split at hz
   ·rename_i h0
    simp only[List.mem_singleton] at hz;have e:sB hs (a.2,nx p a.2 w)=((sB hs (a.2,nx p a.2 w)).toNat:Nat):=U
    refine⟨_,_,by rw[hz];exact e,(aAd hn _ _).mp e,w,hw,?_⟩
    unfold Hz;simp only[aR2,bne_iff_ne,beq_iff_eq];refine⟨trivial,?_,?_,?_,trivial⟩<;>omega
   ·simp at hz
 ·rintro ⟨k,b,rfl,hk,w,hw,hz⟩
  unfold Hz at hz;simp only[aR2,bne_iff_ne,beq_iff_eq] at hz;obtain⟨h1,h2,h3,h4,h5⟩:=hz;refine⟨w,hw,?_⟩;unfold oB;rw[if_neg U]
  have:(a.2,nx p a.2 w)=b:=by rw[h5,h1]
  rw[this,(aAd hn b k).mpr hk,if_pos U]
  simp
theorem xK {p:PlanD}{n:Nat}(hk:OkP p n):(dM p).Nodup/\dM p=(List.range n).flatMap (o9 p.edges):=by
 have hN:nR p=n:=by have:=hk.h6;unfold nR;rw[hk.hn];omega
 have hho:dM p=(List.range n).flatMap (o9 p.edges):=by unfold dM;rw[hN]
 refine⟨?_,hho⟩;rw[hho]
 exact(aJs hk.ve hk.h6).imp λh hh=>by subst hh;omega
theorem aJ8 {p:PlanD}{n:Nat}(hk:OkP p n){h:Ed}(hh:h∈dM p):0<=h.1/\h.1<n/\0<=h.2/\h.2<n:=by
 rw[(xK hk).2] at hh;have:=zF hk.ve ((N3 hk.ve hk.h6).mp hh);omega
section
variable {H : aF} {m : Nat} {p : PlanD} {ev wv nv : Value}
def hpB (h:Ed):Blk:= .cells (edC h) 67 .fix
theorem aAc (h:Ed):Blk.cells (edV h).cells.toList 67 .fix=hpB h:=rfl
theorem aKb {b:Nat}{h:Ed}(hb:H[b]? =some (hpB h)):ld1 (.Q b 0) H=some (.I h.1,H):=Cl hb rfl
theorem aKc {b:Nat}{h:Ed}(hb:H[b]? =some (hpB h)):ld1 (.Q b 1) H=some (.I h.2,H):=Cl hb rfl
theorem aAe {b:Nat}{h:Ed}(hb:H[b]? =some (hpB h)):ldN 2 (.Q b 0) H=some (edV h,H):=by
 rw[tT,hb];unfold hpB;rw[uO _ _ _ _ _ (by simp[edC])]
 rfl
theorem aAa (a b:Ed):bin prog .eql 67 (edV a) (edV b)=some (.bool (a==b)):=by
 have k:tN prog 67=some [true,true]:=by kernel_rfl
 obtain⟨a1,a2⟩:=a;obtain⟨b1,b2⟩:=b;simp[bin,edV,eE,nL,k,eqT,edC];rfl
theorem aKa {v:Value}{xs:List Ed}{a:Nat}{y:Ed}(hx:Hs H v xs)(ha:H[a]? =some (hpB y))(hn:xs.length<=72057594037927936): ∀(q i k:Nat),xs.length-i=q->i<=xs.length->q<k-> ∀(x1 x2 x4 x5 x6 x9 bS cE aV aR aS aQ aW aX aU:Value),
  aM k (aN prog (lvl prog cN m) (aM m) Mw) (Gs (lvl prog cN m) (aM m)) [v,x1,x2,(.pointer (some ⟨a,0,none⟩)),x4,x5,x6,(.int .i64 xs.length),(.int .i64 (i:Nat)),x9,bS,cE,aV,aR,aS,aQ,aW,aX,aU] H=some (.int .i64 (fst (λj=>xs[j]? ==some y) q i),H):=by
 intro q;have la:=aAe ha;induction q with
 |zero=>
  intro i k hr hi hk;intros;obtain⟨k,rfl⟩:=aB k U
  obtain rfl:i=xs.length:=U
  have e:decide ((xs.length:Int)<xs.length)=false:=by simp
  rw[dR,X6];simp only[gsR,e];rw[aH4];rfl
 |succ q ih=>
  intro i k hr hi hk;intros;obtain⟨k,rfl⟩:=aB k U
  have e:decide ((i:Int)<xs.length)=true:=by simp;omega
  have e3:=aA (i:=i) U
  have hxi:xs[i]? =some xs[i]:=aRW U
  obtain⟨b,o,g1,g2,g3⟩:=hx.fS o7 hxi .i64;have l1:ldN 2 (.Q b o) H=some (edV xs[i],H):=(g3 H rfl).1;rw[dR,X6];unfold fst;by_cases h:y=xs[i]
  ·have d:(y==xs[i])=true:=by rw[h];simp
   have d2:(xs[i]? ==some y)=true:=by rw[hxi,h];simp
   simp only[gsR,e,la,g1,l1,aAa,d];rw[aH6,if_pos d2];rfl
  ·have d:(y==xs[i])=false:=by simpa using h
   have d2: ¬(xs[i]? ==some y)=true:=by rw[hxi];simpa using λhh=>h hh.symm
   simp only[gsR,e,la,g1,l1,aAa,d,cR,e3];rw[if_neg d2];exact ih (i+1) k U U U ..
theorem aJ9 {v:Value}{xs:List Ed}(hx:Hs H v xs)(y:Ed)(hn:xs.length+10<m)(hm:m<=72057594037927936): ∃H',lvl prog cN m (.func 162) [v,edV y] H=some (.I (sB xs y),H')/\Ext H H':=by
 have x2:Ext H (H++[hpB y]):=Fr.app _ _ _;have hlen:=hx.gW;refine⟨H++[hpB y],cS (gX rfl rfl) U ?_,x2⟩
 rw[aH5];simp only[gsR,aAc,hlen];exact aKa (hx.ext x2) (fA H _) U xs.length 0 (m-1) U U U ..
theorem aJ7 {n:Nat}(hk:OkP p n){H0:aF}{a hb:Nat}{h:Ed}{u:Value}{hs:List Ed}(hh:0<=h.1/\h.1<n/\0<=h.2/\h.2<n)(hp:PV H0 p ev wv nv)(hb0:H0[a]? =some (plB p ev wv nv))(hhb:H0[hb]? =some (hpB h))(hu:Hs H0 u hs)(hsl:hs.length<=100)(hm:300<m)(hm2:m<=72057594037927936):
  ∀(q i k:Nat)(H1:aF)(acc:Value),n-i=q->i<=n->q<k->Ext H0 H1->Iw H1 acc ((List.range i).flatMap (oB p hs h))->New H0 acc-> ∀(x0 x1 x5 x6 x8 x9 bS aR aS aQ aW aX aU bA bP bQ bO bK aY bC bE bG bH bI bJ bM bN bU cK cL cD bV bX bY b9 cA cF cM cO cP cT dB dE dF cU cV cW cY dJ dG dH cZ dP dS dQ dX eG eH:Value),
  ∃H' r,aM k (aN prog (lvl prog cN m) (aM m) Ho) (Hp (lvl prog cN m) (aM m)) [x0,x1,u,(.Q a 0),(.Q hb 0),x5,x6,acc,x8,x9,bS,(.I n),(.I (i:Nat)),aR,aS,aQ,aW,aX,aU,bA,bP,bQ,bO,bK,aY,bC,bE,bG,bH,bI,bJ,bM,bN,bU,cK,cL,cD,bV,bX,bY,b9,cA,cF,cM,cO,cP,cT,dB,dE,dF,cU,cV,cW,cY,dJ,dG,dH,cZ,dP,dS,dQ,dX,eG,eH] H1=some (r,H')/\Ext H0 H'/\Iw H' r (dd (srt (Hy p n hs h)))/\New H0 r:=by
 intro q;have h6:=hk.h6;induction q with
 |zero=>
  intro i k H1 acc hr hi hk2 he ha hnew;intros;obtain⟨k,rfl⟩:=aB k U
  obtain rfl:i=n:=U
  have e:decide ((i:Int)<(i:Int))=false:=by simp
  have hal:=O0 p hs h i;obtain⟨H2,g1,g2,g3⟩:=Xf ha U hnew he
  have g1':=Yk m U [acc] H1
  rw[g1] at g1';have hsl:=sT ((List.range i).flatMap (oB p hs h));obtain⟨H3,r,q1,q2,q3,q4⟩:=Yv (m:=m) g2 hnew g3 U U
  refine⟨H3,r,?_,q2,q3,q4⟩;rw[dR,Zs];simp only[gsR,e];rw[aJx];simp only[gsR,g1',q1]
 |succ q ih=>
  intro i k H1 acc hr hi hk2 he ha hnew;intros;obtain⟨k,rfl⟩:=aB k U
  have e:decide ((i:Int)<(n:Int))=true:=aSE U
  have e3:=aA (i:=i) U
  have hb1:=eS hhb he;have h0:=aKb hb1;have h1:=aKc hb1;have bp:=eS hb0 he;have l10:=eC bp 10 _ rfl;have p1:=hp.ext he;have hran:(List.range (i+1)).flatMap (oB p hs h)=(List.range i).flatMap (oB p hs h)++oB p hs h i:=by
   rw[aSt,List.flatMap_append];simp
  have hal:=O0 p hs h i;have skip:oB p hs h i=[]-> ∀(x0 x1 x5 x6 x8 x9 bS aR aS aQ aW aX aU bA bP bQ bO bK aY bC bE bG bH bI bJ bM bN bU cK cL cD bV bX bY b9 cA cF cM cO cP cT dB dE dF cU cV cW cY dJ dG dH cZ dP dS dQ dX eG eH:Value),∃H' r,aM k (aN prog (lvl prog cN m) (aM m) Ho) (Hp (lvl prog cN m) (aM m)) [x0,x1,u,(.Q a 0),(.Q hb 0),x5,x6,acc,x8,x9,bS,(.I n),(.I (i+1:Nat)),aR,aS,aQ,aW,aX,aU,bA,bP,bQ,bO,bK,aY,bC,bE,bG,bH,bI,bJ,bM,bN,bU,cK,cL,cD,bV,bX,bY,b9,cA,cF,cM,cO,cP,cT,dB,dE,dF,cU,cV,cW,cY,dJ,dG,dH,cZ,dP,dS,dQ,dX,eG,eH] H1=some (r,H')/\Ext H0 H'/\Iw H' r (dd (srt (Hy p n hs h)))/\New H0 r:=by
   intro h0;exact ih (i+1) k H1 acc U U U he (by rw[hran,h0,List.append_nil];exact ha) hnew
  rw[dR,Zs];cases c1:((i:Int)==h.1) with
  |true=>
   simp only[gsR,e,h0,c1,cR,e3];exact skip (by unfold oB;rw[if_pos (.inl (by simpa using c1))]) ..
  |false=>
   cases c2:((i:Int)==h.2) with
   |true=>
    simp only[gsR,e,h0,h1,c1,c2,cR,e3];exact skip (by unfold oB;rw[if_pos (.inr (.inl (by simpa using c2)))]) ..
   |false=>
    obtain⟨a1,u1,a2,g1,g2,g3,g4⟩:=Oy hk p1 (v:=h.1) (w:=i) U U
    cases c3:(nx p h.1 i !=h.2) with
    |true=>
     simp only[gsR,e,h0,h1,c1,c2,l10,g1,g2,g3,g4,c3,cR,e3];exact skip (by unfold oB;rw[if_pos (.inr (.inr (by simpa using c3)))]) ..
    |false=>
     obtain⟨a3,u3,a4,k1,k2,k3,k4⟩:=Oy hk p1 (v:=h.2) (w:=i) U U
     have bh:bld prog 67 [(0,.I h.2),(1,.I (nx p h.2 i))]=some (edV (h.2,nx p h.2 i)):=Y0 _ _;obtain⟨H2,x1,x2⟩:=aJ9 (hu.ext he) (h.2,nx p h.2 i) (m:=m) U U
     have hnot: ¬((i:Int)=h.1∨(i:Int)=h.2∨nx p h.1 i≠h.2):=by
      have c1': ¬(i:Int)=h.1:=by simpa using c1
      have c2': ¬(i:Int)=h.2:=by simpa using c2
      have c3':nx p h.1 i=h.2:=by simpa using c3
      rintro (hx|hx|hx)
      ·exact c1' hx
      ·exact c2' hx
      ·exact hx c3'
     have ha2:Iw H2 acc ((List.range i).flatMap (oB p hs h)):=ha.eY λb hb=>x2.2 b (ha.gU hb) id
     cases c4:decide (0<=sB hs (h.2,nx p h.2 i)) with
     |true=>
      obtain⟨acc2,H3,t1,t2,t3,t4⟩:=ha2.tV (by':=8) gV pR aC (sB hs (h.2,nx p h.2 i)) hnew (he.tr x2) (iE (n:=1000000) aC U)
      simp only[gsR,e,h0,h1,c1,c2,l10,g1,g2,g3,g4,c3,k1,k2,k3,k4,bh,x1,c4,pS,t1,cR,e3];refine ih (i+1) k H3 acc2 U U U t4 ?_ t3 ..
      have:oB p hs h i=[sB hs (h.2,nx p h.2 i)]:=by unfold oB;rw[if_neg hnot,if_pos (of_decide_eq_true c4)]
      rw[hran,this];exact t2
     |false=>
      simp only[gsR,e,h0,h1,c1,c2,l10,g1,g2,g3,g4,c3,k1,k2,k3,k4,bh,x1,c4,cR,e3];refine ih (i+1) k H2 acc U U U (he.tr x2) ?_ hnew ..
      have:oB p hs h i=[]:=by unfold oB;rw[if_neg hnot,if_neg (of_decide_eq_false c4)]
      rw[hran,this,List.append_nil];exact ha2
theorem aJ6 {n:Nat}(hk:OkP p n){h:Ed}{u:Value}{hs:List Ed}(hh:0<=h.1/\h.1<n/\0<=h.2/\h.2<n)(hp:PV H p ev wv nv)(hu:Hs H u hs)(hsl:hs.length<=100)(hnd:hs.Nodup)(hm:400<m)(hm2:m<=72057594037927936):
  ∃H' r,lvl prog cN m (.func 132) [plV p ev wv nv,edV h,u] H=some (r,H')/\Ext H H'/\Iw H' r (oW p n hs h)/\New H r:=by
 obtain⟨H0,hH0⟩:=aD (H++[plB p ev wv nv]);have x0:Ext H H0:=by rw[hH0];exact Fr.app _ _ _
 have b0:H0[H.length]? =some (plB p ev wv nv):=by rw[hH0];exact fA _ _
 obtain⟨H1,hH1⟩:=aD (H0++[hpB h]);have x1:Ext H0 H1:=by rw[hH1];exact Fr.app _ _ _
 have b1:H1[H0.length]? =some (hpB h):=by rw[hH1];exact fA _ _
 have l0:=eC (eS b0 x1) 0 _ rfl;rw[hk.hn] at l0;have x01:=x0.tr x1;have h6:=hk.h6;refine gN (gX rfl rfl) U ?_
 rw[aJy];simp only[gsR,mC,<-hH0,aAc,<-hH1,l0];rw[<-aJ5 hnd];exact Exists.imp (λH' h=>Exists.imp (λr h=>⟨h.1,x01.tr h.2.1,h.2.2.1,λb hb=>aSa x01.1 (h.2.2.2 b hb)⟩) h) (aJ7 hk hh (hp.ext x01) (eS b0 x1) b1 (hu.ext x01) hsl (m:=m-1) U U n 0 (m-1) H1 (.slice none 0 0) U U U (Fr.kO _ _) Rw.kP (New.mT _) ..)
structure WR (H:aF)(us:List SV)(xss:List (List Int)):Prop where
 len:us.length=xss.length
 row: ∀(j:Nat)(s:SV)(xs:List Int),us[j]? =some s->xss[j]? =some xs->Iw H s.1 xs
theorem WR.Df {us:List SV}{xss:List (List Int)}{H':aF}(h:WR H us xss)(hk: ∀(b:Nat)(cs:List Value),H[b]? =some (.cells cs 3 .row)->H'[b]? =H[b]?):WR H' us xss:=
 ⟨h.len,λj s xs h1 h2=>(h.row j s xs h1 h2).eY λb hb=>by
  obtain⟨cs,hc⟩:=(h.row j s xs h1 h2).blk hb;exact hk b cs hc⟩
theorem WR.Z9 {us:List SV}{xss:List (List Int)}{s:SV}{xs:List Int}(h:WR H us xss)(hs:Iw H s.1 xs):WR H (us++[s]) (xss++[xs]):=by
 refine⟨by simp[h.len],λj s' xs' h1 h2=> ?_⟩
 by_cases hj:j<us.length
 ·rw[aRX hj] at h1
  rw[aRX (by have:=h.len;omega)] at h2
  exact h.row j s' xs' h1 h2
 ·have hj2:j=us.length:=by
   have:=(aRU.mp h1).1;simp at this;omega
  subst hj2;simp at h1;rw[h.len] at h2;simp at h2;subst h1 h2;exact hs
theorem WR.Oz {us:List SV}{xss:List (List Int)}{v:Value}(h:WR H us xss)(hv:Rs sC 25 H v us):Rows H v xss:=by
 refine⟨us.map (·.1),?_,by simp[h.len],λj u xs h1 h2=> ?_⟩
 ·rcases hv with⟨h1,h2⟩|⟨b,o,cap,h1,h2,h3⟩
  ·exact .inl ⟨h1,by rw[h2];rfl⟩
  ·refine .inr ⟨b,o,cap,by rw[aR8];exact h1,by rw[aR8];exact h2,λhne=> ?_⟩
   rw[<-C9];exact h3 λhh=>hne (by rw[hh];rfl)
 ·rw[aR7] at h1
  obtain⟨s,hs,rfl⟩:=aSq.mp h1
  exact(h.row j s xs hs h2).rs
def sE {u:Value}{xs:List Int}(h:Iw H u xs):SV:=⟨u,Rs.sv h.rs⟩
def Pa:SV:=⟨.slice none 0 0,rfl,rfl⟩
theorem aJ3 {n:Nat}(hk:OkP p n){H0:aF}{a ob:Nat}{u:Value}{hs:List Ed}(hin: ∀h∈hs,0<=h.1/\h.1<n/\0<=h.2/\h.2<n)(hsl:hs.length<=100)(hnd:hs.Nodup)(hm:500<m)(hm2:m<=72057594037927936)(hp:PV H0 p ev wv nv)(hb0:H0[a]? =some (plB p ev wv nv))(hu:Hs H0 u hs)(hob:H0.length=ob):
  ∀(q i k:Nat)(H1:aF)(us:List SV),hs.length-i=q->i<=hs.length->q<k->Ext H0 H1->OwS sC 25 H1 (.slice (some ⟨ob,0,none⟩) hs.length hs.length) ob us->us.length=hs.length->WR H1 (us.take i) ((hs.take i).map (oW p n hs))-> ∀(x0 x2 x5 x6 x7 x8 x9 bS cE aV aR aS aU bA bP bQ bO bK aY bC bE bG bH bI bJ:Value),
  ∃H' r,aM k (aN prog (lvl prog cN m) (aM m) Ow) (Ox (lvl prog cN m) (aM m)) [x0,(.Q a 0),x2,u,(.slice (some ⟨ob,0,none⟩) hs.length hs.length),x5,x6,x7,x8,x9,bS,cE,aV,aR,aS,u,(.I hs.length),(.I (i:Nat)),aU,bA,bP,bQ,bO,bK,aY,bC,bE,bG,bH,bI,bJ] H1=some (r,H')/\Ext H0 H'/\Rows H' r (hs.map (oW p n hs)):=by
 intro q;induction q with
 |zero=>
  intro i k H1 us hr hi hk2 he ho hul hwr;intros;obtain⟨k,rfl⟩:=aB k U
  obtain rfl:i=hs.length:=U
  have e:decide ((hs.length:Int)<(hs.length:Int))=false:=by simp
  rw[dR,Z5];simp only[gsR,e];rw[aJT];rw[List.take_of_length_le (aRZ _),List.take_of_length_le U] at hwr
  refine⟨H1,.slice (some ⟨ob,0,none⟩) hs.length hs.length,rfl,he,hwr.Oz (.inr ⟨ob,0,hs.length,by rw[hul],by omega,λ_=>⟨25,.row,[],[],rfl,λ_=>rfl,?_⟩⟩)⟩
  rw[ho.blk];simp
 |succ q ih=>
  intro i k H1 us hr hi hk2 he ho hul hwr;intros;obtain⟨k,rfl⟩:=aB k U
  have e:decide ((i:Int)<(hs.length:Int))=true:=aSE U
  have e3:=aA (i:=i) U
  obtain⟨h,hh⟩: ∃h,hs[i]? =some h:=⟨_,aRW U⟩
  obtain⟨b,o,g1,_,g3⟩:=(hu.ext he).fS o7 hh .i64;have g4:ldN 2 (.Q b o) H1=some (edV h,H1):=(g3 H1 rfl).1;obtain⟨H2,hH2⟩:=aD (H1++[hpB h]);have x2:Ext H1 H2:=by rw[hH2];exact Fr.app _ _ _
  have b2:H2[H1.length]? =some (hpB h):=by rw[hH2];exact fA _ _
  have st:stN 2 (.Q H1.length 0) (edV h) (H1++[.cells [.I 0,.I 0] 67 .fix])=some (undef,H2):=by
   rw[mA 2 _ _ _ rfl,fA,oK _ _ _ _ _ _ aC (by show 0+2<=2;omega) rfl,hH2]
   simp[eT,edV,edC,Value.cells,hpB]
  have l11:=lC (eS hb0 (he.tr x2));have l2:=aAe b2;obtain⟨H3,r,g5,x3,g6,g7⟩:=aJ6 hk (hin h (aR4 hh)) (hp.ext (he.tr x2)) (hu.ext (he.tr x2)) hsl hnd (m:=m) U U
  have aR:Ext H1 H3:=x2.tr x3;have ho3:OwS sC 25 H3 (.slice (some ⟨ob,0,none⟩) hs.length hs.length) ob us:=⟨ho.val,by rw[aR.2 ob (aRU.mp ho.blk).1 id];exact ho.blk⟩
  have ga:=ho3.aFN 1 i .i64 U
  obtain⟨s1,s2⟩:=ho3.st (sz:=1) Bd Hl (i:=i) U (sE g6)
  have st2:stN 1 (.Q ob (i*1)) r H3=some (undef,H3.set ob (.cells ((us.set i (sE g6)).map sC).flatten 25 .row)):=by
   have hcl:r.cells.toList=sC (sE g6):=by
    have:=(sE g6).2.2;show r.cells.toList=[r]
    rw[show r.cells= #[r] from this]
   rw[mA 1 _ _ _ (by rw[hcl];rfl),hcl]
   exact s1
  rw[dR,Z5];simp only[gsR,e,g1,g4,st,l11,l2,g5,ga,st2,cR,e3];obtain⟨H4,hH4⟩:=aD (H3.set ob (.cells ((us.set i (sE g6)).map sC).flatten 25 .row));rw[<-hH4] at s2⊢;have x04:Ext H0 H4:=by rw[hH4];exact pU (he.tr aR) U
  have kp: ∀(b:Nat)(cs:List Value),H3[b]? =some (.cells cs 3 .row)->H4[b]? =H3[b]? :=λb cs hb=>by
   rw[hH4];refine aRV λhh=> ?_
   subst hh;rw[ho3.blk] at hb;simp at hb
  have w3:WR H3 (us.take i) ((hs.take i).map (oW p n hs)):=hwr.Df λb cs hb=>by rw[aR.2 b (aRU.mp hb).1 id]
  have w4:=(w3.Z9 (s:=sE g6) g6).Df kp;refine ih (i+1) k H4 (us.set i (sE g6)) U U U x04 s2 (by simp[hul]) ?_ ..
  have e1:(us.set i (sE g6)).take (i+1)=us.take i++[sE g6]:=by
   rw[List.take_add_one,aR0 U,List.take_set_of_le (aRZ _)]
   rfl
  have e2:(hs.take (i+1)).map (oW p n hs)=(hs.take i).map (oW p n hs)++[oW p n hs h]:=by
   rw[List.take_add_one,hh,List.map_append];rfl
  rw[e1,e2];exact w4
theorem aJ2 (hp:PV H p ev wv nv)(hm:17592186045200<m)(hm2:m<=72057594037927936):
  ∃H' r,lvl prog cN m (.func 77) [plV p ev wv nv] H=some (r,H')/\Ext H H'/\Rows H' r (nF p):=by
 obtain⟨H0,hH0⟩:=aD (H++[plB p ev wv nv]);have x0:Ext H H0:=by rw[hH0];exact Fr.app _ _ _
 have b0:H0[H.length]? =some (plB p ev wv nv):=by rw[hH0];exact fA _ _
 have p0:=hp.ext x0;have l11:=lC b0;obtain⟨H1,g1,x1⟩:=Ys p0 (m:=m-1) U U
 have b1:=eS b0 x1;have p1:=p0.ext x1;have l12:=lC b1;refine gN (gX rfl rfl) U ?_
 rw[aJU];cases hc:gY p with
 |false=>
  rw[hc] at g1;have en:(xA false !=0)=true:=rfl;have e:nF p=[]:=by unfold nF;rw[if_neg (by simp[hc])]
  simp only[gsR,mC,<-hH0,l11,g1,en]
  exact⟨H1,_,rfl,x0.tr x1,by rw[e];exact⟨[],.inl ⟨rfl,rfl⟩,rfl,λi u xs h=>by simp at h⟩⟩
 |true=>
  rw[hc] at g1;have en:(xA true !=0)=false:=rfl;obtain⟨n,hk⟩:=sW hc;have h15:=hk.e15;obtain⟨H2,u,g2,x2,q2,_⟩:=Y3 p1 (m:=m-1) U U
  have hlen:=q2.rX;have hhl:=xC p;have mk:=wW (H:=H2) 25 1 24 [.slice none 0 0] .i64 .i64 ((dM p).length:Int) U U U rfl
  simp only[aSm] at mk;have e:nF p=(dM p).map (oW p n (dM p)):=by unfold nF;rw[if_pos hc,hk.hn];rfl
  have hfl:(List.replicate (dM p).length [Value.slice none 0 0]).flatten=((List.replicate (dM p).length Pa).map sC).flatten:=by rw[List.map_replicate];rfl
  simp only[gsR,mC,<-hH0,l11,g1,en,l12,g2,hlen,mk];rw[e,hfl];have hx:Ext H2 (H2++[Blk.cells ((List.replicate (dM p).length Pa).map sC).flatten 25 .row]):=Fr.app _ _ _;exact Exists.imp (λH' h=>Exists.imp (λr h=>⟨h.1,((x0.tr x1).tr x2).tr h.2.1,h.2.2⟩) h) (aJ3 hk (λh hh=>aJ8 hk hh) U (xK hk).1 (m:=m-1) U U (p1.ext x2) (eS b1 x2) q2.rs rfl (dM p).length 0 (m-1) _ (List.replicate (dM p).length Pa) U U U hx ⟨by simp,fA _ _⟩ (by simp) ⟨by simp,λj s xs h=>by simp at h⟩ ..)
end
end Go.Proofs.YtkeilicinggjmaaGreatDoor
namespace Go.Abs
open M
def Eg (g:List (List Int))(i k:Nat):Prop:= ∃r,g[i]? =some r/\(k:Int)∈r
inductive Rch (g:List (List Int)):Nat->Nat->Prop
 |one {i k:Nat}:Eg g i k->Rch g i k
 |step {i j k:Nat}:Rch g i j->Eg g j k->Rch g i k
def Cyc (g:List (List Int)):Prop:= ∃i,Rch g i i
def Inn (g:List (List Int)):Prop:= ∀r∈g,∀z∈r,0<=z/\z<(g.length:Int)
def Dn (g:List (List Int))(C:List Int):Prop:= ∀u:Nat,C[u]? =some 2->(∀k:Nat,Eg g u k->C[k]? =some 2)/\ ¬Rch g u u
theorem Dn.aKg {g:List (List Int)}{D:List Int}(h:Dn g D){i:Nat}{r:List Int}(hi:D[i]? =some 1)(hr:g[i]? =some r)(hall: ∀k:Nat,(k:Int)∈r->D[k]? =some 2):Dn g (D.set i 2):=by
 have hl:=(aRU.mp hi).1;have up: ∀k:Nat,D[k]? =some 2->(D.set i 2)[k]? =some 2:=λk hk=>by
  rw[List.getElem?_set];split
  ·rename_i h
   subst h;simp[hl]
  ·exact hk
 intro u hu;by_cases hui:u=i
 ·subst hui
  refine⟨λk ⟨r',h1,h2⟩=> ?_,λhc=> ?_⟩
  ·rw[hr] at h1
   cases h1;exact up k (hall k h2)
  ·have key: ∀k:Nat,Rch g u k->D[k]? =some 2:=by
    intro k hk;induction hk with
    |one e=>
     obtain⟨r',h1,h2⟩:=e;rw[hr] at h1;cases h1;exact hall _ h2
    |step _ e ih=>exact(h _ ih).1 _ e
   have:=key u hc;rw[hi] at this;cases this
 ·rw[aRV (Ne.symm hui)] at hu
  exact⟨λk hk=>up k ((h u hu).1 k hk),(h u hu).2⟩
def Dh (s r:List Int):List Int:=r.foldl (λs k=>s.set k.toNat 1) s
def oM (g:List (List Int))(a:Nat)(s:List Int)(i:Nat):List Int:=if i≠a/\s.getD i 0=0 then s else Dh s (g.getD i [])
def u7 (g:List (List Int))(a:Nat)(s:List Int):List Int:=(List.range g.length).foldl (oM g a) s
def lJ (g:List (List Int))(a:Nat):Nat->List Int
 |0=>List.replicate g.length 0
 |n+1=>u7 g a (lJ g a n)
def u6 (g:List (List Int)):Bool:=(List.range g.length).any λi=>(lJ g i g.length).getD i 0==1
def Le (s s':List Int):Prop:=s.length=s'.length/\ ∀k:Nat,s[k]? =some 1->s'[k]? =some 1
def Bin (s:List Int):Prop:= ∀x∈s,x=0∨x=1
theorem Le.Pb (s:List Int):Le s s:=⟨rfl,λ_ h=>h⟩
theorem Le.aAg {a b c:List Int}(h:Le a b)(h':Le b c):Le a c:=⟨h.1.trans h'.1,λk hk=>h'.2 k (h.2 k hk)⟩
theorem aKl (s:List Int)(k:Nat):Le s (s.set k 1):=⟨by simp,λj hj=>by
 rw[List.getElem?_set];split
 ·rename_i h
  subst h;simp[(aRU.mp hj).1]
 ·exact hj⟩
theorem Bin.aKf {s:List Int}(h:Bin s)(k:Nat):Bin (s.set k 1):=λx hx=>by
 rcases List.mem_or_eq_of_mem_set hx with h1|h1
 ·exact h x h1
 ·exact .inr h1
theorem Pc: ∀(r s:List Int),Le s (Dh s r)
 |[],s=>Le.Pb s
 |k::r,s=>(aKl s k.toNat).aAg (Pc r (s.set k.toNat 1))
theorem aAk: ∀(r s:List Int),Bin s->Bin (Dh s r)
 |[],s,h=>h
 |k::r,s,h=>aAk r _ (h.aKf _)
theorem aAl: ∀(r s:List Int)(k:Nat),(k:Int)∈r->k<s.length->(Dh s r)[k]? =some 1
 |[],s,k,h,_=>by cases h
 |z::r,s,k,h,hk=>by
  rcases aSd.mp h with h|h
  ·subst h
   refine(Pc r (s.set (k:Int).toNat 1)).2 k ?_;simp[hk]
  ·exact aAl r _ k h (by simpa using hk)
theorem Pd: ∀(r s:List Int)(k:Nat),(∀z∈r,0<=z)->(Dh s r)[k]? =some 1->s[k]? =some 1∨(k:Int)∈r
 |[],s,k,_,h=> .inl h
 |z::r,s,k,hz,h=>by
  rcases Pd r _ k (λy hy=>hz y (by simp[hy])) h with h1|h1
  ·rw[List.getElem?_set] at h1
   split at h1
   ·rename_i hh
    have:=hz z (by simp)
    exact .inr (by rw[aSd];left;omega)
   ·exact .inl h1
  ·exact .inr (by simp[h1])
theorem Ic (g:List (List Int))(a:Nat)(s:List Int)(i:Nat):Le s (oM g a s i):=by
 unfold oM;split
 ·exact Le.Pb s
 ·exact Pc _ _
theorem Pf (g:List (List Int))(a:Nat): ∀(l:List Nat)(s:List Int),Le s (l.foldl (oM g a) s)
 |[],s=>Le.Pb s
 |i::l,s=>(Ic g a s i).aAg (Pf g a l _)
theorem Dj (g:List (List Int))(a:Nat): ∀(l:List Nat)(s:List Int),Bin s->Bin (l.foldl (oM g a) s)
 |[],s,h=>h
 |i::l,s,h=>Dj g a l _ (by
  unfold oM;split
  ·exact h
  ·exact aAk _ _ h)
theorem Pe (g:List (List Int))(a:Nat)(s:List Int):Le s (u7 g a s):=Pf g a _ s
theorem aAp (g:List (List Int))(a:Nat)(s:List Int)(h:Bin s):Bin (u7 g a s):=Dj g a _ s h
def Dg (g:List (List Int))(a:Nat)(s:List Int):Prop:= ∀k:Nat,s[k]? =some 1->Rch g a k
theorem aAh {s:List Int}(h:Bin s){i:Nat}(hi: ¬s.getD i 0=0):s[i]? =some 1:=by
 rw[aRY] at hi;cases hs:s[i]? with
 |none=>rw[hs] at hi;simp at hi
 |some x=>
  rw[hs] at hi;simp at hi;rcases h x (aR4 hs) with h|h
  ·exact absurd h hi
  ·rw[h]
theorem aKm {g:List (List Int)}{a:Nat}{s:List Int}{i:Nat}(hg:Inn g)(hb:Bin s)(h:Dg g a s):Dg g a (oM g a s i):=by
 unfold oM;split
 ·exact h
 ·rename_i hc
  intro k hk;have hz: ∀z∈g.getD i [],0<=z:=λz hz=>by
   rw[aRY] at hz;cases hg':g[i]? with
   |none=>rw[hg'] at hz;simp at hz
   |some r=>rw[hg'] at hz;exact(hg r (aR4 hg') z hz).1
  rcases Pd _ _ k hz hk with h1|h1
  ·exact h k h1
  ·rw[aRY] at h1
   cases hg':g[i]? with
   |none=>rw[hg'] at h1;simp at h1
   |some r=>
    rw[hg'] at h1;have e:Eg g i k:=⟨r,hg',h1⟩;by_cases hia:i=a
    ·rw[<-hia];exact .one e
    ·have: ¬s.getD i 0=0:=λhh=>hc ⟨hia,hh⟩
     exact .step (h i (aAh hb this)) e
theorem aAq {g:List (List Int)}{a:Nat}(hg:Inn g): ∀(l:List Nat)(s:List Int),Bin s->Dg g a s->Dg g a (l.foldl (oM g a) s)
 |[],s,_,h=>h
 |i::l,s,hb,h=>aAq hg l _ (Dj g a [i] s hb) (aKm hg hb h)
def rF (s:List Int):Nat:=s.countP (· ==1)
theorem Di: ∀(s s':List Int),Le s s'->rF s<=rF s'
 |[],[],_=>aRZ _
 |[],_::_,h=>absurd h.1 (by simp)
 |_::_,[],h=>absurd h.1 (by simp)
 |x::s,y::s',h=>by
  have ih:=Di s s' ⟨by simpa using h.1,λk hk=>by have:=h.2 (k+1) (by simpa using hk);simpa using this⟩
  have h0:=h.2 0;simp only[List.getElem?_cons_zero,aSl] at h0;unfold rF at*;simp only[List.countP_cons];by_cases hx:x=1
  ·rw[hx,h0 hx];simp;exact ih
  ·have:(x==1)=false:=by simp[hx]
   rw[this];simp only[Bool.false_eq_true,if_false];omega
theorem Ia: ∀(s s':List Int),Le s s'->Bin s->Bin s'->rF s'<=rF s->s=s'
 |[],[],_,_,_,_=>rfl
 |[],_::_,h,_,_,_=>absurd h.1 (by simp)
 |_::_,[],h,_,_,_=>absurd h.1 (by simp)
 |x::s,y::s',h,hb,hb',hc=>by
  have hle:Le s s':=⟨by simpa using h.1,λk hk=>by have:=h.2 (k+1) (by simpa using hk);simpa using this⟩
  have h1:=Di s s' hle;have h0:=h.2 0;simp only[List.getElem?_cons_zero,aSl] at h0;have bx:=hb x (by simp)
  have by':=hb' y (by simp)
  unfold rF at*;simp only[List.countP_cons] at hc;have e:x=y:=by
   rcases bx with bx|bx
   ·rcases by' with by'|by'
    ·rw[bx,by']
    ·rw[bx,by'] at hc
     simp at hc;omega
   ·rw[bx,h0 bx]
  subst e;rw[Ia s s' hle (λz hz=>hb z (by simp[hz])) (λz hz=>hb' z (by simp[hz])) (by unfold rF;omega)]
theorem aKk (s:List Int):rF s<=s.length:=List.countP_le_length
theorem aKj (s:List Int)(h:rF s=s.length): ∀k:Nat,k<s.length->s[k]? =some 1:=by
 intro k hk;have:=(List.countP_eq_length.mp h) s[k] (List.getElem_mem hk);rw[aRW hk];simpa using this
def Clo (g:List (List Int))(a:Nat)(s:List Int):Prop:= ∀i k:Nat,(i=a∨s[i]? =some 1)->Eg g i k->s[k]? =some 1
theorem aAj {g:List (List Int)}{a:Nat}: ∀(l:List Nat)(s:List Int),Bin s->l.foldl (oM g a) s=s-> ∀i∈l,oM g a s i=s
 |[],s,_,_,i,h=>by cases h
 |j::l,s,hb,h,i,hi=>by
  have h1:Le s (oM g a s j):=Ic g a s j;have h2:Le (oM g a s j) s:=by
   have:=Pf g a l (oM g a s j);rw[List.foldl_cons] at h;rw[h] at this;exact this
  have e:oM g a s j=s:=(Ia _ _ h1 hb (Dj g a [j] s hb) (Di _ _ h2)).symm;rcases aSd.mp hi with rfl|hi
  ·exact e
  ·rw[List.foldl_cons,e] at h
   exact aAj l s hb h i hi
theorem aKh {g:List (List Int)}{a:Nat}{s:List Int}(hg:Inn g)(hl:s.length=g.length)(hb:Bin s)(h:u7 g a s=s):Clo g a s:=by
 rintro i k hi ⟨r,hr,hk⟩
 have hil:=(aRU.mp hr).1;have:=aAj _ s hb h i (aSy.mpr hil);unfold oM at this;have hc: ¬(i≠a/\s.getD i 0=0):=by
  rintro ⟨h1,h2⟩
  rcases hi with hi|hi
  ·exact h1 hi
  ·rw[aRY,hi] at h2
   simp at h2
 rw[if_neg hc] at this;have hkl:=(hg r (aR4 hr) k hk).2;have h1:=aAl (g.getD i []) s k (by rw[aRY,hr];exact hk) U
 rw[this] at h1;exact h1
theorem aKi {g:List (List Int)}{a:Nat}{s:List Int}(hg:Inn g)(hl:s.length=g.length)(h:rF s=s.length):Clo g a s:=by
 rintro i k _ ⟨r,hr,hk⟩
 have hkl:=(hg r (aR4 hr) k hk).2;exact aKj s h k U
theorem Ib (g:List (List Int))(a:Nat): ∀n,(lJ g a n).length=g.length
 |0=>by simp[lJ]
 |n+1=>by
  have:=(Pe g a (lJ g a n)).1;rw[Ib g a n] at this;exact this.symm
theorem xL (g:List (List Int))(a:Nat): ∀n,Bin (lJ g a n)
 |0=>λx hx=> .inl (by simp[lJ] at hx;exact hx.2)
 |n+1=>aAp g a _ (xL g a n)
theorem aAo {g:List (List Int)}(a:Nat)(hg:Inn g): ∀n,Dg g a (lJ g a n)
 |0=>λk hk=>by
  simp only[lJ,aSB] at hk
  split at hk<;>simp at hk
 |n+1=>aAq hg _ _ (xL g a n) (aAo a hg n)
theorem aAm {g:List (List Int)}(a:Nat)(hg:Inn g): ∀n,Clo g a (lJ g a n)∨n<=rF (lJ g a n)
 |0=> .inr (Nat.zero_le _)
 |n+1=>by
  rcases aAm a hg n with h|h
  ·left
   have e: ∀l:List Nat,l.foldl (oM g a) (lJ g a n)=lJ g a n:=by
    intro l;induction l with
    |nil=>rfl
    |cons i l ih=>
     rw[List.foldl_cons];have:oM g a (lJ g a n) i=lJ g a n:=by
      refine(Ia _ _ (Ic g a _ i) (xL g a n) (Dj g a [i] _ (xL g a n)) ?_).symm;refine Di _ _ ⟨(Ic g a _ i).1.symm,λk hk=> ?_⟩
      unfold oM at hk
      split at hk
      ·exact hk
      ·rename_i hc
       have hz: ∀z∈g.getD i [],0<=z:=λz hz=>by
        rw[aRY] at hz;cases hg':g[i]? with
        |none=>rw[hg'] at hz;simp at hz
        |some r=>rw[hg'] at hz;exact(hg r (aR4 hg') z hz).1
       rcases Pd _ _ k hz hk with h1|h1
       ·exact h1
       ·rw[aRY] at h1
        cases hg':g[i]? with
        |none=>rw[hg'] at h1;simp at h1
        |some r=>
         rw[hg'] at h1;refine h i k ?_ ⟨r,hg',h1⟩;by_cases hia:i=a
         ·exact .inl hia
         ·exact .inr (aAh (xL g a n) λhh=>hc ⟨hia,hh⟩)
     rw[this];exact ih
   show Clo g a (u7 g a (lJ g a n))
   unfold u7;rw[e];exact h
  ·by_cases hx:u7 g a (lJ g a n)=lJ g a n
   ·left
    show Clo g a (u7 g a (lJ g a n))
    rw[hx];exact aKh hg (Ib g a n) (xL g a n) hx
   ·right
    show n+1<=rF (u7 g a (lJ g a n))
    have h1:=Di _ _ (Pe g a (lJ g a n));by_cases h2:rF (u7 g a (lJ g a n))<=rF (lJ g a n)
    ·exact absurd (Ia _ _ (Pe g a _) (xL g a n) (aAp g a _ (xL g a n)) h2).symm hx
    ·omega
theorem aAn {g:List (List Int)}(hg:Inn g)(a k:Nat):(lJ g a g.length)[k]? =some 1↔Rch g a k:=by
 constructor
 ·exact aAo a hg g.length k
 ·have hc:Clo g a (lJ g a g.length):=by
   rcases aAm a hg g.length with h|h
   ·exact h
   ·refine aKi hg (Ib g a _) ?_
    have:=aKk (lJ g a g.length);rw[Ib] at*;omega
  intro hr;induction hr with
  |one e=>exact hc _ _ (.inl rfl) e
  |step _ e ih=>exact hc _ _ (.inr ih) e
theorem aAi {g:List (List Int)}(hg:Inn g):u6 g=true↔Cyc g:=by
 unfold u6;rw[List.any_eq_true];constructor
 ·rintro ⟨i,hi,h⟩
  refine⟨i,(aAn hg i i).mp ?_⟩;rw[aRY] at h;cases hh:(lJ g i g.length)[i]? with
  |none=>rw[hh] at h;simp at h
  |some x=>rw[hh] at h;simp at h;rw[h]
 ·rintro ⟨i,h⟩
  have hil:i<g.length:=by
   cases h with
   |one e=>obtain⟨r,h1,_⟩:=e;exact(aRU.mp h1).1
   |step h1 e=>
    obtain⟨r,h2,h3⟩:=e;have:=(hg r (aR4 h2) i h3).2;omega
  refine⟨i,aSy.mpr hil,?_⟩;rw[aRY,(aAn hg i i).mpr h];rfl
end Go.Abs
namespace Go.Proofs.YtkeilicinggjmaaGreatDoor
open Go.Proofs.Tryz
open Go.Abs Go.Abs.M
section
variable {H : aF} {m : Nat} {p : PlanD} {ev wv nv : Value}
theorem aKn (p:PlanD):Inn (nF p):=by
 unfold nF;split
 ·intro r hr z hz
  obtain⟨h,hh,rfl⟩:=aSx.mp hr;rw[aR8];obtain⟨k,b,rfl,h1,_⟩:=aAf.mp hz;have:=(aRU.mp h1).1;omega
 ·intro r hr;cases hr
theorem aKo (p:PlanD):(nF p).length<=36:=by
 unfold nF;split
 ·rw[aR8];exact xC p
 ·simp
theorem aKp (p:PlanD): ∀r∈nF p,r.length<=36:=by
 unfold nF;split
 ·intro r hr
  obtain⟨h,hh,rfl⟩:=aSx.mp hr;unfold oW;rw[aR8];have:=xC p;exact aSa (List.length_filter_le _ _) (by rw[aSo];exact this)
 ·intro r hr;cases hr
end
section
variable {H : aF} {m : Nat} {p : PlanD} {ev wv nv : Value}
def atV (ab n:Nat):Value:= .slice (some ⟨ab,0,none⟩) n n
def mkB (ab n:Nat)(wv:Value):Blk:= .cells [atV ab n,wv] 163 .fix
theorem Dk {mb ab n:Nat}(h:H[mb]? =some (mkB ab n wv)):ld1 (.Q mb 0) H=some (atV ab n,H):=Cl h rfl
theorem aKw {mb ab n:Nat}(h:H[mb]? =some (mkB ab n wv)):ld1 (.Q mb 1) H=some (wv,H):=Cl h rfl
theorem Ie {ab n k:Nat}(h:k<n):aT 1 (atV ab n) (.I (k:Nat))=some (.Q ab k):=by
 have:=ia (c:=ab) (o:=0) (cap:=n) h;rw[aSf] at this;exact this
def Col (C:List Int):Prop:= ∀x∈C,x=0∨x=1∨x=2
theorem Col.aKu {C:List Int}(h:Col C)(i:Nat){y:Int}(hy:y=0∨y=1∨y=2):Col (C.set i y):=λx hx=>by
 rcases List.mem_or_eq_of_mem_set hx with h1|h1
 ·exact h x h1
 ·rw[h1];exact hy
structure Srch (g:List (List Int))(Hw:aF)(mb ab:Nat)(wv:Value)(H:aF)(C:List Int):Prop where
 ext:Ext Hw H
 mrk:H[mb]? =some (mkB ab g.length wv)
 row:H[ab]? =some (pT C [])
 len:C.length=g.length
 col:Col C
theorem Srch.st {g:List (List Int)}{Hw:aF}{mb ab:Nat}{C:List Int}(h:Srch g Hw mb ab wv H C)(hne:mb≠ab)(hab:Hw.length<=ab){i:Nat}(hi:i<g.length)(y:Int)(hy:y=0∨y=1∨y=2):
  ∃H',stN 1 (.Q ab i) (.I y) H=some (undef,H')/\Srch g Hw mb ab wv H' (C.set i y):=
 ⟨_,Yz y h.row (by have:=h.len;omega),pU h.ext hab,by rw[aRV (Ne.symm hne)];exact h.mrk,aR0 (aRU.mp h.row).1,by simp[h.len],h.col.aKu i hy⟩
structure Dne (g:List (List Int))(C C':List Int)(i:Nat):Prop where
 i2:C'[i]? =some 2
 dn:Dn g C'
 gr: ∀u:Nat,C'[u]? =some 1↔C[u]? =some 1
 bl: ∀u:Nat,C[u]? =some 2->C'[u]? =some 2
def Pg (g:List (List Int))(Hw:aF)(mb ab:Nat)(wv:Value)(m q:Nat):Prop:=
 ∀(H:aF)(C:List Int)(i:Nat),Srch g Hw mb ab wv H C->C[i]? =some 0->Dn g C->(∀u:Nat,C[u]? =some 1->Rch g u i)->(∃L:List Nat,L.length=q/\ ∀u:Nat,C[u]? =some 0->u∈L)->
  ∃H' b C',lvl prog cN m (.func 78) [.Q mb 0,.I (i:Nat)] H=some (.bool b,H')/\Srch g Hw mb ab wv H' C'/\(b=true->Cyc g)/\(b=false->Dne g C C' i)
theorem aKy {g:List (List Int)}{Hw:aF}{mb ab:Nat}{q':Nat}(hrd:Pg g Hw mb ab wv m q')(hinn:Inn g)(hne:mb≠ab)(hab:Hw.length<=ab){C:List Int}{i:Nat}{r:List Int}{rv:Value}(hr:g[i]? =some r)(hrl:r.length<=100)(hrv:Is Hw rv r)(hgr: ∀u:Nat,C[u]? =some 1->Rch g u i)(hci:C[i]? =some 0){L:List Nat}(hL:L.length=q'):
  ∀(q j k:Nat)(H:aF)(D:List Int),r.length-j=q->j<=r.length->q<k->Srch g Hw mb ab wv H D->D[i]? =some 1->Dn g D->(∀u:Nat,D[u]? =some 1↔(u=i∨C[u]? =some 1))->(∀u:Nat,C[u]? =some 2->D[u]? =some 2)->(∀z∈r.take j,D[z.toNat]? =some 2)->(∀u:Nat,D[u]? =some 0->u∈L)-> ∀(x2 x3 x4 x5 x6 x7 x8 x9 bS cE aV aR aS aQ aW aX aU bO bK aY bC bE bG bH bI bJ bM bN bU cK cL cD bV bX bY b9 cA cF cM cO cP cT dB dE dF cU cV cW cY:Value),
  ∃H' b C',aM k (aN prog (lvl prog cN m) (aM m) Hx) (De (lvl prog cN m) (aM m)) [(.Q mb 0),(.I (i:Nat)),x2,x3,x4,x5,x6,x7,x8,x9,bS,cE,aV,aR,aS,aQ,aW,aX,aU,rv,(.I r.length),(.I (j:Nat)),bO,bK,aY,bC,bE,bG,bH,bI,bJ,bM,bN,bU,cK,cL,cD,bV,bX,bY,b9,cA,cF,cM,cO,cP,cT,dB,dE,dF,cU,cV,cW,cY] H=some (.bool b,H')/\Srch g Hw mb ab wv H' C'/\(b=true->Cyc g)/\(b=false->Dne g C C' i):=by
 intro q;have hil:=(aRU.mp hr).1;induction q with
 |zero=>
  intro j k H D hq hj hk hs hi1 hdn hgray hbl htake hwh;intros;obtain⟨k,rfl⟩:=aB k U
  obtain rfl:r.length=j:=U
  have e:decide ((r.length:Int)<(r.length:Int))=false:=by simp
  rw[List.take_of_length_le (aRZ _)] at htake;have l0:=Dk hs.mrk;have a0:=Ie (ab:=ab) hil;obtain⟨H',st,hs'⟩:=hs.st hne hab hil 2 (.inr (.inr rfl));have fin:=hdn.aKg hi1 hr (λk hk=>by have:=htake k hk;simpa using this)
  refine⟨H',false,D.set i 2,?_,hs',λh=>(by cases h),λ_=>⟨?_,fin,λu=> ?_,λu hu=> ?_⟩⟩
  ·rw[dR,Z6]
   simp only[gsR,e];rw[aJV];simp only[gsR,l0,a0,st]
  ·exact aR0 (by have:=hs.len;omega)
  ·by_cases hui:u=i
   ·subst hui
    rw[aR0 (by have:=hs.len;omega),hci]
    simp
   ·rw[aRV (Ne.symm hui),hgray u]
    simp[hui]
  ·have:=hbl u hu
   by_cases hui:u=i
   ·subst hui
    rw[hi1] at this;cases this
   ·rw[aRV (Ne.symm hui)]
    exact this
 |succ q ih=>
  intro j k H D hq hj hk hs hi1 hdn hgray hbl htake hwh;intros;obtain⟨k,rfl⟩:=aB k U
  have e:decide ((j:Int)<(r.length:Int))=true:=aSE U
  have e3:=aA (i:=j) U
  obtain⟨z,hz⟩: ∃z,r[j]? =some z:=⟨_,aRW U⟩
  have hzin:=hinn r (aR4 hr) z (aR4 hz);obtain⟨b,o,g1,_,g3⟩:=(hrv.ext hs.ext).fS gV hz .i64;have g4:ld1 (.Q b o) H=some (.I z,H):=(g3 H rfl).2.1 0 _ rfl;obtain⟨t,rfl⟩: ∃t:Nat,z=t:=⟨z.toNat,by omega⟩
  have htl:t<g.length:=U
  have edge:Eg g i t:=⟨r,hr,aR4 hz⟩;have l0:=Dk hs.mrk;have a0:=Ie (ab:=ab) htl;obtain⟨x,hx⟩: ∃x,D[t]? =some x:=⟨_,aRW (by have:=hs.len;omega)⟩
  have lx:=Bb hs.row hx;have grs: ∀u:Nat,D[u]? =some 1->Rch g u t:=λu hu=>by
   rcases(hgray u).mp hu with h|h
   ·rw[h];exact .one edge
   ·exact .step (hgr u h) edge
  have htk:r.take (j+1)=r.take j++[(t:Int)]:=by rw[List.take_add_one,hz];rfl
  have next: ∀(H2:aF)(D2:List Int),Srch g Hw mb ab wv H2 D2->D2[i]? =some 1->Dn g D2->(∀u:Nat,D2[u]? =some 1↔(u=i∨C[u]? =some 1))->(∀u:Nat,C[u]? =some 2->D2[u]? =some 2)->(∀z∈r.take j,D2[z.toNat]? =some 2)->D2[t]? =some 2->(∀u:Nat,D2[u]? =some 0->u∈L)-> ∀(x2 x3 x4 x5 x6 x7 x8 x9 bS cE aV aR aS aQ aW aX aU bO bK aY bC bE bG bH bI bJ bM bN bU cK cL cD bV bX bY b9 cA cF cM cO cP cT dB dE dF cU cV cW cY:Value),
    ∃H' b C',aM k (aN prog (lvl prog cN m) (aM m) Hx) (De (lvl prog cN m) (aM m)) [(.Q mb 0),(.I (i:Nat)),x2,x3,x4,x5,x6,x7,x8,x9,bS,cE,aV,aR,aS,aQ,aW,aX,aU,rv,(.I r.length),(.I (j+1:Nat)),bO,bK,aY,bC,bE,bG,bH,bI,bJ,bM,bN,bU,cK,cL,cD,bV,bX,bY,b9,cA,cF,cM,cO,cP,cT,dB,dE,dF,cU,cV,cW,cY] H2=some (.bool b,H')/\Srch g Hw mb ab wv H' C'/\(b=true->Cyc g)/\(b=false->Dne g C C' i):=by
   intro H2 D2 h1 h2 h3 h4 h5 h6 h7 h8;refine ih (j+1) k H2 D2 U U U h1 h2 h3 h4 h5 (λz hz=> ?_) h8
   rw[htk,List.mem_append] at hz;rcases hz with hz|hz
   ·exact h6 z hz
   ·have:z=(t:Int):=by simpa using hz
    rw[this];simpa using h7
  rw[dR,Z6];rcases hs.col x (aR4 hx) with rfl|rfl|rfl
  ·have d1:((0:Int)==1)=false:=rfl
   have d2:((0:Int)==2)=false:=rfl;obtain⟨H2,bb,D2,c1,hs2,hcyc,hdne⟩:=hrd H D t hs hx hdn grs ⟨L,hL,hwh⟩;cases bb with
   |true=>
    refine⟨H2,true,D2,?_,hs2,λ_=>hcyc rfl,λh=>(by cases h)⟩
    simp only[gsR,e,g1,g4,l0,a0,lx,d1,d2,c1];rw[Z7];rfl
   |false=>
    have hd:=hdne rfl;simp only[gsR,e,g1,g4,l0,a0,lx,d1,d2,c1,cR,e3];refine next H2 D2 hs2 ((hd.gr i).mpr hi1) hd.dn (λu=>by rw[hd.gr u];exact hgray u) (λu hu=>hd.bl u (hbl u hu)) (λz hz=>hd.bl _ (htake z hz)) hd.i2 (λu hu=>hwh u ?_) ..
    have hul:u<g.length:=by have:=(aRU.mp hu).1;have:=hs2.len;omega
    obtain⟨y,hy⟩: ∃y,D[u]? =some y:=⟨_,aRW (by have:=hs.len;omega)⟩
    rcases hs.col y (aR4 hy) with rfl|rfl|rfl
    ·exact hy
    ·have:=(hd.gr u).mpr hy
     rw[hu] at this;cases this
    ·have:=hd.bl u hy
     rw[hu] at this;cases this
  ·have d1:((1:Int)==1)=true:=rfl
   refine⟨H,true,D,?_,hs,λ_=>⟨t,grs t hx⟩,λh=>(by cases h)⟩
   simp only[gsR,e,g1,g4,l0,a0,lx,d1];rw[Z7];rfl
  ·have d1:((2:Int)==1)=false:=rfl
   have d2:((2:Int)==2)=true:=rfl;simp only[gsR,e,g1,g4,l0,a0,lx,d1,d2,cR,e3];exact next H D hs hi1 hdn hgray hbl htake hx hwh ..
theorem aKx {g:List (List Int)}{Hw:aF}{mb ab:Nat}(hg:Rows Hw wv g)(hinn:Inn g)(hrl: ∀r∈g,r.length<=100)(hne:mb≠ab)(hab:Hw.length<=ab): ∀(q m:Nat),200+q<m->Pg g Hw mb ab wv m q:=by
 intro q;induction q with
 |zero=>
  intro m hm H C i hs hi hdn hgr ⟨L,hL,hw⟩;have:=hw i hi;rw[aSc.mp hL] at this;cases this
 |succ q ih=>
  intro m hm H C i hs hi hdn hgr ⟨L,hL,hw⟩;have hil:i<g.length:=by have:=(aRU.mp hi).1;have:=hs.len;omega
  have l0:=Dk hs.mrk;have a0:=Ie (ab:=ab) hil;obtain⟨H1,st,hs1⟩:=hs.st hne hab hil 1 (.inr (.inl rfl));have l1:=aKw hs1.mrk;obtain⟨r,hr⟩: ∃r,g[i]? =some r:=⟨_,aRW hil⟩;obtain⟨a1,rv,g1,g2,g3⟩:=hg.Gw hr .i64;have g2':=aJu hs1.ext g2;have hlen:=g3.gW;have hr100:=hrl r (aR4 hr);have hcl:C.length=g.length:=hs.len;have other: ∀u:Nat,u≠i->(C.set i 1)[u]? =C[u]? :=λu hu=>aRV (Ne.symm hu)
  have self:(C.set i 1)[i]? =some 1:=aR0 U
  obtain⟨m,rfl⟩:=aB m U
  rw[Vy (gX rfl rfl),aJW];simp only[gsR,l0,a0,st,l1,g1,g2',hlen];have hiL:=hw i hi;refine aKy (ih m U) hinn hne hab hr hr100 g3 hgr hi (L:=L.erase i) (by rw[List.length_erase_of_mem hiL];omega) r.length 0 m H1 (C.set i 1) U U U hs1 self ?_ (λu=> ?_) (λu hu=> ?_) (λz hz=>by simp at hz) (λu hu=> ?_) ..
  ·intro u hu
   have hui:u≠i:=λhh=>by rw[hh,self] at hu;cases hu
   rw[other u hui] at hu;refine⟨λk hk=> ?_,(hdn u hu).2⟩
   have:=(hdn u hu).1 k hk;have hki:k≠i:=λhh=>by rw[hh,hi] at this;cases this
   rw[other k hki];exact this
  ·by_cases hui:u=i
   ·rw[hui,self];simp
   ·rw[other u hui];simp[hui]
  ·have hui:u≠i:=λhh=>by rw[hh,hi] at hu;cases hu
   rw[other u hui];exact hu
  ·have hui:u≠i:=λhh=>by rw[hh,self] at hu;cases hu
   rw[other u hui] at hu
   exact(List.mem_erase_of_ne hui).mpr (hw u hu)
def u9 (p:PlanD)(n:Nat):Bool:=(List.range n).all λv=>(List.range n).all λw=>(qM p v w).isSome
def Ph (p:PlanD):Bool:=gY p&&(u9 p p.nodes.toNat&& !u6 (nF p))
def oC (p:PlanD):Int:=if gY p=true then(if Ph p=true then 0 else 140) else 120
theorem aKt {g:List (List Int)}{Hw:aF}{mb ab:Nat}(hrd:Pg g Hw mb ab wv m g.length)(hgl:g.length<=100)(hinn:Inn g):
  ∀(q i k:Nat)(H:aF)(C:List Int),g.length-i=q->i<=g.length->q<k->Srch g Hw mb ab wv H C->Dn g C->(∀u:Nat,C[u]? ≠some 1)->(∀u:Nat,u<i->C[u]? =some 2)-> ∀(x0 x1 x2 x3 x4 x5 x6 x7 x9 bS cE aV aR aS aQ aW aX aU bA bP bQ bO bK aY bC bE bG bH bI bJ bM bN bU cK cL cD bV bX bY b9 cA cF cM cO cP cT dB dE dF cU cV cW dG dH cZ dP dS dQ dX eG eH eM eN eO eP eU eV eW:Value),
  ∃H',aM k (aN prog (lvl prog cN m) (aM m) Oi) (Ht (lvl prog cN m) (aM m)) [x0,x1,x2,x3,x4,x5,x6,x7,(.Q mb 0),x9,bS,cE,aV,aR,aS,aQ,aW,aX,aU,bA,bP,bQ,bO,bK,aY,bC,bE,bG,bH,bI,bJ,bM,bN,bU,cK,cL,cD,bV,bX,bY,b9,cA,cF,cM,cO,cP,cT,dB,dE,dF,cU,cV,cW,(.I g.length),(.I (i:Nat)),dG,dH,cZ,dP,dS,dQ,dX,eG,eH,eM,eN,eO,eP,eU,eV,eW] H=some (.int .u16 (if u6 g=true then 140 else 0),H')/\Ext Hw H':=by
 intro q;induction q with
 |zero=>
  intro i k H C hq hi hk hs hdn hgr hbl;intros;obtain⟨k,rfl⟩:=aB k U
  obtain rfl:g.length=i:=U
  have e:decide ((g.length:Int)<(g.length:Int))=false:=by simp
  have hno: ¬u6 g=true:=by
   rw[aAi hinn];rintro ⟨i,hc⟩
   have hil:i<g.length:=by
    cases hc with
    |one e=>obtain⟨r,h1,_⟩:=e;exact(aRU.mp h1).1
    |step h1 e=>
     obtain⟨r,h2,h3⟩:=e;have:=(hinn r (aR4 h2) i h3).2;omega
   exact(hdn i (hbl i hil)).2 hc
  rw[if_neg hno,dR,Z0];simp only[gsR,e];rw[aJG]
  exact⟨H,rfl,hs.ext⟩
 |succ q ih=>
  intro i k H C hq hi hk hs hdn hgr hbl;intros;obtain⟨k,rfl⟩:=aB k U
  have hil:i<g.length:=U
  have e:decide ((i:Int)<(g.length:Int))=true:=aSE U
  have e3:=aA (i:=i) U
  have l0:=Dk hs.mrk;have a0:=Ie (ab:=ab) hil;obtain⟨x,hx⟩: ∃x,C[i]? =some x:=⟨_,aRW (by have:=hs.len;omega)⟩
  have lx:=Bb hs.row hx;rw[dR,Z0];rcases hs.col x (aR4 hx) with rfl|rfl|rfl
  ·have d1:((0:Int)==0)=true:=rfl
   obtain⟨H2,bb,D2,c1,hs2,hcyc,hdne⟩:=hrd H C i hs hx hdn (λu hu=>absurd hu (hgr u)) ⟨List.range g.length,by simp,λu hu=>aSy.mpr (by have:=(aRU.mp hu).1;have:=hs.len;omega)⟩
   cases bb with
   |true=>
    have hyes:u6 g=true:=(aAi hinn).mpr (hcyc rfl);rw[if_pos hyes];simp only[gsR,e,l0,a0,lx,d1,c1];rw[aJK]
    exact⟨H2,rfl,hs2.ext⟩
   |false=>
    have hd:=hdne rfl;simp only[gsR,e,l0,a0,lx,d1,c1,cR,e3];refine ih (i+1) k H2 D2 U U U hs2 hd.dn (λu hu=>hgr u ((hd.gr u).mp hu)) (λu hu=> ?_) ..
    by_cases hui:u=i
    ·rw[hui];exact hd.i2
    ·exact hd.bl u (hbl u U)
  ·exact absurd hx (hgr i)
  ·have d1:((2:Int)==0)=false:=rfl
   simp only[gsR,e,l0,a0,lx,d1,cR,e3];refine ih (i+1) k H C U U U hs hdn hgr (λu hu=> ?_) ..
   by_cases hui:u=i
   ·rw[hui];exact hx
   ·exact hbl u U
theorem aKs {n:Nat}(hk:OkP p n){H0:aF}{a v:Nat}(hv:v<n){K:Ex->K (Value×aF)}{Q:aF->Value->Prop}(hp:PV H0 p ev wv nv)(hb:H0[a]? =some (plB p ev wv nv))(hm:400<m)(hm2:m<=72057594037927936):
  ∀(q i k:Nat)(H1:aF),n-i=q->i<=n->q<k->Ext H0 H1->
  (∀H',Ext H0 H'->((List.range' i q).all λw=>(qM p v w).isSome)=true-> ∀(x0 x2 x3 x4 x5 x6 x7 x8 x9 bS cE aV aR aS aQ aU bA bP bQ bO bK aY bC bE bG bH bI bJ bM bN bU cK cL cD bV bX bY b9 cA cF cM cO cP cT dB dE dF cU cV cW cY dJ dG dH cZ dP dS dQ dX eG eH eM eN eO eP eU eV eW:Value),∃H2 r,K .normal [x0,(.Q a 0),x2,x3,x4,x5,x6,x7,x8,x9,bS,cE,aV,aR,aS,aQ,(.I n),(.I (v+1:Nat)),aU,bA,bP,bQ,bO,bK,aY,bC,bE,bG,bH,bI,bJ,bM,bN,bU,cK,cL,cD,bV,bX,bY,b9,cA,cF,cM,cO,cP,cT,dB,dE,dF,cU,cV,cW,cY,dJ,dG,dH,cZ,dP,dS,dQ,dX,eG,eH,eM,eN,eO,eP,eU,eV,eW] H'=some (r,H2)/\Q H2 r)->
  (∀H',Ext H0 H'->((List.range' i q).all λw=>(qM p v w).isSome)=false-> ∀(x0 x1 x3 x4 x5 x6 x7 x8 x9 bS cE aV aR aS aQ aW aX aU bA bP bQ bO bK aY bC bE bG bH bI bJ bM bN bU cK cL cD bV bX bY b9 cA cF cM cO cP cT dB dE dF cU cV cW cY dJ dG dH cZ dP dS dQ dX eG eH eM eN eO eP eU eV eW:Value),∃H2 r,K .ret [x0,x1,(.int .u16 140),x3,x4,x5,x6,x7,x8,x9,bS,cE,aV,aR,aS,aQ,aW,aX,aU,bA,bP,bQ,bO,bK,aY,bC,bE,bG,bH,bI,bJ,bM,bN,bU,cK,cL,cD,bV,bX,bY,b9,cA,cF,cM,cO,cP,cT,dB,dE,dF,cU,cV,cW,cY,dJ,dG,dH,cZ,dP,dS,dQ,dX,eG,eH,eM,eN,eO,eP,eU,eV,eW] H'=some (r,H2)/\Q H2 r)-> ∀(x0 x2 x3 x5 x6 x7 x8 x9 bS cE aV aR aS aQ aU bA bP bK aY bC bE bG bH bI bJ bM bN bU cK cL cD bV bX bY b9 cA cF cM cO cP cT dB dE dF cU cV cW cY dJ dG dH cZ dP dS dQ dX eG eH eM eN eO eP eU eV eW:Value),
  ∃H' r,aM k (aN prog (lvl prog cN m) (aM m) Oh) (Hr (lvl prog cN m) (aM m) K) [x0,(.Q a 0),x2,x3,(.I (v:Nat)),x5,x6,x7,x8,x9,bS,cE,aV,aR,aS,aQ,(.I n),(.I (v:Nat)),aU,bA,bP,(.I n),(.I (i:Nat)),bK,aY,bC,bE,bG,bH,bI,bJ,bM,bN,bU,cK,cL,cD,bV,bX,bY,b9,cA,cF,cM,cO,cP,cT,dB,dE,dF,cU,cV,cW,cY,dJ,dG,dH,cZ,dP,dS,dQ,dX,eG,eH,eM,eN,eO,eP,eU,eV,eW] H1=some (r,H')/\Q H' r:=by
 intro q;have h6:=hk.h6;induction q with
 |zero=>
  intro i k H1 hr hi hk2 he hK hR;intros;obtain⟨k,rfl⟩:=aB k U
  have e:decide ((i:Int)<(n:Int))=false:=aSF U
  have e3:=aA (i:=v) U
  rw[dR,Zz];simp only[gsR,e];rw[aJF];simp only[gsR,cR,e3];exact hK H1 he rfl ..
 |succ q ih=>
  intro i k H1 hr hi hk2 he hK hR;intros;obtain⟨k,rfl⟩:=aB k U
  have e:decide ((i:Int)<(n:Int))=true:=aSE U
  have e3:=aA (i:=i) U
  have l11:=lC (eS hb he);obtain⟨H2,r,g1,x2,lv,rfl,_,_⟩:=aJ0 hk (hp.ext he) (v:=v) (w:=i) U U (m:=m) U U
  rw[dR,Zz];rw[List.range'_succ,List.all_cons] at hK hR;cases c:(qM p v i).isSome with
  |true=>
   rw[c] at g1 hK hR;simp only[gsR,e,l11,g1,cR,e3];exact ih (i+1) k H2 U U U (he.tr x2) (λH' h1 h2=>hK H' h1 (by simpa using h2)) (λH' h1 h2=>hR H' h1 (by simpa using h2)) ..
  |false=>
   rw[c] at g1 hR;simp only[gsR,e,l11,g1];rw[aJJ];exact hR H2 (he.tr x2) rfl ..
theorem aKz (n:Nat):Blk.cells (List.replicate n [Value.int .i64 0]).flatten 3 .row=pT (List.replicate n 0) []:=by
 unfold pT
 congr 1
 rw[List.append_nil,List.map_replicate];induction n with
 |zero=>rfl
 |succ n ih=>rw[List.replicate_succ,List.replicate_succ,aSu,ih];rfl
theorem aKv {v:Value}{us:List Value}(h:Rs vC 25 H v us):bld prog 163 [(1,v)]=some (.agg #[.slice none 0 0,v])/\Blk.cells (Value.agg #[.slice none 0 0,v]).cells.toList 163 .fix= .cells [.slice none 0 0,v] 163 .fix:=by
 rcases h with⟨rfl,_⟩|⟨b,o,cap,rfl,_⟩
 ·exact⟨by kernel_rfl,rfl⟩
 ·have: ∀b o n c:Nat,bld prog 163 [(1,.slice (some ⟨b,o,none⟩) n c)]=some (.agg #[.slice none 0 0,.slice (some ⟨b,o,none⟩) n c]):=λb o n c=>by kernel_rfl
  exact⟨this _ _ _ _,rfl⟩
theorem aKq {n:Nat}(hk:OkP p n){H0:aF}{a:Nat}(hp:PV H0 p ev wv nv)(hb:H0[a]? =some (plB p ev wv nv))(hm:17592186045300<m)(hm2:m<=72057594037927936)(x0 x2 x3 x4 x5 x6 x7 x8 x9 bS cE aV aR aS aQ aW aX aU bA bP bQ bO bK aY bC bE bG bH bI bJ bM bN bU cK cL cD bV bX bY b9 cA cF cM cO cP cT dB dE dF cU cV cW cY dJ dG dH cZ dP dS dQ dX eG eH eM eN eO eP eU eV eW:Value):
  ∃H',Oj (lvl prog cN m) (aM m) x0 (.Q a 0) x2 x3 x4 x5 x6 x7 x8 x9 bS cE aV aR aS aQ aW aX aU bA bP bQ bO bK aY bC bE bG bH bI bJ bM bN bU cK cL cD bV bX bY b9 cA cF cM cO cP cT dB dE dF cU cV cW cY dJ dG dH cZ dP dS dQ dX eG eH eM eN eO eP eU eV eW H0=some (.int .u16 (if u6 (nF p)=true then 140 else 0),H')/\Ext H0 H':=by
 have l11:=lC hb;obtain⟨H1,wvv,g1,x1,hg⟩:=aJ2 hp (m:=m) U U
 have hgl:=aKo p;obtain⟨us,hus,hul,_⟩:=id hg;obtain⟨bm,bc⟩:=aKv hus;obtain⟨g,hgg⟩:=aD (nF p);have hinn:=aKn p;have hrow:=aKp p;rw[<-hgg] at hg hgl hinn hrow⊢;obtain⟨H2,hH2⟩:=aD (H1++[Blk.cells [.slice none 0 0,wvv] 163 .fix]);have x2:Ext H1 H2:=by rw[hH2];exact Fr.app _ _ _
 have b2:H2[H1.length]? =some (.cells [.slice none 0 0,wvv] 163 .fix):=by rw[hH2];exact fA _ _
 have l2:ld1 (.Q H1.length 1) H2=some (wvv,H2):=Cl b2 rfl;have hlen:=hg.Yn;have mk:=wW (H:=H2) 3 1 8 [.I 0] .i64 .i64 (g.length:Int) U U U rfl
 simp only[aSm] at mk;rw[aKz] at mk;obtain⟨H3,hH3⟩:=aD (H2++[pT (List.replicate g.length 0) []]);rw[<-hH3] at mk;have x3:Ext H2 H3:=by rw[hH3];exact Fr.app _ _ _
 have b3:=eS b2 x3;have st:stN 1 (.Q H1.length 0) (.slice (some ⟨H2.length,0,none⟩) g.length g.length) H3=some (undef,H3.set H1.length (mkB H2.length g.length wvv)):=by
  rw[mA 1 _ _ _ rfl,b3,oK _ _ _ _ _ _ aC (by show 0+1<=2;omega) rfl]
  rfl
 obtain⟨H4,hH4⟩:=aD (H3.set H1.length (mkB H2.length g.length wvv));rw[<-hH4] at st;have h12:H2.length=H1.length+1:=by rw[hH2];simp
 have hs:Srch g H1 H1.length H2.length wvv H4 (List.replicate g.length 0):=by
  refine⟨?_,?_,?_,by simp,λx hx=> .inl (by simp at hx;exact hx.2)⟩
  ·rw[hH4];exact pU (x2.tr x3) (aRZ _)
  ·rw[hH4];exact aR0 (aRU.mp b3).1
  ·rw[hH4,aRV U,hH3];exact fA _ _
 have l4:=Dk hs.mrk;have hlen4:aZ (atV H2.length g.length)=some (.I g.length):=rfl;have hrd:=aKx hg hinn (λr hr=>by have:=hrow r hr;omega) (show H1.length≠H2.length by omega) (show H1.length<=H2.length by omega) g.length m U
 unfold Oj;simp only[gsR,l11,g1,bm,bc,<-hH2,l2,hlen,mk,st,l4,hlen4];exact Exists.imp (λH' h=>⟨h.1,x1.tr h.2⟩) (aKt hrd U hinn g.length 0 m H4 (List.replicate g.length 0) U U U hs (λu hu=>by simp[aSB] at hu) (λu hu=>by simp[aSB] at hu) (λu hu=>absurd hu U) ..)
theorem aKr {n:Nat}(hk:OkP p n){H0:aF}{a:Nat}{Q:aF->Value->Prop}(hp:PV H0 p ev wv nv)(hb:H0[a]? =some (plB p ev wv nv))(hm:17592186045300<m)(hm2:m<=72057594037927936)(hQ: ∀H',Ext H0 H'->Q H' (.int .u16 (if u9 p n=true/\u6 (nF p)=false then 0 else 140))):
  ∀(q i k:Nat)(H1:aF),n-i=q->i<=n->q<k->Ext H0 H1->(∀v,v<i->((List.range n).all λw=>(qM p v w).isSome)=true)-> ∀(x0 x2 x3 x4 x5 x6 x7 x8 x9 bS cE aV aR aS aQ aU bA bP bQ bO bK aY bC bE bG bH bI bJ bM bN bU cK cL cD bV bX bY b9 cA cF cM cO cP cT dB dE dF cU cV cW cY dJ dG dH cZ dP dS dQ dX eG eH eM eN eO eP eU eV eW:Value),
  ∃H' r,aM k (aN prog (lvl prog cN m) (aM m) Og) (Hq (lvl prog cN m) (aM m)) [x0,(.Q a 0),x2,x3,x4,x5,x6,x7,x8,x9,bS,cE,aV,aR,aS,aQ,(.I n),(.I (i:Nat)),aU,bA,bP,bQ,bO,bK,aY,bC,bE,bG,bH,bI,bJ,bM,bN,bU,cK,cL,cD,bV,bX,bY,b9,cA,cF,cM,cO,cP,cT,dB,dE,dF,cU,cV,cW,cY,dJ,dG,dH,cZ,dP,dS,dQ,dX,eG,eH,eM,eN,eO,eP,eU,eV,eW] H1=some (r,H')/\Q H' r:=by
 intro q;have h6:=hk.h6;induction q with
 |zero=>
  intro i k H1 hr hi hk2 he hpre;intros;obtain⟨k,rfl⟩:=aB k U
  have e:decide ((i:Int)<(n:Int))=false:=aSF U
  have hall:u9 p n=true:=by
   unfold u9;rw[aSz];intro v hv;exact hpre v (by have:=aSy.mp hv;omega)
  rw[dR,Zy];simp only[gsR,e];rw[aJE];refine Exists.imp (λH' h=>⟨_,h.1,?_⟩) (aKq hk (hp.ext he) (eS hb he) hm hm2 ..)
  have:=hQ H' (he.tr h.2);rw[hall] at this;cases hc:u6 (nF p) with
  |true=>rw[hc] at this;simpa using this
  |false=>rw[hc] at this;simpa using this
 |succ q ih=>
  intro i k H1 hr hi hk2 he hpre;intros;obtain⟨k,rfl⟩:=aB k U
  have e:decide ((i:Int)<(n:Int))=true:=aSE U
  have b1:=eS hb he;have l0:=eC b1 0 _ rfl;rw[hk.hn] at l0;have hrr: ∀v:Nat,((List.range' 0 n).all λw=>(qM p v w).isSome)=((List.range n).all λw=>(qM p v w).isSome):=λv=>by rw[List.range_eq_range']
  rw[dR,Zy];simp only[gsR,e,l0];refine aKs hk (v:=i) U (hp.ext he) b1 (Q:=Q) U hm2 n 0 m H1 U U U (Fr.kO _ _) (λH' hx hall=> ?_) (λH' hx hall=> ?_) ..
  ·rw[hrr] at hall
   intros;simp only[gsR];refine ih (i+1) k H' U U U (he.tr hx) (λv hv=> ?_) ..
   by_cases hvi:v=i
   ·rw[hvi];exact hall
   ·exact hpre v U
  ·rw[hrr] at hall
   intros;simp only[gsR];rw[aJI];refine⟨H',_,rfl,?_⟩;have hno:u9 p n=false:=by
    rw[<-Bool.not_eq_true];unfold u9;rw[aSz];intro hh;rw[hh i (aSy.mpr U)] at hall
    cases hall
   have:=hQ H' (he.tr hx);rw[hno] at this;simpa using this
theorem aAr (hp:PV H p ev wv nv)(hm:17592186045400<m)(hm2:m<=72057594037927936):
  ∃H',lvl prog cN m (.func 34) [plV p ev wv nv] H=some (.int .u16 (oC p),H')/\Ext H H':=by
 obtain⟨H0,hH0⟩:=aD (H++[plB p ev wv nv]);have x0:Ext H H0:=by rw[hH0];exact Fr.app _ _ _
 have b0:H0[H.length]? =some (plB p ev wv nv):=by rw[hH0];exact fA _ _
 have p0:=hp.ext x0;have l11:=lC b0;obtain⟨H1,g1,x1⟩:=Ys p0 (m:=m-1) U U
 have b1:=eS b0 x1;have p1:=p0.ext x1;have main: ∃H' r,lvl prog cN m (.func 34) [plV p ev wv nv] H=some (r,H')/\(r= .int .u16 (oC p)/\Ext H H'):=by
  refine gN (Q:=λH' r=>r= .int .u16 (oC p)/\Ext H H') (gX rfl rfl) U ?_
  rw[aJH];cases hc:gY p with
  |false=>
   rw[hc] at g1;have en:(xA false !=0)=true:=rfl;have e:oC p=xA false:=by unfold oC;rw[if_neg (by simp[hc])];rfl
   simp only[gsR,mC,<-hH0,l11,g1,en]
   exact⟨H1,_,rfl,by rw[e],x0.tr x1⟩
  |true=>
   rw[hc] at g1;have en:(xA true !=0)=false:=rfl;obtain⟨n,hk⟩:=sW hc;have h6:=hk.h6;have l0:=eC b1 0 _ rfl;rw[hk.hn] at l0;simp only[gsR,mC,<-hH0,l11,g1,en,l0];refine aKr hk (Q:=λH' r=>r= .int .u16 (oC p)/\Ext H H') p1 b1 (m:=m-1) U U (λH' hx=>⟨?_,(x0.tr x1).tr hx⟩) n 0 (m-1) H1 U U U (Fr.kO _ _) (λv hv=>absurd hv U) ..
   congr 1
   unfold oC Ph;have hq:p.nodes.toNat=n:=by rw[hk.hn];rfl
   rw[if_pos hc,hc,hq];cases u6 (nF p)<;>cases u9 p n<;>simp
 obtain⟨H',r,h1,rfl,h2⟩:=main
 exact⟨H',h1,h2⟩
end
theorem aKA {a:Int}(h:(Lit.int .u16 a).wf=true):0<=a/\a<65536:=by
 have e: ∀z:Int,(Lit.int .u16 z).wf=(decide (0<=z)&&decide (z<=65535)):=λz=>rfl
 rw[e] at h;simp only[aR2,decide_eq_true_eq] at h
 exact⟨h.1,by omega⟩
theorem wB {a:Int}(h:(Lit.int .u8 a).wf=true): ∃n:Nat,a=n/\n<256:=by
 have:=aFY h
 exact⟨a.toNat,by omega,by omega⟩
theorem aAs {a:Int}(h:(Lit.int .u16 a).wf=true): ∃n:Nat,a=n/\n<65536:=by
 have:=aKA h
 exact⟨a.toNat,by omega,by omega⟩
def Dl (r:List Value):Nat:=match r with
 |[.int _ i]=>i.toNat
 |_=>0
theorem Us.Pi {G:aF}{n:Nat}{u:Value}(h:Rp prog G n 22 [u]): ∃next,Us G u next/\(∀x∈next,x<256)/\next.length<=72057594037927936:=by
 obtain⟨m,u',b,rows,h1,h2,h3,h4,h5⟩:=h.aFV (e:=5) (by kernel_rfl)
 cases h1;have hc:prog.cellsOf 5=1:=by kernel_rfl
 have hb:prog.bytesOf 5=1:=by kernel_rfl
 rw[hc] at h2;rw[hb] at h3;have hr: ∀r∈rows,u8C (Dl r)=r/\Dl r<256:=λr hr=>by
  obtain⟨i,hi,hw⟩:=(h5 r hr).2.Cn (k:= .u8) (by kernel_rfl)
  obtain⟨k,rfl,hk⟩:=wB hw;subst hi
  exact⟨rfl,by simpa[Dl] using hk⟩
 have hm:(rows.map Dl).map u8C=rows:=by
  rw[List.map_map]
  conv=>rhs;rw[<-List.map_id rows]
  exact List.map_congr_left λr hr'=>(hr r hr').1
 refine⟨rows.map Dl,?_,λx hx=> ?_,?_⟩
 ·rw[<-hm] at h2
  rcases h4 with rfl|⟨c,rfl⟩
  ·have h0:rows=[]:=by
    have:=h2.len;have hl:aZ (Value.slice none 0 0)=some (.I 0):=rfl;rw[hl,hm] at this;simp at this;exact aSc.mp U
   subst h0;exact .inl ⟨rfl,rfl⟩
  ·exact h2.rs Nu (c:=c) (.inr (by rw[aR8]))
 ·obtain⟨r,hr1,rfl⟩:=aSx.mp hx
  exact(hr r hr1).2
 ·have:reachBytes=140737488351232:=rfl
  rw[aR8];omega
section
variable {H H0 : aF} {m : Nat} {p : PlanD} {ev wv nv : Value}
def tab (n:Nat)(F:Nat->Nat->Int):List (List Int):=(List.range n).map λv=>(List.range n).map (F v)
theorem aKB (n:Nat)(F:Nat->Nat->Int):(tab n F).length=n:=by simp[tab]
variable {a : Nat}
end
def cpP (n:Nat)(E:List Ed)(N:List (List Int)):PlanD:=⟨n,E,1,1,1,1,1,1,[1],0,N⟩
theorem aAt {p:PlanD}{n:Nat}{E:List Ed}{N:List (List Int)}(h1:p.nodes=(n:Int))(h2:p.edges=E)(h3:p.next=N)(w:Int): ∀(q:Nat)(l:List Int)(v:Int),zG p w q l v=zG (cpP n E N) w q l v
 |0,_,_=>rfl
 |q+1,l,v=>by
  have e:nx p v w=nx (cpP n E N) v w:=by unfold nx cpP;rw[h3]
  unfold zG;rw[e,h1,h2,aAt h1 h2 h3 w q];rfl
theorem aKC {p:PlanD}{n:Nat}{E:List Ed}{N:List (List Int)}(h:gY p=true)(hc:gY (cpP n E N)=true)(h1:p.nodes=(n:Int))(h2:p.edges=E)(h3:p.next=N):
  (∀v w,qM p v w=qM (cpP n E N) v w)/\(∀v w,xJ p v w=xJ (cpP n E N) v w)/\nF p=nF (cpP n E N)/\oC p=oC (cpP n E N):=by
 have a1: ∀v w,qM p v w=qM (cpP n E N) v w:=λv w=>by
  unfold qM;rw[aAt h1 h2 h3,h1];rfl
 have a2: ∀v w,xJ p v w=xJ (cpP n E N) v w:=λv w=>by
  unfold xJ;rw[a1,h,hc,h1];rfl
 have e: ∀v w,nx p v w=nx (cpP n E N) v w:=λv w=>by unfold nx cpP;rw[h3]
 have e2: ∀a b,wt p n a b=wt (cpP n E N) n a b:=λa b=>by
  unfold wt
  congr 1
  funext w
  unfold Hz;rw[e,e]
 have e3:dM p=dM (cpP n E N):=by
  unfold dM nR;rw[h1,h2];rfl
 have a3:nF p=nF (cpP n E N):=by
  unfold nF;rw[h,hc,e3,h1];simp only[if_true];refine List.map_congr_left λa _=> ?_
  show oW p n _ a=oW (cpP n E N) n _ a
  unfold oW;simp only[e2]
 refine⟨a1,a2,a3,?_⟩;unfold oC Ph;rw[a3,h,hc,h1];have: ∀m,u9 p m=u9 (cpP n E N) m:=λm=>by
  unfold u9;simp only[a1]
 rw[this];rfl
section
variable {H : aF} {m : Nat} {p : PlanD} {ev wv nv : Value}
end
def ofL (c:List Nat)(n:Nat):List Int:=(List.range n).map λj=>((c.getD j 0%(j+1):Nat):Int)
def ofT (c:List Nat):List Int:=if min c.length 5=0 then [0] else ofL c (min c.length 5)
def kC (t:List Int):Bool:=(List.range t.length).all (λi=>decide (0<=t.getD i 0)&&decide (t.getD i 0<=i))&&decide ((t.length:Int)<=5)
def upL (t:List Int):Nat->Int->List Int
 |0,v=>[v]
 |q+1,v=>if 0<v then v::upL t q (t.getD (v-1).toNat 0) else [v]
def upT (t:List Int)(v:Int):List Int:=upL t v.toNat v
def Dm:Nat->List Int->List Int->List Int×List Int
 |0,a,b=>(a,b)
 |q+1,a,b=>if 1<a.length/\1<b.length/\a.getD (a.length-2) 0=b.getD (b.length-2) 0 then Dm q (a.take (a.length-1)) (b.take (b.length-1)) else(a,b)
def If (s:List Int×List Int):List Int:=s.1++(s.2.take (s.2.length-1)).reverse
def pV (t:List Int)(v w:Int):List Int:=if kC t=true/\0<=v/\v<=t.length/\0<=w/\w<=t.length then If (Dm (upT t v).length (upT t v) (upT t w)) else []
def xN (t:List Int):List Ed:=(List.range t.length).map λi=>(t.getD i 0,((i+1:Nat):Int))
def oN (t:List Int):List (List Int):=tab (t.length+1) λv w=>if v=w then(v:Int) else(pV t v w).getD 1 0
def sX (p:PlanD)(t:List Int):PlanD:={p with nodes:=((t.length+1:Nat):Int),edges:=xN t,next:=oN t}
theorem aAu {t:List Int}(h:kC t=true){i:Nat}{x:Int}(hx:t[i]? =some x):0<=x/\x<=i/\t.length<=5:=by
 unfold kC at h;rw[aR2,aSz] at h;have:=h.1 i (aSy.mpr (aRU.mp hx).1);rw[aRY,hx] at this;simp at this;have h2:=of_decide_eq_true h.2;omega
theorem Pj (t:List Int): ∀(q:Nat)(v:Int),0<(upL t q v).length/\(upL t q v).length<=q+1
 |0,v=>by simp[upL]
 |q+1,v=>by
  unfold upL;split
  ·have:=Pj t q (t.getD (v-1).toNat 0)
   simp only[aSg];omega
  ·simp
section
variable {H : aF} {m : Nat} {p : PlanD} {ev wv nv : Value}
theorem xM {l:List Int}{i:Nat}{x:Int}(h:l[i]? =some x):l.getD i 0=x:=by rw[aRY,h];rfl
theorem aKE {H0:aF}{cv:Value}{c:List Nat}(hc:Us H0 cv c)(hu8: ∀x∈c,x<256)(hl:c.length<=72057594037927936): ∀(q i k:Nat)(H1:aF)(acc:Value),min c.length 5-i=q->i<=min c.length 5->q<k->Ext H0 H1->Iw H1 acc (ofL c i)->New H0 acc-> ∀(x1 x2 x5 x6 x7 x8 x9 bS cE aV aR aS aQ aW aX aU bA bP bQ bO bK aY bC bE bG bH bI bJ bM bN:Value),
  ∃H' u,aM k (aN prog (lvl prog cN m) (aM m) Od) (Of (lvl prog cN m) (aM m)) [cv,x1,x2,acc,(.I (i:Nat)),x5,x6,x7,x8,x9,bS,cE,aV,aR,aS,aQ,aW,aX,aU,bA,bP,bQ,bO,bK,aY,bC,bE,bG,bH,bI,bJ,bM,bN] H1=some (u,H')/\Ext H0 H'/\Iw H' u (ofT c)/\New H0 u:=by
 intro q;induction q with
 |zero=>
  intro i k H1 acc hq hi hk he ha hnew;intros;obtain⟨k,rfl⟩:=aB k U
  have hlen:=(hc.ext he).gW;have hal:=ha.rX;have hal2:(ofL c i).length=i:=by simp[ofL]
  rw[hal2] at hal;have tail: ∀(x1 x2 x5 x6 x7 x8 x9 bS cE aV aR aS aQ aW aX aU bA bP bQ bO bK aY bC bE bG bH bI bJ bM bN:Value),∃H' u,Oe (lvl prog cN m) (aM m) cv x1 x2 acc (.I (i:Nat)) x5 x6 x7 x8 x9 bS cE aV aR aS aQ aW aX aU bA bP bQ bO bK aY bC bE bG bH bI bJ bM bN H1=some (u,H')/\Ext H0 H'/\Iw H' u (ofT c)/\New H0 u:=by
   intros;unfold Oe;by_cases h0:i=0
   ·have e0:((i:Int)==0)=true:=by simp[h0]
    subst h0;have ha':Iw H1 acc []:=ha;obtain⟨acc2,H2,t1,t2,t3,t4⟩:=ha'.tV (by':=8) gV pR aC 0 hnew he aC
    simp only[gsR,hal,e0,pS,t1];have:ofT c=[0]:=by unfold ofT;rw[if_pos U]
    rw[this]
    exact⟨_,_,rfl,t4,t2,t3⟩
   ·have e0:((i:Int)==0)=false:=by simp;omega
    simp only[gsR,hal,e0];have:ofT c=ofL c i:=by unfold ofT;rw[if_neg U];congr 1;omega
    rw[this]
    exact⟨_,_,rfl,he,ha,hnew⟩
  rw[dR,Zw];by_cases hcl:i<c.length
  ·have e1:decide ((i:Int)<(c.length:Int))=true:=aSE U
   have e2:decide ((i:Int)<5)=false:=aSF U
   simp only[gsR,hlen,e1,e2];rw[Zx];exact tail ..
  ·have e1:decide ((i:Int)<(c.length:Int))=false:=aSF U
   simp only[gsR,hlen,e1];rw[Zx];exact tail ..
 |succ q ih=>
  intro i k H1 acc hq hi hk he ha hnew;intros;obtain⟨k,rfl⟩:=aB k U
  have hlen:=(hc.ext he).gW;have e1:decide ((i:Int)<(c.length:Int))=true:=aSE U
  have e2:decide ((i:Int)<5)=true:=aSE U
  have e3:=aA (i:=i) U
  obtain⟨x,hx⟩: ∃x,c[i]? =some x:=⟨_,aRW U⟩
  have hx8:=hu8 x (aR4 hx);obtain⟨b,o,g1,_,g3⟩:=(hc.ext he).fS Nu hx .i64;have g4:ld1 (.pointer (some ⟨b,o,none⟩)) H1=some (.int .u8 x,H1):=(g3 H1 rfl).2.1 0 _ rfl;have c1:=λH=>cvU H x hx8
  have c2:=zD x (i+1) (i+1:Nat) rfl U
  have hal2:(ofL c i).length=i:=by simp[ofL]
  obtain⟨acc2,H2,t1,t2,t3,t4⟩:=ha.tV (by':=8) gV pR aC ((x%(i+1):Nat):Int) hnew he (iE (n:=1000) aC U)
  have hn:ofL c (i+1)=ofL c i++[((x%(i+1):Nat):Int)]:=by
   unfold ofL;rw[aSt,List.map_append];simp only[aSp,List.map_nil];rw[aRY,hx];rfl
  rw[dR,Zw];simp only[gsR,hlen,e1,e2,g1,g4,c1,cR,e3,c2,pS,t1];exact ih (i+1) k H2 acc2 U U U t4 (by rw[hn];exact t2) t3 ..
theorem aKD {cv:Value}{c:List Nat}(hc:Us H cv c)(hu8: ∀x∈c,x<256)(hl:c.length<=72057594037927936)(hm:100<m): ∃H' u,lvl prog cN m (.func 33) [cv] H=some (u,H')/\Ext H H'/\Iw H' u (ofT c)/\New H u:=by
 refine gN (gX rfl rfl) U ?_
 rw[aJD];exact aKE hc hu8 hl (min c.length 5) 0 (m-1) H (.slice none 0 0) U U U (Fr.kO _ _) Rw.kP (New.mT _) ..
theorem aKF {tv:Value}{t:List Int}(ht:Is H tv t)(hl:t.length<=72057594037927936): ∀(q i k:Nat),t.length-i=q->i<=t.length->q<k->(∀j,j<i->(decide (0<=t.getD j 0)&&decide (t.getD j 0<=j))=true)-> ∀(x1 x2 x4 x5 x6 x7 x8 x9 bS cE aV aR aS aQ aW aX aU bA bP bQ bO bK aY bC:Value),
  aM k (aN prog (lvl prog cN m) (aM m) Ol) (Hu (lvl prog cN m) (aM m)) [tv,x1,x2,(.I (i:Nat)),x4,x5,x6,x7,x8,x9,bS,cE,aV,aR,aS,aQ,aW,aX,aU,bA,bP,bQ,bO,bK,aY,bC] H=some (.bool (kC t),H):=by
 intro q;have hlen:=ht.gW;induction q with
 |zero=>
  intro i k hq hi hk hpre;intros;obtain⟨k,rfl⟩:=aB k U
  have e:decide ((i:Int)<(t.length:Int))=false:=aSF U
  have hr:kC t=decide ((t.length:Int)<=5):=by
   unfold kC;rw[aSz.mpr (λj hj=>hpre j (by have:=aSy.mp hj;omega)),aSh]
  rw[hr,dR,Z1];simp only[gsR,hlen,e];rw[aJL];simp only[gsR,hlen]
 |succ q ih=>
  intro i k hq hi hk hpre;intros;obtain⟨k,rfl⟩:=aB k U
  have e:decide ((i:Int)<(t.length:Int))=true:=aSE U
  have e3:=aA (i:=i) U
  obtain⟨x,hx⟩: ∃x,t[i]? =some x:=⟨_,aRW U⟩
  obtain⟨b,o,g1,_,g3⟩:=ht.fS gV hx .i64;have g4:ld1 (.pointer (some ⟨b,o,none⟩)) H=some (.int .i64 x,H):=(g3 H rfl).2.1 0 _ rfl;have hd:=xM hx;have bad:(decide (0<=x)&&decide (x<=i))=false->kC t=false:=λh=>by
   rw[<-Bool.not_eq_true];unfold kC;rw[aR2,aSz];rintro ⟨hh,_⟩
   have:=hh i (aSy.mpr U)
   rw[hd,h] at this;cases this
  rw[dR,Z1];by_cases c1:x<0
  ·have d1:decide (x<0)=true:=aSE c1
   rw[bad (by rw[aSF U];rfl)]
   simp only[gsR,hlen,e,g1,g4,d1];rw[Z2];rfl
  ·have d1:decide (x<0)=false:=aSF c1
   by_cases c2:(i:Int)<x
   ·have d2:decide ((i:Int)<x)=true:=aSE c2
    rw[bad (by rw[aSF (show¬x<=i by omega),Bool.and_false])]
    simp only[gsR,hlen,e,g1,g4,d1,d2];rw[Z2];rfl
   ·have d2:decide ((i:Int)<x)=false:=aSF c2
    simp only[gsR,hlen,e,g1,g4,d1,d2,cR,e3];refine ih (i+1) k U U U (λj hj=> ?_) ..
    by_cases hji:j=i
    ·rw[hji,hd,aSE U,aSE U];rfl
    ·exact hpre j U
theorem aAv {tv:Value}{t:List Int}(ht:Is H tv t)(hm:t.length+10<m)(hm2:m<=72057594037927936):lvl prog cN m (.func 73) [tv] H=some (.bool (kC t),H):=by
 refine cS (gX rfl rfl) U ?_
 rw[aJM];exact aKF ht U t.length 0 (m-1) U U U (λj hj=>absurd hj U) ..
theorem aKJ {H0:aF}{tv:Value}{t:List Int}(ht:Is H0 tv t)(hr:kC t=true): ∀(q k:Nat)(v:Int)(H1:aF)(acc:Value)(pre:List Int),v.toNat<=q->0<=v/\v<=t.length->q<k->pre.length+q<=20->Ext H0 H1->Iw H1 acc (pre++[v])->New H0 acc-> ∀(x2 x3 x4 x6 x7 x8 x9 bS cE aV aR aS aQ aW aX aU bA:Value),
  ∃H' u,aM k (aN prog (lvl prog cN m) (aM m) N4) (N5 (lvl prog cN m) (aM m)) [tv,(.I v),x2,x3,x4,acc,x6,x7,x8,x9,bS,cE,aV,aR,aS,aQ,aW,aX,aU,bA] H1=some (u,H')/\Ext H0 H'/\Iw H' u (pre++upL t q v)/\New H0 u:=by
 intro q;induction q with
 |zero=>
  intro k v H1 acc pre hv hvr hk hpl he ha hnew;intros;obtain⟨k,rfl⟩:=aB k U
  have e:decide (0<v)=false:=aSF U
  rw[dR,Zq];simp only[gsR,e];rw[Zr]
  exact⟨H1,acc,rfl,he,ha,hnew⟩
 |succ q ih=>
  intro k v H1 acc pre hv hvr hk hpl he ha hnew;intros;obtain⟨k,rfl⟩:=aB k U
  rw[dR,Zq];unfold upL;by_cases h0:0<v
  ·have e:decide (0<v)=true:=aSE h0
   rw[if_pos h0];have hev:v-1=(((v-1).toNat:Nat):Int):=U
   obtain⟨x,hx⟩: ∃x,t[(v-1).toNat]? =some x:=⟨_,aRW U⟩
   have hxr:=aAu hr hx;obtain⟨b,o,g1,_,g3⟩:=(ht.ext he).fS gV hx .i64;rw[<-hev] at g1;have g4:ld1 (.Q b o) H1=some (.I x,H1):=(g3 H1 rfl).2.1 0 _ rfl;have e4:IntKind.i64.wrap (v-1)=v-1:=dL U U
   obtain⟨acc2,H2,t1,t2,t3,t4⟩:=ha.tV (by':=8) gV pR aC x hnew he (iE (n:=1000) aC (by simp;omega))
   simp only[gsR,e,iC,e4,g1,g4,pS,t1];have:=ih k x H2 acc2 (pre++[v]) U U U (by simp;omega) t4 t2 t3
   rw[xM hx];simp only[aR1,List.singleton_append] at this;exact this ..
  ·have e:decide (0<v)=false:=aSF h0
   rw[if_neg h0];simp only[gsR,e];rw[Zr]
   exact⟨H1,acc,rfl,he,ha,hnew⟩
theorem aAw {tv:Value}{t:List Int}(ht:Is H tv t)(hr:kC t=true){v:Int}(hv:0<=v/\v<=t.length)(hm:100<m): ∃H' u,lvl prog cN m (.func 126) [tv,.I v] H=some (u,H')/\Ext H H'/\Iw H' u (upT t v)/\New H u:=by
 have h5:t.length<=5:=by
  unfold kC at hr;rw[aR2] at hr;have:=of_decide_eq_true hr.2;omega
 have one:Iw (H++[.cells (inC v) 3 .row]) (.slice (some ⟨H.length,0,none⟩) 1 1) ([]++[v]):=⟨rfl,.inr ⟨_,1,[],rfl,by simp,rfl,by simp⟩⟩
 have hnew:New H (.slice (some ⟨H.length,0,none⟩) 1 1):=λb ⟨_,_,_,hh⟩=>by cases hh;exact aRZ _
 refine gN (gX rfl rfl) U ?_
 rw[aJw];simp only[gsR,pS];exact aKJ ht hr v.toNat (m-1) v _ _ [] (aRZ _) hv U (by simp;omega) (Fr.app _ _ _) one hnew ..
theorem aKI {H0:aF}{bv:Value}{b:List Int}(hb:Is H0 bv b)(hbl:b.length<=10): ∀(q k:Nat)(H1:aF)(acc:Value)(pre:List Int),q<=b.length->q<k->pre.length+q<=40->Ext H0 H1->Iw H1 acc pre->New H0 acc-> ∀(x0 x1 x2 x3 x4 x5 x6 x7 cE aV aR aS aQ aW aX aU bA bP bQ bO bK aY bC bE bG bH bI bJ bM bN bU cK cL cD bV bX bY b9 cA cF cM cO cP cT dB dE dF cU cV cW cY dJ dG dH cZ dP dS dQ dX eG eH eM eN eO eP eU eV eW fF fG fH fI fJ fK fL fM fN fO fP fQ fX fY fZ gB gJ gK gL gM:Value),
  ∃H' u,aM k (aN prog (lvl prog cN m) (aM m) On) (Ou (lvl prog cN m) (aM m)) [x0,x1,x2,x3,x4,x5,x6,x7,bv,acc,(.I ((q:Int)-1)),cE,aV,aR,aS,aQ,aW,aX,aU,bA,bP,bQ,bO,bK,aY,bC,bE,bG,bH,bI,bJ,bM,bN,bU,cK,cL,cD,bV,bX,bY,b9,cA,cF,cM,cO,cP,cT,dB,dE,dF,cU,cV,cW,cY,dJ,dG,dH,cZ,dP,dS,dQ,dX,eG,eH,eM,eN,eO,eP,eU,eV,eW,fF,fG,fH,fI,fJ,fK,fL,fM,fN,fO,fP,fQ,fX,fY,fZ,gB,gJ,gK,gL,gM] H1=some (u,H')/\Ext H0 H'/\Iw H' u (pre++(b.take q).reverse)/\New H0 u:=by
 intro q;induction q with
 |zero=>
  intro k H1 acc pre hq hk hpl he ha hnew;intros;obtain⟨k,rfl⟩:=aB k U
  have e:decide (0<=((0:Nat):Int)-1)=false:=by decide
  rw[dR,Z3];simp only[gsR,e];rw[aJO]
  exact⟨H1,acc,rfl,he,by simpa using ha,hnew⟩
 |succ q ih=>
  intro k H1 acc pre hq hk hpl he ha hnew;intros;obtain⟨k,rfl⟩:=aB k U
  have e:decide (0<=((q+1:Nat):Int)-1)=true:=aSE U
  have eq:(((q+1:Nat):Int)-1)=((q:Nat):Int):=U
  have e3:IntKind.i64.wrap (((q:Nat):Int)-1)=((q:Nat):Int)-1:=dL U U
  obtain⟨x,hx⟩: ∃x,b[q]? =some x:=⟨_,aRW U⟩
  obtain⟨c,o,g1,_,g3⟩:=(hb.ext he).fS gV hx .i64;have g4:ld1 (.Q c o) H1=some (.I x,H1):=(g3 H1 rfl).2.1 0 _ rfl;obtain⟨acc2,H2,t1,t2,t3,t4⟩:=ha.tV (by':=8) gV pR aC x hnew he (iE (n:=1000) aC U)
  rw[dR,Z3];simp only[gsR,e,eq,g1,g4,pS,t1,iC,e3];have:=ih k H2 acc2 (pre++[x]) U U (by simp;omega) t4 t2 t3
  have hr:(b.take (q+1)).reverse=x::(b.take q).reverse:=by rw[List.take_add_one,hx];simp
  rw[hr];simp only[aR1,List.singleton_append] at this;exact this ..
theorem aKH {H0:aF}(hm:100<m): ∀(q k:Nat)(a b:List Int)(av bv:Value),a.length<=q->q<k->0<a.length->0<b.length->a.length<=10->b.length<=10->Is H0 av a->Is H0 bv b-> ∀(x0 x1 x2 x3 x4 x5 x6 x9 bS cE aV aR aS aQ aW aX aU bA bP bQ bO bK aY bC bE bG bH bI bJ bM bN bU cK cL cD bV bX bY b9 cA cF cM cO cP cT dB dE dF cU cV cW cY dJ dG dH cZ dP dS dQ dX eG eH eM eN eO eP eU eV eW fF fG fH fI fJ fK fL fM fN fO fP fQ fX fY fZ gB gJ gK gL gM:Value),
  ∃H' u,aM k (aN prog (lvl prog cN m) (aM m) Om) (Ot (lvl prog cN m) (aM m)) [x0,x1,x2,x3,x4,x5,x6,av,bv,x9,bS,cE,aV,aR,aS,aQ,aW,aX,aU,bA,bP,bQ,bO,bK,aY,bC,bE,bG,bH,bI,bJ,bM,bN,bU,cK,cL,cD,bV,bX,bY,b9,cA,cF,cM,cO,cP,cT,dB,dE,dF,cU,cV,cW,cY,dJ,dG,dH,cZ,dP,dS,dQ,dX,eG,eH,eM,eN,eO,eP,eU,eV,eW,fF,fG,fH,fI,fJ,fK,fL,fM,fN,fO,fP,fQ,fX,fY,fZ,gB,gJ,gK,gL,gM] H0=some (u,H')/\Ext H0 H'/\Iw H' u (If (Dm q a b))/\New H0 u:=by
 intro q;have fin: ∀(a b:List Int)(av bv:Value),0<b.length->a.length<=10->b.length<=10->Is H0 av a->Is H0 bv b-> ∀(x0 x1 x2 x3 x4 x5 x6 x9 bS cE aV aR aS aQ aW aX aU bA bP bQ bO bK aY bC bE bG bH bI bJ bM bN bU cK cL cD bV bX bY b9 cA cF cM cO cP cT dB dE dF cU cV cW cY dJ dG dH cZ dP dS dQ dX eG eH eM eN eO eP eU eV eW fF fG fH fI fJ fK fL fM fN fO fP fQ fX fY fZ gB gJ gK gL gM:Value),∃H' u,Oo (lvl prog cN m) (aM m) x0 x1 x2 x3 x4 x5 x6 av bv x9 bS cE aV aR aS aQ aW aX aU bA bP bQ bO bK aY bC bE bG bH bI bJ bM bN bU cK cL cD bV bX bY b9 cA cF cM cO cP cT dB dE dF cU cV cW cY dJ dG dH cZ dP dS dQ dX eG eH eM eN eO eP eU eV eW fF fG fH fI fJ fK fL fM fN fO fP fQ fX fY fZ gB gJ gK gL gM H0=some (u,H')/\Ext H0 H'/\Iw H' u (If (a,b))/\New H0 u:=by
  intro a b av bv hb0 ha hb hav hbv;intros;obtain⟨v',H',t1,t2,t3,t4⟩:=(Rw.kP (el:=inC) (e:=3) (sz:=1) (H:=H0)).yY gV pR aC (by':=8) hav (New.mT H0) (Fr.kO _ H0) (iE (n:=1000) aC (by simp;omega))
  rw[List.nil_append] at t2;have hlen:=(hbv.ext t4).gW;have e3:IntKind.i64.wrap ((b.length:Int)-2)=((b.length-1:Nat):Int)-1:=by rw[dL U U];omega
  unfold Oo;simp only[gsR,t1,hlen,iC,e3];exact Exists.imp (λH2 h=>Exists.imp (λu h=>⟨h.1,h.2.1,h.2.2⟩) h) (aKI (m:=m) hbv hb (b.length-1) m H' v' a U U U t4 t2 t3 ..)
 induction q with
 |zero=>intro k a b av bv h1 _ h2;omega
 |succ q ih=>
  intro k a b av bv haq hk ha0 hb0 ha10 hb10 hav hbv;intros;obtain⟨k,rfl⟩:=aB k U
  have la:=hav.gW;have lb:=hbv.gW;rw[dR,aJN];unfold Dm;by_cases c1:1<a.length
  ·have d1:decide ((1:Int)<(a.length:Int))=true:=aSE U
   by_cases c2:1<b.length
   ·have d2:decide ((1:Int)<(b.length:Int))=true:=aSE U
    obtain⟨x,hx⟩: ∃x,a[a.length-2]? =some x:=⟨_,aRW U⟩
    obtain⟨y,hy⟩: ∃y,b[b.length-2]? =some y:=⟨_,aRW U⟩
    have ea:IntKind.i64.wrap ((a.length:Int)-2)=((a.length-2:Nat):Int):=by rw[dL U U];omega
    have eb:IntKind.i64.wrap ((b.length:Int)-2)=((b.length-2:Nat):Int):=by rw[dL U U];omega
    have ea1:IntKind.i64.wrap ((a.length:Int)-1)=((a.length-1:Nat):Int):=by rw[dL U U];omega
    have eb1:IntKind.i64.wrap ((b.length:Int)-1)=((b.length-1:Nat):Int):=by rw[dL U U];omega
    obtain⟨c,o,g1,_,g3⟩:=hav.fS gV hx .i64;have g4:ld1 (.Q c o) H0=some (.I x,H0):=(g3 H0 rfl).2.1 0 _ rfl;obtain⟨c',o',k1,_,k3⟩:=hbv.fS gV hy .i64;have k4:ld1 (.Q c' o') H0=some (.I y,H0):=(k3 H0 rfl).2.1 0 _ rfl;by_cases c3:x=y
    ·have d3:(x==y)=true:=by simp[c3]
     rw[if_pos ⟨c1,c2,by rw[xM hx,xM hy,c3]⟩]
     have na:a≠[]:=λh=>by rw[h] at ha0;simp at ha0
     have nb:b≠[]:=λh=>by rw[h] at hb0;simp at hb0
     obtain⟨a',s1,s2,_⟩:=hav.Gd (P:=prog) gV szI na (lo:=none) rfl (lU a.length .i64 (a.length-1)) (Nat.zero_le _) U
     obtain⟨b',s3,s4,_⟩:=hbv.Gd (P:=prog) gV szI nb (lo:=none) rfl (lU b.length .i64 (b.length-1)) (Nat.zero_le _) U
     rw[List.drop_zero] at s2 s4;simp only[gsR,la,d1,lb,d2,iC,ea,eb,g1,g4,k1,k4,d3,ea1,eb1,s1,s3];exact ih k _ _ a' b' (by simp;omega) U (by simp;omega) (by simp;omega) (by simp;omega) (by simp;omega) s2 s4 ..
    ·have d3:(x==y)=false:=by simp[c3]
     rw[if_neg (by rw[xM hx,xM hy];rintro ⟨_,_,h⟩;exact c3 h)]
     simp only[gsR,la,d1,lb,d2,iC,ea,eb,g1,g4,k1,k4,d3];rw[Oq];exact fin a b av bv hb0 ha10 hb10 hav hbv ..
   ·have d2:decide ((1:Int)<(b.length:Int))=false:=aSF U
    rw[if_neg U]
    simp only[gsR,la,d1,lb,d2];rw[Oq];exact fin a b av bv hb0 ha10 hb10 hav hbv ..
  ·have d1:decide ((1:Int)<(a.length:Int))=false:=aSF U
   rw[if_neg U]
   simp only[gsR,la,d1];rw[Oq];exact fin a b av bv hb0 ha10 hb10 hav hbv ..
theorem aKG {tv:Value}{t:List Int}(ht:Is H tv t)(hr:kC t=true){v w:Int}(hv:0<=v/\v<=t.length)(hw:0<=w/\w<=t.length)(hm:200<m)(hm2:m<=72057594037927936):
  ∃H' u,lvl prog cN m (.func 74) [tv,.I v,.I w] H=some (u,H')/\Ext H H'/\Iw H' u (pV t v w)/\New H u:=by
 have h5:t.length<=5:=by
  unfold kC at hr;rw[aR2] at hr;have:=of_decide_eq_true hr.2;omega
 have g1:=aAv ht (m:=m-1) U U
 rw[hr] at g1;have hlen:=ht.gW;have d1:decide (v<0)=false:=aSF U
 have d2:decide ((t.length:Int)<v)=false:=aSF U
 have d3:decide (w<0)=false:=aSF U
 have d4:decide ((t.length:Int)<w)=false:=aSF U
 obtain⟨H1,a,g2,x1,qa,_⟩:=aAw ht hr hv (m:=m-1) U
 obtain⟨H2,b,g3,x2,qb,_⟩:=aAw (ht.ext x1) hr hw (m:=m-1) U
 have la:=Pj t v.toNat v;have lb:=Pj t w.toNat w;have e:pV t v w=If (Dm (upT t v).length (upT t v) (upT t w)):=by unfold pV;rw[if_pos ⟨hr,hv.1,hv.2,hw.1,hw.2⟩]
 refine gN (gX rfl rfl) U ?_
 rw[aJP];simp only[gsR,g1,hlen,d1,d2,d3,d4,g2,g3];rw[e];have hla:(upT t v).length=(upL t v.toNat v).length:=rfl;have hlb:(upT t w).length=(upL t w.toNat w).length:=rfl;exact Exists.imp (λH' h=>Exists.imp (λu h=>⟨h.1,(x1.tr x2).tr h.2.1,h.2.2.1,λc hc=>aSa (x1.tr x2).1 (h.2.2.2 c hc)⟩) h) (aKH (m:=m-1) U (upT t v).length (m-1) _ _ a b (aRZ _) U U U U U (qa.rs.ext x2) qb.rs ..)
end
end Go.Proofs.YtkeilicinggjmaaGreatDoor
