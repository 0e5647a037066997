/-
  PARTS OF THIS CLAIM'S PROOF, laid together by a program of mine.
-/
import Derived.Ground.NamesProg
import Derived.Shelf.Sort.Plain
import Derived.Shelf.Slices.In.SortNone
import Derived.Test.YtciiopkbmjppfaaGreatDoorAbsM3
set_option linter.unusedVariables false
set_option linter.unusedSimpArgs false
set_option linter.unusedSectionVars false
namespace Go.Proofs.YtciiopkbmjppfaaGreatDoor
open Go.Proofs.Tryz
open Go.Shelf
def Tryz.aJR:Go.Shelf.Ren:=⟨λ|189=>106|125=>141|257=>140|128=>166|129=>167|294=>157|295=>158|296=>159|297=>160|298=>161|299=>162|216=>163|300=>164|301=>165|328=>176|329=>177|330=>178|331=>179|332=>180|215=>181|343=>182|n=>n,λ|28=>37|3=>3|46=>227|0=>0|51=>29|53=>112|4=>4|183=>253|182=>252|131=>241|5=>5|9=>9|218=>269|222=>272|228=>275|229=>276|n=>n,λ|n=>n⟩
theorem Tryz.Y6:Go.Proofs.Lays.n189 prog Tryz.aJR:={
 mixed:=by kernel_rfl
 f125:=Tryz.func141.trans (congrArg some (by kernel_rfl))
 f128:=Tryz.func166.trans (congrArg some (by kernel_rfl))
 f129:=Tryz.func167.trans (congrArg some (by kernel_rfl))
 f189:=Tryz.func106.trans (congrArg some (by kernel_rfl))
 f215:=Tryz.func181.trans (congrArg some (by kernel_rfl))
 f216:=Tryz.func163.trans (congrArg some (by kernel_rfl))
 f257:=Tryz.func140.trans (congrArg some (by kernel_rfl))
 f294:=Tryz.func157.trans (congrArg some (by kernel_rfl))
 f295:=Tryz.func158.trans (congrArg some (by kernel_rfl))
 f296:=Tryz.func159.trans (congrArg some (by kernel_rfl))
 f297:=Tryz.func160.trans (congrArg some (by kernel_rfl))
 f298:=Tryz.func161.trans (congrArg some (by kernel_rfl))
 f299:=Tryz.func162.trans (congrArg some (by kernel_rfl))
 f300:=Tryz.func164.trans (congrArg some (by kernel_rfl))
 f301:=Tryz.func165.trans (congrArg some (by kernel_rfl))
 f328:=Tryz.func176.trans (congrArg some (by kernel_rfl))
 f329:=Tryz.func177.trans (congrArg some (by kernel_rfl))
 f330:=Tryz.func178.trans (congrArg some (by kernel_rfl))
 f331:=Tryz.func179.trans (congrArg some (by kernel_rfl))
 f332:=Tryz.func180.trans (congrArg some (by kernel_rfl))
 f343:=Tryz.func182.trans (congrArg some (by kernel_rfl))
 t0:=Tryz.underlying0
 a0:=Tryz.isAgg0
 z0:=Tryz.sizeOf0
 v0:=Tryz.zeroValue0
 t3:=Tryz.underlying3
 a3:=Tryz.isAgg3
 z3:=Tryz.sizeOf3
 v3:=Tryz.zeroValue3
 t4:=Tryz.underlying4
 a4:=Tryz.isAgg4
 z4:=Tryz.sizeOf4
 v4:=Tryz.zeroValue4
 t5:=Tryz.underlying5
 a5:=Tryz.isAgg5
 z5:=Tryz.sizeOf5
 v5:=Tryz.zeroValue5
 t9:=Tryz.underlying9
 a9:=Tryz.isAgg9
 z9:=Tryz.sizeOf9
 v9:=Tryz.zeroValue9
 t28:=Tryz.underlying37
 a28:=Tryz.isAgg37
 z28:=Tryz.sizeOf37
 v28:=Tryz.zeroValue37
 t46:=Tryz.underlying227
 a46:=Tryz.isAgg227
 z46:=Tryz.sizeOf227
 v46:=Tryz.zeroValue227
 t51:=Tryz.underlying29
 a51:=Tryz.isAgg29
 z51:=Tryz.sizeOf29
 v51:=Tryz.zeroValue29
 t53:=Tryz.underlying112
 a53:=Tryz.isAgg112
 z53:=Tryz.sizeOf112
 v53:=Tryz.zeroValue112
 t131:=Tryz.underlying241
 a131:=Tryz.isAgg241
 z131:=Tryz.sizeOf241
 v131:=Tryz.zeroValue241
 t182:=Tryz.underlying252
 a182:=Tryz.isAgg252
 z182:=Tryz.sizeOf252
 v182:=Tryz.zeroValue252
 t183:=Tryz.underlying253
 a183:=Tryz.isAgg253
 z183:=Tryz.sizeOf253
 v183:=Tryz.zeroValue253
 t218:=Tryz.underlying269
 a218:=Tryz.isAgg269
 z218:=Tryz.sizeOf269
 v218:=Tryz.zeroValue269
 t222:=Tryz.underlying272
 a222:=Tryz.isAgg272
 z222:=Tryz.sizeOf272
 v222:=Tryz.zeroValue272
 t228:=Tryz.underlying275
 a228:=Tryz.isAgg275
 z228:=Tryz.sizeOf275
 v228:=Tryz.zeroValue275
 t229:=Tryz.underlying276
 a229:=Tryz.isAgg276
 z229:=Tryz.sizeOf276
 v229:=Tryz.zeroValue276}
end Go.Proofs.YtciiopkbmjppfaaGreatDoor
namespace Go.Abs
open M
theorem gsR:type_of%(And.intro @gsB (And.intro @r_opt (And.intro @r_ret (And.intro @ob_some (And.intro @ifB_true (And.intro @iteV_true (And.intro @iteV_false (And.intro @r_gdt (And.intro @r_gdt2 (And.intro @r_gdtf (And.intro @r_gdtf2 (And.intro @r_gdff (And.intro @r_gdff2 (And.intro @r_gdft (And.intro @r_gdft2 (And.intro @r_gdu (And.intro @r_gdu2 (And.intro @pick_t (And.intro @pick_f (And.intro @ext_0 (And.intro @ext_1 (And.intro @x_newB (And.intro @r_nil (And.intro @r_fAddr (And.intro @Nat.zero_add (And.intro @b_lss (And.intro @b_leq (And.intro @b_gtr (And.intro @b_geq (And.intro @b_eql (And.intro @b_neq (And.intro @u_not (And.intro @Bool.not_true (And.intro @Bool.not_false (And.intro @oneOf_one (And.intro @oneOf_two (And.intro @again_normal (And.intro @again_exit (And.intro @again_ret @Bool.and_true))))))))))))))))))))))))))))))))))))))):=(And.intro @gsB (And.intro @r_opt (And.intro @r_ret (And.intro @ob_some (And.intro @ifB_true (And.intro @iteV_true (And.intro @iteV_false (And.intro @r_gdt (And.intro @r_gdt2 (And.intro @r_gdtf (And.intro @r_gdtf2 (And.intro @r_gdff (And.intro @r_gdff2 (And.intro @r_gdft (And.intro @r_gdft2 (And.intro @r_gdu (And.intro @r_gdu2 (And.intro @pick_t (And.intro @pick_f (And.intro @ext_0 (And.intro @ext_1 (And.intro @x_newB (And.intro @r_nil (And.intro @r_fAddr (And.intro @Nat.zero_add (And.intro @b_lss (And.intro @b_leq (And.intro @b_gtr (And.intro @b_geq (And.intro @b_eql (And.intro @b_neq (And.intro @u_not (And.intro @Bool.not_true (And.intro @Bool.not_false (And.intro @oneOf_one (And.intro @oneOf_two (And.intro @again_normal (And.intro @again_exit (And.intro @again_ret @Bool.and_true)))))))))))))))))))))))))))))))))))))))
end Go.Abs
set_option maxRecDepth 100000
namespace Go.Proofs.YtciiopkbmjppfaaGreatDoor
open Go.Proofs.Tryz
open Go.Abs Go.Abs.M
theorem aJT:SortOk prog 106:=⟨enters_of Tryz.func106 (by kernel_rfl) rfl,Any.slices_Sort_int_none Tryz.Y6,Any.slices_Sort_int Tryz.Y6⟩
theorem Y7:prog.follows .mixedOrders=true:=by kernel_rfl
theorem aJS:PrimsOk prog (rT []):=aGM Y7 λg hg=>by simp at hg
theorem aJU:PrimsOk prog (oT [] 106):=aHy aJS aJT
abbrev pkN:eK:=oV 129 sM (oV 127 (tM 23) (oT [] 106))
abbrev aY:eK:=pkN
theorem qT:FrP pkN:=Yd aII (Yd (aIJ _) (aIt _ _))
theorem dZ {k:FuncId}(h:((k==129)||(k==127))=false)(h2:(k==106)=false):pkN (.func k)=none:=by
 rw[Bool.or_eq_false_iff] at h;rw[pkN,Bw h.1,Bw h.2];exact aHx h2 rfl
theorem aQ {k:FuncId}(h:((k==129)||(k==127)||(k==106))=false):pkN (.func k)=none:=by
 rw[Bool.or_eq_false_iff] at h;exact dZ h.1 h.2
theorem Y8 (n:Nat)(hn:0<n)(args:List Value)(H:aF):lvl prog aY n (.func 106) args H=pQ args H:=
 K9 (((Bw rfl).trans (Bw rfl)).trans aHz) hn args H
theorem Mn (n:Nat)(hn:0<n)(args:List Value)(H:aF):lvl prog pkN n (.func 129) args H=sM args H:=K9 Yh hn args H
theorem aJV (n:Nat)(hn:0<n)(args:List Value)(H:aF):lvl prog pkN n (.func 127) args H=tM 23 args H:=K9 ((Bw rfl).trans Yh) hn args H
end Go.Proofs.YtciiopkbmjppfaaGreatDoor
namespace Go.Proofs.YtciiopkbmjppfaaGreatDoor
open Go.Proofs.Tryz
open Go Go.RowKit Go.Abs Go.Abs.M
theorem aJ0:Ju prog=some 0:=by kernel_rfl
theorem aJ1:vW=Lib.deBruijn32tab.map Int.ofNat:=by decide+kernel
theorem Y9 {w:World}(h:A0 prog w):TabC w:=by
 obtain⟨cs,e,r,h1,h2⟩:=h 0 aJ0;intro j hj;unfold World.cell?;rw[h1];show cs[j]? =_
 rw[<-Array.getElem?_toList,h2,aJ1,List.map_map,aUq];have hl:Lib.deBruijn32tab.length=32:=by decide+kernel
 rw[aUf U,aUh,aUf U]
 rfl
theorem aJW {args:List Value}{H H':aF}{v:Value}(h:sM args H=some (v,H')):H'=H:=by
 unfold sM at h
 split at h
 ·split at h
  ·cases h
   rfl
  ·cases h
 ·cases h
theorem aJ2 {t:TypeId}{args:List Value}{H H':aF}{v:Value}(h:tM t args H=some (v,H')):H.length<=H'.length:=by
 unfold tM at h
 split at h
 ·split at h
  ·split at h
   ·split at h
    ·split at h
     ·cases h
      simp
     ·cases h
    ·cases h
   ·cases h
  ·cases h
 ·cases h
theorem aJX {args:List Value}{H H':aF}{v:Value}(h:sM args H=some (v,H')){ρ:Ren}{w:World}{args':List Value}(hr:Rel prog ρ (cF H) w)(ha:Vrs ρ args args'):
  wA prog (.func 129) args'.toArray w (Post prog ρ H w v H'):=by
 have he:(callFunc 129 args'.toArray).run prog w= .ok (.enter 129 args'.toArray) w:=enters_of Tryz.func129 (by kernel_rfl) rfl _ _
 refine⟨he,?_⟩;unfold sM at h
 split at h
 ·rename_i m fr n
  split at h
  ·rename_i hm
   cases h;obtain⟨hl,h1⟩:=ha
   match args',hl with
   |[a',b',c'],_=>
    obtain rfl:=(h1 0 _ a' rfl rfl).gW rfl
    obtain rfl:=(h1 1 _ b' rfl rfl).gW rfl
    obtain rfl:=(h1 2 _ c' rfl rfl).gW rfl
    exact(aIQ m fr n hm.1 hm.2 w (Y9 hr.Js)).mono λe w' ⟨h2,hB⟩=>⟨_,h2,ρ,.mL rfl,Step.Wa hr hB.size (λc hc=>hB.block c hc) hB.os hB.tape hB.output⟩
  ·cases h
 ·cases h
theorem aJZ (rows:List Nat)(n:Nat):(fP (λk=>cD (λi=>(rows.getD i 0).testBit k) rows.length) n).toList=(fK rows n).map λz:Nat=>Value.int .u16 (z:Int):=by
 unfold fP fK;rw[List.map_map];rfl
theorem aJ3 {args:List Value}{H H':aF}{v:Value}(h:tM 23 args H=some (v,H')){ρ:Ren}{w:World}{args':List Value}(hr:Rel prog ρ (cF H) w)(ha:Vrs ρ args args')
  (hfree: ∀b,H.length<=b->b<H'.length->ρ b=none):wA prog (.func 127) args'.toArray w (Post prog ρ H w v H'):=by
 have he:(callFunc 127 args'.toArray).run prog w= .ok (.enter 127 args'.toArray) w:=enters_of Tryz.func127 (by kernel_rfl) rfl _ _
 refine⟨he,?_⟩;unfold tM at h
 split at h
 ·rename_i b o len cap n
  try dsimp only at h
  split at h
  ·rename_i hc
   try dsimp only at h
   split at h
   ·rename_i cs e k hb
    try dsimp only at h
    split at h
    ·rename_i hlen
     try dsimp only at h
     split at h
     ·rename_i rows hrows
      cases h;obtain⟨hl,h1⟩:=ha
      match args',hl with
      |[a',b'],_=>
       obtain rfl:=(h1 1 _ b' rfl rfl).gW rfl
       have hv:=h1 0 _ a' rfl rfl;cases hv with
       |same hls=>simp[dI] at hls
       |slice0=>omega
       | @slice _ _ _ _ cap' pl hpl hn hcc hroom=>
        obtain⟨ccs,ce,lo,hi,ho,hcv,_,_,_⟩:=hr.blk b pl _ hpl hb;obtain⟨hz,h16⟩:=Yg _ _ hrows;have hzl:rows.length=len:=by
         have:=congrArg List.length hz;simp at this;omega
        obtain⟨n',rfl⟩: ∃n':Nat,n=n':=⟨n.toNat,by omega⟩
        have hin: ∀i,i<len->w.cell? ⟨pl.c,pl.base+o+i,none⟩=some (.int .u16 (rows.getD i 0:Nat)):=by
         intro i hi;have hzi:rows[i]? =some rows[i]:=aUf U
         have h2:cs[o+i]? =some (.int .u16 (rows[i]:Nat)):=by
          have:=congrArg (·[i]?) hz
          simp only[List.getElem?_take,List.getElem?_drop,aUq,hzi,if_pos hi,Option.map_some] at this;exact this
         obtain⟨v',h3,h4⟩:=hcv (o+i) _ h2;have h5:=h4.gW rfl;subst h5;rw[A6 ho,aUh,hzi,Nat.add_assoc];exact h3
        have hcall:=(callsIn_wide (n:=6)).1 (aJa pl.c (pl.base+o) len cap' n' U U U U U w (Y9 hr.Js) rows hzl h16 (hr.lt b pl hpl) hin)
        refine hcall.mono λe w' ⟨h2,hB,hrow⟩=>⟨_,h2,ρ.upd H.length ⟨w.heap.size,0,some (1,n')⟩,?_,?_⟩
        ·have:=Vr.slice (ρ:=ρ.upd H.length ⟨w.heap.size,0,some (1,n')⟩) (o:=0) (n:=n') (cap:=n') (cap':=n') (Ren.mM _ _ _) (aUi _) (aUi _) (by
          intro e' T hT;simp only[aUE,Prod.mk.injEq] at hT;obtain⟨rfl,rfl⟩:=hT;simp)
         simpa using this
        ·have hlt:w.heap.size<w'.heap.size:=(aUC.mp hrow).1
         have hcell:prog.cellsOf 23=1:=by kernel_rfl
         refine Step.Jw hr (hfree _ (aUi _) (by simp)) (aUi _) hB.size hlt (λc hc=>hB.block c hc) ?_ (by simp) hB.os hB.tape hB.output
         refine⟨_,_,0,0,hrow,λi v hi=> ?_,λ_ off _=>by omega,λ_=> ?_,λhk=>absurd rfl hk⟩
         ·refine⟨v,?_,?_⟩
          ·rw[<-hi,aUF,<-aJZ,<-hzl,Array.getElem?_toList]
           simp
          ·rw[aUq] at hi
           cases hx:(fK rows (n':Int).toNat)[i]? with
           |none=>rw[hx] at hi;cases hi
           |some z=>
            rw[hx] at hi;cases hi;exact .mL rfl
         ·show some (1,n')=some (prog.cellsOf 23,_)
          rw[hcell,Yo]
     ·cases h
    ·cases h
   ·cases h
  ·cases h
 ·cases h
theorem Za {P:Program}{g:FuncId}{p:List Value->aF->Option (Value×aF)}{pr:eK}(h:PrimsOk P pr)(hm: ∀args H v H',p args H=some (v,H')->H.length<=H'.length)
  (hs: ∀args H v H',p args H=some (v,H')-> ∀ρ w args',Rel P ρ (cF H) w->Vrs ρ args args'->(∀b,H.length<=b->b<H'.length->ρ b=none)->wA P (.func g) args'.toArray w (Post P ρ H w v H')):PrimsOk P (oV g p pr):=by
 constructor
 ·intro f q hf args H v H' hp
  cases f with
  |func k=>
   by_cases hk:k=g
   ·simp only[oV,if_pos hk] at hf
    cases hf;exact hm _ _ _ _ hp
   ·simp only[oV,if_neg hk] at hf
    exact h.mono _ _ hf _ _ _ _ hp
  |_=>cases hf
 ·intro f q hf args H v H' hp ρ w args' hr ha hfree
  cases f with
  |func k=>
   by_cases hk:k=g
   ·simp only[oV,if_pos hk] at hf
    cases hf;subst hk;exact hs _ _ _ _ hp _ _ _ hr ha hfree
   ·simp only[oV,if_neg hk] at hf
    exact h.sound _ _ hf _ _ _ _ hp _ _ _ hr ha hfree
  |_=>cases hf
theorem aJY:PrimsOk prog pkN:=
 Za (Za aJU (λ_ _ _ _ h=>aJ2 h) λ_ _ _ _ h _ _ _ hr ha hf=>aJ3 h hr ha hf) (λ_ _ _ _ h=>by rw[aJW h];exact aUi _) λ_ _ _ _ h _ _ _ hr ha _=>aJX h hr ha
end Go.Proofs.YtciiopkbmjppfaaGreatDoor
namespace Go.Proofs.YtciiopkbmjppfaaGreatDoor
open Go.Proofs.Tryz
open Go.Abs Go.Abs.M
theorem szI:prog.cellsOf 3=1:=by kernel_rfl
theorem aKc:prog.cellsOf 128=2:=by kernel_rfl
abbrev Ed:=Int×Int
def edC (e:Ed):List Value:=[.I e.1,.I e.2]
theorem nF (e:Ed):(edC e).length=2:=rfl
theorem wR (e:Ed):cA (edC e)=true:=rfl
def edV (e:Ed):Value:= .agg ⟨edC e⟩
abbrev Is (H:aF)(v:Value)(xs:List Int):=Rs inC 3 H v xs
abbrev Iw (H:aF)(v:Value)(xs:List Int):=Rw inC 3 1 H v xs
abbrev Es (H:aF)(v:Value)(xs:List Ed):=Rs edC 128 H v xs
abbrev Ew (H:aF)(v:Value)(xs:List Ed):=Rw edC 128 2 H v xs
def vC (u:Value):List Value:=[u]
theorem aKd (u:Value):(vC u).length=1:=rfl
def Rows (H:aF)(v:Value)(xss:List (List Int)):Prop:= ∃us,Rs vC 37 H v us/\us.length=xss.length/\ ∀(i:Nat)(u:Value)(xs:List Int),us[i]? =some u->xss[i]? =some xs->Is H u xs
theorem Rows.ext {H H':aF}{v:Value}{xss:List (List Int)}(h:Rows H v xss)(he:Ext H H'):Rows H' v xss:=by
 obtain⟨us,h1,h2,h3⟩:=h
 exact⟨us,h1.ext he,h2,λi u xs hu hx=>(h3 i u xs hu hx).ext he⟩
theorem Rows.Zb {H:aF}{v:Value}{xss:List (List Int)}(h:Rows H v xss):cX v=some (.I xss.length):=by
 obtain⟨us,h1,h2,h3⟩:=h;rw[h1.eC,h2]
theorem Rows.Fp {H:aF}{v:Value}{xss:List (List Int)}(h:Rows H v xss){i:Nat}{xs:List Int}(hx:xss[i]? =some xs)(k:IntKind): ∃p u,cN 1 v (.int k i)=some p/\ld1 p H=some (u,H)/\Is H u xs:=by
 obtain⟨us,h1,h2,h3⟩:=h;have hi:=(aUd.mp hx).1;have hu:us[i]? =some us[i]:=aUf U
 obtain⟨b,o,g1,g2,g3⟩:=h1.dM aKd hu k;have:=(g3 H rfl).2.1 0 us[i] rfl
 exact⟨_,_,g1,this,h3 i _ _ hu hx⟩
structure PlanD where
 nodes:Int
 edges:List Ed
 lanes:Int
 room:Int
 queue:Int
 rounds:Int
 every:Int
 bag:Int
 weights:List Int
 start:Int
 next:List (List Int)
def plC (p:PlanD)(ev wv nv:Value):List Value:=[.I p.nodes,ev,.I p.lanes,.I p.room,.I p.queue,.I p.rounds,.I p.every,.I p.bag,wv,.int .u16 p.start,nv]
def plV (p:PlanD)(ev wv nv:Value):Value:= .agg ⟨plC p ev wv nv⟩
def plB (p:PlanD)(ev wv nv:Value):Blk:= .cells (plC p ev wv nv) 40 .fix
structure PV (H:aF)(p:PlanD)(ev wv nv:Value):Prop where
 e:Es H ev p.edges
 w:Is H wv p.weights
 n:Rows H nv p.next
 be:p.edges.length<=17592186043000
 bw:p.weights.length<=17592186044500
 bn:p.next.length<=17592186043000
theorem PV.ext {H H':aF}{p:PlanD}{ev wv nv:Value}(h:PV H p ev wv nv)(he:Ext H H'):PV H' p ev wv nv:=⟨h.e.ext he,h.w.ext he,h.n.ext he,h.be,h.bw,h.bn⟩
theorem gL (p:PlanD)(ev wv nv:Value):Blk.cells (plV p ev wv nv).cells.toList 40 .fix=plB p ev wv nv:=rfl
theorem cQ {H:aF}{b:Nat}{p:PlanD}{ev wv nv:Value}(h:H[b]? =some (plB p ev wv nv))(j:Nat)(v:Value)(hv:(plC p ev wv nv)[j]? =some v):ld1 (.Q b j) H=some (v,H):=by
 rw[fI,h];unfold plB;rw[rV,hv,rU]
theorem fE {H:aF}{b:Nat}{p:PlanD}{ev wv nv:Value}(h:H[b]? =some (plB p ev wv nv)):ldN 11 (.Q b 0) H=some (plV p ev wv nv,H):=by
 rw[qS,h];unfold plB;rw[rW _ _ _ _ _ (by simp[plC])]
 rfl
theorem cV (H:aF)(x:Blk):(H++[x])[H.length]? =some x:=by simp
theorem cP {H H':aF}{b:Nat}{x:Blk}(h:H[b]? =some x)(he:Ext H H'):H'[b]? =some x:=by
 rw[he.2 b (aUd.mp h).1 id,h]
def wi (x lo hi:Int):Bool:=decide (lo<=x)&&decide (x<=hi)
def oW (p:PlanD):Bool:=wi p.nodes 2 6&&(wi p.lanes 1 3&&(wi p.room 1 8&&(wi p.queue 1 8&&(wi p.rounds 1 4&&(wi p.every 1 8&&wi p.bag 1 64)))))
section
variable {H : aF} {m : Nat} {p : PlanD} {ev wv nv : Value}
theorem Ze (hm:0<m)(x lo hi:Int)(H:aF):lvl prog aY m (.func 80) [.I x,.I lo,.I hi] H=some (.bool (wi x lo hi),H):=by
 refine aS (dZ rfl rfl) hm ?_;rw[aJN];unfold wi;by_cases h:lo<=x
 ·simp only[gsR,h,decide_true,aUA]
 ·simp only[gsR,h,decide_false,Bool.false_and]
theorem aKb (hm:1<m)(p:PlanD)(ev wv nv:Value):lvl prog aY m (.func 111) [plV p ev wv nv] H=some (.bool (oW p),H++[plB p ev wv nv]):=by
 refine aS (dZ rfl rfl) U ?_
 have w:=λx lo hi H=>Ze (m:=m-1) U x lo hi H
 have hb:=cV H (plB p ev wv nv);have l0:=cQ hb 0 _ rfl;have l2:=cQ hb 2 _ rfl;have l3:=cQ hb 3 _ rfl;have l4:=cQ hb 4 _ rfl;have l5:=cQ hb 5 _ rfl;have l6:=cQ hb 6 _ rfl;have l7:=cQ hb 7 _ rfl;rw[aJg];unfold oW;cases c1:wi p.nodes 2 6 with
 |false=>simp only[gsR,gL,w,l0,l2,l3,l4,l5,l6,c1,Bool.false_and,aUA]
 |true=>
   cases c2:wi p.lanes 1 3 with
   |false=>simp only[gsR,gL,w,l0,l2,l3,l4,l5,l6,c1,c2,Bool.false_and,aUA]
   |true=>
     cases c3:wi p.room 1 8 with
     |false=>simp only[gsR,gL,w,l0,l2,l3,l4,l5,l6,c1,c2,c3,Bool.false_and,aUA]
     |true=>
       cases c4:wi p.queue 1 8 with
       |false=>simp only[gsR,gL,w,l0,l2,l3,l4,l5,l6,c1,c2,c3,c4,Bool.false_and,aUA]
       |true=>
         cases c5:wi p.rounds 1 4 with
         |false=>simp only[gsR,gL,w,l0,l2,l3,l4,l5,l6,c1,c2,c3,c4,c5,Bool.false_and,aUA]
         |true=>
           cases c6:wi p.every 1 8 with
           |false=>simp only[gsR,gL,w,l0,l2,l3,l4,l5,l6,c1,c2,c3,c4,c5,c6,Bool.false_and,aUA]
           |true=>
             simp only[gsR,gL,w,l0,l2,l3,l4,l5,l6,l7,c1,c2,c3,c4,c5,c6,aUA]
def fst (p:Nat->Bool):Nat->Nat->Int
 |0,_=> -1
 |q+1,i=>if p i=true then i else fst p q (i+1)
theorem Mo (p:Nat->Bool): ∀q i,(0<=fst p q i)↔ ∃j,i<=j/\j<i+q/\p j=true
 |0,i=>by simp[fst];omega
 |q+1,i=>by
  unfold fst;by_cases h:p i=true
  ·rw[if_pos h]
   exact⟨λ_=>⟨i,by omega,by omega,h⟩,λ_=>by omega⟩
  ·rw[if_neg h,Mo p q (i+1)]
   constructor
   ·rintro ⟨j,h1,h2,h3⟩
    exact⟨j,by omega,by omega,h3⟩
   ·rintro ⟨j,h1,h2,h3⟩
    have:j≠i:=λhh=>h (hh▸h3)
    exact⟨j,by omega,by omega,h3⟩
theorem Fq (p:Nat->Bool)(n:Nat):decide (0<=fst p n 0)=(List.range n).any p:=by
 rw[Bool.eq_iff_iff,decide_eq_true_iff,Mo,List.any_eq_true];constructor
 ·rintro ⟨j,h1,h2,h3⟩
  exact⟨j,aUR.mpr U,h3⟩
 ·rintro ⟨j,h1,h2⟩
  exact⟨j,by omega,by have:=aUR.mp h1;omega,h2⟩
theorem B1 {α:Type}(xs:List α)(q:α->Bool)(p:Nat->Bool)(h: ∀i x,xs[i]? =some x->p i=q x):(List.range xs.length).any p=xs.any q:=by
 rw[Bool.eq_iff_iff,List.any_eq_true,List.any_eq_true];constructor
 ·rintro ⟨i,h1,h2⟩
  have hi:=aUR.mp h1;have hx:xs[i]? =some xs[i]:=aUf hi
  exact⟨xs[i],List.getElem_mem hi,by rw[<-h i _ hx];exact h2⟩
 ·rintro ⟨x,h1,h2⟩
  obtain⟨i,hi⟩:=List.getElem?_of_mem h1
  exact⟨i,aUR.mpr (aUd.mp hi).1,by rw[h i x hi];exact h2⟩
theorem aJ8 {v fv:Value}{n:Nat}(p:Nat->Bool)(hd: ∀i,i<n-> ∃a u,cN 1 v (.I (i:Nat))=some a/\ld1 a H=some (u,H)/\kQ (lvl prog aY m) fv [u] H=some (.bool (p i),H))(hn:n<=72057594037927936): ∀(q i k:Nat),n-i=q->i<=n->q<k-> ∀(x4:Value),
  aL k (aO prog (lvl prog aY m) (aL m) L1) (Fl (lvl prog aY m) (aL m)) (v::fv::aG 2 (x4::aG 2 (some (.I n)::some (.I (i:Nat))::aG 10 []))) H=some (.I (fst p q i),H):=by
 intro q;induction q with
 |zero=>
  intro i k hr hi hk;intros;obtain⟨k,rfl⟩:=aB k U
  obtain rfl:i=n:=U
  have e:decide ((i:Int)<i)=false:=by simp
  rw[bS,Yv];simp only[gsR,e];rw[aJu];rfl
 |succ q ih=>
  intro i k hr hi hk;intros;obtain⟨k,rfl⟩:=aB k U
  have e:decide ((i:Int)<n)=true:=by simp;omega
  have e3:=aA (i:=i) U
  obtain⟨a,u,g1,g2,g3⟩:=hd i U
  rw[bS,Yv];unfold fst;cases h:p i with
  |true=>
   rw[h] at g3;simp only[gsR,e,g1,g2,g3,if_true];rw[aJw];rfl
  |false=>
   rw[h] at g3;simp only[gsR,e,g1,g2,g3,aV,e3,Bool.false_eq_true,if_false];exact ih (i+1) k U U U ..
theorem Zc {v fv:Value}{n:Nat}(p:Nat->Bool)(hl:cX v=some (.I n))(hn:n+10<m)(hm:m<=72057594037927936)(hd: ∀i,i<n-> ∃a u,cN 1 v (.I (i:Nat))=some a/\ld1 a H=some (u,H)/\kQ (lvl prog aY (m-1-1)) fv [u] H=some (.bool (p i),H)):
  lvl prog aY m (.func 117) [v,fv] H=some (.bool ((List.range n).any p),H):=by
 have g:lvl prog aY (m-1) (.func 145) [v,fv] H=some (.I (fst p n 0),H):=by
  refine aS (dZ rfl rfl) U ?_
  rw[aJv];simp only[gsR,hl];exact aJ8 p hd U n 0 (m-1-1) U U U ..
 refine aS (dZ rfl rfl) U ?_
 rw[aJm];simp only[gsR,g,Fq]
theorem aJ9 {v fv:Value}{n:Nat}(p:Nat->Bool)(hd: ∀i,i<n-> ∃a u,cN 1 v (.I (i:Nat))=some a/\ld1 a H=some (u,H)/\kQ (lvl prog aY m) fv [u] H=some (.bool (p i),H))(hn:n<=72057594037927936): ∀(q i k:Nat),n-i=q->i<=n->q<k-> ∀(x4:Value),
  aL k (aO prog (lvl prog aY m) (aL m) Lz) (Fj (lvl prog aY m) (aL m)) (v::fv::aG 2 (x4::aG 2 (some (.I n)::some (.I (i:Nat))::aG 10 []))) H=some (.I (fst p q i),H):=by
 intro q;induction q with
 |zero=>
  intro i k hr hi hk;intros;obtain⟨k,rfl⟩:=aB k U
  obtain rfl:i=n:=U
  have e:decide ((i:Int)<i)=false:=by simp
  rw[bS,Yt];simp only[gsR,e];rw[aJo];rfl
 |succ q ih=>
  intro i k hr hi hk;intros;obtain⟨k,rfl⟩:=aB k U
  have e:decide ((i:Int)<n)=true:=by simp;omega
  have e3:=aA (i:=i) U
  obtain⟨a,u,g1,g2,g3⟩:=hd i U
  rw[bS,Yt];unfold fst;cases h:p i with
  |true=>
   rw[h] at g3;simp only[gsR,e,g1,g2,g3,if_true];rw[aJq];rfl
  |false=>
   rw[h] at g3;simp only[gsR,e,g1,g2,g3,aV,e3,Bool.false_eq_true,if_false];exact ih (i+1) k U U U ..
theorem aJ4 {v fv:Value}{n:Nat}(p:Nat->Bool)(hl:cX v=some (.I n))(hn:n+10<m)(hm:m<=72057594037927936)(hd: ∀i,i<n-> ∃a u,cN 1 v (.I (i:Nat))=some a/\ld1 a H=some (u,H)/\kQ (lvl prog aY (m-1-1)) fv [u] H=some (.bool (p i),H)):
  lvl prog aY m (.func 113) [v,fv] H=some (.bool ((List.range n).any p),H):=by
 have g:lvl prog aY (m-1) (.func 143) [v,fv] H=some (.I (fst p n 0),H):=by
  refine aS (dZ rfl rfl) U ?_
  rw[aJp];simp only[gsR,hl];exact aJ9 p hd U n 0 (m-1-1) U U U ..
 refine aS (dZ rfl rfl) U ?_
 rw[aJj];simp only[gsR,g,Fq]
theorem Zd (a b:Ed):bin prog .eql 128 (edV a) (edV b)=some (.bool (a==b)):=by
 have k:rM prog 128=some [true,true]:=by kernel_rfl
 obtain⟨a1,a2⟩:=a;obtain⟨b1,b2⟩:=b;simp[bin,edV,cL,jZ,k,eqT,edC];rfl
theorem aKa {v:Value}{xs:List Ed}{a:Nat}{y:Ed}(hx:Es H v xs)(ha:H[a]? =some (.cells (edC y) 128 .fix))(hn:xs.length<=72057594037927936): ∀(q i k:Nat),xs.length-i=q->i<=xs.length->q<k-> ∀(x4:Value),
  aL k (aO prog (lvl prog aY m) (aL m) L2) (Fm (lvl prog aY m) (aL m)) (v::aG 2 (some (.pointer (some ⟨a,0,none⟩))::x4::aG 2 (some (.int .i64 xs.length)::some (.int .i64 (i:Nat))::aG 10 []))) H=some (.int .i64 (fst (λj=>xs[j]? ==some y) q i),H):=by
 intro q;have la:ldN 2 (.Q a 0) H=some (edV y,H):=by
  rw[qS,ha,rW _ _ _ _ _ (by simp[edC])]
  rfl
 induction q with
 |zero=>
  intro i k hr hi hk;intros;obtain⟨k,rfl⟩:=aB k U
  obtain rfl:i=xs.length:=U
  have e:decide ((xs.length:Int)<xs.length)=false:=by simp
  rw[bS,Yw];simp only[gsR,e];rw[aJx];rfl
 |succ q ih=>
  intro i k hr hi hk;intros;obtain⟨k,rfl⟩:=aB k U
  have e:decide ((i:Int)<xs.length)=true:=by simp;omega
  have e3:=aA (i:=i) U
  have hxi:xs[i]? =some xs[i]:=aUf U
  obtain⟨b,o,g1,g2,g3⟩:=hx.dM nF hxi .i64;have l1:ldN 2 (.Q b o) H=some (edV xs[i],H):=(g3 H rfl).1;rw[bS,Yw];unfold fst;by_cases h:y=xs[i]
  ·have d:(y==xs[i])=true:=by rw[h];simp
   have d2:(xs[i]? ==some y)=true:=by rw[hxi,h];simp
   simp only[gsR,e,la,g1,l1,Zd,d];rw[aJz,if_pos d2];rfl
  ·have d:(y==xs[i])=false:=by simpa using h
   have d2: ¬(xs[i]? ==some y)=true:=by rw[hxi];simpa using λhh=>h hh.symm
   simp only[gsR,e,la,g1,l1,Zd,d,aV,e3];rw[if_neg d2];exact ih (i+1) k U U U ..
theorem aJ7 {v:Value}{xs:List Ed}(hx:Es H v xs)(y:Ed)(hn:xs.length+10<m)(hm:m<=72057594037927936): ∃H',lvl prog aY m (.func 142) [v,edV y] H=some (.bool (xs.any λx=>x==y),H')/\Ext H H':=by
 have c:Blk.cells (edV y).cells.toList 128 .fix= .cells (edC y) 128 .fix:=rfl;have b0:=cV H (.cells (edC y) 128 .fix);have l0:ldN 2 (.pointer (some ⟨H.length,0,none⟩)) (H++[.cells (edC y) 128 .fix])=some (edV y,H++[.cells (edC y) 128 .fix]):=by
  rw[qS,b0,rW _ _ _ _ _ (by simp[edC])]
  rfl
 obtain⟨H1,hH1⟩:=aD (H++[Blk.cells (edC y) 128 .fix]);have x1:Ext H H1:=by rw[hH1];exact Fr.app _ _ _
 have x2:Ext H (H1++[.cells (edC y) 128 .fix]):=x1.tr (Fr.app _ _ _);have hx2:=hx.ext x2;have hlen:=hx.eC;have g:lvl prog aY (m-1) (.func 168) [v,edV y] H1=some (.I (fst (λj=>xs[j]? ==some y) xs.length 0),H1++[.cells (edC y) 128 .fix]):=by
  refine aS (dZ rfl rfl) U ?_
  rw[aJy];simp only[gsR,c,hlen];exact aKa hx2 (cV H1 _) U xs.length 0 (m-1-1) U U U ..
 refine⟨_,aS (dZ rfl rfl) U ?_,x2⟩
 rw[aJn];have hb:decide (0<=fst (λj=>xs[j]? ==some y) xs.length 0)=xs.any λx=>x==y:=by
  rw[Fq];exact B1 xs _ _ λi x h=>by rw[h];rfl
 rw[<-hH1] at l0;simp only[gsR,c,<-hH1,l0,g,hb]
def tN (n:Int):List Ed->List Ed->Bool
 |_,[]=>true
 |old,e::r=>(!(decide (e.1<0)||(decide (e.2<=e.1)||(decide (n<=e.2)||old.any λx=>x==e))))&&tN n (old++[e]) r
def wS (p:PlanD):Bool:=tN p.nodes [] p.edges&&decide ((p.edges.length:Int)<=15)
theorem aJ6 {a:Nat}(hx:Es H ev p.edges)(hn:p.edges.length+20<m)(hm:m<=72057594037927936): ∀(q i k:Nat)(H':aF),p.edges.length-i=q->i<=p.edges.length->q<k->Ext H H'->H'[a]? =some (plB p ev wv nv)-> ∃H2,aL k (aO prog (lvl prog aY m) (aL m) Ly) (Fh (lvl prog aY m) (aL m)) (aG 1 (some (.Q a 0)::some (.bool false)::aG 3 (ev::some (.I p.edges.length)::some (.I (i:Nat))::aG 34 []))) H'=some (.bool (tN p.nodes (p.edges.take i) (p.edges.drop i)&&decide ((p.edges.length:Int)<=15)),H2)/\Ext H H2:=by
 intro q;induction q with
 |zero=>
  intro i k H' hr hi hk he ha;intros;obtain⟨k,rfl⟩:=aB k U
  obtain rfl:i=p.edges.length:=U
  have e:decide ((p.edges.length:Int)<p.edges.length)=false:=by simp
  have l1:=cQ ha 1 _ rfl;have hlen:=hx.eC;refine⟨H',?_,he⟩;rw[bS,Ys];simp only[gsR,e];rw[aJh];rw[List.drop_length,tN,aUA];simp only[gsR,l1,hlen]
 |succ q ih=>
  intro i k H' hr hi hk he ha;intros;obtain⟨k,rfl⟩:=aB k U
  have e:decide ((i:Int)<p.edges.length)=true:=by simp;omega
  have e3:=aA (i:=i) U
  have hxi:p.edges[i]? =some p.edges[i]:=aUf U
  obtain⟨b,o,g1,g2,g3⟩:=(hx.ext he).dM nF hxi .i64;obtain⟨y,hy⟩:=aD (p.edges[i]);have l1:ldN 2 (.Q b o) H'=some (edV y,H'):=by rw[hy];exact(g3 H' rfl).1
  have hdrop:p.edges.drop i=y::p.edges.drop (i+1):=by rw[hy];exact List.drop_eq_getElem_cons U
  have htake:p.edges.take i++[y]=p.edges.take (i+1):=by rw[List.take_add_one,hxi,hy];rfl
  have z:Blk.cells [Value.int .i64 0,.int .i64 0] 128 .fix= .cells (edC (0,0)) 128 .fix:=rfl;have st:stN 2 (.pointer (some ⟨H'.length,0,none⟩)) (edV y) (H'++[.cells (edC (0,0)) 128 .fix])=some (undef,H'++[.cells (edC y) 128 .fix]):=by
   rw[fV 2 _ _ _ rfl,cV,iW _ _ _ _ _ _ aC (by simp[edC,edV,Value.cells]) rfl]
   simp[edC,edV,Value.cells,cU]
  obtain⟨H1,hH1⟩:=aD (H'++[Blk.cells (edC y) 128 .fix]);rw[<-hH1] at st;have x1:Ext H' H1:=by rw[hH1];exact Fr.app _ _ _
  have hb1:H1[H'.length]? =some (.cells (edC y) 128 .fix):=by rw[hH1];exact cV _ _
  have la:ld1 (.Q H'.length 0) H1=some (.I y.1,H1):=by rw[fI,hb1];rfl
  have lb:ld1 (.Q H'.length 1) H1=some (.I y.2,H1):=by rw[fI,hb1];rfl
  have lab:ldN 2 (.Q H'.length 0) H1=some (edV y,H1):=by
   rw[qS,hb1,rW _ _ _ _ _ (by simp[edC])]
   rfl
  have ha1:=cP ha x1;have p0:=cQ ha1 0 _ rfl;have p1:=cQ ha1 1 _ rfl;obtain⟨v',s1,s2,s3⟩:=((hx.ext he).ext x1).E5 (P:=prog) nF aKc (λh=>by have:=congrArg List.length h;simp only[List.length_nil] at this;omega) (lo:=none) rfl (gX p.edges.length .i64 i) (Nat.zero_le _) U
  rw[List.drop_zero] at s2;obtain⟨H2,t1,t2⟩:=aJ7 s2 y (m:=m) (by rw[List.length_take];omega) hm
  rw[bS,Ys,hdrop,tN,htake];by_cases c1:y.1<0
  ·refine⟨H1,?_,he.tr x1⟩
   simp only[gsR,e,g1,l1,z,st,la,lb,c1,decide_true,Bool.true_or,Bool.false_and];rw[Fi];rfl
  ·by_cases c2:y.2<=y.1
   ·refine⟨H1,?_,he.tr x1⟩
    simp only[gsR,e,g1,l1,z,st,la,lb,c1,c2,decide_true,decide_false,Bool.false_or,Bool.true_or,Bool.false_and];rw[Fi];rfl
   ·by_cases c3:p.nodes<=y.2
    ·refine⟨H1,?_,he.tr x1⟩
     simp only[gsR,e,g1,l1,z,st,la,lb,p0,c1,c2,c3,decide_true,decide_false,Bool.false_or,Bool.true_or,Bool.false_and];rw[Fi];rfl
    ·cases c4:(p.edges.take i).any λx=>x==y with
     |true=>
      rw[c4] at t1;refine⟨H2,?_,(he.tr x1).tr t2⟩;simp only[gsR,e,g1,l1,z,st,la,lb,lab,p0,p1,s1,t1,c1,c2,c3,decide_true,decide_false,Bool.false_or,Bool.false_and];rw[Fi];rfl
     |false=>
      rw[c4] at t1;simp only[gsR,e,g1,l1,z,st,la,lb,lab,p0,p1,s1,t1,c1,c2,c3,decide_false,Bool.false_or,aUA,aV,e3];exact ih (i+1) k H2 U U U ((he.tr x1).tr t2) (cP ha1 t2) ..
theorem aJ5 (hp:PV H p ev wv nv)(hn:p.edges.length+20<m-1)(hm:m<=72057594037927936): ∃H',lvl prog aY m (.func 112) [plV p ev wv nv] H=some (.bool (wS p),H')/\Ext H H':=by
 refine iD (dZ rfl rfl) U ?_
 have hb:=cV H (plB p ev wv nv);have l1:=cQ hb 1 _ rfl;have hlen:=hp.e.eC;rw[aJi];simp only[gsR,gL,l1,hlen];exact aJ6 hp.e (m:=m-1) hn U p.edges.length 0 (m-1) _ U U U (Fr.app _ _ _) hb ..
end
def pU (n:Int):Bool:=decide (n<1)||decide (5<n)
def wOk (ws:List Int):Bool:= !(decide ((ws.length:Int)=0)||(decide ((3:Int)<ws.length)||ws.any pU))
def uZ (p:PlanD):Bool:= !(p.next.any λr=>decide ((r.length:Int)≠p.nodes))
def dT (p:PlanD):Bool:=oW p&&(wS p&&(decide ((p.weights.length:Int)=p.lanes)&&(wOk p.weights&&(decide ((p.next.length:Int)=p.nodes)&&uZ p))))
def uY (b:Bool):Int:=if b=true then 0 else 120
section
variable {H : aF} {m : Nat} {p : PlanD} {ev wv nv : Value}
theorem Zg (hm:0<m)(n:Int)(H:aF):lvl prog aY m (.func 116) [.I n] H=some (.bool (pU n),H):=by
 refine aS (dZ rfl rfl) hm ?_;rw[aJl];unfold pU;by_cases h:n<1
 ·simp only[gsR,h,decide_true,Bool.true_or]
 ·simp only[gsR,h,decide_false,Bool.false_or]
theorem aKe (b o n c:Nat):bin prog .eql 37 (.slice (some ⟨b,o,none⟩) n c) (.N)=some (.bool false):=by
 have h1:prog.underlying 37=some (.slice 3):=by kernel_rfl
 simp[bin,cL,jZ,gV,eqV,h1]
theorem Ft {v:Value}{xs:List Int}(hx:Is H v xs)(hne:xs≠[])(hl:xs.length<=1000)(hm:0<m): ∃H' u,lvl prog aY m (.func 78) [v] H=some (u,H')/\Ext H H'/\Iw H' u xs/\New H u:=by
 have hv: ∃b o c,v= .slice (some ⟨b,o,none⟩) xs.length c:=by
  rcases hx with⟨_,h⟩|⟨b,o,cap,h,_⟩
  ·exact absurd h hne
  ·exact⟨b,o,cap,h⟩
 have b0:b9 3 1 0 [.I 0] [] H=some (.slice (some ⟨H.length,0,none⟩) 0 0,H++[.cells [] 3 .row]):=rfl;have h0:Iw (H++[.cells [] 3 .row]) (.slice (some ⟨H.length,0,none⟩) 0 0) []:=⟨rfl,.inr ⟨H.length,0,[],rfl,aUi _,rfl,by simp⟩⟩
 obtain⟨u,H',g1,g2,g3,g4⟩:=h0.wM eP mQ aC (by':=8) (H0:=H) (hx.ext (Fr.app _ _ _)) (λb ⟨_,_,_,h⟩=>by cases h;exact aUi _) (Fr.app _ _ _) (eD (n:=1000) aC (by simp;omega))
 refine dL (dZ rfl rfl) U ⟨H',u,?_,g4,g2,g3⟩
 obtain⟨b,o,c,rfl⟩:=hv;rw[Ml];simp only[gsR,aKe,b0,g1]
theorem ePW (a:Addr):bin prog .eql 141 (.pointer (some a)) (.pointer none)=some (.bool false):=Ek 141 197 (by kernel_rfl) a
theorem Mp:bin prog .eql 141 (.pointer none) (.pointer none)=some (.bool true):=Ky 141 197 (by kernel_rfl)
theorem aKf {v:Value}{ws:List Int}(hw:Is H v ws)(hl:ws.length<=17592186044500)(hm:ws.length+100<m)(hm2:m<=72057594037927936): ∃H' u,lvl prog aY m (.func 82) [v] H=some (u,H')/\Ext H H'/\bin prog .eql 141 u (.pointer none)=some (.bool (!wOk ws)):=by
 have hlen:=hw.eC;have hcf:lvl prog aY (m-1) (.func 117) [v,.func (.func 116) #[] #[]] H=some (.bool (ws.any pU),H):=by
  have:=Zc (H:=H) (m:=m-1) (v:=v) (fv:= .func (.func 116) #[] #[]) (n:=ws.length) (λi=>(ws[i]?.map pU).getD false) hlen U U (λi hi=>by
   have hx:ws[i]? =some ws[i]:=aUf hi;obtain⟨b,o,g1,g2,g3⟩:=hw.dM eP hx .i64;have l1:=(g3 H rfl).2.1 0 _ rfl;refine⟨_,_,g1,l1,?_⟩;have:=Zg (m:=m-1-1-1) U ws[i] H
   rw[hx];exact this)
  rw[this,B1 ws pU _ λi x h=>by rw[h];rfl]
 by_cases c1:(ws.length:Int)=0
 ·have e1:((ws.length:Int)==0)=true:=by simpa using c1
  have hno:wOk ws=false:=by unfold wOk;simp only[c1,decide_true,Bool.true_or,Bool.not_true]
  refine dL (dZ rfl rfl) U ⟨H,.pointer none,?_,Fr.dS _ _,by rw[hno];exact Mp⟩
  rw[B0];simp only[gsR,hlen,e1]
 ·have e1:((ws.length:Int)==0)=false:=by simpa using c1
  by_cases c2:(3:Int)<ws.length
  ·have hno:wOk ws=false:=by unfold wOk;simp only[c2,decide_true,Bool.true_or,Bool.or_true,Bool.not_true]
   refine dL (dZ rfl rfl) U ⟨H,.pointer none,?_,Fr.dS _ _,by rw[hno];exact Mp⟩
   rw[B0];simp only[gsR,hlen,e1,c2,decide_true]
  ·cases c3:ws.any pU with
   |true=>
    have hno:wOk ws=false:=by unfold wOk;simp only[c3,Bool.or_true,Bool.not_true]
    rw[c3] at hcf;refine dL (dZ rfl rfl) U ⟨H,.pointer none,?_,Fr.dS _ _,by rw[hno];exact Mp⟩
    rw[B0];simp only[gsR,hlen,e1,c2,decide_false,hcf]
   |false=>
    have hyes:wOk ws=true:=by unfold wOk;simp only[c1,c2,c3,decide_false,Bool.or_false,Bool.not_false]
    rw[c3] at hcf;obtain⟨H1,u1,g1,g2,g3,g4⟩:=Ft (m:=m-1) hw (λh=>c1 (by rw[h];rfl)) U U
    obtain⟨H2,u2,q1,q2,q3,q4⟩:=Ft (m:=m-1) (hw.ext g2) (λh=>c1 (by rw[h];rfl)) U U
    have hb:bld prog 197 [(0,u1),(1,u2)]=some (.agg #[u1,u2,.I 0]):=by
     rcases g3 with⟨_,⟨rfl,_⟩|⟨_,_,_,rfl,_⟩⟩<;>rcases q3 with⟨_,⟨rfl,_⟩|⟨_,_,_,rfl,_⟩⟩<;>rfl
    refine dL (dZ rfl rfl) U ⟨H2++[.cells (Value.agg #[u1,u2,.I 0]).cells.toList 197 .fix],.Q H2.length 0,?_,(g2.tr q2).tr (Fr.app _ _ _),by rw[hyes];exact ePW _⟩
    rw[B0];simp only[gsR,hlen,e1,c2,decide_false,hcf,g1,q1,hb]
theorem Zf (hp:PV H p ev wv nv)(hm:17592186045000<m)(hm2:m<=72057594037927936): ∃H',lvl prog aY m (.func 73) [plV p ev wv nv] H=some (.int .u16 (uY (dT p)),H')/\Ext H H':=by
 have h1:=hp.be;have h2:=hp.bw;have h3:=hp.bn;obtain⟨H0,hH0⟩:=aD (H++[plB p ev wv nv]);have x0:Ext H H0:=by rw[hH0];exact Fr.app _ _ _
 have b0:H0[H.length]? =some (plB p ev wv nv):=by rw[hH0];exact cV _ _
 have l11:=fE b0;have g1:=aKb (H:=H0) (m:=m-1) U p ev wv nv
 obtain⟨H1,hH1⟩:=aD (H0++[plB p ev wv nv]);have x1:Ext H0 H1:=by rw[hH1];exact Fr.app _ _ _
 rw[<-hH1] at g1;have b1:=cP b0 x1;have l11':=fE b1;obtain⟨H2,g2,x2⟩:=aJ5 (m:=m-1) (hp.ext (x0.tr x1)) U U
 have b2:=cP b1 x2;have w2:=cQ b2 8 _ rfl;have la2:=cQ b2 2 _ rfl;have p2:=hp.ext ((x0.tr x1).tr x2);have wl:=p2.w.eC;obtain⟨H3,u3,g3,x3,g4⟩:=aKf p2.w (m:=m-1) U U U
 have b3:=cP b2 x3;have n3:=cQ b3 10 _ rfl;have no3:=cQ b3 0 _ rfl;have p3:=p2.ext x3;have nl:=p3.n.Zb;have hcf:lvl prog aY (m-1) (.func 113) [nv,.func (.func 110) #[] #[.pointer (some ⟨H.length,0,none⟩)]] H3=some (.bool (p.next.any λr=>decide ((r.length:Int)≠p.nodes)),H3):=by
  have:=aJ4 (H:=H3) (m:=m-1) (v:=nv) (fv:= .func (.func 110) #[] #[.pointer (some ⟨H.length,0,none⟩)]) (n:=p.next.length) (λi=>(p.next[i]?.map λr=>decide ((r.length:Int)≠p.nodes)).getD false) nl U U (λi hi=>by
   have hx:p.next[i]? =some p.next[i]:=aUf hi;obtain⟨a,u,q1,q2,q3⟩:=p3.n.Fp hx .i64;refine⟨a,u,q1,q2,?_⟩;have hlen:=q3.eC;have:lvl prog aY (m-1-1-1+0) (.func 110) [u,.Q H.length 0] H3=some (.bool (decide ((p.next[i].length:Int)≠p.nodes)),H3):=by
    refine aS (dZ rfl rfl) U ?_
    rw[aJf];have e:(((p.next[i].length:Nat):Int)!=p.nodes)=decide ((p.next[i].length:Int)≠p.nodes):=by
     rw[Bool.eq_iff_iff];simp
    simp only[gsR,hlen,no3,e]
   rw[hx];exact this)
  rw[this,B1 p.next (λr=>decide ((r.length:Int)≠p.nodes)) _ λi x h=>by rw[h];rfl]
 have hn1:((p.weights.length:Int)!=p.lanes)= !decide ((p.weights.length:Int)=p.lanes):=by rw[Bool.eq_iff_iff];simp
 have hn2:((p.next.length:Int)!=p.nodes)= !decide ((p.next.length:Int)=p.nodes):=by rw[Bool.eq_iff_iff];simp
 have hr:(p.next.any λr=>decide ((r.length:Int)≠p.nodes))= !uZ p:=by unfold uZ;rw[Bool.not_not]
 rw[hr] at hcf;have hz:uY false=120:=rfl;have hz1:uY true=0:=rfl;refine iD (dZ rfl rfl) U ?_
 rw[aJM];unfold dT;cases c1:oW p with
 |false=>exact⟨H1,by simp only[gsR,gL,<-hH0,l11,g1,c1,hz,hz1,Bool.false_and,aUA],x0.tr x1⟩
 |true=>
   cases c2:wS p with
   |false=>exact⟨H2,by simp only[gsR,gL,<-hH0,l11,g1,l11',g2,c1,c2,hz,hz1,Bool.false_and,aUA],(x0.tr x1).tr x2⟩
   |true=>
     cases c3:decide ((p.weights.length:Int)=p.lanes) with
     |false=>exact⟨H2,by simp only[gsR,gL,<-hH0,l11,g1,l11',g2,w2,wl,la2,hn1,c1,c2,c3,hz,hz1,Bool.false_and,aUA],(x0.tr x1).tr x2⟩
     |true=>
       cases c4:wOk p.weights with
       |false=>exact⟨H3,by simp only[gsR,gL,<-hH0,l11,g1,l11',g2,w2,wl,la2,hn1,g3,g4,c1,c2,c3,c4,hz,hz1,Bool.false_and,aUA],((x0.tr x1).tr x2).tr x3⟩
       |true=>
         cases c5:decide ((p.next.length:Int)=p.nodes) with
         |false=>exact⟨H3,by simp only[gsR,gL,<-hH0,l11,g1,l11',g2,w2,wl,la2,hn1,g3,g4,n3,nl,no3,hn2,c1,c2,c3,c4,c5,hz,hz1,Bool.false_and,aUA],((x0.tr x1).tr x2).tr x3⟩
         |true=>
           cases c6:uZ p with
           |false=>exact⟨H3,by simp only[gsR,gL,<-hH0,l11,g1,l11',g2,w2,wl,la2,hn1,g3,g4,n3,nl,no3,hn2,hcf,c1,c2,c3,c4,c5,c6,hz,hz1,Bool.false_and,aUA],((x0.tr x1).tr x2).tr x3⟩
           |true=>
             exact⟨H3,by simp only[gsR,gL,<-hH0,l11,g1,l11',g2,w2,wl,la2,hn1,g3,g4,n3,nl,no3,hn2,hcf,c1,c2,c3,c4,c5,c6,hz,hz1,Bool.false_and,aUA],((x0.tr x1).tr x2).tr x3⟩
end
def dd:List Int->List Int
 |[]=>[]
 |[x]=>[x]
 |x::y::r=>if x=y then dd (y::r) else x::dd (y::r)
theorem Zk: ∀(l:List Int)(a b:Int),dd (l++[a,b])=if a=b then dd (l++[a]) else dd (l++[a])++[b]
 |[],a,b=>by
  by_cases h:a=b<;>simp[dd,h]
 |[x],a,b=>by
  by_cases h:a=b<;>by_cases h2:x=a<;>simp[dd,h,h2]<;>simp_all
 |x::y::l,a,b=>by
  have ih:=Zk (y::l) a b;simp only[List.cons_append] at ih⊢;simp only[dd];by_cases h2:x=y
  ·rw[if_pos h2,if_pos h2,ih]
  ·rw[if_neg h2,if_neg h2,ih]
   by_cases h:a=b
   ·rw[if_pos h,if_pos h]
   ·rw[if_neg h,if_neg h]
    rfl
theorem Zl {zs:List Int}{j:Nat}{a b:Int}(h0:0<j)(ha:zs[j-1]? =some a)(hb:zs[j]? =some b):dd (zs.take (j+1))=if b=a then dd (zs.take j) else dd (zs.take j)++[b]:=by
 have e1:zs.take j=zs.take (j-1)++[a]:=by
  have:=List.take_add_one (l:=zs) (i:=j-1);rw[ha,show j-1+1=j by omega] at this
  simpa using this
 have e2:zs.take (j+1)=zs.take (j-1)++[a,b]:=by
  rw[List.take_add_one,hb,e1];simp
 rw[e2,Zk,<-e1];by_cases h:a=b
 ·rw[if_pos h,if_pos h.symm]
 ·rw[if_neg h,if_neg (Ne.symm h)]
theorem Zj: ∀l:List Int,(dd l).length<=l.length
 |[]=>aUi _
 |[x]=>aUi _
 |x::y::r=>by
  have:=Zj (y::r);unfold dd;split
  ·simp only[aUz] at *; omega
  ·simp only[aUz] at *; omega
section
variable {H : aF} {m c cap : Nat} {ys rest : List Value}
theorem ia {o n i:Nat}(h:i<n):cN 1 (.slice (some ⟨c,o,none⟩) n cap) (.I (i:Nat))=some (.Q c (o+i)):=by
 rw[mP _ _ _ _ _ _ _ U U]
 simp
def mS (ys:List Int)(rest:List Value):Blk:= .cells (ys.map (Value.int .i64)++rest) 3 .row
theorem zK {ys:List Int}{i:Nat}{y:Int}(hc:H[c]? =some (mS ys rest))(hi:ys[i]? =some y):ld1 (.Q c i) H=some (.I y,H):=by
 have:=(aUd.mp hi).1;rw[fI,hc];unfold mS;rw[rV,aUg (by rw[aUr];exact this),aUq,hi]
 rfl
theorem Zm {ys:List Int}{i:Nat}(y:Int)(hc:H[c]? =some (mS ys rest))(hi:i<ys.length):stN 1 (.Q c i) (.I y) H=some (undef,H.set c (mS (ys.set i y) rest)):=by
 rw[fV 1 _ _ _ rfl,hc];unfold mS;have e:(Value.I y).cells.toList=[.I y]:=rfl;rw[e,iW _ _ _ _ _ _ aC (by simp;omega) rfl]
 congr 3
 simp only[cU];rw[List.set_append_left _ _ (by rw[aUr];exact hi),<-List.map_set]
theorem aKi {zs ys:List Int}{k:Nat}(hc:H[c]? =some (mS ys rest))(hy:ys.length=zs.length)(hk:k<zs.length)(hcap:zs.length<=cap)(hrest:rest.length=cap-zs.length)(hd:ys.take k=dd zs):
  ∃w H',slc prog 1 (.slice (some ⟨c,0,none⟩) zs.length cap) (some (.I (k:Nat))) none none H=some (w,H)/\clr 1 [.I 0] w H=some (.tuple #[],H')/\
   slc prog 1 (.slice (some ⟨c,0,none⟩) zs.length cap) none (some (.I (k:Nat))) none H'=some (.slice (some ⟨c,0,none⟩) k cap,H')/\Iw H' (.slice (some ⟨c,0,none⟩) k cap) (dd zs)/\H'.length=H.length/\ ∀b,b≠c->H'[b]? =H[b]? :=by
 have hlt:=(aUd.mp hc).1;have g1:=oU (P:=prog) (H:=H) (o:=0) (sz:=1) (len:=zs.length) (cap:=cap) (lo:=some (.I (k:Nat))) (hi:=none) (mx:=none) (h:=zs.length) (m:=cap) (l:=k) hc (λ_=>szI) (gX 0 .i64 k) rfl rfl U U (aUi _)
 rw[aUy,Nat.mul_one] at g1;obtain⟨H',hH'⟩: ∃H',H'=H.set c (mS (ys.take k) ((List.replicate (zs.length-k) [Value.I 0]).flatten++rest)):=⟨_,rfl⟩;have hc':H'[c]? =some (mS (ys.take k) ((List.replicate (zs.length-k) [Value.I 0]).flatten++rest)):=by rw[hH'];exact aUj hlt
 have hyk:(ys.take k).length=k:=by rw[List.length_take];omega
 have g2:clr 1 [.I 0] (.slice (some ⟨c,k,none⟩) (zs.length-k) (cap-k)) H=some (.tuple #[],H'):=by
  unfold clr;simp only;rw[if_neg U,hc]
  unfold mS;simp only;rw[if_pos ⟨by decide,by simp;omega,rfl,rfl⟩,hH']
  congr 3
  unfold mS
  congr 1
  have hsplit:ys.map (Value.int .i64)=(ys.take k).map (Value.int .i64)++(ys.drop k).map (Value.int .i64):=by rw[<-List.map_append,List.take_append_drop]
  have hl:((List.replicate (zs.length-k) [Value.I 0]).flatten).length=zs.length-k:=by simp
  rw[hsplit];have:=sD ((List.replicate (zs.length-k) [Value.I 0]).flatten) ((ys.drop k).map (Value.int .i64)) ((ys.take k).map (Value.int .i64)) rest (by rw[hl,aUr,List.length_drop];omega)
  rw[aUr,hyk] at this;rw[this,aUk]
 have g3:=oU (P:=prog) (H:=H') (o:=0) (sz:=1) (len:=zs.length) (cap:=cap) (lo:=none) (hi:=some (.I (k:Nat))) (mx:=none) (h:=k) (m:=cap) (l:=0) hc' (λ_=>szI) rfl (gX _ .i64 k) rfl U U (aUi _)
 rw[Nat.zero_mul,aUy,Nat.sub_zero,Nat.sub_zero] at g3;refine⟨_,H',g1,g2,g3,?_,by rw[hH'];simp,λb hb=>by rw[hH'];exact aUe (Ne.symm hb)⟩
 have hdl:(dd zs).length=k:=by rw[<-hd,hyk]
 refine⟨by rw[tL,aUr,Nat.mul_one],.inr ⟨c,cap,(List.replicate (zs.length-k) [Value.I 0]).flatten++rest,by rw[hdl],by omega,?_,by rw[tL,hc',hd];rfl⟩⟩
 simp[hdl];omega
def Zh (H0:aF)(c cap:Nat)(zs:List Int)(v:Value)(H':aF):Prop:=Iw H' v (dd zs)/\(∀b,aT v b->b=c)/\H'.length=H0.length/\ ∀b,b≠c->H'[b]? =H0[b]?
theorem aKk {zs:List Int}{rest:List Value}{k0 kk:Nat}{H0:aF}{Q:aF->Value->Prop}(hQ: ∀H' v,Zh H0 c cap zs v H'->Q H' v)(hcap:zs.length<=cap)(hrest:rest.length=cap-zs.length)(hn:zs.length<=72057594037927936)(h1:1<=k0):
  ∀(q j t k:Nat)(H:aF)(ys:List Int),zs.length-j=q->j<=zs.length->q<k->k0<j->t<j->H[c]? =some (mS ys rest)->ys.length=zs.length->ys.take t=dd (zs.take j)->ys.drop t=zs.drop t->H.length=H0.length->(∀b,b≠c->H[b]? =H0[b]?)-> ∀(x2:Value),
  ∃H' v,aL k (aO prog (lvl prog aY m) (aL m) Lw) (Lx (lvl prog aY m) (aL m) (Bc kk (aO prog (lvl prog aY m) (aL m) Fg) (Bz (lvl prog aY m) (aL m)))) (some (.slice (some ⟨c,0,none⟩) zs.length cap)::aG 1 (x2::some (.I (t:Nat))::some (.slice (some ⟨c,k0,none⟩) (zs.length-k0) (cap-k0))::some (.I (j-k0:Nat))::aG 55 [])) H=some (v,H')/\Q H' v:=by
 intro q;induction q with
 |zero=>
  intro j t k H ys hr hj hk hkj htj hc hy hd hdr hl hf;intros;obtain⟨k,rfl⟩:=aB k U
  obtain rfl:j=zs.length:=U
  rw[List.take_of_length_le (aUi _)] at hd;obtain⟨w,H',g1,g2,g3,g4,g5,g6⟩:=aKi hc hy htj hcap hrest hd;have e:decide (((zs.length-k0:Nat):Int)<(zs.length-k0:Nat))=false:=by simp
  refine⟨H',.slice (some ⟨c,0,none⟩) t cap,?_,hQ _ _ ⟨g4,λb ⟨_,_,_,h⟩=>by cases h;rfl,by omega,λb hb=>by rw[g6 b hb,hf b hb]⟩⟩
  rw[bS,Yr];simp only[gsR,tI,e];rw[aJc];simp only[gsR,g1,g2,g3];rw[aJe];rfl
 |succ q ih=>
  intro j t k H ys hr hj hk hkj htj hc hy hd hdr hl hf;intros;obtain⟨k,rfl⟩:=aB k U
  have e:decide (((j-k0:Nat):Int)<(zs.length-k0:Nat))=true:=by simp;omega
  have e3:IntKind.i64.wrap (((j-k0:Nat):Int)+1)=((j+1-k0:Nat):Int):=by rw[bJ U U];omega
  have e4:IntKind.i64.wrap (((j-k0:Nat):Int)-1)=((j-1-k0:Nat):Int):=by rw[bJ U U];omega
  have e5:=aA (i:=t) U
  have get: ∀i,t<=i->ys[i]? =zs[i]? :=λi hi=>by
   have:=congrArg (·[i-t]?) hdr
   simp only[List.getElem?_drop] at this;rwa [show t+(i-t)=i by omega] at this
  have ga:ys[j-1]? =some (zs[j-1]' U):=by rw[get _ U];exact aUf U
  have gb:ys[j]? =some (zs[j]' U):=by rw[get _ U];exact aUf U
  have i1:cN 1 (.slice (some ⟨c,k0,none⟩) (zs.length-k0) (cap-k0)) (.I (j-k0:Nat))=some (.Q c j):=by rw[ia U,show k0+(j-k0)=j by omega]
  have i2:cN 1 (.slice (some ⟨c,k0,none⟩) (zs.length-k0) (cap-k0)) (.I (j-1-k0:Nat))=some (.Q c (j-1)):=by rw[ia U,show k0+(j-1-k0)=j-1 by omega]
  have i3:cN 1 (.slice (some ⟨c,0,none⟩) zs.length cap) (.I (t:Nat))=some (.Q c t):=by rw[ia U,aUy]
  have l1:=zK hc gb;have l2:=zK hc ga;have s1:=Zm (i:=t) (zs[j]' U) hc U
  have hdt:=Zl (zs:=zs) (j:=j) U (aUf (show j-1<zs.length by omega)) (aUf (show j<zs.length by omega))
  rw[bS,Yr];by_cases hx:zs[j]' U=zs[j-1]' U
  ·have d:((zs[j]' U)!=(zs[j-1]' U))=false:=by simp[hx]
   rw[if_pos hx] at hdt;simp only[gsR,tI,e,i1,l1,eM,e4,i2,l2,d,aV,e3];exact ih (j+1) t k H ys U U U U U hc hy (by rw[hdt];exact hd) hdr hl hf ..
  ·have d:((zs[j]' U)!=(zs[j-1]' U))=true:=by simp[hx]
   rw[if_neg hx] at hdt;simp only[gsR,tI,e,i1,l1,eM,e4,i2,l2,d,i3,s1,aV,e3,e5];refine ih (j+1) (t+1) k _ (ys.set t (zs[j]' U)) U U U U U (aUj (aUd.mp hc).1) (by rw[List.length_set];exact hy) ?_ ?_ (by rw[List.length_set];exact hl) (λb hb=>by rw[aUe (Ne.symm hb)];exact hf b hb) ..
   ·rw[hdt,<-hd,List.take_add_one,aUj U,List.take_set_of_le (aUi _)]
    rfl
   ·rw[List.drop_set_of_lt U,<-aUW (i:=1),hdr,aUW]
theorem aKj {zs:List Int}{rest:List Value}{Q:aF->Value->Prop}(hQ: ∀H' v,Zh H c cap zs v H'->Q H' v)(hcap:zs.length<=cap)(hrest:rest.length=cap-zs.length)(hn:zs.length+10<m)(hm:m<=72057594037927936)(hc:H[c]? =some (mS zs rest)):
  ∀(q j k:Nat),zs.length-j=q->1<=j->j<=zs.length->q<k->dd (zs.take j)=zs.take j-> ∀(x2 x4 x5:Value),
  ∃H' v,aL k (aO prog (lvl prog aY m) (aL m) Fg) (Bz (lvl prog aY m) (aL m)) (some (.slice (some ⟨c,0,none⟩) zs.length cap)::aG 1 (x2::some (.I (j:Nat))::x4::x5::aG 55 [])) H=some (v,H')/\Q H' v:=by
 intro q;induction q with
 |zero=>
  intro j k hr h1 hj hk hd;intros;obtain⟨k,rfl⟩:=aB k U
  obtain rfl:j=zs.length:=U
  rw[List.take_of_length_le (aUi _)] at hd;have e:decide ((zs.length:Int)<zs.length)=false:=by simp
  refine⟨H,.slice (some ⟨c,0,none⟩) zs.length cap,?_,hQ _ _ ⟨?_,λb ⟨_,_,_,h⟩=>by cases h;rfl,rfl,λb hb=>rfl⟩⟩
  ·rw[bS,Yq]
   simp only[gsR,tI,e];rw[aJb];rfl
  ·rw[hd]
   exact⟨by rw[tL,aUr,Nat.mul_one],.inr ⟨c,cap,rest,rfl,hcap,by rw[hrest,Nat.mul_one],by rw[tL,hc];rfl⟩⟩
 |succ q ih=>
  intro j k hr h1 hj hk hd;intros;obtain⟨k,rfl⟩:=aB k U
  have e:decide ((j:Int)<zs.length)=true:=by simp;omega
  have e3:=aA (i:=j) U
  have e4:IntKind.i64.wrap ((j:Int)-1)=((j-1:Nat):Int):=by rw[bJ U U];omega
  have i1:cN 1 (.slice (some ⟨c,0,none⟩) zs.length cap) (.I (j:Nat))=some (.Q c j):=by rw[ia U,aUy]
  have i2:cN 1 (.slice (some ⟨c,0,none⟩) zs.length cap) (.I (j-1:Nat))=some (.Q c (j-1)):=by rw[ia U,aUy]
  have ga:zs[j-1]? =some (zs[j-1]' U):=aUf U
  have gb:zs[j]? =some (zs[j]' U):=aUf U
  have l1:=zK hc gb;have l2:=zK hc ga;have hdt:=Zl (zs:=zs) (j:=j) U ga gb
  rw[bS,Yq];by_cases hx:zs[j]' U=zs[j-1]' U
  ·have d:((zs[j]' U)==(zs[j-1]' U))=true:=by simp[hx]
   have g1:=oU (P:=prog) (H:=H) (o:=0) (sz:=1) (len:=zs.length) (cap:=cap) (lo:=some (.I (j:Nat))) (hi:=none) (mx:=none) (h:=zs.length) (m:=cap) (l:=j) hc (λ_=>szI) (gX 0 .i64 j) rfl rfl U U (aUi _)
   rw[aUy,Nat.mul_one] at g1;rw[if_pos hx] at hdt;have e1:(1:Int)=((j+1-j:Nat):Int):=U
   simp only[gsR,tI,e,i1,l1,eM,e4,i2,l2,d,g1];have:=aKk (m:=m) (kk:=k) (H0:=H) (cap:=cap) (c:=c) (k0:=j) hQ hcap hrest U h1 (zs.length-(j+1)) (j+1) j m H zs rfl U U U U hc rfl (by rw[hdt,hd]) rfl rfl (λ_ _=>rfl)
   rw[<-e1] at this;exact this ..
  ·have d:((zs[j]' U)==(zs[j-1]' U))=false:=by simp[hx]
   rw[if_neg hx] at hdt;simp only[gsR,tI,e,i1,l1,eM,e4,i2,l2,d,aV,e3];exact ih (j+1) k U U U U (by rw[hdt,hd,List.take_add_one,gb];rfl) ..
theorem Zi {v:Value}{zs:List Int}{H0:aF}(hv:Iw H v zs)(hnew:New H0 v)(he:Ext H0 H)(hn:zs.length+20<m)(hm:m<=72057594037927936): ∃H' u,lvl prog aY m (.func 107) [v] H=some (u,H')/\Ext H0 H'/\Iw H' u (dd zs)/\New H0 u:=by
 have hlen:=hv.nY;refine dL (dZ rfl rfl) U ?_
 rw[aJd];by_cases h2:zs.length<2
 ·have e:decide ((zs.length:Int)<2)=true:=by simp;omega
  have hd:dd zs=zs:=by
   match zs,h2 with
   |[],_=>rfl
   |[x],_=>rfl
   |x::y::r,h=>exact absurd h (by simp only[aUz];omega)
  refine⟨H,v,?_,he,by rw[hd];exact hv,hnew⟩
  simp only[gsR,hlen,e]
 ·have e:decide ((zs.length:Int)<2)=false:=by simp;omega
  obtain⟨hcs,⟨rfl,h0⟩|⟨c,cap,rest,rfl,h1,h2',h3⟩⟩:=hv
  ·omega
  ·rw[tL] at h3
   rw[Nat.mul_one] at h2';have hcl:=hnew c ⟨_,_,_,rfl⟩;simp only[gsR,hlen,e];have hd1:dd (zs.take 1)=zs.take 1:=by
    match zs with
    |[]=>rfl
    |x::r=>rfl
   refine aKj (λH' u hC=> ?_) h1 h2' U U h3 (zs.length-1) 1 (m-1) rfl (aUi _) U U hd1 ..
   obtain⟨g2,g3,g4,g5⟩:=hC;refine⟨⟨by rw[g4];exact he.1,λb hb _=> ?_⟩,g2,λb hb=>by rw[g3 b hb];exact hcl⟩
   rw[g5 b U,he.2 b hb id]
end
def oX (v:Int)(e:Ed):List Int:=if e.1=e.2 then [] else if e.1=v then [e.2] else if e.2=v then [e.1] else []
def lZ (es:List Ed)(v:Int):List Int:=es.flatMap (oX v)
def bes (es:List Ed)(v:Int):List Int:=dd (srt (lZ es v))
theorem Fu (v:Int): ∀es:List Ed,(lZ es v).length<=es.length
 |[]=>aUi _
 |e::es=>by
  have:=Fu v es;unfold lZ at*;rw[List.flatMap_cons,aUp];have h1:(oX v e).length<=1:=by
   unfold oX;split
   ·simp
   ·split
    ·simp
    ·split<;>simp
  simp only[aUz];omega
theorem aKh {es:List Ed}{i:Nat}{e:Ed}(v:Int)(h:es[i]? =some e):lZ (es.take (i+1)) v=lZ (es.take i) v++oX v e:=by
 unfold lZ;rw[List.take_add_one,h];simp
theorem mR (H:aF)(k:Int):b9 3 1 1 [.I 0] [(0,.I k)] H=some (.slice (some ⟨H.length,0,none⟩) 1 1,H++[.cells (inC k) 3 .row]):=rfl
theorem zEd:Blk.cells [Value.int .i64 0,.int .i64 0] 128 .fix= .cells (edC (0,0)) 128 .fix:=rfl
def edB (y:Ed):Blk:= .cells (edC y) 128 .fix
theorem aKn (y:Ed)(H:aF):stN 2 (.Q H.length 0) (edV y) (H++[.cells (edC (0,0)) 128 .fix])=some (undef,H++[edB y]):=by
 rw[fV 2 _ _ _ rfl,cV,iW _ _ _ _ _ _ aC (by simp[edC,edV,Value.cells]) rfl]
 simp[edC,edV,Value.cells,cU,edB]
theorem aKl {H:aF}{b:Nat}{y:Ed}(h:H[b]? =some (edB y)):ld1 (.Q b 0) H=some (.I y.1,H):=by rw[fI,h];rfl
theorem aKm {H:aF}{b:Nat}{y:Ed}(h:H[b]? =some (edB y)):ld1 (.Q b 1) H=some (.I y.2,H):=by rw[fI,h];rfl
section
variable {H : aF} {m : Nat} {p : PlanD} {ev wv nv : Value}
theorem aKg {v:Int}{Q:aF->Value->Prop}(hQ: ∀H' u,Ext H H'->Iw H' u (bes p.edges v)->New H u->Q H' u)(hx:Es H ev p.edges)(hL:p.edges.length<=17592186043000)(hn:p.edges.length+30<m)(hm:m<=72057594037927936): ∀(q i k:Nat)(H1:aF)(acc:Value),p.edges.length-i=q->i<=p.edges.length->q<k->Ext H H1->Iw H1 acc (lZ (p.edges.take i) v)->New H acc-> ∀(x4:Value),
  ∃H' u,aL k (aO prog (lvl prog aY m) (aL m) Mj) (Mk (lvl prog aY m) (aL m)) (aG 1 (some (.I v)::aG 2 (x4::acc::aG 3 (ev::some (.I p.edges.length)::some (.I (i:Nat))::aG 34 [])))) H1=some (u,H')/\Q H' u:=by
 intro q;induction q with
 |zero=>
  intro i k H1 acc hr hi hk he ha hnew;intros;obtain⟨k,rfl⟩:=aB k U
  obtain rfl:i=p.edges.length:=U
  have e:decide ((p.edges.length:Int)<p.edges.length)=false:=by simp
  rw[List.take_of_length_le (aUi _)] at ha;have hcl:=Fu v p.edges;obtain⟨H2,g1,g2,g3⟩:=X1 ha U hnew he
  have g1':=Y8 m U [acc] H1
  rw[g1] at g1';have hsl:=pR (lZ p.edges v);obtain⟨H3,u,q1,q2,q3,q4⟩:=Zi (m:=m) g2 hnew g3 U U
  refine⟨H3,u,?_,hQ _ _ q2 q3 q4⟩;rw[bS,Y4];simp only[gsR,e];rw[aJK];simp only[gsR,g1',q1]
 |succ q ih=>
  intro i k H1 acc hr hi hk he ha hnew;intros;obtain⟨k,rfl⟩:=aB k U
  have e:decide ((i:Int)<p.edges.length)=true:=by simp;omega
  have e3:=aA (i:=i) U
  have hxi:p.edges[i]? =some p.edges[i]:=aUf U
  obtain⟨b,o,g1,g2,g3⟩:=(hx.ext he).dM nF hxi .i64;obtain⟨y,hy⟩:=aD (p.edges[i]);have l1:ldN 2 (.Q b o) H1=some (edV y,H1):=by rw[hy];exact(g3 H1 rfl).1
  rw[<-hy] at hxi;have hct:=aKh v hxi;have hcl:=Fu v (p.edges.take i);rw[List.length_take] at hcl;have st:=aKn y H1;obtain⟨H2,hH2⟩:=aD (H1++[edB y]);rw[<-hH2] at st;have x1:Ext H1 H2:=by rw[hH2];exact Fr.app _ _ _
  have hb:H2[H1.length]? =some (edB y):=by rw[hH2];exact cV _ _
  have la:=aKl hb;have lb:=aKm hb;have ha2:Iw H2 acc (lZ (p.edges.take i) v):=by rw[hH2];exact ha.uU _
  rw[bS,Y4];by_cases c1:y.1=y.2
  ·have d1:(y.1==y.2)=true:=by simpa using c1
   have hc0:oX v y=[]:=if_pos c1;rw[hc0,List.append_nil] at hct;simp only[gsR,e,g1,l1,zEd,st,la,lb,d1,aV,e3];exact ih (i+1) k H2 acc U U U (he.tr x1) (by rw[hct];exact ha2) hnew ..
  ·have d1:(y.1==y.2)=false:=by simpa using c1
   by_cases c2:y.1=v
   ·have d2:(y.1==v)=true:=by simpa using c2
    have hc0:oX v y=[y.2]:=by unfold oX;rw[if_neg c1,if_pos c2]
    rw[hc0] at hct;obtain⟨u,H3,t1,t2,t3,t4⟩:=ha2.pS (by':=8) eP mQ aC y.2 hnew (he.tr x1) (eD (n:=17592186044100) aC U)
    simp only[gsR,e,g1,l1,zEd,st,la,lb,d1,d2,mR,t1,aV,e3];exact ih (i+1) k H3 u U U U t4 (by rw[hct];exact t2) t3 ..
   ·have d2:(y.1==v)=false:=by simpa using c2
    by_cases c3:y.2=v
    ·have d3:(y.2==v)=true:=by simpa using c3
     have hc0:oX v y=[y.1]:=by unfold oX;rw[if_neg c1,if_neg c2,if_pos c3]
     rw[hc0] at hct;obtain⟨u,H3,t1,t2,t3,t4⟩:=ha2.pS (by':=8) eP mQ aC y.1 hnew (he.tr x1) (eD (n:=17592186044100) aC U)
     simp only[gsR,e,g1,l1,zEd,st,la,lb,d1,d2,d3,mR,t1,aV,e3];exact ih (i+1) k H3 u U U U t4 (by rw[hct];exact t2) t3 ..
    ·have d3:(y.2==v)=false:=by simpa using c3
     have hc0:oX v y=[]:=by unfold oX;rw[if_neg c1,if_neg c2,if_neg c3]
     rw[hc0,List.append_nil] at hct;simp only[gsR,e,g1,l1,zEd,st,la,lb,d1,d2,d3,aV,e3];exact ih (i+1) k H2 acc U U U (he.tr x1) (by rw[hct];exact ha2) hnew ..
theorem B2 (hp:PV H p ev wv nv)(hn:p.edges.length+40<m)(hm:m<=72057594037927936)(v:Int): ∃H' u,lvl prog aY m (.func 67) [plV p ev wv nv,.I v] H=some (u,H')/\Ext H H'/\Iw H' u (bes p.edges v)/\New H u:=by
 refine dL (dZ rfl rfl) U ?_
 have hb:=cV H (plB p ev wv nv);have l1:=cQ hb 1 _ rfl;have hlen:=hp.e.eC;rw[aJL];simp only[gsR,gL,l1,hlen];exact aKg (λH' u h1 h2 h3=>⟨h1,h2,h3⟩) hp.e hp.be (m:=m-1) U U p.edges.length 0 (m-1) _ _ U U U (Fr.app _ _ _) (Rw.fD (el:=inC)) (New.iE _) ..
end
def pV (xs:List Int)(w:Int):Int:=fst (λj=>xs[j]? ==some w) xs.length 0
def zL (es:List Ed)(v w:Int):Int:=if pV (bes es v) w<0 then pV (bes es v) w else pV (bes es v) w+1
def mT (es:List Ed)(v:Nat):List Ed:=((bes es v).filter λw=>wi w 0 5).map λw=>((v:Int),w)
def jL (p:PlanD):Nat:=(min (max p.nodes 0) 6).toNat
def aU (p:PlanD):List Ed:=(List.range (jL p)).flatMap (mT p.edges)
abbrev Hs (H:aF)(v:Value)(xs:List Ed):=Rs edC 83 H v xs
abbrev Hw (H:aF)(v:Value)(xs:List Ed):=Rw edC 83 2 H v xs
theorem Fw (z:Int): ∀l,z∈dd l↔z∈l
 |[]=>Iff.rfl
 |[x]=>Iff.rfl
 |x::y::r=>by
  have ih:=Fw z (y::r);unfold dd;split
  ·rename_i h
   subst h;rw[ih];simp
  ·simp only[aUw] at ih⊢
   rw[ih]
theorem Mq: ∀l:List Int,l.Pairwise (· <= ·)->(dd l).Pairwise (· < ·)
 |[],_=>List.Pairwise.nil
 |[x],_=>by simp[dd]
 |x::y::r,h=>by
  obtain⟨h1,h2⟩:=List.pairwise_cons.mp h;have ih:=Mq (y::r) h2;unfold dd;split
  ·exact ih
  ·rename_i hne
   refine List.pairwise_cons.mpr ⟨λz hz=> ?_,ih⟩
   have hz':=(Fw z _).mp hz;have h3:=h1 y (by simp)
   have h4:y<=z:=by
    rcases aUw.mp hz' with rfl|hz'
    ·exact Int.le_refl _
    ·exact(List.pairwise_cons.mp h2).1 z hz'
   omega
theorem B3 (es:List Ed)(v:Int):(bes es v).Pairwise (· < ·):=Mq _ (Et _)
theorem Fx: ∀(l:List Int)(lo hi:Int),l.Pairwise (· < ·)->(∀x∈l,lo<=x/\x<=hi)->lo<=hi+1->(l.length:Int)<=hi+1-lo
 |[],lo,hi,_,_,h=>by simp;omega
 |x::r,lo,hi,hp,hb,h=>by
  obtain⟨h1,h2⟩:=List.pairwise_cons.mp hp;have hx:=hb x (by simp)
  have:=Fx r (x+1) hi h2 (λy hy=>⟨by have:=h1 y hy;omega,(hb y (by simp[hy])).2⟩) U
  simp only[aUz];omega
theorem Zo (l:List Int)(h:l.Pairwise (· < ·)):(l.filter λw=>wi w 0 5).length<=6:=by
 have:=Fx (l.filter λw=>wi w 0 5) 0 5 (h.sublist (List.filter_sublist)) (λx hx=>by
  have:=(List.mem_filter.mp hx).2;unfold wi at this;simpa using this) U
 omega
section
variable {H : aF} {m : Nat} {p : PlanD} {ev wv nv : Value}
theorem Zp (p:Nat->Bool): ∀q i,fst p q i= -1∨((i:Int)<=fst p q i/\fst p q i<(i+q:Nat))
 |0,i=> .inl rfl
 |q+1,i=>by
  unfold fst;split
  ·exact .inr ⟨by omega,by omega⟩
  ·rcases Zp p q (i+1) with h|h
   ·exact .inl h
   ·exact .inr ⟨by omega,by omega⟩
theorem aKs {v:Value}{xs:List Int}{w:Int}(hx:Is H v xs)(hn:xs.length<=72057594037927936): ∀(q i k:Nat),xs.length-i=q->i<=xs.length->q<k-> ∀(x4:Value),
  aL k (aO prog (lvl prog aY m) (aL m) Mm) (Fo (lvl prog aY m) (aL m)) (v::some (.I w)::aG 2 (x4::aG 2 (some (.I xs.length)::some (.I (i:Nat))::aG 10 []))) H=some (.I (fst (λj=>xs[j]? ==some w) q i),H):=by
 intro q;induction q with
 |zero=>
  intro i k hr hi hk;intros;obtain⟨k,rfl⟩:=aB k U
  obtain rfl:xs.length=i:=U
  have e:decide (((xs.length:Nat):Int)<(xs.length:Nat))=false:=by simp
  rw[bS,Y5];simp only[gsR,e];rw[aJO];rfl
 |succ q ih=>
  intro i k hr hi hk;intros;obtain⟨k,rfl⟩:=aB k U
  have e:decide ((i:Int)<(xs.length:Nat))=true:=aUX U
  have e3:=aA (i:=i) U
  have hxi:xs[i]? =some xs[i]:=aUf U
  obtain⟨b,o,g1,g2,g3⟩:=hx.dM eP hxi .i64;have l1:ld1 (.Q b o) H=some (.I xs[i],H):=(g3 H rfl).2.1 0 _ rfl;rw[bS,Y5];unfold fst;by_cases h:w=xs[i]
  ·have d:(w==xs[i])=true:=by rw[h];simp
   have d2:(xs[i]? ==some w)=true:=by rw[hxi,h];simp
   simp only[gsR,e,g1,l1,d];rw[aJQ,if_pos d2];rfl
  ·have d:(w==xs[i])=false:=by simpa using h
   have d2: ¬(xs[i]? ==some w)=true:=by rw[hxi];simpa using λhh=>h hh.symm
   simp only[gsR,e,g1,l1,d,aV,e3];rw[if_neg d2];exact ih (i+1) k U U U ..
theorem Zr {v:Value}{xs:List Int}(hx:Is H v xs)(w:Int)(hn:xs.length+10<m)(hm:m<=72057594037927936):lvl prog aY m (.func 97) [v,.I w] H=some (.I (pV xs w),H):=by
 have hlen:=hx.eC;refine aS (dZ rfl rfl) U ?_
 rw[aJP];simp only[gsR,hlen];exact aKs hx U xs.length 0 (m-1) U U U ..
theorem Fv (es:List Ed)(v:Int):(bes es v).length<=es.length:=by
 have h1:=Zj (srt (lZ es v));have h2:=pR (lZ es v);have h3:=Fu v es;unfold bes;omega
theorem Zt (hp:PV H p ev wv nv)(hn:p.edges.length+50<m)(hm:m<=72057594037927936)(v w:Int): ∃H',lvl prog aY m (.func 56) [plV p ev wv nv,.I v,.I w] H=some (.I (zL p.edges v w),H')/\Ext H H':=by
 have hL:=hp.be;obtain⟨H0,hH0⟩:=aD (H++[plB p ev wv nv]);have x0:Ext H H0:=by rw[hH0];exact Fr.app _ _ _
 have b0:H0[H.length]? =some (plB p ev wv nv):=by rw[hH0];exact cV _ _
 have l11:=fE b0;obtain⟨H1,u,g1,g2,g3,g4⟩:=B2 (hp.ext x0) (m:=m-1) U U v
 have hb:=Fv p.edges v;have g5:=Zr g3.rs w (m:=m-1) U U
 refine iD (dZ rfl rfl) U ⟨H1,?_,x0.tr g2⟩
 rw[aJJ];unfold zL;by_cases h:pV (bes p.edges v) w<0
 ·simp only[gsR,gL,<-hH0,l11,g1,g5,h,decide_true,if_true]
 ·have e3:IntKind.i64.wrap (pV (bes p.edges v) w+1)=pV (bes p.edges v) w+1:=by
   rcases Zp (λj=>(bes p.edges v)[j]? ==some w) (bes p.edges v).length 0 with hh|⟨h1,h2⟩
   ·unfold pV at h⊢
    rw[hh] at h;omega
   ·unfold pV
    exact bJ U U
  simp only[gsR,gL,<-hH0,l11,g1,g5,h,decide_false,if_false,aV,e3]
theorem Zn (a b:Int):bld prog 83 [(0,.I a),(1,.I b)]=some (edV (a,b)):=rfl
theorem aKo (H:aF)(y:Ed):b9 83 2 1 [.I 0,.I 0] [(0,edV y)] H=some (.slice (some ⟨H.length,0,none⟩) 1 1,H++[.cells (edC y) 83 .row]):=rfl
theorem aKr {H0:aF}{a:Nat}{v:Nat}{ws:List Int}{hs:List Ed}{Q:aF->Value->Prop}{K:Ex->K (Value×aF)}{bn:Int}{u:Value}(hs1:hs.length+(ws.filter λw=>wi w 0 5).length<=1000)(hws:ws.length<=72057594037927936)(hm:0<m)
  (hK: ∀(H':aF)(acc:Value),Ext H0 H'->Hw H' acc (hs++(ws.filter λw=>wi w 0 5).map λw=>((v:Int),w))->New H0 acc-> ∀(x2 x4 fC eG gF:Value),∃H2 u2,K .normal (aG 1 (some (.pointer (some ⟨a,0,none⟩))::x2::acc::x4::aG 5 (some (.int .i64 bn)::some (.int .i64 (IntKind.i64.wrap ((v:Int)+1)))::aG 4 (fC::eG::gF::aG 14 [])))) H'=some (u2,H2)/\Q H2 u2): ∀(q i k:Nat)(H1:aF)(acc:Value),ws.length-i=q->i<=ws.length->q<k->Ext H0 H1->Is H1 u ws->Apart H1 u acc->Hw H1 acc (hs++((ws.take i).filter λw=>wi w 0 5).map λw=>((v:Int),w))->New H0 acc-> ∀(x2:Value),
  ∃H' u2,aL k (aO prog (lvl prog aY m) (aL m) Mg) (Mi (lvl prog aY m) (aL m) K) (aG 1 (some (.Q a 0)::x2::acc::some (.I (v:Nat))::aG 5 (some (.I bn)::some (.I (v:Nat))::aG 4 (u::some (.I ws.length)::some (.I (i:Nat))::aG 14 [])))) H1=some (u2,H')/\Q H' u2:=by
 intro q;induction q with
 |zero=>
  intro i k H1 acc hr hi hk he hu hap ha hnew;intros;obtain⟨k,rfl⟩:=aB k U
  obtain rfl:ws.length=i:=U
  have e:decide (((ws.length:Nat):Int)<(ws.length:Nat))=false:=by simp
  rw[List.take_of_length_le (aUi _)] at ha;rw[bS,Y3];simp only[gsR,e];rw[aJH];simp only[gsR,aV];exact hK H1 acc he ha hnew ..
 |succ q ih=>
  intro i k H1 acc hr hi hk he hu hap ha hnew;intros;obtain⟨k,rfl⟩:=aB k U
  have e:decide ((i:Int)<(ws.length:Nat))=true:=aUX U
  have e3:=aA (i:=i) U
  have hxi:ws[i]? =some ws[i]:=aUf U
  obtain⟨b,o,g1,g2,g3⟩:=hu.dM eP hxi .i64;have l1:ld1 (.Q b o) H1=some (.I ws[i],H1):=(g3 H1 rfl).2.1 0 _ rfl;have htake:ws.take (i+1)=ws.take i++[ws[i]]:=by rw[List.take_add_one,hxi];rfl
  have w1:=Ze (m:=m) hm ws[i] 0 5 H1;have hfl:((ws.take i).filter λw=>wi w 0 5).length<=(ws.filter λw=>wi w 0 5).length:=(List.Sublist.filter _ (List.take_sublist i ws)).length_le
  rw[bS,Y3];cases c:wi ws[i] 0 5 with
  |true=>
   rw[c] at w1;obtain⟨acc2,H2,t1,t2,t3,t4,t5,t6⟩:=ha.E6 (by':=16) nF wR aC ((v:Int),ws[i]) hnew he (eD (n:=1000000) aC (by simp only[aUp,aUr];omega))
   simp only[gsR,e,g1,l1,w1,Zn,aKo,t1,aV,e3];refine ih (i+1) k H2 acc2 U U U t4 (hu.aIn hap t5) (hap.up t5 t6) ?_ t3 ..
   ·rw[htake,List.filter_append,List.map_append,<-aUk]
    have:([ws[i]].filter λw=>wi w 0 5)=[ws[i]]:=by rw[List.filter_cons,if_pos c];rfl
    rw[this];exact t2
  |false=>
   rw[c] at w1;simp only[gsR,e,g1,l1,w1,aV,e3];refine ih (i+1) k H1 acc U U U he hu hap ?_ hnew ..
   have:([ws[i]].filter λw=>wi w 0 5)=[]:=by rw[List.filter_cons,if_neg (by rw[c];decide)];rfl
   rw[htake,List.filter_append,this,List.append_nil];exact ha
theorem aKp (es:List Ed)(v:Nat):(mT es v).length<=6:=by
 have h2:=Zo _ (B3 es v);unfold mT;rw[aUr];omega
theorem Mr (es:List Ed): ∀i,((List.range i).flatMap (mT es)).length<=i*6
 |0=>by simp
 |i+1=>by
  have:=Mr es i;have:=aKp es i;rw[aUM,List.flatMap_append,aUp,Nat.succ_mul];simp only[List.flatMap_cons,List.flatMap_nil,List.append_nil];omega
theorem oC (p:PlanD):(aU p).length<=36:=by
 have:=Mr p.edges (jL p);have h6:jL p<=6:=by unfold jL;omega
 unfold aU;omega
theorem aKt (a b:Int):gJ prog false [.I a,.I b]=some (.I (min a b)):=by
 simp[gJ,cL,eN,pur,Builtin.min_,Builtin.min2,pure,bind,Sem.bind]
 split<;>omega
theorem Zs (a b:Int):gJ prog true [.I a,.I b]=some (.I (max a b)):=by
 simp[gJ,cL,eN,pur,Builtin.max_,Builtin.max2,pure,bind,Sem.bind]
 split<;>omega
theorem aKq {H0:aF}{a:Nat}(hp:PV H0 p ev wv nv)(hn:p.edges.length+60<m)(hm:m<=72057594037927936): ∀(q i k:Nat)(H1:aF)(acc:Value),(jL p)-i=q->i<=(jL p)->q<k->Ext H0 H1->H0[a]? =some (plB p ev wv nv)->Hw H1 acc ((List.range i).flatMap (mT p.edges))->New H0 acc-> ∀(x2 x4 fC eG gF:Value),
  ∃H' u2,aL k (aO prog (lvl prog aY m) (aL m) Mf) (Mh (lvl prog aY m) (aL m)) (aG 1 (some (.Q a 0)::x2::acc::x4::aG 5 (some (.I (jL p))::some (.I (i:Nat))::aG 4 (fC::eG::gF::aG 14 [])))) H1=some (u2,H')/\Ext H0 H'/\Hw H' u2 (aU p)/\New H0 u2:=by
 intro q;have h6:jL p<=6:=by unfold jL;omega
 induction q with
 |zero=>
  intro i k H1 acc hr hi hk he hb0 ha hnew;intros;obtain⟨k,rfl⟩:=aB k U
  obtain rfl:(jL p)=i:=U
  have e:decide ((((jL p):Nat):Int)<((jL p):Nat))=false:=by simp
  refine⟨H1,acc,?_,he,ha,hnew⟩;rw[bS,Y2];simp only[gsR,e];rw[aJG];rfl
 |succ q ih=>
  intro i k H1 acc hr hi hk he hb0 ha hnew;intros;obtain⟨k,rfl⟩:=aB k U
  have e:decide ((i:Int)<((jL p):Nat))=true:=aUX U
  have e3:=aA (i:=i) U
  have hb:=cP hb0 he;have l11:=fE hb;obtain⟨H2,u,g1,g2,g3,g4⟩:=B2 (hp.ext he) (m:=m) U U (i:Int)
  have hlen:=g3.nY;have hble:=Fv p.edges (i:Int);have hol:=Mr p.edges i;have hff:=Zo _ (B3 p.edges (i:Int));have hL:=hp.be;have hap:Apart H2 u acc:=λb hb=>⟨g3.dO hb,λhc=>by have:=g4 b hb;have:=ha.dO hc;omega⟩
  have ha2:Hw H2 acc ((List.range i).flatMap (mT p.edges)):=ha.cZ λb hb=>g2.2 b (ha.dO hb) id
  rw[bS,Y2];simp only[gsR,e,l11,g1,hlen];refine aKr (H0:=H0) (a:=a) (v:=i) (ws:=bes p.edges (i:Int)) (hs:=(List.range i).flatMap (mT p.edges)) (Q:=λH' u2=>Ext H0 H'/\Hw H' u2 (aU p)/\New H0 u2) U U U ?_ (bes p.edges (i:Int)).length 0 m H2 acc U U U (he.tr g2) g3.rs hap (by simpa using ha2) hnew ..
  intro H3 acc3 k1 k2 k3;intros;rw[again_normal,e3];refine ih (i+1) k H3 acc3 U U U k1 hb0 ?_ k3 ..
  rw[aUM,List.flatMap_append];simpa[mT] using k2
theorem Zq (hp:PV H p ev wv nv)(hn:p.edges.length+70<m)(hm:m<=72057594037927936): ∃H' u,lvl prog aY m (.func 46) [plV p ev wv nv] H=some (u,H')/\Ext H H'/\Hw H' u (aU p)/\New H u:=by
 have hL:=hp.be;obtain⟨H0,hH0⟩:=aD (H++[plB p ev wv nv]);have x0:Ext H H0:=by rw[hH0];exact Fr.app _ _ _
 have b0:H0[H.length]? =some (plB p ev wv nv):=by rw[hH0];exact cV _ _
 have l0:=cQ b0 0 _ rfl;have h6:jL p<=6:=by unfold jL;omega
 have e1:gJ prog true [.I p.nodes,.I 0]=some (.I (max p.nodes 0)):=Zs p.nodes 0;have e2:gJ prog false [.I (max p.nodes 0),.I 6]=some (.I (jL p)):=by
  rw[aKt]
  congr 2
  unfold jL;omega
 obtain⟨H',u,g1,g2,g3,g4⟩: ∃H' u,lvl prog aY m (.func 46) [plV p ev wv nv] H=some (u,H')/\Ext H0 H'/\Hw H' u (aU p)/\New H0 u:=by
  refine dL (dZ rfl rfl) U ?_
  rw[aJI];simp only[gsR,gL,<-hH0,l0,e1,e2];exact aKq (hp.ext x0) (m:=m-1) U U (jL p) 0 (m-1) H0 _ U U U (Fr.dS _ _) b0 (Rw.fD (el:=edC)) (New.iE _) ..
 exact⟨H',u,g1,x0.tr g2,g3,λb hb=>aUt x0.1 (g4 b hb)⟩
end
theorem Zu: ∀(l l':List Int),l.Pairwise (· < ·)->l'.Pairwise (· < ·)->(∀z,z∈l↔z∈l')->l=l'
 |[],[],_,_,_=>rfl
 |[],y::r,_,_,h=>absurd ((h y).mpr (by simp)) (by simp)
 |x::l,[],_,_,h=>absurd ((h x).mp (by simp)) (by simp)
 |x::l,y::r,h1,h2,h=>by
  obtain⟨a1,a2⟩:=List.pairwise_cons.mp h1;obtain⟨b1,b2⟩:=List.pairwise_cons.mp h2;have hxy:x=y:=by
   have h3:=(h x).mp (by simp)
   have h4:=(h y).mpr (by simp)
   rcases aUw.mp h3 with h3|h3
   ·exact h3
   ·rcases aUw.mp h4 with h4|h4
    ·exact h4.symm
    ·have:=b1 x h3
     have:=a1 y h4;omega
  subst hxy;rw[Zu l r a2 b2 λz=> ?_]
  constructor
  ·intro hz
   rcases aUw.mp ((h z).mp (by simp[hz])) with h3|h3
   ·have:=a1 z hz
    omega
   ·exact h3
  ·intro hz
   rcases aUw.mp ((h z).mpr (by simp[hz])) with h3|h3
   ·have:=b1 z hz
    omega
   ·exact h3
theorem Ms (es:List Ed)(v z:Int):z∈bes es v↔z∈lZ es v:=by
 unfold bes;rw[Fw,(Bj _).mem_iff]
section
variable {H : aF} {m : Nat} {p : PlanD} {ev wv nv : Value}
end
def mkN (nodes:Nat):Nat:=2+nodes%5
def mkW (more:Nat)(i:Nat):Int:=((1+(i+more)%5:Nat):Int)
def prs (n:Nat):List (Nat×Nat):=(List.range n).flatMap λb=>(List.range b).map λa=>(a,b)
def mA:Nat->List (Nat×Nat)->List Ed
 |_,[]=>[]
 |bit,(a,b)::r=>if bit%2=1 then((a:Int),(b:Int))::mA (bit/2) r else mA (bit/2) r
def nxt (n:Nat)(next:List Nat)(k w:Nat):Nat:=match next[k]? with
 |some x=>if x%4=0 then(x/4)%n else w
 |none=>w
def u5 (n:Nat)(next:List Nat)(v:Nat):List Int:=(List.range n).map λw=>((nxt n next (v*n+w) w:Nat):Int)
def mkP (nodes room more joined:Nat)(next:List Nat):PlanD where
 nodes:=mkN nodes
 edges:=mA joined (prs (mkN nodes))
 lanes:=((1+more%3:Nat):Int)
 room:=((1+room%8:Nat):Int)
 queue:=((1+room/8%8:Nat):Int)
 rounds:=((1+more/3%4:Nat):Int)
 every:=((1+more/12%8:Nat):Int)
 bag:=64
 weights:=(List.range (1+more%3)).map (mkW more)
 start:=joined
 next:=(List.range (mkN nodes)).map (u5 (mkN nodes) next)
def u8C (n:Nat):List Value:=[.int .u8 n]
theorem Mu (n:Nat):(u8C n).length=1:=rfl
abbrev Us (H:aF)(v:Value)(xs:List Nat):=Rs u8C 5 H v xs
theorem cvU (H:aF)(n:Nat)(h:n<256):cK prog 5 3 (.int .u8 n) H=some (.I n,H):=by
 have h1:prog.underlying 5=some (.int .u8):=by kernel_rfl
 have h2:prog.underlying 3=some (.int .i64):=by kernel_rfl
 rw[dJ _ _ h1 h2,bJ U U]
theorem u6 (a b:Nat)(c:Int)(hc:c=b)(hb:0<b):bin prog .rem 5 (.int .u8 a) (.int .u8 c)=some (.int .u8 (a%b:Nat)):=by rw[hc,Bd _ _ _ _ U,Int.tmod_eq_emod_of_nonneg U];congr 2
theorem wU (a b:Nat)(c:Int)(hc:c=b)(hb:0<b):bin prog .rem 3 (.I a) (.I c)=some (.I (a%b:Nat)):=by rw[hc,Bd _ _ _ _ U,Int.tmod_eq_emod_of_nonneg U];congr 2
theorem aKG (a b:Nat)(c:Int)(hc:c=b)(hb:0<b):bin prog .rem 23 (.int .u16 a) (.int .u16 c)=some (.int .u16 (a%b:Nat)):=by rw[hc,Bd _ _ _ _ U,Int.tmod_eq_emod_of_nonneg U];congr 2
theorem aKI {n:Nat}(h:n<256):IntKind.u8.wrap (n:Int)=n:=by simp[IntKind.wrap,IntKind.bits,IntKind.signed];omega
theorem aKH {n:Nat}(h:n<65536):IntKind.u16.wrap (n:Int)=n:=by simp[IntKind.wrap,IntKind.bits,IntKind.signed];omega
theorem F8 (a b:Nat)(c:Int)(hc:c=b)(hb:0<b)(ha:a<256):bin prog .quo 5 (.int .u8 a) (.int .u8 c)=some (.int .u8 (a/b:Nat)):=by
 rw[hc,Wh _ _ _ _ U,Int.tdiv_eq_ediv_of_nonneg U]
 have h2:((a:Int)/(b:Int))=((a/b:Nat):Int):=by simp
 rw[h2,aKI (Nat.lt_of_le_of_lt (Nat.div_le_self a b) ha)]
theorem aKF (a b:Nat)(c:Int)(hc:c=b)(hb:0<b)(ha:a<65536):bin prog .quo 23 (.int .u16 a) (.int .u16 c)=some (.int .u16 (a/b:Nat)):=by
 rw[hc,Wh _ _ _ _ U,Int.tdiv_eq_ediv_of_nonneg U]
 have h2:((a:Int)/(b:Int))=((a/b:Nat):Int):=by simp
 rw[h2,aKH (Nat.lt_of_le_of_lt (Nat.div_le_self a b) ha)]
def Fy (b:Nat)(e:TypeId)(H H':aF):Prop:= ∀(c:Nat)(y:Blk),c≠b->(∀cs,y≠ .cells cs e .row)->H[c]? =some y->H'[c]? =some y
section
variable {H : aF} {m : Nat} {p : PlanD} {ev wv nv : Value}
theorem B4 {α:Type}{el:α->List Value}{e:TypeId}{sz by':Nat}{tb:TypeId}(hsz: ∀x,(el x).length=sz)(hall: ∀x,cA (el x)=true)(h0:0<sz){H0:aF}{v:Value}{xs:List α}{b j:Nat}{cs:List Value}(x:α)
  (hb:H[b]? =some (.cells cs tb .fix))(hj:j<cs.length)(hv:Rw el e sz H v xs)(hn:New H0 v)(hbn:H0.length<=b)(he:Ext H0 H)(hr:eH (xs.length+1) by'=true):
  ∃v' H1 H',app e sz by' v (.slice (some ⟨H.length,0,none⟩) 1 1) (H++[.cells (el x) e .row])=some (v',H1)/\stN 1 (.Q b j) v' H1=some (undef,H')/\
   Rw el e sz H' v' (xs++[x])/\New H0 v'/\Ext H0 H'/\H'[b]? =some (.cells (cs.set j v') tb .fix)/\Fy b e H H':=by
 obtain⟨v',H1,g1,g2,g3,g4,g5,g6⟩:=hv.E6 hsz hall h0 (by':=by') x hn he hr;have hbl:=(aUd.mp hb).1;have hnh: ¬aT v b:=λhh=>by
  obtain⟨c',hc'⟩:=hv.blk hh;rw[hb] at hc';simp at hc'
 have hb1:H1[b]? =some (.cells cs tb .fix):=by rw[g5.2 b hbl hnh,hb]
 obtain⟨s1,s2⟩:=g2.sI;have hb1l:=(aUd.mp hb1).1;refine⟨v',H1,H1.set b (.cells (cs.set j v') tb .fix),g1,?_,g2.cZ λc hc=> ?_,g3,⟨by rw[List.length_set];exact g4.1,λc hc _=> ?_⟩,aUj hb1l,λc y hcb hA hy=> ?_⟩
 ·rw[fV 1 _ _ _ (by rw[s1];rfl),hb1,s1,iW _ _ _ _ _ _ aC (by simp;omega) s2]
  rfl
 ·refine aUe λhh=> ?_
  subst hh;obtain⟨c',hc'⟩:=g2.blk hc;rw[hb1] at hc';simp at hc'
 ·rw[aUe U,g4.2 c hc id]
 ·have hch: ¬aT v c:=λhh=>by
   obtain⟨c',hc'⟩:=hv.blk hh;rw[hy] at hc';cases hc';exact hA _ rfl
  rw[aUe (Ne.symm hcb),g5.2 c (aUd.mp hy).1 hch,hy]
theorem Rw.zM {α:Type}{el:α->List Value}{e e' tb:TypeId}{sz b:Nat}{H':aF}{v:Value}{xs:List α}{cs:List Value}(h:Rw el e' sz H v xs)(hk:Fy b e H H')(hb:H[b]? =some (.cells cs tb .fix))(hne:e'≠e):Rw el e' sz H' v xs:=h.cZ λc hc=>by
 obtain⟨cs',hx⟩:=h.blk hc;have hcb:c≠b:=λhh=>by
  subst hh;rw[hb] at hx;simp at hx
 rw[hx];exact hk c _ hcb (λcs'' hh=>by cases hh;exact hne rfl) hx
theorem bEd (a b:Int):bld prog 128 [(0,.I a),(1,.I b)]=some (edV (a,b)):=rfl
theorem aKw (H:aF)(y:Ed):b9 128 2 1 [.I 0,.I 0] [(0,edV y)] H=some (.slice (some ⟨H.length,0,none⟩) 1 1,H++[.cells (edC y) 128 .row]):=rfl
theorem aKC {H0:aF}{b rb n v joined:Nat}{a4:Value}{next:List Nat}{zs:List Value}{Q:aF->Value->Prop}{K:Ex->K (Value×aF)}(hn6:n<=6)(hv6:v<n)(hnx:Us H0 a4 next)(hu8: ∀x∈next,x<256)(hnl:next.length<=72057594037927936)(hpn:p.nodes=(n:Int))(hbr:H0[rb]? =some (.cells zs 40 .fix))(hb:H0[b]? =some (plB p ev wv nv))
  (hK: ∀(H':aF)(u:Value),Ext H0 H'->Iw H' u (u5 n next v)->New H0 u-> ∀(x2 eA gC iT jY dQ:Value),∃H2 u2,L9 (lvl prog aY m) (aL m) K x2 (.int .u16 joined) a4 (.pointer (some ⟨rb,0,none⟩)) (.pointer (some ⟨b,0,none⟩)) eA gC iT jY (.int .i64 ((v+1)*n:Nat)) (.int .i64 (v:Nat)) u dQ H'=some (u2,H2)/\Q H2 u2): ∀(q i k:Nat)(H1:aF)(acc:Value),n-i=q->i<=n->q<k->Ext H0 H1->Iw H1 acc ((List.range i).map λw=>((nxt n next (v*n+w) w:Nat):Int))->New H0 acc-> ∀(x2 eA gC iT jY:Value),
  ∃H2 u2,aL k (aO prog (lvl prog aY m) (aL m) L7) (Me (lvl prog aY m) (aL m) K) (aG 2 (x2::some (.int .u16 joined)::a4::aG 5 (some (.Q rb 0)::some (.Q b 0)::eA::gC::iT::jY::some (.I (v*n+i:Nat))::some (.I (v:Nat))::acc::some (.I (i:Nat))::aG 119 []))) H1=some (u2,H2)/\Q H2 u2:=by
 intro q;induction q with
 |zero=>
  intro i k H1 acc hr hi hk he ha hnew;intros;obtain⟨k,rfl⟩:=aB k U
  obtain rfl:n=i:=U
  have e:decide (((n:Nat):Int)<(n:Nat))=false:=by simp
  have l0:=cQ (cP hb he) 0 _ rfl;rw[hpn] at l0;rw[bS,Y1];simp only[gsR,l0,e];rw[aJE];have hk:v*n+n=(v+1)*n:=by rw[Nat.succ_mul]
  rw[hk];exact hK H1 acc he ha hnew ..
 |succ q ih=>
  intro i k H1 acc hr hi hk he ha hnew;intros;obtain⟨k,rfl⟩:=aB k U
  have e:decide ((i:Int)<(n:Nat))=true:=aUX U
  have e3:=aA (i:=i) U
  have l0:=cQ (cP hb he) 0 _ rfl;rw[hpn] at l0;have hlen:=(hnx.ext he).eC;have hvn:v*n+i<42:=by
   have:v*n<=5*n:=Nat.mul_le_mul_right _ U
   omega
  have e4:IntKind.i64.wrap (((v*n+i:Nat):Int)+1)=((v*n+(i+1):Nat):Int):=by rw[bJ U U];omega
  have hrange:(List.range (i+1)).map (λw=>((nxt n next (v*n+w) w:Nat):Int))=(List.range i).map (λw=>((nxt n next (v*n+w) w:Nat):Int))++[((nxt n next (v*n+i) i:Nat):Int)]:=by rw[aUM,List.map_append];rfl
  obtain⟨acc2,H2,t1,t2,t3,t4⟩:=ha.pS (by':=8) eP mQ aC ((nxt n next (v*n+i) i:Nat):Int) hnew he (eD (n:=1000) aC (by simp;omega))
  rw[<-hrange] at t2;rw[bS,Y1];by_cases c:v*n+i<next.length
  ·have d:decide (((v*n+i:Nat):Int)<next.length)=true:=aUX U
   have hx:next[v*n+i]? =some next[v*n+i]:=aUf c
   obtain⟨bb,oo,g1,g2,g3⟩:=(hnx.ext he).dM Mu hx .i64;have l1:ld1 (.Q bb oo) H1=some (.int .u8 (next[v*n+i]:Nat),H1):=(g3 H1 rfl).2.1 0 _ rfl
   have hx8:=hu8 _ (List.getElem_mem c);have r4:=u6 next[v*n+i] 4 4 rfl U
   by_cases c4:next[v*n+i]%4=0
   ·have d4:(((next[v*n+i]%4:Nat):Int)==0)=true:=by rw[c4];rfl
    have q4:=F8 next[v*n+i] 4 4 rfl U hx8
    have hcv:=λH=>cvU H (next[v*n+i]/4) U
    have rn:=wU (next[v*n+i]/4) n n rfl U
    have hval:nxt n next (v*n+i) i=next[v*n+i]/4%n:=by unfold nxt;rw[hx];simp only;rw[if_pos c4]
    rw[hval] at t1;simp only[gsR,l0,e,hlen,d,g1,l1,r4,d4,q4,hcv,rn,mR,t1,aV,e4,e3];exact ih (i+1) k H2 acc2 U U U t4 t2 t3 ..
   ·have d4:(((next[v*n+i]%4:Nat):Int)==0)=false:=by simpa using λh=>c4 U
    have hval:nxt n next (v*n+i) i=i:=by unfold nxt;rw[hx];simp only;rw[if_neg c4]
    rw[hval] at t1;simp only[gsR,l0,e,hlen,d,g1,l1,r4,d4,mR,t1,aV,e4,e3];exact ih (i+1) k H2 acc2 U U U t4 t2 t3 ..
  ·have d:decide (((v*n+i:Nat):Int)<next.length)=false:=aUY U
   have hval:nxt n next (v*n+i) i=i:=by unfold nxt;rw[aUo U]
   rw[hval] at t1;simp only[gsR,l0,e,hlen,d,mR,t1,aV,e4,e3];exact ih (i+1) k H2 acc2 U U U t4 t2 t3 ..
def SV:={u:Value // cA [u]=true/\u.cells= #[u]}
def sC (u:SV):List Value:=[u.1]
theorem B5 (u:SV):(sC u).length=1:=rfl
theorem F9 (u:SV):cA (sC u)=true:=u.2.1
theorem B6: ∀us:List SV,(us.map sC)=(us.map (·.1)).map vC
 |[]=>rfl
 |u::us=>by rw[aUI,aUI,aUI,B6 us];rfl
structure RowsI (H:aF)(v:Value)(xss:List (List Int))(us:List SV):Prop where
 row:Rw sC 37 1 H v us
 len:us.length=xss.length
 el: ∀(j:Nat)(u:SV)(xs:List Int),us[j]? =some u->xss[j]? =some xs->Iw H u.1 xs
 ap: ∀(j j':Nat)(u u':SV),j<j'->us[j]? =some u->us[j']? =some u'-> ∀b,aT u.1 b->aT u'.1 b->False
def RowsW (H:aF)(v:Value)(xss:List (List Int)):Prop:= ∃us,RowsI H v xss us
theorem RowsI.Zv {H':aF}{v:Value}{xss:List (List Int)}{us:List SV}(h:RowsI H v xss us)(h1: ∀b,aT v b->H'[b]? =H[b]?)(h2: ∀u∈us,∀b,aT u.1 b->H'[b]? =H[b]?):RowsI H' v xss us:=
 ⟨h.row.cZ h1,h.len,λj u xs hu hx=>(h.el j u xs hu hx).cZ λb hb=>h2 u (aUn hu) b hb,h.ap⟩
theorem RowsI.Zw {v:Value}{xss:List (List Int)}{us:List SV}(h:RowsI H v xss us){u:SV}(hu:u∈us){b:Nat}(hb:aT u.1 b):b<H.length:=by
 obtain⟨j,hj⟩:=List.getElem?_of_mem hu;have:=(aUd.mp hj).1
 exact(h.el j u _ hj (aUf (by rw[<-h.len];exact this))).dO hb
theorem RowsI.blk {v:Value}{xss:List (List Int)}{us:List SV}(h:RowsI H v xss us){u:SV}(hu:u∈us){b:Nat}(hb:aT u.1 b): ∃cs,H[b]? =some (.cells cs 3 .row):=by
 obtain⟨j,hj⟩:=List.getElem?_of_mem hu;have:=(aUd.mp hj).1
 exact(h.el j u _ hj (aUf (by rw[<-h.len];exact this))).blk hb
theorem RowsW.aKv {v:Value}{xss:List (List Int)}(h:RowsW H v xss):Rows H v xss:=by
 obtain⟨us,hi⟩:=h;refine⟨us.map (·.1),?_,by rw[aUr,hi.len],λj u xs hu hx=> ?_⟩
 ·have:=hi.row.rs
  unfold Rs at this⊢;rw[aUr,<-B6];rcases this with⟨h1,h2⟩|⟨b,o,cap,h1,h2,h3⟩
  ·exact .inl ⟨h1,by rw[h2];rfl⟩
  ·exact .inr ⟨b,o,cap,h1,h2,λhne=>h3 λhh=>hne (by rw[hh];rfl)⟩
 ·rw[aUq] at hu
  cases hj:us[j]? with
  |none=>rw[hj] at hu;cases hu
  |some u'=>
   rw[hj] at hu;cases hu
   exact(hi.el j u' xs hj hx).rs
def RowsA (H0 H:aF)(v:Value)(xss:List (List Int))(wv:Value):Prop:= ∃us,RowsI H v xss us/\ ∀u∈us,∀b,aT u.1 b-> ¬aT wv b/\H0.length<=b
theorem RowsA.rw {H0:aF}{v wv:Value}{xss:List (List Int)}(h:RowsA H0 H v xss wv):RowsW H v xss:=let⟨us,hi,_⟩:=h;⟨us,hi⟩
structure MS (H0 H1:aF)(pb rb:Nat)(zs:List Value)(p:PlanD)(ev wv nv:Value)(E:List Ed)(W:List Int):Prop where
 ext:Ext H0 H1
 hb:H1[pb]? =some (plB p ev wv nv)
 hr:H1[rb]? =some (.cells zs 40 .fix)
 e:Ew H1 ev E
 en:New H0 ev
 w:Iw H1 wv W
 wn:New H0 wv
 ne:rb≠pb
 lp:H0.length<=pb
 lr:H0.length<=rb
 zl:zs.length=11
theorem MS.aKu {H0 H1 H2:aF}{pb rb:Nat}{zs:List Value}{E:List Ed}{W:List Int}(h:MS H0 H1 pb rb zs p ev wv nv E W)(he:Ext H1 H2):MS H0 H2 pb rb zs p ev wv nv E W:=
 ⟨h.ext.tr he,cP h.hb he,cP h.hr he,h.e.cZ λb hb=>he.2 b (h.e.dO hb) id,h.en,h.w.cZ λb hb=>he.2 b (h.w.dO hb) id,h.wn,h.ne,h.lp,h.lr,h.zl⟩
theorem aKB {H0 H1:aF}{pb rb:Nat}{zs:List Value}{E:List Ed}{W:List Int}{N:List (List Int)}(h:MS H0 H1 pb rb zs p ev wv nv E W)(hn:RowsA H0 H1 nv N wv){Q:aF->Value->Prop}(hQ: ∀H2,Ext H0 H2->Ew H2 ev E->Iw H2 wv W->RowsA H0 H2 nv N wv->Q H2 (plV p ev wv nv))(x2 x3 x4 eA gC iT jY fC eG gF dQ:Value):
  ∃H2 u2,L8 (lvl prog aY m) (aL m) x2 x3 x4 (.Q rb 0) (.Q pb 0) eA gC iT jY fC eG gF dQ H1=some (u2,H2)/\Q H2 u2:=by
 have l11:=fE h.hb;have hrl:=(aUd.mp h.hr).1;obtain⟨a1,a2⟩:=Rw.sI h.e;obtain⟨b1,b2⟩:=Rw.sI h.w;obtain⟨us,hi,hap⟩:=hn;obtain⟨c1,c2⟩:=Rw.sI hi.row;have hall:cA (plC p ev wv nv)=true:=by
  have e1: ∀(v:Value)(vs:List Value),cA [v]=true->cA (v::vs)=cA vs:=λv vs h=>by
   simp only[cA,List.all_cons,List.all_nil,Bool.and_true] at h⊢;rw[h,aUA]
  simp only[plC,Wm,e1 _ _ a2,e1 _ _ b2,e1 _ _ c2,Wn]
 have st:stN 11 (.Q rb 0) (plV p ev wv nv) H1=some (undef,H1.set rb (plB p ev wv nv)):=by
  have e1:(plV p ev wv nv).cells.toList=plC p ev wv nv:=rfl;rw[fV 11 _ _ _ rfl,h.hr,e1,iW _ _ _ _ _ _ aC (by rw[h.zl];simp[plC]) hall]
  have hs:cU zs 0 (plC p ev wv nv)=plC p ev wv nv:=by
   match zs,h.zl with
   |[z1,z2,z3,z4,z5,z6,z7,z8,z9,z10,z11],_=>rfl
  rw[hs];rfl
 have hb2:(H1.set rb (plB p ev wv nv))[rb]? =some (plB p ev wv nv):=aUj hrl;have l2:=fE hb2;have kp: ∀(b:Nat)(cs:List Value)(e:TypeId),H1[b]? =some (.cells cs e .row)->(H1.set rb (plB p ev wv nv))[b]? =H1[b]? :=λb cs e hb=>by
  refine aUe λhh=> ?_
  subst hh;rw[h.hr] at hb;simp at hb
 refine⟨H1.set rb (plB p ev wv nv),plV p ev wv nv,?_,hQ _ ⟨by rw[List.length_set];exact h.ext.1,λb hb _=> ?_⟩ (h.e.cZ λb hb=> ?_) (h.w.cZ λb hb=> ?_) ⟨us,hi.Zv (λb hb=> ?_) (λu hu b hb=> ?_),hap⟩⟩
 ·unfold L8
  simp only[gsR,l11,st,l2]
 ·rw[aUe (by have:=h.lr;omega),h.ext.2 b hb id]
 ·obtain⟨cs,hc⟩:=h.e.blk hb
  exact kp b cs _ hc
 ·obtain⟨cs,hc⟩:=h.w.blk hb
  exact kp b cs _ hc
 ·obtain⟨cs,hc⟩:=hi.row.blk hb
  exact kp b cs _ hc
 ·obtain⟨cs,hc⟩:=hi.blk hu hb
  exact kp b cs _ hc
def Made (H0:aF)(p:PlanD)(H2:aF)(u:Value):Prop:= ∃ev wv nv,u=plV p ev wv nv/\Ext H0 H2/\Ew H2 ev p.edges/\Iw H2 wv p.weights/\RowsA H0 H2 nv p.next wv
theorem aKD {H0:aF}{pb rb n joined:Nat}{a4:Value}{next:List Nat}{zs:List Value}(hn6:n<=6)(hnx:Us H0 a4 next)(hu8: ∀x∈next,x<256)(hnl:next.length<=72057594037927936)(hpn:p.nodes=(n:Int))(hm:50<m)(hpx:p.next=(List.range n).map (u5 n next)): ∀(q i k:Nat)(H1:aF)(nv1:Value),n-i=q->i<=n->q<k->MS H0 H1 pb rb zs p ev wv nv1 p.edges p.weights->RowsA H0 H1 nv1 ((List.range i).map (u5 n next)) wv->New H0 nv1-> ∀(x2 eA gC iT jY gF dQ:Value),
  ∃H2 u2,aL k (aO prog (lvl prog aY m) (aL m) L6) (Md (lvl prog aY m) (aL m)) (aG 2 (x2::some (.int .u16 joined)::a4::aG 5 (some (.Q rb 0)::some (.Q pb 0)::eA::gC::iT::jY::some (.I (i*n:Nat))::some (.I (i:Nat))::gF::dQ::aG 119 []))) H1=some (u2,H2)/\Made H0 p H2 u2:=by
 intro q;induction q with
 |zero=>
  intro i k H1 nv1 hr hi hk hM hR hnew;intros;obtain⟨k,rfl⟩:=aB k U
  obtain rfl:n=i:=U
  have e:decide (((n:Nat):Int)<(n:Nat))=false:=by simp
  have l0:=cQ hM.hb 0 _ rfl;rw[hpn] at l0;rw[bS,Y0];simp only[gsR,l0,e];rw[aJD];exact aKB hM hR (λH2 g2 g3 g4 g5=>⟨ev,wv,nv1,rfl,g2,g3,g4,by rw[hpx];exact g5⟩) ..
 |succ q ih=>
  intro i k H1 nv1 hr hi hk hM hR hnew;intros;obtain⟨k,rfl⟩:=aB k U
  have e:decide ((i:Int)<(n:Nat))=true:=aUX U
  have e3:=aA (i:=i) U
  have l0:=cQ hM.hb 0 _ rfl;rw[hpn] at l0;rw[bS,Y0];simp only[gsR,l0,e];have hz0:i*n=i*n+0:=rfl;rw[hz0];refine aKC (H0:=H1) (b:=pb) (rb:=rb) (v:=i) (zs:=zs) (next:=next) (Q:=Made H0 p) hn6 U (hnx.ext hM.ext) hu8 hnl hpn hM.hr hM.hb ?_ n 0 m H1 (.N) U U U (Fr.dS _ _) (Rw.fD (el:=inC)) (New.iE _) ..
  intro H2 u x2 hu hun;intros;have hM2:=hM.aKu x2;obtain⟨us,hi1,hap⟩:=hR;have hi:RowsI H2 nv1 ((List.range i).map (u5 n next)) us:=hi1.Zv (λb hb=>x2.2 b (hi1.row.dO hb) id) λu hu b hb=>x2.2 b (hi1.Zw hu hb) id
  have l10:=cQ hM2.hb 10 _ rfl;obtain⟨s1,s2⟩:=Rw.sI hu;have s3:u.cells= #[u]:=Array.toList_inj.mp s1;obtain⟨su,rfl⟩: ∃su:SV,su.1=u:=⟨⟨u,s2,s3⟩,rfl⟩;have hb1:=Xw 37 (.N) su.1 s2 s3 H2;obtain⟨nv2,H3,H4,g1,g2,g3,g4,g5,g6,g7⟩:=B4 (by':=24) B5 F9 aC (j:=10) (H0:=H0) su hM2.hb (by simp[plC]) hi.row hnew hM.lp hM2.ext (eD (n:=1000) aC (by have:=hi.len;rw[aUr,aUH] at this;omega))
  have g1':app 37 1 24 nv1 (.slice (some ⟨H2.length,0,none⟩) 1 1) (H2++[.cells [su.1] 37 .row])=some (nv2,H3):=g1;have hb4:H4[pb]? =some (plB p ev wv nv2):=g6;have e5:IntKind.i64.wrap ((i:Int)+1)=((i+1:Nat):Int):=e3;unfold L9;simp only[gsR,l10,hb1,g1',g2,aV,e5];have kI: ∀(w:Value)(xs:List Int),Iw H2 w xs->Iw H4 w xs:=λw xs hw=>Rw.zM hw g7 hM2.hb aC
  refine ih (i+1) k H4 nv2 U U U ⟨g5,hb4,g7 _ _ hM.ne (λcs hh=>by cases hh) hM2.hr,Rw.zM hM2.e g7 hM2.hb aC,hM.en,kI _ _ hM2.w,hM.wn,hM.ne,hM.lp,hM.lr,hM.zl⟩ ⟨us++[su],⟨g3,?_,?_,?_⟩,?_⟩ g4 ..
  ·rw[aUp,hi.len]
   simp
  ·intro j w xs hw hxs
   rw[aUM,List.map_append] at hxs;by_cases hj:j<us.length
   ·rw[aUg hj] at hw
    rw[aUg (by rw[<-hi.len];exact hj)] at hxs
    exact kI _ _ (hi.el j w xs hw hxs)
   ·rw[aUx U] at hw
    rw[aUx (by rw[<-hi.len];omega),<-hi.len] at hxs
    by_cases h0:j-us.length=0
    ·rw[h0] at hw hxs
     cases hw;cases hxs;exact kI _ _ hu
    ·rw[aUo (by simp;omega)] at hw
     cases hw
  ·intro j j' w w' hjj hw hw' bb hb1' hb2'
   by_cases hj':j'<us.length
   ·rw[aUg hj'] at hw'
    rw[aUg U] at hw
    exact hi.ap j j' w w' hjj hw hw' bb hb1' hb2'
   ·rw[aUx U] at hw'
    by_cases h0:j'-us.length=0
    ·rw[h0] at hw'
     cases hw';rw[aUg U] at hw
     have h1:=hi1.Zw (aUn hw) hb1';have h2:=hun bb hb2';omega
    ·rw[aUo (by simp;omega)] at hw'
     cases hw'
  ·intro w hw bb hb1'
   rcases List.mem_append.mp hw with hw|hw
   ·exact hap w hw bb hb1'
   ·have:w=su:=by simpa using hw
    subst this;have h1:=hun bb hb1';have h3:=hM.ext.1
    exact⟨λhb2'=>by have h2:=hM.w.dO hb2';omega,by omega⟩
theorem Zy (a b:Nat): ∀(L:List (Nat×Nat))(bit:Nat),mA bit (L++[(a,b)])=mA bit L++(if bit/2 ^ L.length%2=1 then [((a:Int),(b:Int))] else [])
 |[],bit=>by
  simp only[List.nil_append,mA,List.length_nil,Nat.pow_zero,Nat.div_one]
 |(c,d)::L,bit=>by
  have ih:=Zy a b L (bit/2);have hp:bit/2/2 ^ L.length=bit/2 ^ (L.length+1):=by rw[Nat.div_div_eq_div_mul,Nat.pow_succ,Nat.mul_comm]
  rw[hp] at ih;simp only[List.cons_append,mA,aUz,ih];by_cases h:bit%2=1
  ·rw[if_pos h,if_pos h];rfl
  ·rw[if_neg h,if_neg h]
theorem Mt: ∀(L:List (Nat×Nat))(bit:Nat),(mA bit L).length<=L.length
 |[],_=>aUi _
 |(c,d)::L,bit=>by
  have ih:=Mt L (bit/2);unfold mA;split
  ·simp only[aUz];omega
  ·simp only[aUz];omega
theorem Fz (n:Nat):prs (n+1)=prs n++(List.range n).map λa=>(a,n):=by
 unfold prs;rw[aUM,List.flatMap_append];simp
theorem Zx: ∀n,(prs n).length<=n*n
 |0=>by simp[prs]
 |n+1=>by
  have:=Zx n;rw[Fz,aUp,aUr,aUH];have e:(n+1)*(n+1)=n*n+n+n+1:=by rw[Nat.succ_mul,Nat.mul_succ];omega
  omega
theorem aKx (bit k:Nat):bit/2 ^ k/2=bit/2 ^ (k+1):=by rw[Nat.div_div_eq_div_mul,Nat.pow_succ]
theorem aKy {H0:aF}{pb rb B joined:Nat}{a4:Value}{zs:List Value}{Wt:List Int}(hB:B<=6)(hj:joined<65536){Q:aF->Value->Prop}{K:Ex->K (Value×aF)}
  (hK: ∀(H':aF)(ev':Value),MS H0 H' pb rb zs p ev' wv nv (mA joined (prs (B+1))) Wt-> ∀(x2 eA jY fC eG gF dQ:Value),∃H2 u2,K .normal (aG 2 (x2::some (.int .u16 joined)::a4::aG 5 (some (.pointer (some ⟨rb,0,none⟩))::some (.pointer (some ⟨pb,0,none⟩))::eA::some (.int .u16 (joined/2 ^ (prs (B+1)).length:Nat))::some (.int .i64 (IntKind.i64.wrap ((B:Int)+1)))::jY::fC::eG::gF::dQ::aG 119 []))) H'=some (u2,H2)/\Q H2 u2): ∀(q i k:Nat)(H1:aF)(ev1:Value),B-i=q->i<=B->q<k->MS H0 H1 pb rb zs p ev1 wv nv (mA joined (prs B++(List.range i).map λa=>(a,B))) Wt-> ∀(x2 eA fC eG gF dQ:Value),
  ∃H2 u2,aL k (aO prog (lvl prog aY m) (aL m) L5) (Mc (lvl prog aY m) (aL m) K) (aG 2 (x2::some (.int .u16 joined)::a4::aG 5 (some (.Q rb 0)::some (.Q pb 0)::eA::some (.int .u16 (joined/2 ^ ((prs B).length+i):Nat))::some (.I (B:Nat))::some (.I (i:Nat))::fC::eG::gF::dQ::aG 119 []))) H1=some (u2,H2)/\Q H2 u2:=by
 intro q;induction q with
 |zero=>
  intro i k H1 ev1 hr hi hk hM;intros;obtain⟨k,rfl⟩:=aB k U
  obtain rfl:B=i:=U
  have e:decide (((B:Nat):Int)<(B:Nat))=false:=by simp
  rw[<-Fz] at hM;have hl:(prs B).length+B=(prs (B+1)).length:=by rw[Fz,aUp,aUr,aUH]
  rw[hl];rw[bS,Yz];simp only[gsR,e];rw[aJC];simp only[gsR,aV];exact hK H1 ev1 hM ..
 |succ q ih=>
  intro i k H1 ev1 hr hi hk hM;intros;obtain⟨k,rfl⟩:=aB k U
  have e:decide ((i:Int)<(B:Nat))=true:=aUX U
  have e3:=aA (i:=i) U
  have hpl:=Zx B;have hpl2:B*B<=36:=Nat.mul_le_mul hB hB;have hbit:joined/2 ^ ((prs B).length+i)<65536:=Nat.lt_of_le_of_lt (Nat.div_le_self _ _) hj;have r2:=aKG (joined/2 ^ ((prs B).length+i)) 2 2 rfl U
  have q2:=aKF (joined/2 ^ ((prs B).length+i)) 2 2 rfl U hbit
  rw[aKx,Nat.add_assoc] at q2;have l1:=cQ hM.hb 1 _ rfl;have hlen:(prs B++(List.range i).map λa=>(a,B)).length=(prs B).length+i:=by rw[aUp,aUr,aUH]
  have hsn:=Zy i B (prs B++(List.range i).map λa=>(a,B)) joined
  rw[hlen] at hsn;have hap:prs B++(List.range (i+1)).map (λa=>(a,B))=(prs B++(List.range i).map λa=>(a,B))++[(i,B)]:=by rw[aUM,List.map_append,aUk];rfl
  have hsl:=Mt (prs B++(List.range i).map λa=>(a,B)) joined
  rw[hlen] at hsl;rw[bS,Yz];by_cases c:joined/2 ^ ((prs B).length+i)%2=1
  ·have d:(((joined/2 ^ ((prs B).length+i)%2:Nat):Int)==1)=true:=by rw[c];rfl
   rw[if_pos c] at hsn;obtain⟨ev2,H3,H4,g1,g2,g3,g4,g5,g6,g7⟩:=B4 (by':=16) nF wR aC (j:=1) (H0:=H0) ((i:Int),(B:Int)) hM.hb (by simp[plC]) hM.e hM.en hM.lp hM.ext (eD (n:=1000) aC U)
   have hb4:H4[pb]? =some (plB p ev2 wv nv):=g6;simp only[gsR,e,r2,d,l1,bEd,aKw,g1,g2,q2,aV,e3];exact ih (i+1) k H4 ev2 U U U ⟨g5,hb4,g7 _ _ hM.ne (λcs hh=>by cases hh) hM.hr,by rw[hap,hsn];exact g3,g4,Rw.zM hM.w g7 hM.hb aC,hM.wn,hM.ne,hM.lp,hM.lr,hM.zl⟩ ..
  ·have d:(((joined/2 ^ ((prs B).length+i)%2:Nat):Int)==1)=false:=beq_eq_false_iff_ne.mpr (λh=>c (Int.ofNat.inj h))
   rw[if_neg c,List.append_nil] at hsn;simp only[gsR,e,r2,d,q2,aV,e3];exact ih (i+1) k H1 ev1 U U U (by rw[hap,hsn];exact hM) ..
theorem aKz {H0:aF}{pb rb n joined:Nat}{a4:Value}{next:List Nat}{zs:List Value}(hn6:n<=6)(hnx:Us H0 a4 next)(hu8: ∀x∈next,x<256)(hnl:next.length<=72057594037927936)(hpn:p.nodes=(n:Int))(hm:50<m)(hj:joined<65536)(hpx:p.next=(List.range n).map (u5 n next))(hpe:p.edges=mA joined (prs n))(hn1:1<=n): ∀(q i k:Nat)(H1:aF)(ev1:Value),n-i=q->i<=n->q<k->1<=i->MS H0 H1 pb rb zs p ev1 wv (.N) (mA joined (prs i)) p.weights-> ∀(x2 eA jY fC eG gF dQ:Value),
  ∃H2 u2,aL k (aO prog (lvl prog aY m) (aL m) L4) (Mb (lvl prog aY m) (aL m)) (aG 2 (x2::some (.int .u16 joined)::a4::aG 5 (some (.Q rb 0)::some (.Q pb 0)::eA::some (.int .u16 (joined/2 ^ (prs i).length:Nat))::some (.I (i:Nat))::jY::fC::eG::gF::dQ::aG 119 []))) H1=some (u2,H2)/\Made H0 p H2 u2:=by
 intro q;induction q with
 |zero=>
  intro i k H1 ev1 hr hi hk h1i hM;intros;obtain⟨k,rfl⟩:=aB k U
  obtain rfl:n=i:=U
  have e:decide (((n:Nat):Int)<(n:Nat))=false:=by simp
  have l0:=cQ hM.hb 0 _ rfl;rw[hpn] at l0;rw[<-hpe] at hM;rw[bS,Yy];simp only[gsR,l0,e];rw[aJB];have:=aKD (m:=m) (pb:=pb) (rb:=rb) (zs:=zs) (wv:=wv) (ev:=ev1) (joined:=joined) hn6 hnx hu8 hnl hpn hm hpx n 0 m H1 (.N) U U U hM ⟨[],⟨Rw.fD,rfl,λj u xs h=>by simp at h,λj j' u u' _ h=>by simp at h⟩,λu hu=>by cases hu⟩ (New.iE _)
  rw[Nat.zero_mul] at this;exact this ..
 |succ q ih=>
  intro i k H1 ev1 hr hi hk h1i hM;intros;obtain⟨k,rfl⟩:=aB k U
  have e:decide ((i:Int)<(n:Nat))=true:=aUX U
  have e3:=aA (i:=i) U
  have l0:=cQ hM.hb 0 _ rfl;rw[hpn] at l0;rw[bS,Yy];simp only[gsR,l0,e];refine aKy (H0:=H0) (pb:=pb) (rb:=rb) (B:=i) (joined:=joined) (zs:=zs) (wv:=wv) (Wt:=p.weights) (Q:=Made H0 p) U hj ?_ i 0 m H1 ev1 U U U (by simpa using hM) ..
  intro H2 ev2 hM2;intros;rw[again_normal,e3];exact ih (i+1) k H2 ev2 U U U U hM2 ..
theorem aKE {H0:aF}{pb rb n joined:Nat}{a4:Value}{next:List Nat}{zs:List Value}(hn6:n<=6)(hnx:Us H0 a4 next)(hu8: ∀x∈next,x<256)(hnl:next.length<=72057594037927936)(hpn:p.nodes=(n:Int))(hm:50<m){more:Nat}(hmore:more<256)(hj:joined<65536)(hpx:p.next=(List.range n).map (u5 n next))(hpe:p.edges=mA joined (prs n))(hpw:p.weights=(List.range (1+more%3)).map (mkW more))(hpl:p.lanes=((1+more%3:Nat):Int))(hn1:1<=n): ∀(q i k:Nat)(H1:aF)(wv1:Value),(1+more%3)-i=q->i<=(1+more%3)->q<k->MS H0 H1 pb rb zs p (.N) wv1 (.N) [] ((List.range i).map (mkW more))-> ∀(gC iT jY fC eG gF dQ:Value),
  ∃H2 u2,aL k (aO prog (lvl prog aY m) (aL m) L3) (Ma (lvl prog aY m) (aL m)) (aG 2 (some (.int .u8 more)::some (.int .u16 joined)::a4::aG 5 (some (.Q rb 0)::some (.Q pb 0)::some (.I (i:Nat))::gC::iT::jY::fC::eG::gF::dQ::aG 119 []))) H1=some (u2,H2)/\Made H0 p H2 u2:=by
 intro q;induction q with
 |zero=>
  intro i k H1 wv1 hr hi hk hM;intros;obtain⟨k,rfl⟩:=aB k U
  obtain rfl:(1+more%3)=i:=U
  have e:decide ((((1+more%3):Nat):Int)<((1+more%3):Nat))=false:=by simp
  have l2:=cQ hM.hb 2 _ rfl;rw[hpl] at l2;rw[<-hpw] at hM;rw[bS,Yx];simp only[gsR,l2,e];rw[aJA];have:=aKz (m:=m) (pb:=pb) (rb:=rb) (zs:=zs) (wv:=wv1) (joined:=joined) hn6 hnx hu8 hnl hpn hm hj hpx hpe hn1 (n-1) 1 m H1 (.N) rfl hn1 U (aUi _) hM
  have hp1:joined/2 ^ (prs 1).length=joined:=by
   have:(prs 1).length=0:=rfl;rw[this,Nat.pow_zero,Nat.div_one]
  rw[hp1] at this;exact this ..
 |succ q ih=>
  intro i k H1 wv1 hr hi hk hM;intros;obtain⟨k,rfl⟩:=aB k U
  have e:decide ((i:Int)<((1+more%3):Nat))=true:=aUX U
  have e3:=aA (i:=i) U
  have l2:=cQ hM.hb 2 _ rfl;rw[hpl] at l2;have l8:=cQ hM.hb 8 _ rfl;have hcv:=λH=>cvU H more hmore
  have a1:IntKind.i64.wrap ((i:Int)+(more:Int))=((i+more:Nat):Int):=by rw[bJ U U];omega
  have a2:=wU (i+more) 5 5 rfl U
  have a3:IntKind.i64.wrap (1+((((i+more)%5:Nat)):Int))=mkW more i:=by unfold mkW;rw[bJ U U];omega
  obtain⟨wv2,H2,H3,g1,g2,g3,g4,g5,g6,g7⟩:=B4 (by':=8) eP mQ aC (j:=8) (H0:=H0) (mkW more i) hM.hb (by simp[plC]) hM.w hM.wn hM.lp hM.ext (eD (n:=1000) aC (by simp;omega))
  have hb3:H3[pb]? =some (plB p (.N) wv2 (.N)):=g6;rw[bS,Yx];simp only[gsR,l2,e,l8,hcv,aV,a1,a2,a3,mR,g1,g2,e3];exact ih (i+1) k H3 wv2 U U U ⟨g5,hb3,g7 _ _ hM.ne (λcs hh=>by cases hh) hM.hr,Rw.fD,New.iE _,by rw[aUM,List.map_append];exact g3,g4,hM.ne,hM.lp,hM.lr,hM.zl⟩ ..
theorem bPl (a b c d e f g h:Int):bld prog 40 [(0,.I a),(2,.I b),(3,.I c),(4,.I d),(5,.I e),(6,.I f),(7,.I g),(9,.int .u16 h)]=some (.agg #[.I a,.N,.I b,.I c,.I d,.I e,.I f,.I g,.N,.int .u16 h,.N]):=by kernel_rfl
theorem aKA (nodes room more joined:Nat)(h1:nodes<256)(h2:room<256)(h3:more<256)(h4:joined<65536){a4:Value}{next:List Nat}(hnx:Us H a4 next)(hu8: ∀x∈next,x<256)(hnl:next.length<=72057594037927936)(hm:60<m):
  ∃H2 u,lvl prog aY m (.func 42) [.int .u8 nodes,.int .u8 room,.int .u8 more,.int .u16 joined,a4] H=some (u,H2)/\Made H (mkP nodes room more joined next) H2 u:=by
 obtain⟨p,hp⟩:=aD (mkP nodes room more joined next)
 rw[<-hp];obtain⟨zs,hzs⟩:=aD ([Value.int .i64 0,.slice none 0 0,.int .i64 0,.int .i64 0,.int .i64 0,.int .i64 0,.int .i64 0,.int .i64 0,.slice none 0 0,.int .u16 0,.slice none 0 0]);obtain⟨H1,hH1⟩:=aD (H++[Blk.cells zs 40 .fix]);have x1:Ext H H1:=by rw[hH1];exact Fr.app _ _ _
 have n1:=u6 nodes 5 5 rfl U
 have n2:=λH=>cvU H (nodes%5) U
 have n3:IntKind.i64.wrap (2+((nodes%5:Nat):Int))=p.nodes:=by rw[bJ U U,hp];simp[mkP,mkN]
 have n4:=u6 more 3 3 rfl U
 have n5:=λH=>cvU H (more%3) U
 have n6:IntKind.i64.wrap (1+((more%3:Nat):Int))=p.lanes:=by rw[bJ U U,hp];simp[mkP]
 have r1:=u6 room 8 8 rfl U
 have r2:=λH=>cvU H (room%8) U
 have r3:IntKind.i64.wrap (1+((room%8:Nat):Int))=p.room:=by rw[bJ U U,hp];simp[mkP]
 have r4:=F8 room 8 8 rfl U h2
 have r5:=u6 (room/8) 8 8 rfl U
 have r6:=λH=>cvU H (room/8%8) U
 have r7:IntKind.i64.wrap (1+((room/8%8:Nat):Int))=p.queue:=by rw[bJ U U,hp];simp[mkP]
 have m1:=F8 more 3 3 rfl U h3
 have m2:=u6 (more/3) 4 4 rfl U
 have m3:=λH=>cvU H (more/3%4) U
 have m4:IntKind.i64.wrap (1+((more/3%4:Nat):Int))=p.rounds:=by rw[bJ U U,hp];simp[mkP]
 have m5:=F8 more 12 12 rfl U h3
 have m6:=u6 (more/12) 8 8 rfl U
 have m7:=λH=>cvU H (more/12%8) U
 have m8:IntKind.i64.wrap (1+((more/12%8:Nat):Int))=p.every:=by rw[bJ U U,hp];simp[mkP]
 have b64:p.bag=64:=by rw[hp];rfl
 have bst:p.start=joined:=by rw[hp];rfl
 obtain⟨H2,hH2⟩:=aD (H1++[plB p (.N) (.N) (.N)]);have x2:Ext H1 H2:=by rw[hH2];exact Fr.app _ _ _
 have st:stN 11 (.Q H1.length 0) (.agg #[.I p.nodes,.N,.I p.lanes,.I p.room,.I p.queue,.I p.rounds,.I p.every,.I 64,.N,.int .u16 joined,.N]) (H1++[.cells zs 40 .fix])=some (undef,H2):=by
  rw[fV 11 _ _ _ rfl,cV,iW _ _ _ _ _ _ aC (by rw[hzs];simp[Value.cells]) rfl,hH2,hzs]
  simp[cU,Value.cells,plB,plC,b64,bst]
 have hr1:H1[H.length]? =some (.cells zs 40 .fix):=by rw[hH1];exact cV _ _
 have hM:MS H H2 H1.length H.length zs p (.N) (.N) (.N) [] ((List.range 0).map (mkW more)):=
  ⟨x1.tr x2,by rw[hH2];exact cV _ _,cP hr1 x2,Rw.fD,New.iE _,Rw.fD,New.iE _,by rw[hH1,aUp];simp,x1.1,aUi _,by rw[hzs];rfl⟩
 refine dL (dZ rfl rfl) U ?_
 rw[aJF];simp only[gsR,<-hzs,<-hH1,n1,n2,aV,n3,n4,n5,n6,r1,r2,r3,r4,r5,r6,r7,m1,m2,m3,m4,m5,m6,m7,m8,bPl,st];exact aKE (m:=m-1) (n:=mkN nodes) (p:=p) (pb:=H1.length) (rb:=H.length) (zs:=zs) (by unfold mkN;omega) hnx hu8 hnl (by rw[hp];rfl) U h3 h4 (by rw[hp];rfl) (by rw[hp];rfl) (by rw[hp];rfl) (by rw[hp];rfl) (by unfold mkN;omega) (1+more%3) 0 (m-1) H2 (.N) U U U hM ..
end
def okE (n:Int)(e:Ed):Prop:=0<=e.1/\e.1<e.2/\e.2<n
structure VE (n:Int)(E:List Ed):Prop where
 ok: ∀e∈E,okE n e
 nd:E.Nodup
theorem Zz (n:Int): ∀(E old:List Ed),tN n old E=true↔((∀e∈E,okE n e)/\E.Nodup/\ ∀e∈E,e∉old)
 |[],old=>by simp[tN]
 |e::E,old=>by
  have ih:=Zz n E (old++[e]);have hany:(old.any λx=>x==e)=true↔e∈old:=by
   rw[List.any_eq_true];constructor
   ·rintro ⟨x,h1,h2⟩
    have:x=e:=by simpa using h2
    exact this▸h1
   ·intro h
    exact⟨e,h,by simp⟩
  unfold tN;rw[aUl,ih,Bool.not_eq_true',Bool.or_eq_false_iff,Bool.or_eq_false_iff,Bool.or_eq_false_iff];simp only[decide_eq_false_iff_not,List.nodup_cons,aUw,List.mem_append,aUD,or_false];have hany':(old.any λx=>x==e)=false↔e∉old:=by rw[<-Bool.not_eq_true,hany]
  rw[hany'];constructor
  ·rintro ⟨⟨h1,h2,h3,h4⟩,h5,h6,h7⟩
   refine⟨?_,⟨λhh=>(h7 e hh) (.inr rfl),h6⟩,?_⟩
   ·rintro x (rfl|hx)
    ·exact⟨by omega,by omega,by omega⟩
    ·exact h5 x hx
   ·rintro x (rfl|hx)
    ·exact h4
    ·exact λhh=>h7 x hx (.inl hh)
  ·rintro ⟨h1,⟨h2,h3⟩,h4⟩
   obtain⟨a1,a2,a3⟩:=h1 e (.inl rfl);refine⟨⟨by omega,by omega,by omega,h4 e (.inl rfl)⟩,λx hx=>h1 x (.inr hx),h3,λx hx=> ?_⟩
   rintro (hh|rfl)
   ·exact h4 x (.inr hx) hh
   ·exact h2 hx
theorem Z0 (n:Int)(E:List Ed):tN n [] E=true↔VE n E:=by
 rw[Zz]
 exact⟨λh=>⟨h.1,h.2.1⟩,λh=>⟨h.ok,h.nd,λ_ _=>aUD⟩⟩
def zN (p:Nat×Nat):Ed:=((p.1:Int),(p.2:Int))
theorem My: ∀(L:List (Nat×Nat))(bit:Nat),(mA bit L).Sublist (L.map zN)
 |[],_=>List.Sublist.slnil
 |(a,b)::L,bit=>by
  unfold mA;split
  ·exact(My L (bit/2)).cons_cons _
  ·exact(My L (bit/2)).cons _
theorem Z5 {n a b:Nat}:(a,b)∈prs n↔a<b/\b<n:=by
 unfold prs;rw[List.mem_flatMap];constructor
 ·rintro ⟨x,h1,h2⟩
  obtain⟨y,h3,h4⟩:=aUQ.mp h2;cases h4
  exact⟨aUR.mp h3,aUR.mp h1⟩
 ·rintro ⟨h1,h2⟩
  exact⟨b,aUR.mpr h2,aUQ.mpr ⟨a,aUR.mpr h1,rfl⟩⟩
theorem Z6: ∀n,(prs n).Nodup
 |0=>List.Pairwise.nil
 |n+1=>by
  rw[Fz];refine List.nodup_append.mpr ⟨Z6 n,?_,?_⟩
  ·exact(List.nodup_range).map (λa=>(a,n)) λa b hab h=>hab (by cases h;rfl)
  ·intro x hx y hy
   obtain⟨a,_,rfl⟩:=aUQ.mp hy;obtain⟨x1,x2⟩:=x;have:=(Z5.mp hx).2;intro hh;cases hh;omega
theorem aKL {x y:Nat×Nat}(h:zN x=zN y):x=y:=by
 obtain⟨a,b⟩:=x;obtain⟨c,d⟩:=y;simp only[zN,Prod.mk.injEq] at h;have h1:a=c:=U
 have h2:b=d:=U
 rw[h1,h2]
theorem aKO (bit n:Nat):VE n (mA bit (prs n)):=by
 have hs:=My (prs n) bit;refine⟨λe he=> ?_,(((Z6 n).map zN λa b hab h=>hab (aKL h)).sublist hs)⟩
 obtain⟨⟨a,b⟩,h1,rfl⟩:=aUQ.mp (hs.subset he);obtain⟨h2,h3⟩:=Z5.mp h1;simp only[okE,zN];omega
theorem aKN {n:Nat}(h:n<=6):(prs n).length<=15:=by
 have:n=0∨n=1∨n=2∨n=3∨n=4∨n=5∨n=6:=U
 rcases this with rfl|rfl|rfl|rfl|rfl|rfl|rfl<;>decide
theorem Mw {v w:Int}{e:Ed}:w∈oX v e↔v≠w/\(e=(v,w)∨e=(w,v)):=by
 obtain⟨a,b⟩:=e;unfold oX;simp only[Prod.mk.injEq];by_cases h1:a=b
 ·rw[if_pos h1]
  constructor
  ·intro h;cases h
  ·rintro ⟨h,⟨h2,h3⟩|⟨h2,h3⟩⟩
   ·exact absurd (h2.symm.trans (h1.trans h3)) h
   ·exact absurd (h3.symm.trans (h1.symm.trans h2)) h
 ·rw[if_neg h1]
  by_cases h2:a=v
  ·rw[if_pos h2,List.mem_singleton]
   constructor
   ·rintro rfl
    exact⟨λhh=>h1 (h2.trans hh),.inl ⟨h2,rfl⟩⟩
   ·rintro ⟨h,⟨_,h3⟩|⟨h3,h4⟩⟩
    ·exact h3.symm
    ·exact absurd (h2.symm.trans h3) h
  ·rw[if_neg h2]
   by_cases h3:b=v
   ·rw[if_pos h3,List.mem_singleton]
    constructor
    ·rintro rfl
     exact⟨λhh=>h2 hh.symm,.inr ⟨rfl,h3⟩⟩
    ·rintro ⟨h,⟨h4,_⟩|⟨h4,_⟩⟩
     ·exact absurd h4 h2
     ·exact h4.symm
   ·rw[if_neg h3]
    constructor
    ·intro h;cases h
    ·rintro ⟨h,⟨h4,_⟩|⟨_,h4⟩⟩
     ·exact absurd h4 h2
     ·exact absurd h4 h3
theorem aKK {E:List Ed}{v w:Int}:w∈lZ E v↔v≠w/\((v,w)∈E∨(w,v)∈E):=by
 unfold lZ;rw[List.mem_flatMap];constructor
 ·rintro ⟨e,h1,h2⟩
  obtain⟨h3,h4⟩:=Mw.mp h2;rcases h4 with rfl|rfl
  ·exact⟨h3,.inl h1⟩
  ·exact⟨h3,.inr h1⟩
 ·rintro ⟨h3,h4|h4⟩
  ·exact⟨_,h4,Mw.mpr ⟨h3,.inl rfl⟩⟩
  ·exact⟨_,h4,Mw.mpr ⟨h3,.inr rfl⟩⟩
theorem Ga {E:List Ed}{v w:Int}:w∈bes E v↔v≠w/\((v,w)∈E∨(w,v)∈E):=by rw[Ms,aKK]
theorem aKJ {E:List Ed}{v w:Int}(h:w∈bes E v):v∈bes E w:=by
 rw[Ga] at h⊢
 exact⟨Ne.symm h.1,h.2.symm⟩
theorem wV {n:Int}{E:List Ed}(hE:VE n E){v w:Int}(h:w∈bes E v):0<=w/\w<n/\0<=v/\v<n:=by
 obtain⟨_,h|h⟩:=Ga.mp h
 ·have:=hE.ok _ h
  simp only[okE] at this;omega
 ·have:=hE.ok _ h
  simp only[okE] at this;omega
theorem Z1 (l:List Int)(hl:l.Pairwise (· < ·)): ∀(q i:Nat){j:Nat}{x:Int},i+q=l.length->i<=j->l[j]? =some x->fst (λk=>l[k]? ==some x) q i=j
 |0,i,j,x,h1,h2,h3=>by
  have:=(aUd.mp h3).1;omega
 |q+1,i,j,x,h1,h2,h3=>by
  unfold fst;by_cases hij:i=j
  ·subst hij
   rw[if_pos (by rw[h3];simp)]
  ·have hj:=(aUd.mp h3).1
   have hne: ¬(l[i]? ==some x)=true:=by
    have hx:l[i]? =some l[i]:=aUf U
    rw[hx];have hlt:l[i]<l[j]:=List.pairwise_iff_getElem.mp hl i j U hj U
    have hjx:l[j]=x:=(aUd.mp h3).2;simp;omega
   rw[if_neg hne];exact Z1 l hl q (i+1) U U h3
theorem Z4 {E:List Ed}{v:Int}{i:Nat}{x:Int}(h:(bes E v)[i]? =some x):zL E v x=i+1:=by
 have h1:=Z1 (bes E v) (B3 E v) (bes E v).length 0 U (Nat.zero_le i) h
 unfold zL pV;rw[h1,if_neg U]
theorem Mx (nodes:Nat):2<=mkN nodes/\mkN nodes<=6:=by unfold mkN;omega
theorem aKM (nodes room more joined:Nat)(next:List Nat):VE (mkP nodes room more joined next).nodes (mkP nodes room more joined next).edges:=aKO joined (mkN nodes)
theorem Z2 (nodes room more joined:Nat)(next:List Nat):(mkP nodes room more joined next).edges.length<=15:=
 aUt (Mt _ _) (aKN (Mx nodes).2)
theorem Z3 (nodes room more joined:Nat)(next:List Nat):dT (mkP nodes room more joined next)=true:=by
 have hn:=Mx nodes;unfold dT;simp only[aUl,decide_eq_true_eq];refine⟨?_,by unfold wS;rw[aUl,decide_eq_true_eq];exact⟨(Z0 _ _).mpr (aKM ..),by have:=Z2 nodes room more joined next;omega⟩,?_,?_,?_,?_⟩
 ·unfold oW wi mkP
  simp only[aUl,decide_eq_true_eq];omega
 ·simp[mkP]
 ·unfold wOk
  simp only[mkP,aUr,aUH];rw[aUY U,aUY U]
  simp only[Bool.false_or,Bool.not_eq_true',List.any_eq_false];intro x hx;obtain⟨i,_,rfl⟩:=aUQ.mp hx;unfold pU mkW;rw[aUY U,aUY U]
  simp
 ·simp[mkP]
 ·unfold uZ
  simp only[Bool.not_eq_true',List.any_eq_false];intro x hx;obtain⟨i,_,rfl⟩:=aUQ.mp hx;simp[u5,mkP]
theorem Made.pv {H0 H2:aF}{nodes room more joined:Nat}{next:List Nat}{u:Value}(h:Made H0 (mkP nodes room more joined next) H2 u): ∃ev wv nv,u=plV (mkP nodes room more joined next) ev wv nv/\Ext H0 H2/\PV H2 (mkP nodes room more joined next) ev wv nv:=by
 obtain⟨ev,wv,nv,h1,h2,h3,h4,h5⟩:=h;have:=Z2 nodes room more joined next
 have hn:=Mx nodes
 exact⟨ev,wv,nv,h1,h2,h3.rs,h4.rs,h5.rw.aKv,by omega,by simp[mkP];omega,by simp[mkP];omega⟩
def plZ:Blk:= .cells [Value.int .i64 0,.slice none 0 0,.int .i64 0,.int .i64 0,.int .i64 0,.int .i64 0,.int .i64 0,.int .i64 0,.slice none 0 0,.int .u16 0,.slice none 0 0] 40 .fix
theorem wW:Blk.cells [Value.int .i64 0,.slice none 0 0,.int .i64 0,.int .i64 0,.int .i64 0,.int .i64 0,.int .i64 0,.int .i64 0,.slice none 0 0,.int .u16 0,.slice none 0 0] 40 .fix=plZ:=rfl
section
variable {H : aF} {m : Nat} {p : PlanD} {ev wv nv : Value}
theorem Rs.B8 {α:Type}{el:α->List Value}{e:TypeId}{v:Value}{xs:List α}(h:Rs el e H v xs):v.cells.toList=[v]/\cA [v]=true/\veq 3 v v=true:=by
 rcases h with⟨rfl,_⟩|⟨b,o,cap,rfl,_⟩
 ·exact⟨rfl,rfl,rfl⟩
 ·exact⟨rfl,rfl,by simp[veq]⟩
theorem Rows.Z7 {v:Value}{xss:List (List Int)}(h:Rows H v xss):v.cells.toList=[v]/\cA [v]=true/\veq 3 v v=true:=by
 obtain⟨us,h1,_⟩:=h;exact Rs.B8 h1
theorem PV.B7 (h:PV H p ev wv nv):cA (plC p ev wv nv)=true:=by
 have e1: ∀(v:Value)(vs:List Value),cA [v]=true->cA (v::vs)=cA vs:=λv vs h=>by
  simp only[cA,List.all_cons,List.all_nil,Bool.and_true] at h⊢;rw[h,aUA]
 simp only[plC,Wm,e1 _ _ (Rs.B8 h.e).2.1,e1 _ _ (Rs.B8 h.w).2.1,e1 _ _ (Rows.Z7 h.n).2.1,Wn]
theorem PV.chk (h:PV H p ev wv nv)(H':aF):Go.Abs.chk (some (plV p ev wv nv,H')) (plV p ev wv nv)=true:=by
 have h1:=(Rs.B8 h.e).2.2;have h2:=(Rs.B8 h.w).2.2;have h3:=(Rows.Z7 h.n).2.2;have hi: ∀(k:IntKind)(a:Int),veq 3 (.int k a) (.int k a)=true:=λk a=>by simp[veq]
 show veq 4 (plV p ev wv nv) (plV p ev wv nv)=true
 unfold plV plC;rw[veq];simp only[pJ,hi,h1,h2,h3,Bool.and_self]
theorem Gb (h:PV H p ev wv nv)(H':aF):stN 11 (.Q H'.length 0) (plV p ev wv nv) (H'++[plZ])=some (undef,H'++[plB p ev wv nv]):=by
 have e1:(plV p ev wv nv).cells.toList=plC p ev wv nv:=rfl;rw[fV 11 _ _ _ rfl,cV,e1];unfold plZ;rw[iW _ _ _ _ _ _ aC (by simp[plC]) h.B7]
 simp[cU,plC,plB]
theorem Mz {q q':PlanD}{ev' wv' nv' v:Value}{b j:Nat}(hb:H[b]? =some (plB q ev wv nv))(hv:v.cells.toList=[v])(ha:cA [v]=true)(hj:j<11)(hq:(plC q ev wv nv).set j v=plC q' ev' wv' nv'):stN 1 (.Q b j) v H=some (undef,H.set b (plB q' ev' wv' nv')):=by
 rw[fV 1 _ _ _ (by rw[hv];rfl),hb]
 unfold plB;rw[hv,iW _ _ _ _ _ _ aC (by simp[plC];omega) ha]
 rw[<-hq];rfl
theorem gM {H0 H1:aF}{b:Nat}{x:Blk}(he:Ext H0 H1)(hb:H0.length<=b):Ext H0 (H1.set b x):=⟨by rw[List.length_set];exact he.1,λc hc _=>by rw[aUe U,he.2 c hc id]⟩
end
section
variable {H : aF} {m : Nat} {p : PlanD} {ev wv nv : Value}
theorem aKP (H:aF):Us H (.N) []:= .inl ⟨rfl,rfl⟩
end
section
variable {H : aF} {m : Nat} {p : PlanD} {ev wv nv : Value}
theorem Gc {n:Nat}{E:List Ed}(hE:VE n E)(hn:n<=6){v:Nat}{x:Ed}:x∈mT E v↔x.1=v/\x.2∈bes E v:=by
 unfold mT;simp only[aUQ,List.mem_filter];constructor
 ·rintro ⟨w,⟨h1,_⟩,rfl⟩
  exact⟨rfl,h1⟩
 ·rintro ⟨h1,h2⟩
  obtain⟨a,b⟩:=x;simp only at h1 h2;refine⟨b,⟨h2,?_⟩,by rw[h1]⟩
  have:=wV hE h2;unfold wi;simp;omega
theorem u7 {n:Nat}{E:List Ed}(hE:VE n E)(hn:n<=6){x:Ed}:x∈(List.range n).flatMap (mT E)↔x.2∈bes E x.1:=by
 rw[List.mem_flatMap];constructor
 ·rintro ⟨v,_,h2⟩
  obtain⟨h3,h4⟩:=(Gc hE hn).mp h2;rw[h3];exact h4
 ·intro h
  have:=wV hE h;have e:((x.1.toNat:Nat):Int)=x.1:=U
  refine⟨x.1.toNat,aUR.mpr U,(Gc hE hn).mpr ⟨e.symm,?_⟩⟩
  rw[e];exact h
theorem aKQ {n:Nat}{E:List Ed}(hE:VE n E)(hn:n<=6):((List.range n).flatMap (mT E)).Pairwise (λa b=>a.1<b.1∨(a.1=b.1/\a.2<b.2)):=by
 rw[List.pairwise_flatMap];constructor
 ·intro v _
  unfold mT;rw[List.pairwise_map]
  exact(List.Pairwise.filter _ (B3 E v)).imp λh=> .inr ⟨rfl,h⟩
 ·refine List.pairwise_lt_range.imp λ{a b} hab x hx y hy=> ?_
  have h1:=((Gc hE hn).mp hx).1;have h2:=((Gc hE hn).mp hy).1
  left;omega
end
section
variable {H : aF} {m : Nat} {p : PlanD} {ev wv nv : Value}
theorem aKR (H:aF)(x:Ed):b9 128 2 1 [.I 0,.I 0] [(0,edV x)] H=some (.slice (some ⟨H.length,0,none⟩) 1 1,H++[.cells (edC x) 128 .row]):=rfl
end
section
variable {H : aF} {m : Nat} {p : PlanD} {ev wv nv : Value}
theorem Rs.sv {α:Type}{el:α->List Value}{e:TypeId}{v:Value}{xs:List α}(h:Rs el e H v xs):cA [v]=true/\v.cells= #[v]:=by
 rcases h with⟨rfl,_⟩|⟨b,o,cap,rfl,_⟩<;>exact⟨rfl,rfl⟩
theorem aKS {H0 H1:aF}{a u:Value}(he:Ext H0 H1)(h:ld1 a H0=some (u,H0)):ld1 a H1=some (u,H1):=by
 unfold ld1 at*;cases a with
 |pointer x=>
  cases x with
  |none=>simp at h
  |some ad=>
   obtain⟨b,o,s⟩:=ad;cases s with
   |some s=>simp at h
   |none=>
    simp only at h⊢;cases hb:H0[b]? with
    |none=>rw[hb] at h;simp at h
    |some y=>
     rw[cP hb he];rw[hb] at h;cases y with
     |cells cs e k=>
      simp only at h⊢;cases hc:cs[o]? with
      |none=>rw[hc] at h;simp at h
      |some z=>
       rw[hc] at h;simp at h;subst h;rfl
     |map=>simp at h
     |dead=>simp at h
 |_=>simp at h
end
end Go.Proofs.YtciiopkbmjppfaaGreatDoor
noncomputable section
namespace Go.Proofs.YtciiopkbmjppfaaGreatDoor
open Go.Proofs.Tryz
open Go.Abs Go.Abs.M
variable (O:aH)(L:LV)(k:KV)(N P Q R S T U V W X Y Z a b c d e f g i j l m n o p q r s t u v w x y z A B C D E F G H I J zz zy zx zw zv zu zt zs zr zq zp zo zn zm zl zk zj zi zh zg zf ze zd zc zb za yz:Value)(rr:List Value)(h:aF)
theorem aKW:aR prog O L 21 [N,P,Q,R]=bM (aZ 40 [(.I 0),(.N),(.I 0),(.I 0),(.I 0),(.I 0),(.I 0),(.I 0),(.N),(.int .u16 0),(.N)] .fix) λaa=>bC O 42 [(.int .u8 0),P,Q,R,(.N)] λab=>bC O 43 [N] λac=>bC O 41 [ab,ac] λad=>bX 0 ad λae=>bX 1 ad λaf=>bM (aZ 40 [(.I 0),(.N),(.I 0),(.I 0),(.I 0),(.I 0),(.I 0),(.I 0),(.N),(.int .u16 0),(.N)] .fix) λag=>bM (stN 11 ag ae) λah=>bM (ldN 11 ag) λai=>bM (stN 11 aa ai) λaj=>bR (ldN 11 aa) λw10=>aM (aK [w10]):=by kernel_rfl
def M4:CC:=cc prog 3830 41 [1,1,1,1,1,1,1,1,1,1,0,1,0,0,1,0,0,1,0,1,0,0]
def M8:KV:=(bV 4 (cJ prog O L (cc prog 3830 41 [1,1,1,1,1,1,1,1,1,1,0,1,0,0,1,0,0,1,1]) (bV 3 (cJ prog O L (cc prog 3830 41 [1,1,1,1,1,1,1,1,1,1,0,1,0,0,1,1]) (iO 3830 k)))))
def M5 (O:aH)(L:LV) (k:KV) (b c e f g i l m n:Value):MV:=bFL 10 c λaa=>bM (b9 37 1 1 [(.N)] [(0,m)]) λab=>bM (app 37 1 24 aa ab) λac=>bF 10 c λad=>bT ad ac λae=>bB prog .add 3 l (.I 1) λaf=>k .normal (aG 1 (b::c::aG 1 (e::f::g::i::aG 1 (af::m::n::aG 71 []))))
theorem aKZ:M8 O L k (.exit 4) (aG 1 (b::c::aG 1 (e::f::g::i::aG 1 (l::m::n::aG 71 []))))=M5 O L k b c e f g i l m n:=by kernel_rfl
theorem aAd:aO prog O L M4 k (aG 1 (b::c::aG 1 (e::f::g::i::aG 1 (l::m::n::aG 71 []))))=bB prog .lss 3 n g λaa=>aN aa (bB prog .neq 3 l n λab=>aN ab (bC O 72 [b,l,n] λac=>bIL 1 ac (.I 1) λad=>bM (b9 3 1 1 [(.I 0)] [(0,ad)]) λae=>bM (app 3 1 8 m ae) λaf=>bB prog .add 3 n (.I 1) λag=>k .normal (aG 1 (b::c::aG 1 (e::f::g::i::aG 1 (l::af::ag::aG 71 []))))) (bM (b9 3 1 1 [(.I 0)] [(0,l)]) λah=>bM (app 3 1 8 m ah) λai=>bB prog .add 3 n (.I 1) λaj=>k .normal (aG 1 (b::c::aG 1 (e::f::g::i::aG 1 (l::ai::aj::aG 71 [])))))) (k (.exit 4) (aG 1 (b::c::aG 1 (e::f::g::i::aG 1 (l::m::n::aG 71 []))))):=by kernel_rfl
def M3:CC:=cc prog 3830 41 [1,1,1,1,1,1,1,1,1,1,0,1,0,0]
def M7:KV:=(bV 2 (cJ prog O L (cc prog 3830 41 [1,1,1,1,1,1,1,1,1,1,1]) (cS prog Tryz.f41)))
theorem aKY:M7 O L (.exit 2) (aG 1 (b::c::aG 1 (e::f::g::i::aG 1 (l::m::n::aG 71 []))))=bM (ldN 11 c) λaa=>bM (stN 11 e aa) λab=>bR (ldN 11 e) λw39=>aM (aK [w39,(.I 0)]):=by kernel_rfl
theorem aAc:aO prog O L M3 k (aG 1 (b::c::aG 1 (e::f::g::i::aG 1 (l::m::n::aG 71 []))))=bB prog .lss 3 l g λaa=>aN aa (L (aO prog O L M4) (M8 O L k) (aG 1 (b::c::aG 1 (e::f::g::i::aG 1 (l::some (.N)::some (.I 0)::aG 71 []))))) (k (.exit 2) (aG 1 (b::c::aG 1 (e::f::g::i::aG 1 (l::m::n::aG 71 []))))):=by kernel_rfl
def M2:CC:=cc prog 3830 41 [1,1,1,1,1,0,1,0,0]
def M6:KV:=(bV 0 (cJ prog O L (cc prog 3830 41 [1,1,1,1,1,1]) (cS prog Tryz.f41)))
theorem aKX:M6 O L (.exit 0) (aG 1 (b::c::aG 1 (e::f::g::i::aG 1 (l::m::n::aG 71 []))))=bFL 8 c λaa=>bM (app 3 1 8 (.N) aa) λab=>bF 8 c λac=>bT ac ab λad=>bF 10 c λae=>bT ae (.N) λaf=>L (aO prog O L M3) (M7 O L) (aG 1 (b::c::aG 1 (e::f::g::i::aG 1 (some (.I 0)::m::n::aG 71 [])))):=by kernel_rfl
theorem aAb:aO prog O L M2 k (aG 1 (b::c::aG 1 (e::f::g::i::aG 1 (l::m::n::aG 71 []))))=bB prog .lss 3 i g λaa=>aN aa (bFL 1 c λab=>bB prog .sub 3 i (.I 1) λac=>bIL 1 b ac λad=>bO (bld prog 128 [(0,ad),(1,i)]) λae=>bM (b9 128 2 1 [(.I 0),(.I 0)] [(0,ae)]) λaf=>bM (app 128 2 16 ab af) λag=>bF 1 c λah=>bT ah ag λai=>bB prog .add 3 i (.I 1) λaj=>k .normal (aG 1 (b::c::aG 1 (e::f::g::aj::aG 1 (l::m::n::aG 71 []))))) (k (.exit 0) (aG 1 (b::c::aG 1 (e::f::g::i::aG 1 (l::m::n::aG 71 []))))):=by kernel_rfl
theorem aK0:aR prog O L 41 [N,P]=bM (aZ 40 (Value.cells N).toList .fix) λaa=>bM (aZ 40 [(.I 0),(.N),(.I 0),(.I 0),(.I 0),(.I 0),(.I 0),(.I 0),(.N),(.int .u16 0),(.N)] .fix) λab=>bC O 71 [P] λac=>bO (un prog .not ac) λad=>bG ad false (aX P) λae=>bG ad false (aP (cX ae)) λaf=>bG ad false (aP (bin prog .eql 3 af (.I 0))) λag=>bP ad (.bool true) ag λah=>aN ah (bO (bld prog 40 []) λai=>bM (stN 11 ab ai) λaj=>bR (ldN 11 ab) λw10=>aM (aK [w10,(.I 120)])) (bN P λak=>bB prog .add 3 ak (.I 1) λal=>bF 0 aa λam=>bT am al λan=>bF 1 aa λao=>bT ao (.N) λap=>L (aO prog O L M2) (M6 O L) (aG 1 (P::aa::aG 1 (ab::some (.I 0)::al::some (.I 1)::aG 1 (some aE::some aE::some aE::aG 71 []))))):=by kernel_rfl
def M9:CC:=cc prog 29 43 [1,1,0,1,0,0]
def Nb:KV:=(bV 0 (cJ prog O L (cc prog 29 43 [1,1,1]) (cS prog Tryz.f43)))
def Na (O:aH)(L:LV) (a c d e:Value):MV:=bN d λaa=>bB prog .eql 3 aa (.I 0) λab=>aN ab (bM (b9 3 1 1 [(.I 0)] [(0,(.I 0))]) λac=>bM (app 3 1 8 d ac) λad=>aM (aK [ad])) (aM (aK [d]))
theorem aAf:Nb O L (.exit 0) (a::aG 1 (c::d::e::aG 28 []))=Na O L a c d e:=by kernel_rfl
theorem aAe:aO prog O L M9 k (a::aG 1 (c::d::e::aG 28 []))=bN a λaa=>bB prog .lss 3 e aa λab=>bG ab true (aX e) λac=>bG ab true (aP (bin prog .lss 3 ac (.I 5))) λad=>bP ab ad (.bool false) λae=>aN ae (bIL 1 a e λaf=>bM (cK prog 5 3 af) λag=>bB prog .add 3 e (.I 1) λah=>bB prog .rem 3 ag ah λai=>bM (b9 3 1 1 [(.I 0)] [(0,ai)]) λaj=>bM (app 3 1 8 d aj) λak=>bB prog .add 3 e (.I 1) λal=>k .normal (a::aG 1 (c::ak::al::aG 28 []))) (k (.exit 0) (a::aG 1 (c::d::e::aG 28 []))):=by kernel_rfl
theorem aK1:aR prog O L 43 [N]=L (aO prog O L M9) (Nb O L) (N::aG 1 (some (.N)::some (.N)::some (.I 0)::aG 28 [])):=by kernel_rfl
def Nf:CC:=cc prog 27021597770711318 44 [1,1,1,1,1,0,1,0,0]
def Gh:KV:=(bV 4 (cJ prog O L (cc prog 27021597770711318 44 [1,1,1,1,1,1]) (cS prog Tryz.f44)))
theorem aK4:Gh O L (.exit 4) (aG 1 (b::c::aG 1 (e::aG 3 (j::aG 7 (s::t::aG 3 (x::y::aG 30 (zg::zf::aG 16 [])))))))=aM (aK [(.int .u16 0)]):=by kernel_rfl
theorem aK8:Gh O L .ret (aG 1 (b::c::aG 1 (e::aG 3 (j::aG 7 (s::t::aG 3 (x::y::aG 30 (zg::zf::aG 16 [])))))))=aM (aK [c]):=by kernel_rfl
theorem aAi:aO prog O L Nf k (aG 1 (b::c::aG 1 (e::aG 3 (j::aG 7 (s::t::aG 3 (x::y::aG 30 (zg::zf::aG 16 [])))))))=bB prog .lss 3 zf zg λaa=>aN aa (aW 0 j λab=>bIL 1 ab zf λac=>bB prog .eql 3 ac (.I 0) λad=>bG ad true (aX j) λae=>bG ad true (aX zf) λaf=>gO ad true O 76 [ae,af] λag=>bP ad ag (.bool false) λah=>aN ah (k .ret (aG 1 (b::some (.int .u16 140)::aG 1 (e::aG 3 (j::aG 7 (s::t::aG 3 (x::y::aG 30 (zg::zf::aG 16 [])))))))) (bB prog .add 3 zf (.I 1) λai=>k .normal (aG 1 (b::c::aG 1 (e::aG 3 (j::aG 7 (s::t::aG 3 (x::y::aG 30 (zg::ai::aG 16 []))))))))) (k (.exit 4) (aG 1 (b::c::aG 1 (e::aG 3 (j::aG 7 (s::t::aG 3 (x::y::aG 30 (zg::zf::aG 16 [])))))))):=by kernel_rfl
def Nd:CC:=cc prog 27021597770711318 44 [1,1,0,1,0,0,1,1,0,0,1,1,0,0]
def Gg:KV:=(bV 2 (bV 1 (cJ prog O L (cc prog 27021597770711318 44 [1,1,0,1,0,0,1,1,1]) (iO 27021597770711318 k))))
theorem aK3:Gg O L k (.exit 2) (aG 1 (b::c::aG 1 (e::aG 3 (j::aG 7 (s::t::aG 3 (x::y::aG 30 (zg::zf::aG 16 [])))))))=bB prog .add 3 t (.I 1) λaa=>k .normal (aG 1 (b::c::aG 1 (e::aG 3 (j::aG 7 (s::aa::aG 3 (x::y::aG 30 (zg::zf::aG 16 []))))))):=by kernel_rfl
theorem aK7:Gg O L k .ret (aG 1 (b::c::aG 1 (e::aG 3 (j::aG 7 (s::t::aG 3 (x::y::aG 30 (zg::zf::aG 16 [])))))))=k .ret (aG 1 (b::c::aG 1 (e::aG 3 (j::aG 7 (s::t::aG 3 (x::y::aG 30 (zg::zf::aG 16 []))))))):=by kernel_rfl
theorem aAh:aO prog O L Nd k (aG 1 (b::c::aG 1 (e::aG 3 (j::aG 7 (s::t::aG 3 (x::y::aG 30 (zg::zf::aG 16 [])))))))=bB prog .lss 3 y x λaa=>aN aa (bM (ldN 11 b) λab=>bC O 74 [ab,e,y] λac=>bX 0 ac λad=>bX 1 ac λae=>bO (un prog .not ae) λaf=>aN af (k .ret (aG 1 (b::some (.int .u16 140)::aG 1 (e::aG 3 (j::aG 7 (s::t::aG 3 (x::y::aG 30 (zg::zf::aG 16 [])))))))) (bB prog .add 3 y (.I 1) λag=>k .normal (aG 1 (b::c::aG 1 (e::aG 3 (j::aG 7 (s::t::aG 3 (x::ag::aG 30 (zg::zf::aG 16 []))))))))) (k (.exit 2) (aG 1 (b::c::aG 1 (e::aG 3 (j::aG 7 (s::t::aG 3 (x::y::aG 30 (zg::zf::aG 16 [])))))))):=by kernel_rfl
def Nc:CC:=cc prog 27021597770711318 44 [1,1,0,1,0,0]
def Gf:KV:=(bV 0 (cJ prog O L (cc prog 27021597770711318 44 [1,1,1]) (cS prog Tryz.f44)))
def Ng (O:aH)(L:LV) (b c e j s t x y zg zf:Value):MV:=bM (ldN 11 b) λaa=>bC O 75 [aa] λab=>bO (bld prog 135 [(1,ab)]) λac=>bM (aZ 135 (Value.cells ac).toList .fix) λad=>aW 1 ad λae=>bN ae λaf=>bM (gU 3 1 8 [(.I 0)] af af) λag=>bQF 0 ad λah=>bT ah ag λai=>aW 0 ad λaj=>bN aj λak=>L (aO prog O L Nf) (Gh O L) (aG 1 (b::c::aG 1 (e::aG 3 (ad::aG 7 (s::t::aG 3 (x::y::aG 30 (ak::some (.I 0)::aG 16 [])))))))
theorem aK2:Gf O L (.exit 0) (aG 1 (b::c::aG 1 (e::aG 3 (j::aG 7 (s::t::aG 3 (x::y::aG 30 (zg::zf::aG 16 [])))))))=Ng O L b c e j s t x y zg zf:=by kernel_rfl
theorem aK6:Gf O L .ret (aG 1 (b::c::aG 1 (e::aG 3 (j::aG 7 (s::t::aG 3 (x::y::aG 30 (zg::zf::aG 16 [])))))))=aM (aK [c]):=by kernel_rfl
theorem aAg:aO prog O L Nc k (aG 1 (b::c::aG 1 (e::aG 3 (j::aG 7 (s::t::aG 3 (x::y::aG 30 (zg::zf::aG 16 [])))))))=bB prog .lss 3 t s λaa=>aN aa (bFL 0 b λab=>L (aO prog O L Nd) (Gg O L k) (aG 1 (b::c::aG 1 (t::aG 3 (j::aG 7 (s::t::aG 3 (ab::some (.I 0)::aG 30 (zg::zf::aG 16 [])))))))) (k (.exit 0) (aG 1 (b::c::aG 1 (e::aG 3 (j::aG 7 (s::t::aG 3 (x::y::aG 30 (zg::zf::aG 16 [])))))))):=by kernel_rfl
theorem aK5:aR prog O L 44 [N]=bM (aZ 40 (Value.cells N).toList .fix) λaa=>bM (ldN 11 aa) λab=>bC O 73 [ab] λac=>bB prog .neq 59 ac (.int .u16 0) λad=>aN ad (aM (aK [ac])) (bFL 0 aa λae=>L (aO prog O L Nc) (Gf O L) (aG 1 (aa::some (.int .u16 0)::aG 1 (some aE::aG 3 (some aE::aG 7 (ae::some (.I 0)::aG 3 (some aE::some aE::aG 30 (some aE::some aE::aG 16 [])))))))):=by kernel_rfl
def Nh:CC:=cc prog 13 71 [1,0,1,0,0]
def Gi:KV:=(bV 0 (cJ prog O L (cc prog 13 71 [1,1]) (cS prog Tryz.f71)))
theorem aK9:Gi O L (.exit 0) (a::aG 1 (c::d::aG 22 []))=bN a λaa=>bB prog .leq 3 aa (.I 5) λab=>aM (aK [ab]):=by kernel_rfl
theorem aAk:Gi O L .ret (a::aG 1 (c::d::aG 22 []))=aM (aK [c]):=by kernel_rfl
theorem aAj:aO prog O L Nh k (a::aG 1 (c::d::aG 22 []))=bN a λaa=>bB prog .lss 3 d aa λab=>aN ab (bIL 1 a d λac=>bB prog .lss 3 ac (.I 0) λad=>bG ad false (aX a) λae=>bG ad false (aX d) λaf=>bG ad false (aP (cN 1 ae af)) λag=>bG ad false (ld1 ag) λah=>bG ad false (aX d) λai=>bG ad false (aP (bin prog .gtr 3 ah ai)) λaj=>bP ad (.bool true) aj λak=>aN ak (k .ret (a::aG 1 (some (.bool false)::d::aG 22 []))) (bB prog .add 3 d (.I 1) λal=>k .normal (a::aG 1 (c::al::aG 22 [])))) (k (.exit 0) (a::aG 1 (c::d::aG 22 []))):=by kernel_rfl
theorem aLa:aR prog O L 71 [N]=L (aO prog O L Nh) (Gi O L) (N::aG 1 (some (.bool false)::some (.I 0)::aG 22 [])):=by kernel_rfl
def Nj:CC:=cc prog 1984 72 [1,1,1,1,1,1,1,0,1,0,0]
def Nn:KV:=(bV 2 (cJ prog O L (cc prog 1984 72 [1,1,1,1,1,1,1,1]) (cS prog Tryz.f72)))
theorem aLc:Nn O L (.exit 2) (aG 6 (g::i::j::l::m::aG 80 []))=aM (aK [l]):=by kernel_rfl
theorem aAl:aO prog O L Nj k (aG 6 (g::i::j::l::m::aG 80 []))=bB prog .geq 3 m (.I 0) λaa=>aN aa (bIL 1 j m λab=>bM (b9 3 1 1 [(.I 0)] [(0,ab)]) λac=>bM (app 3 1 8 l ac) λad=>bB prog .sub 3 m (.I 1) λae=>k .normal (aG 6 (g::i::j::ad::ae::aG 80 []))) (k (.exit 2) (aG 6 (g::i::j::l::m::aG 80 []))):=by kernel_rfl
def Ni:CC:=cc prog 1984 72 [1,1,1,1,0,0,0]
def Nm:KV:=(bV 0 (cJ prog O L (cc prog 1984 72 [1,1,1,1,1]) (cS prog Tryz.f72)))
def Nk (O:aH)(L:LV) (g i j l m:Value):MV:=bM (app 3 1 8 (.N) i) λaa=>bN j λab=>bB prog .sub 3 ab (.I 2) λac=>L (aO prog O L Nj) (Nn O L) (aG 6 (g::i::j::aa::ac::aG 80 []))
theorem Nl:Nm O L (.exit 0) (aG 6 (g::i::j::l::m::aG 80 []))=Nk O L g i j l m:=by kernel_rfl
theorem aLb:aO prog O L Ni k (aG 6 (g::i::j::l::m::aG 80 []))=bN i λaa=>bB prog .gtr 3 aa (.I 1) λab=>bG ab true (aX j) λac=>bG ab true (aP (cX ac)) λad=>bG ab true (aP (bin prog .gtr 3 ad (.I 1))) λae=>bP ab ae (.bool false) λaf=>bG af true (aX i) λag=>bG af true (aX i) λah=>bG af true (aP (cX ah)) λai=>bG af true (aP (bin prog .sub 3 ai (.I 2))) λaj=>bG af true (aP (cN 1 ag aj)) λak=>bG af true (ld1 ak) λal=>bG af true (aX j) λam=>bG af true (aX j) λan=>bG af true (aP (cX an)) λao=>bG af true (aP (bin prog .sub 3 ao (.I 2))) λap=>bG af true (aP (cN 1 am ap)) λaq=>bG af true (ld1 aq) λar=>bG af true (aP (bin prog .eql 3 al ar)) λau=>bP af au (.bool false) λav=>aN av (bN i λaw=>bB prog .sub 3 aw (.I 1) λax=>bM (slc prog 1 i none (some ax) none) λay=>bN j λaz=>bB prog .sub 3 az (.I 1) λba=>bM (slc prog 1 j none (some ba) none) λbb=>k .normal (aG 6 (g::ay::bb::l::m::aG 80 []))) (k (.exit 0) (aG 6 (g::i::j::l::m::aG 80 []))):=by kernel_rfl
theorem aLd:aR prog O L 72 [N,P,Q]=bC O 71 [N] λaa=>bO (un prog .not aa) λab=>bG ab false (aX P) λac=>bG ab false (aP (bin prog .lss 3 ac (.I 0))) λad=>bP ab (.bool true) ad λae=>bG ae false (aX P) λaf=>bG ae false (aX N) λag=>bG ae false (aP (cX ag)) λah=>bG ae false (aP (bin prog .gtr 3 af ah)) λai=>bP ae (.bool true) ai λaj=>bG aj false (aX Q) λak=>bG aj false (aP (bin prog .lss 3 ak (.I 0))) λal=>bP aj (.bool true) al λam=>bG am false (aX Q) λan=>bG am false (aX N) λao=>bG am false (aP (cX ao)) λap=>bG am false (aP (bin prog .gtr 3 an ap)) λaq=>bP am (.bool true) aq λar=>aN ar (aM (aK [(.N)])) (bC O 109 [N,P] λau=>bC O 109 [N,Q] λav=>L (aO prog O L Ni) (Nm O L) (aG 6 (some (.N)::au::av::some aE::some aE::aG 80 []))):=by kernel_rfl
def No:CC:=cc prog 462 74 [1,1,0,0,0]
def Gj:KV:=(bV 0 (cJ prog O L (cc prog 462 74 [1,1,1]) (cS prog Tryz.f74)))
theorem aLf:Gj O L (.exit 0) (aG 1 (b::c::d::aG 2 (g::i::j::aG 33 [])))=aM (aK [j,(.bool true)]):=by kernel_rfl
theorem aAm:Gj O L .ret (aG 1 (b::c::d::aG 2 (g::i::j::aG 33 [])))=aM (aK [g,i]):=by kernel_rfl
theorem aLe:aO prog O L No k (aG 1 (b::c::d::aG 2 (g::i::j::aG 33 [])))=bB prog .neq 3 b c λaa=>aN aa (bFL 10 d λab=>bIL 1 ab b λac=>bIL 1 ac c λad=>bN j λae=>bFL 0 d λaf=>bB prog .eql 3 ae af λag=>bG ag false (ldN 11 d) λah=>bG ag false (aX b) λai=>gO ag false O 67 [ah,ai] λaj=>bG ag false (aX ad) λak=>gO ag false O 114 [aj,ak] λal=>bG ag false (aP (un prog .not al)) λam=>bP ag (.bool true) am λan=>aN an (k .ret (aG 1 (b::c::d::aG 2 (some (.N)::some (.bool false)::j::aG 33 [])))) (bM (b9 3 1 1 [(.I 0)] [(0,ad)]) λao=>bM (app 3 1 8 j ao) λap=>k .normal (aG 1 (ad::c::d::aG 2 (g::i::ap::aG 33 []))))) (k (.exit 0) (aG 1 (b::c::d::aG 2 (g::i::j::aG 33 [])))):=by kernel_rfl
theorem aLg:aR prog O L 74 [N,P,Q]=bM (aZ 40 (Value.cells N).toList .fix) λaa=>bM (b9 3 1 1 [(.I 0)] [(0,P)]) λab=>L (aO prog O L No) (Gj O L) (aG 1 (P::Q::aa::aG 2 (some (.N)::some (.bool false)::ab::aG 33 []))):=by kernel_rfl
def Np:CC:=cc prog 229406 75 [1,1,1,1,0,1,0,0]
def Nq:KV:=(bV 0 (cJ prog O L (cc prog 229406 75 [1,1,1,1,1]) (cS prog Tryz.f75)))
theorem aLh:Nq O L (.exit 0) (aG 1 (b::c::d::e::aG 10 (r::s::t::aG 13 [])))=aM (aK [e]):=by kernel_rfl
theorem aAn:aO prog O L Np k (aG 1 (b::c::d::e::aG 10 (r::s::t::aG 13 [])))=bB prog .lss 3 t s λaa=>aN aa (bI 2 r t λab=>bM (ldN 2 ab) λac=>bM (aZ 83 [(.I 0),(.I 0)] .fix) λad=>bM (stN 2 ad ac) λae=>bM (ldN 11 b) λaf=>bM (ldN 2 ad) λag=>bC O 115 [af,ag,d] λah=>bI 1 e t λai=>bT ai ah λaj=>bB prog .add 3 t (.I 1) λak=>k .normal (aG 1 (b::c::d::e::aG 10 (r::s::ak::aG 13 [])))) (k (.exit 0) (aG 1 (b::c::d::e::aG 10 (r::s::t::aG 13 [])))):=by kernel_rfl
theorem aLi:aR prog O L 75 [N]=bM (aZ 40 (Value.cells N).toList .fix) λaa=>bM (ldN 11 aa) λab=>bC O 73 [ab] λac=>bB prog .neq 59 ac (.int .u16 0) λad=>aN ad (aM (aK [(.N)])) (bM (ldN 11 aa) λae=>bC O 46 [ae] λaf=>bN af λag=>bM (gU 37 1 24 [(.N)] ag ag) λah=>bN af λai=>L (aO prog O L Np) (Nq O L) (aG 1 (aa::some (.N)::af::ah::aG 10 (af::ai::some (.I 0)::aG 13 [])))):=by kernel_rfl
def Gk:CC:=cc prog 3670035 76 [1,0,1,1,0,1,0,0]
def B9:KV:=(bV 0 (cJ prog O L (cc prog 3670035 76 [1,0,1,1,1]) (cS prog Tryz.f76)))
theorem aLj:B9 O L (.exit 0) (a::b::aG 2 (e::aG 14 (v::w::x::aG 32 [])))=aW 0 a λaa=>bI 1 aa b λab=>bT ab (.I 2) λac=>aM (aK [(.bool false)]):=by kernel_rfl
theorem aAp:B9 O L .ret (a::b::aG 2 (e::aG 14 (v::w::x::aG 32 [])))=aM (aK [e]):=by kernel_rfl
theorem aAo:aO prog O L Gk k (a::b::aG 2 (e::aG 14 (v::w::x::aG 32 [])))=bB prog .lss 3 x w λaa=>aN aa (bIL 1 v x λab=>aW 0 a λac=>bIL 1 ac ab λad=>bB prog .eql 3 ad (.I 1) λae=>aN ae (k .ret (a::b::aG 2 (some (.bool true)::aG 14 (v::w::x::aG 32 [])))) (aW 0 a λaf=>bIL 1 af ab λag=>bB prog .eql 3 ag (.I 2) λah=>aN ah (bB prog .add 3 x (.I 1) λai=>k .normal (a::b::aG 2 (e::aG 14 (v::w::ai::aG 32 [])))) (bC O 76 [a,ab] λaj=>aN aj (k .ret (a::b::aG 2 (some (.bool true)::aG 14 (v::w::x::aG 32 [])))) (bB prog .add 3 x (.I 1) λak=>k .normal (a::b::aG 2 (e::aG 14 (v::w::ak::aG 32 []))))))) (k (.exit 0) (a::b::aG 2 (e::aG 14 (v::w::x::aG 32 [])))):=by kernel_rfl
theorem aLk:aR prog O L 76 [N,P]=aW 0 N λaa=>bI 1 aa P λab=>bT ab (.I 1) λac=>aW 1 N λad=>bIL 1 ad P λae=>bN ae λaf=>L (aO prog O L Gk) (B9 O L) (N::P::aG 2 (some (.bool false)::aG 14 (ae::af::some (.I 0)::aG 32 []))):=by kernel_rfl
def M0:CC:=cc prog 51 109 [1,1,0,0,0]
def M1:KV:=(bV 0 (cJ prog O L (cc prog 51 109 [1,1,1]) (cS prog Tryz.f109)))
theorem Z9:M1 O L (.exit 0) (a::b::aG 2 (e::f::aG 14 []))=aM (aK [f]):=by kernel_rfl
theorem Z8:aO prog O L M0 k (a::b::aG 2 (e::f::aG 14 []))=bB prog .gtr 3 b (.I 0) λaa=>aN aa (bB prog .sub 3 b (.I 1) λab=>bIL 1 a ab λac=>bM (b9 3 1 1 [(.I 0)] [(0,ac)]) λad=>bM (app 3 1 8 f ad) λae=>k .normal (a::ac::aG 2 (e::ae::aG 14 []))) (k (.exit 0) (a::b::aG 2 (e::f::aG 14 []))):=by kernel_rfl
theorem aKT:aR prog O L 109 [N,P]=bM (b9 3 1 1 [(.I 0)] [(0,P)]) λaa=>L (aO prog O L M0) (M1 O L) (N::P::aG 2 (some (.N)::aa::aG 14 [])):=by kernel_rfl
def Gd:CC:=cc prog 6364 115 [1,1,0,1,0,0]
def Ge:KV:=(bV 0 (cJ prog O L (cc prog 6364 115 [1,1,1]) (cS prog Tryz.f115)))
theorem aKU:Ge O L (.exit 0) (aG 2 (c::d::e::aG 1 (g::i::aG 3 (n::o::aG 51 []))))=bC O 106 [i] λaa=>bC O 107 [i] λab=>aM (aK [ab]):=by kernel_rfl
theorem aAa:aO prog O L Gd k (aG 2 (c::d::e::aG 1 (g::i::aG 3 (n::o::aG 51 []))))=bB prog .lss 3 o n λaa=>aN aa (bFL 0 e λab=>bB prog .eql 3 o ab λac=>bG ac false (aX o) λad=>gFL ac false 1 e λae=>bG ac false (aP (bin prog .eql 3 ad ae)) λaf=>bP ac (.bool true) af λag=>gFL ag false 10 d λah=>gFL ag false 0 e λai=>bG ag false (aP (cN 1 ah ai)) λaj=>bG ag false (ld1 aj) λak=>bG ag false (aX o) λal=>bG ag false (aP (cN 1 ak al)) λam=>bG ag false (ld1 am) λan=>gFL ag false 1 e λao=>bG ag false (aP (bin prog .neq 3 an ao)) λap=>bP ag (.bool true) ap λaq=>aN aq (bB prog .add 3 o (.I 1) λar=>k .normal (aG 2 (c::d::e::aG 1 (g::i::aG 3 (n::ar::aG 51 []))))) (bFL 1 e λau=>bFL 10 d λav=>bFL 1 e λaw=>bIL 1 av aw λax=>bIL 1 ax o λay=>bO (bld prog 83 [(0,au),(1,ay)]) λaz=>bC O 144 [c,az] λba=>bB prog .geq 3 ba (.I 0) λbb=>aN bb (bM (b9 3 1 1 [(.I 0)] [(0,ba)]) λbc=>bM (app 3 1 8 i bc) λbd=>bB prog .add 3 o (.I 1) λbe=>k .normal (aG 2 (c::d::e::aG 1 (g::bd::aG 3 (n::be::aG 51 []))))) (bB prog .add 3 o (.I 1) λbf=>k .normal (aG 2 (c::d::e::aG 1 (g::i::aG 3 (n::bf::aG 51 []))))))) (k (.exit 0) (aG 2 (c::d::e::aG 1 (g::i::aG 3 (n::o::aG 51 []))))):=by kernel_rfl
theorem aKV:aR prog O L 115 [N,P,Q]=bM (aZ 40 (Value.cells N).toList .fix) λaa=>bM (aZ 83 (Value.cells P).toList .fix) λab=>bFL 0 aa λac=>L (aO prog O L Gd) (Ge O L) (aG 2 (Q::aa::ab::aG 1 (some (.N)::some (.N)::aG 3 (ac::some (.I 0)::aG 51 [])))):=by kernel_rfl
end Go.Proofs.YtciiopkbmjppfaaGreatDoor
end
namespace Go.Proofs.YtciiopkbmjppfaaGreatDoor
open Go.Proofs.Tryz
open Go.Abs Go.Abs.M
def nx (p:PlanD)(v w:Int):Int:=(p.next.getD v.toNat []).getD w.toNat 0
def wX (p:PlanD)(w:Int):Nat->List Int->Int->Option (List Int)
 |0,_,_=>none
 |q+1,l,v=>if v=w then some l else if((l.length:Int)=p.nodes∨(lZ p.edges v).contains (nx p v w)=false) then none else wX p w q (l++[nx p v w]) (nx p v w)
def nH (p:PlanD)(v w:Int):Option (List Int):=wX p w p.nodes.toNat [v] v
def u9 (p:PlanD)(v w:Int):List Int:=if dT p=true/\0<=v/\v<p.nodes/\0<=w/\w<p.nodes then(nH p v w).getD [] else []
structure OkP (p:PlanD)(n:Nat):Prop where
 hn:p.nodes=(n:Int)
 h2:2<=n
 h6:n<=6
 ve:VE n p.edges
 e15:p.edges.length<=15
 nl:p.next.length=n
 rl: ∀r∈p.next,r.length=n
theorem nG {p:PlanD}(h:dT p=true): ∃n,OkP p n:=by
 unfold dT oW wS uZ wi at h;simp only[aUl,decide_eq_true_eq,Bool.not_eq_true'] at h;obtain⟨⟨⟨h1,h2⟩,_⟩,⟨h3,h4⟩,_,_,h5,h6⟩:=h;have hn:p.nodes=((p.nodes.toNat:Nat):Int):=U
 refine⟨p.nodes.toNat,hn,by omega,by omega,?_,by omega,by omega,λr hr=> ?_⟩
 ·rw[<-hn];exact(Z0 _ _).mp h3
 ·rw[List.any_eq_false] at h6
  have:=h6 r hr;simp only[decide_eq_true_eq,ne_eq,Decidable.not_not] at this;omega
theorem aLl {E:List Ed}{v x:Int}:(bes E v).contains x=(lZ E v).contains x:=by
 rw[Bool.eq_iff_iff,List.contains_iff_mem,List.contains_iff_mem,Ms]
section
variable {H : aF} {m : Nat} {p : PlanD} {ev wv nv : Value}
theorem aLn (xs:List Int)(w:Int):decide (0<=pV xs w)=xs.contains w:=by
 unfold pV;rw[Fq,B1 xs (λx=>x==w) _ (λi x hx=>by rw[hx];rfl)]
 rw[Bool.eq_iff_iff,List.any_eq_true,List.contains_iff_mem];constructor
 ·rintro ⟨x,h1,h2⟩
  have:x=w:=by simpa using h2
  exact this▸h1
 ·exact λh=>⟨w,h,by simp⟩
theorem aLm {v:Value}{xs:List Int}(hx:Is H v xs)(w:Int)(hn:xs.length+20<m)(hm:m<=72057594037927936):lvl prog aY m (.func 114) [v,.I w] H=some (.bool (xs.contains w),H):=by
 have g:=Zr hx w (m:=m-1) U U
 refine aS (dZ rfl rfl) U ?_
 rw[aJk];simp only[gsR,g,aLn]
theorem Nr {n:Nat}(hk:OkP p n)(hp:PV H p ev wv nv){v w:Int}(hv:0<=v/\v<n)(hw:0<=w/\w<n): ∃a u a2,cN 1 nv (.I v)=some a/\ld1 a H=some (u,H)/\cN 1 u (.I w)=some a2/\ld1 a2 H=some (.I (nx p v w),H):=by
 have ev':v=((v.toNat:Nat):Int):=U
 have ew':w=((w.toNat:Nat):Int):=U
 have h1:=hk.nl;obtain⟨r,hr⟩: ∃r,p.next[v.toNat]? =some r:=⟨_,aUf U⟩
 have h2:=hk.rl r (aUn hr);obtain⟨x,hx⟩: ∃x,r[w.toNat]? =some x:=⟨_,aUf U⟩
 obtain⟨a,u,g1,g2,g3⟩:=hp.n.Fp hr .i64;obtain⟨b,o,g4,_,g6⟩:=g3.dM eP hx .i64;rw[<-ev'] at g1;rw[<-ew'] at g4;have e:nx p v w=x:=by
  unfold nx;simp only[aUh,hr,hx,aUG]
 rw[e]
 exact⟨a,u,_,g1,g2,g4,(g6 H rfl).2.1 0 _ rfl⟩
def aAq (H0:aF)(o:Option (List Int))(H':aF)(u:Value):Prop:=Ext H0 H'/\ ∃lv,u= .tuple #[lv,.bool o.isSome]/\Iw H' lv (o.getD [])/\New H0 lv
theorem aLp {n:Nat}(hk:OkP p n){H0:aF}{a:Nat}{w:Int}(hw:0<=w/\w<n)(hp:PV H0 p ev wv nv)(hb:H0[a]? =some (plB p ev wv nv))(hm:200<m)(hm2:m<=72057594037927936):
  ∀(q k:Nat)(H1:aF)(u:Value)(l:List Int)(v:Int),q+l.length=n+1->l.length<=n->q<k->0<=v/\v<n->Ext H0 H1->Iw H1 u l->New H0 u-> ∀(x6 x7:Value),
  ∃H' r,aL k (aO prog (lvl prog aY m) (aL m) No) (Gj (lvl prog aY m) (aL m)) (aG 1 (some (.I v)::some (.I w)::some (.Q a 0)::aG 2 (x6::x7::u::aG 33 []))) H1=some (r,H')/\aAq H0 (wX p w q l v) H' r:=by
 intro q;have h6:=hk.h6;have h15:=hk.e15;induction q with
 |zero=>intro k H1 u l v h1 h2;omega
 |succ q ih=>
  intro k H1 u l v hql hln hk2 hv he hu hnew;intros;obtain⟨k,rfl⟩:=aB k U
  rw[bS,aLe];unfold wX;by_cases hvw:v=w
  ·have d:(v !=w)=false:=by simp[hvw]
   rw[if_pos hvw];simp only[gsR,d];rw[aLf]
   exact⟨H1,_,rfl,he,u,rfl,hu,hnew⟩
  ·have d:(v !=w)=true:=by simp[hvw]
   rw[if_neg hvw];have b1:=cP hb he;have p1:=hp.ext he;have l10:=cQ b1 10 _ rfl;have l0:=cQ b1 0 _ rfl;rw[hk.hn] at l0;obtain⟨a1,u1,a2,g1,g2,g3,g4⟩:=Nr hk p1 hv hw;have hlen:=hu.nY;obtain⟨x,hx⟩:=aD (nx p v w);rw[<-hx] at g4⊢;by_cases hl:l.length=n
   ·have dl:((l.length:Int)==(n:Int))=true:=by simp[hl]
    rw[if_pos (.inl (by rw[hk.hn];omega))]
    simp only[gsR,d,l10,g1,g2,g3,g4,hlen,l0,dl];rw[aAm]
    exact⟨H1,_,rfl,he,.N,rfl,Rw.fD,New.iE _⟩
   ·have dl:((l.length:Int)==(n:Int))=false:=by simp;omega
    have l11:=fE b1;obtain⟨H2,ub,g5,x2,q2,_⟩:=B2 p1 (m:=m) U U v
    have hbl:=Fv p.edges v;have g6:=aLm q2.rs x (m:=m) U U
    rw[aLl] at g6;cases hc:(lZ p.edges v).contains x with
    |false=>
     rw[hc] at g6;rw[if_pos (.inr rfl)];simp only[gsR,d,l10,g1,g2,g3,g4,hlen,l0,dl,l11,g5,g6];rw[aAm]
     exact⟨H2,_,rfl,he.tr x2,.N,rfl,Rw.fD,New.iE _⟩
    |true=>
     rw[hc] at g6;rw[if_neg (by rw[hk.hn];rintro (h|h);omega;cases h)]
     have hxin:=wV hk.ve (Ms _ _ _ |>.mpr (List.contains_iff_mem.mp hc));have hu2:Iw H2 u l:=hu.cZ λb hb=>x2.2 b (hu.dO hb) id
     obtain⟨u2,H3,t1,t2,t3,t4⟩:=hu2.pS (by':=8) eP mQ aC x hnew (he.tr x2) (eD (n:=1000000) aC U)
     simp only[gsR,d,l10,g1,g2,g3,g4,hlen,l0,dl,l11,g5,g6,mR,t1];exact ih k H3 u2 (l++[x]) x (by simp;omega) (by simp;omega) U ⟨hxin.1,hxin.2.1⟩ t4 t2 t3 ..
theorem aLo {n:Nat}(hk:OkP p n)(hp:PV H p ev wv nv){v w:Int}(hv:0<=v/\v<n)(hw:0<=w/\w<n)(hm:300<m)(hm2:m<=72057594037927936):
  ∃H' r,lvl prog aY m (.func 74) [plV p ev wv nv,.I v,.I w] H=some (r,H')/\aAq H (nH p v w) H' r:=by
 obtain⟨H0,hH0⟩:=aD (H++[plB p ev wv nv]);have x0:Ext H H0:=by rw[hH0];exact Fr.app _ _ _
 have b0:H0[H.length]? =some (plB p ev wv nv):=by rw[hH0];exact cV _ _
 have h6:=hk.h6;have h2:=hk.h2;have one:Iw (H0++[.cells (inC v) 3 .row]) (.slice (some ⟨H0.length,0,none⟩) 1 1) [v]:=⟨rfl,.inr ⟨_,1,[],rfl,by simp,rfl,by simp⟩⟩
 have hnew:New H0 (.slice (some ⟨H0.length,0,none⟩) 1 1):=λb ⟨_,_,_,hh⟩=>by cases hh;exact aUi _
 have x1:Ext H0 (H0++[Blk.cells (inC v) 3 .row]):=Fr.app _ _ _;refine dL (dZ rfl rfl) U ?_
 rw[aLg];simp only[gsR,gL,<-hH0,mR];have hq:p.nodes.toNat=n:=by rw[hk.hn];rfl
 unfold nH;rw[hq];have:=aLp hk hw (hp.ext x0) b0 (m:=m-1) U U n (m-1) _ _ [v] v (by simp) (by simp;omega) U hv x1 one hnew
 refine Exists.imp (λH' h=>Exists.imp (λr h=>⟨h.1,x0.tr h.2.1,?_⟩) h) (this ..)
 obtain⟨lv,e1,e2,e3⟩:=h.2.2
 exact⟨lv,e1,e2,λb hb=>aUt x0.1 (e3 b hb)⟩
end
def Gm (p:PlanD)(a b:Ed)(w:Nat):Bool:=a.2==b.1&&((w:Int)!=a.2&&((w:Int)!=a.1&&(nx p a.1 w==a.2&&nx p a.2 w==b.2)))
def wt (p:PlanD)(n:Nat)(a b:Ed):Bool:=(List.range n).any (Gm p a b)
def lM (p:PlanD)(n:Nat)(hs:List Ed)(a:Ed):List Int:=((List.range hs.length).filter λk=>wt p n a (hs.getD k (0,0))).map (λk:Nat=>(k:Int))
def iX (p:PlanD):List (List Int):=if dT p=true then(aU p).map (lM p p.nodes.toNat (aU p)) else []
def oY (hs:List Ed)(y:Ed):Int:=fst (λj=>hs[j]? ==some y) hs.length 0
def kD (p:PlanD)(hs:List Ed)(h:Ed)(w:Nat):List Int:=
 if(w:Int)=h.1∨(w:Int)=h.2∨nx p h.1 w≠h.2 then [] else if 0<=oY hs (h.2,nx p h.2 w) then [oY hs (h.2,nx p h.2 w)] else []
def Gl (p:PlanD)(n:Nat)(hs:List Ed)(h:Ed):List Int:=(List.range n).flatMap (kD p hs h)
theorem aAt (p:Nat->Bool): ∀q i,0<=fst p q i->p (fst p q i).toNat=true
 |0,i=>by simp[fst]
 |q+1,i=>by
  unfold fst;split
  ·rename_i h
   intro _;simpa using h
  ·exact aAt p q (i+1)
theorem aAv {hs:List Ed}(hn:hs.Nodup)(y:Ed)(k:Nat):oY hs y=k↔hs[k]? =some y:=by
 have key:0<=oY hs y->hs[(oY hs y).toNat]? =some y:=λh=>by
  unfold oY at h⊢;have:=aAt _ _ _ h;simpa using this
 constructor
 ·intro h
  have:=key U
  rw[h] at this;simpa using this
 ·intro h
  have hk:=(aUd.mp h).1;have h0:0<=oY hs y:=(Mo _ _ _).mpr ⟨k,by omega,by omega,by rw[h];simp⟩
  have h1:=key h0;have hk1:=(aUd.mp h1).1;have:=(List.getElem_inj (h₀:=hk1) (h₁:=hk) hn).mp (by
   rw[(aUd.mp h1).2,(aUd.mp h).2])
  omega
theorem aLs (p:PlanD)(hs:List Ed)(h:Ed)(w:Nat):(kD p hs h w).length<=1:=by
 unfold kD;split
 ·simp
 ·split<;>simp
theorem Nt (p:PlanD)(hs:List Ed)(h:Ed): ∀i,((List.range i).flatMap (kD p hs h)).length<=i
 |0=>by simp
 |i+1=>by
  have:=Nt p hs h i;have:=aLs p hs h i;rw[aUM,List.flatMap_append];simp only[aUp,List.flatMap_cons,List.flatMap_nil,List.append_nil];omega
theorem aAx {p:PlanD}{n:Nat}{hs:List Ed}{a:Ed}{z:Int}:z∈lM p n hs a↔ ∃k b,z=(k:Nat)/\hs[k]? =some b/\wt p n a b=true:=by
 unfold lM;simp only[aUQ,List.mem_filter,aUR];constructor
 ·rintro ⟨k,⟨h1,h2⟩,rfl⟩
  exact⟨k,hs[k],rfl,aUf h1,by rwa [aUh,aUf h1,aUG] at h2⟩
 ·rintro ⟨k,b,rfl,h1,h2⟩
  refine⟨k,⟨(aUd.mp h1).1,?_⟩,rfl⟩;rwa [aUh,h1,aUG]
theorem aLC (p:PlanD)(n:Nat)(hs:List Ed)(a:Ed):(lM p n hs a).Pairwise (· < ·):=by
 unfold lM;rw[List.pairwise_map]
 exact(List.Pairwise.filter _ List.pairwise_lt_range).imp λh=>by omega
theorem aLB (z:Int)(l:List Int):z∈srt l↔z∈l:=(Bj l).mem_iff
theorem aLt {p:PlanD}{n:Nat}{hs:List Ed}(hn:hs.Nodup)(a:Ed):dd (srt (Gl p n hs a))=lM p n hs a:=by
 refine Zu _ _ (Mq _ (Et _)) (aLC p n hs a) λz=> ?_
 rw[Fw,aLB,aAx];unfold Gl wt;simp only[List.mem_flatMap,aUR,List.any_eq_true];constructor
 ·rintro ⟨w,hw,hz⟩
  unfold kD at hz
  split at hz
  ·simp at hz
  ·rename_i hc
   split at hz
   ·rename_i h0
    simp only[List.mem_singleton] at hz;have e:oY hs (a.2,nx p a.2 w)=((oY hs (a.2,nx p a.2 w)).toNat:Nat):=U
    refine⟨_,_,by rw[hz];exact e,(aAv hn _ _).mp e,w,hw,?_⟩
    unfold Gm;simp only[aUl,bne_iff_ne,beq_iff_eq];refine⟨trivial,?_,?_,?_,trivial⟩<;>omega
   ·simp at hz
 ·rintro ⟨k,b,rfl,hk,w,hw,hz⟩
  unfold Gm at hz;simp only[aUl,bne_iff_ne,beq_iff_eq] at hz;obtain⟨h1,h2,h3,h4,h5⟩:=hz;refine⟨w,hw,?_⟩;unfold kD;rw[if_neg U]
  have:(a.2,nx p a.2 w)=b:=by rw[h5,h1]
  rw[this,(aAv hn b k).mpr hk,if_pos U]
  simp
theorem qU {p:PlanD}{n:Nat}(hk:OkP p n):(aU p).Nodup/\aU p=(List.range n).flatMap (mT p.edges):=by
 have hN:jL p=n:=by have:=hk.h6;unfold jL;rw[hk.hn];omega
 have hho:aU p=(List.range n).flatMap (mT p.edges):=by unfold aU;rw[hN]
 refine⟨?_,hho⟩;rw[hho]
 exact(aKQ hk.ve hk.h6).imp λh hh=>by subst hh;omega
theorem aLw {p:PlanD}{n:Nat}(hk:OkP p n){h:Ed}(hh:h∈aU p):0<=h.1/\h.1<n/\0<=h.2/\h.2<n:=by
 rw[(qU hk).2] at hh;have:=wV hk.ve ((u7 hk.ve hk.h6).mp hh);omega
section
variable {H : aF} {m : Nat} {p : PlanD} {ev wv nv : Value}
def hpB (h:Ed):Blk:= .cells (edC h) 83 .fix
theorem aAu (h:Ed):Blk.cells (edV h).cells.toList 83 .fix=hpB h:=rfl
theorem aLz {b:Nat}{h:Ed}(hb:H[b]? =some (hpB h)):ld1 (.Q b 0) H=some (.I h.1,H):=Be hb rfl
theorem aLA {b:Nat}{h:Ed}(hb:H[b]? =some (hpB h)):ld1 (.Q b 1) H=some (.I h.2,H):=Be hb rfl
theorem aAw {b:Nat}{h:Ed}(hb:H[b]? =some (hpB h)):ldN 2 (.Q b 0) H=some (edV h,H):=by
 rw[qS,hb];unfold hpB;rw[rW _ _ _ _ _ (by simp[edC])]
 rfl
theorem aAs (a b:Ed):bin prog .eql 83 (edV a) (edV b)=some (.bool (a==b)):=by
 have k:rM prog 83=some [true,true]:=by kernel_rfl
 obtain⟨a1,a2⟩:=a;obtain⟨b1,b2⟩:=b;simp[bin,edV,cL,jZ,k,eqT,edC];rfl
theorem aLy {v:Value}{xs:List Ed}{a:Nat}{y:Ed}(hx:Hs H v xs)(ha:H[a]? =some (hpB y))(hn:xs.length<=72057594037927936): ∀(q i k:Nat),xs.length-i=q->i<=xs.length->q<k-> ∀(x4:Value),
  aL k (aO prog (lvl prog aY m) (aL m) L0) (Fk (lvl prog aY m) (aL m)) (v::aG 2 (some (.pointer (some ⟨a,0,none⟩))::x4::aG 2 (some (.int .i64 xs.length)::some (.int .i64 (i:Nat))::aG 10 []))) H=some (.int .i64 (fst (λj=>xs[j]? ==some y) q i),H):=by
 intro q;have la:=aAw ha;induction q with
 |zero=>
  intro i k hr hi hk;intros;obtain⟨k,rfl⟩:=aB k U
  obtain rfl:i=xs.length:=U
  have e:decide ((xs.length:Int)<xs.length)=false:=by simp
  rw[bS,Yu];simp only[gsR,e];rw[aJr];rfl
 |succ q ih=>
  intro i k hr hi hk;intros;obtain⟨k,rfl⟩:=aB k U
  have e:decide ((i:Int)<xs.length)=true:=by simp;omega
  have e3:=aA (i:=i) U
  have hxi:xs[i]? =some xs[i]:=aUf U
  obtain⟨b,o,g1,g2,g3⟩:=hx.dM nF hxi .i64;have l1:ldN 2 (.Q b o) H=some (edV xs[i],H):=(g3 H rfl).1;rw[bS,Yu];unfold fst;by_cases h:y=xs[i]
  ·have d:(y==xs[i])=true:=by rw[h];simp
   have d2:(xs[i]? ==some y)=true:=by rw[hxi,h];simp
   simp only[gsR,e,la,g1,l1,aAs,d];rw[aJt,if_pos d2];rfl
  ·have d:(y==xs[i])=false:=by simpa using h
   have d2: ¬(xs[i]? ==some y)=true:=by rw[hxi];simpa using λhh=>h hh.symm
   simp only[gsR,e,la,g1,l1,aAs,d,aV,e3];rw[if_neg d2];exact ih (i+1) k U U U ..
theorem aLx {v:Value}{xs:List Ed}(hx:Hs H v xs)(y:Ed)(hn:xs.length+10<m)(hm:m<=72057594037927936): ∃H',lvl prog aY m (.func 144) [v,edV y] H=some (.I (oY xs y),H')/\Ext H H':=by
 have x2:Ext H (H++[hpB y]):=Fr.app _ _ _;have hlen:=hx.eC;refine⟨H++[hpB y],aS (dZ rfl rfl) U ?_,x2⟩
 rw[aJs];simp only[gsR,aAu,hlen];exact aLy (hx.ext x2) (cV H _) U xs.length 0 (m-1) U U U ..
theorem aLv {n:Nat}(hk:OkP p n){H0:aF}{a hb:Nat}{h:Ed}{u:Value}{hs:List Ed}(hh:0<=h.1/\h.1<n/\0<=h.2/\h.2<n)(hp:PV H0 p ev wv nv)(hb0:H0[a]? =some (plB p ev wv nv))(hhb:H0[hb]? =some (hpB h))(hu:Hs H0 u hs)(hsl:hs.length<=100)(hm:300<m)(hm2:m<=72057594037927936):
  ∀(q i k:Nat)(H1:aF)(acc:Value),n-i=q->i<=n->q<k->Ext H0 H1->Iw H1 acc ((List.range i).flatMap (kD p hs h))->New H0 acc-> ∀(x6:Value),
  ∃H' r,aL k (aO prog (lvl prog aY m) (aL m) Gd) (Ge (lvl prog aY m) (aL m)) (aG 2 (u::some (.Q a 0)::some (.Q hb 0)::aG 1 (x6::acc::aG 3 (some (.I n)::some (.I (i:Nat))::aG 51 [])))) H1=some (r,H')/\Ext H0 H'/\Iw H' r (dd (srt (Gl p n hs h)))/\New H0 r:=by
 intro q;have h6:=hk.h6;induction q with
 |zero=>
  intro i k H1 acc hr hi hk2 he ha hnew;intros;obtain⟨k,rfl⟩:=aB k U
  obtain rfl:i=n:=U
  have e:decide ((i:Int)<(i:Int))=false:=by simp
  have hal:=Nt p hs h i;obtain⟨H2,g1,g2,g3⟩:=X1 ha U hnew he
  have g1':=Y8 m U [acc] H1
  rw[g1] at g1';have hsl:=pR ((List.range i).flatMap (kD p hs h));obtain⟨H3,r,q1,q2,q3,q4⟩:=Zi (m:=m) g2 hnew g3 U U
  refine⟨H3,r,?_,q2,q3,q4⟩;rw[bS,aAa];simp only[gsR,e];rw[aKU];simp only[gsR,g1',q1]
 |succ q ih=>
  intro i k H1 acc hr hi hk2 he ha hnew;intros;obtain⟨k,rfl⟩:=aB k U
  have e:decide ((i:Int)<(n:Int))=true:=aUX U
  have e3:=aA (i:=i) U
  have hb1:=cP hhb he;have h0:=aLz hb1;have h1:=aLA hb1;have bp:=cP hb0 he;have l10:=cQ bp 10 _ rfl;have p1:=hp.ext he;have hran:(List.range (i+1)).flatMap (kD p hs h)=(List.range i).flatMap (kD p hs h)++kD p hs h i:=by
   rw[aUM,List.flatMap_append];simp
  have hal:=Nt p hs h i;have skip:kD p hs h i=[]-> ∀(x6:Value),∃H' r,aL k (aO prog (lvl prog aY m) (aL m) Gd) (Ge (lvl prog aY m) (aL m)) (aG 2 (u::some (.Q a 0)::some (.Q hb 0)::aG 1 (x6::acc::aG 3 (some (.I n)::some (.I (i+1:Nat))::aG 51 [])))) H1=some (r,H')/\Ext H0 H'/\Iw H' r (dd (srt (Gl p n hs h)))/\New H0 r:=by
   intro h0;exact ih (i+1) k H1 acc U U U he (by rw[hran,h0,List.append_nil];exact ha) hnew
  rw[bS,aAa];cases c1:((i:Int)==h.1) with
  |true=>
   simp only[gsR,e,h0,c1,aV,e3];exact skip (by unfold kD;rw[if_pos (.inl (by simpa using c1))]) ..
  |false=>
   cases c2:((i:Int)==h.2) with
   |true=>
    simp only[gsR,e,h0,h1,c1,c2,aV,e3];exact skip (by unfold kD;rw[if_pos (.inr (.inl (by simpa using c2)))]) ..
   |false=>
    obtain⟨a1,u1,a2,g1,g2,g3,g4⟩:=Nr hk p1 (v:=h.1) (w:=i) U U
    cases c3:(nx p h.1 i !=h.2) with
    |true=>
     simp only[gsR,e,h0,h1,c1,c2,l10,g1,g2,g3,g4,c3,aV,e3];exact skip (by unfold kD;rw[if_pos (.inr (.inr (by simpa using c3)))]) ..
    |false=>
     obtain⟨a3,u3,a4,k1,k2,k3,k4⟩:=Nr hk p1 (v:=h.2) (w:=i) U U
     have bh:bld prog 83 [(0,.I h.2),(1,.I (nx p h.2 i))]=some (edV (h.2,nx p h.2 i)):=Zn _ _;obtain⟨H2,x1,x2⟩:=aLx (hu.ext he) (h.2,nx p h.2 i) (m:=m) U U
     have hnot: ¬((i:Int)=h.1∨(i:Int)=h.2∨nx p h.1 i≠h.2):=by
      have c1': ¬(i:Int)=h.1:=by simpa using c1
      have c2': ¬(i:Int)=h.2:=by simpa using c2
      have c3':nx p h.1 i=h.2:=by simpa using c3
      rintro (hx|hx|hx)
      ·exact c1' hx
      ·exact c2' hx
      ·exact hx c3'
     have ha2:Iw H2 acc ((List.range i).flatMap (kD p hs h)):=ha.cZ λb hb=>x2.2 b (ha.dO hb) id
     cases c4:decide (0<=oY hs (h.2,nx p h.2 i)) with
     |true=>
      obtain⟨acc2,H3,t1,t2,t3,t4⟩:=ha2.pS (by':=8) eP mQ aC (oY hs (h.2,nx p h.2 i)) hnew (he.tr x2) (eD (n:=1000000) aC U)
      simp only[gsR,e,h0,h1,c1,c2,l10,g1,g2,g3,g4,c3,k1,k2,k3,k4,bh,x1,c4,mR,t1,aV,e3];refine ih (i+1) k H3 acc2 U U U t4 ?_ t3 ..
      have:kD p hs h i=[oY hs (h.2,nx p h.2 i)]:=by unfold kD;rw[if_neg hnot,if_pos (of_decide_eq_true c4)]
      rw[hran,this];exact t2
     |false=>
      simp only[gsR,e,h0,h1,c1,c2,l10,g1,g2,g3,g4,c3,k1,k2,k3,k4,bh,x1,c4,aV,e3];refine ih (i+1) k H2 acc U U U (he.tr x2) ?_ hnew ..
      have:kD p hs h i=[]:=by unfold kD;rw[if_neg hnot,if_neg (of_decide_eq_false c4)]
      rw[hran,this,List.append_nil];exact ha2
theorem aLu {n:Nat}(hk:OkP p n){h:Ed}{u:Value}{hs:List Ed}(hh:0<=h.1/\h.1<n/\0<=h.2/\h.2<n)(hp:PV H p ev wv nv)(hu:Hs H u hs)(hsl:hs.length<=100)(hnd:hs.Nodup)(hm:400<m)(hm2:m<=72057594037927936):
  ∃H' r,lvl prog aY m (.func 115) [plV p ev wv nv,edV h,u] H=some (r,H')/\Ext H H'/\Iw H' r (lM p n hs h)/\New H r:=by
 obtain⟨H0,hH0⟩:=aD (H++[plB p ev wv nv]);have x0:Ext H H0:=by rw[hH0];exact Fr.app _ _ _
 have b0:H0[H.length]? =some (plB p ev wv nv):=by rw[hH0];exact cV _ _
 obtain⟨H1,hH1⟩:=aD (H0++[hpB h]);have x1:Ext H0 H1:=by rw[hH1];exact Fr.app _ _ _
 have b1:H1[H0.length]? =some (hpB h):=by rw[hH1];exact cV _ _
 have l0:=cQ (cP b0 x1) 0 _ rfl;rw[hk.hn] at l0;have x01:=x0.tr x1;have h6:=hk.h6;refine dL (dZ rfl rfl) U ?_
 rw[aKV];simp only[gsR,gL,<-hH0,aAu,<-hH1,l0];rw[<-aLt hnd];exact Exists.imp (λH' h=>Exists.imp (λr h=>⟨h.1,x01.tr h.2.1,h.2.2.1,λb hb=>aUt x01.1 (h.2.2.2 b hb)⟩) h) (aLv hk hh (hp.ext x01) (cP b0 x1) b1 (hu.ext x01) hsl (m:=m-1) U U n 0 (m-1) H1 (.N) U U U (Fr.dS _ _) Rw.fD (New.iE _) ..)
structure WR (H:aF)(us:List SV)(xss:List (List Int)):Prop where
 len:us.length=xss.length
 row: ∀(j:Nat)(s:SV)(xs:List Int),us[j]? =some s->xss[j]? =some xs->Iw H s.1 xs
theorem WR.Ca {us:List SV}{xss:List (List Int)}{H':aF}(h:WR H us xss)(hk: ∀(b:Nat)(cs:List Value),H[b]? =some (.cells cs 3 .row)->H'[b]? =H[b]?):WR H' us xss:=
 ⟨h.len,λj s xs h1 h2=>(h.row j s xs h1 h2).cZ λb hb=>by
  obtain⟨cs,hc⟩:=(h.row j s xs h1 h2).blk hb;exact hk b cs hc⟩
theorem WR.aAr {us:List SV}{xss:List (List Int)}{s:SV}{xs:List Int}(h:WR H us xss)(hs:Iw H s.1 xs):WR H (us++[s]) (xss++[xs]):=by
 refine⟨by simp[h.len],λj s' xs' h1 h2=> ?_⟩
 by_cases hj:j<us.length
 ·rw[aUg hj] at h1
  rw[aUg (by have:=h.len;omega)] at h2
  exact h.row j s' xs' h1 h2
 ·have hj2:j=us.length:=by
   have:=(aUd.mp h1).1;simp at this;omega
  subst hj2;simp at h1;rw[h.len] at h2;simp at h2;subst h1 h2;exact hs
theorem WR.Ns {us:List SV}{xss:List (List Int)}{v:Value}(h:WR H us xss)(hv:Rs sC 37 H v us):Rows H v xss:=by
 refine⟨us.map (·.1),?_,by simp[h.len],λj u xs h1 h2=> ?_⟩
 ·rcases hv with⟨h1,h2⟩|⟨b,o,cap,h1,h2,h3⟩
  ·exact .inl ⟨h1,by rw[h2];rfl⟩
  ·refine .inr ⟨b,o,cap,by rw[aUr];exact h1,by rw[aUr];exact h2,λhne=> ?_⟩
   rw[<-B6];exact h3 λhh=>hne (by rw[hh];rfl)
 ·rw[aUq] at h1
  obtain⟨s,hs,rfl⟩:=aUJ.mp h1
  exact(h.row j s xs hs h2).rs
def oZ {u:Value}{xs:List Int}(h:Iw H u xs):SV:=⟨u,Rs.sv h.rs⟩
def Nu:SV:=⟨.N,rfl,rfl⟩
theorem aLr {n:Nat}(hk:OkP p n){H0:aF}{a ob:Nat}{u:Value}{hs:List Ed}(hin: ∀h∈hs,0<=h.1/\h.1<n/\0<=h.2/\h.2<n)(hsl:hs.length<=100)(hnd:hs.Nodup)(hm:500<m)(hm2:m<=72057594037927936)(hp:PV H0 p ev wv nv)(hb0:H0[a]? =some (plB p ev wv nv))(hu:Hs H0 u hs)(hob:H0.length=ob):
  ∀(q i k:Nat)(H1:aF)(us:List SV),hs.length-i=q->i<=hs.length->q<k->Ext H0 H1->OwS sC 37 H1 (.slice (some ⟨ob,0,none⟩) hs.length hs.length) ob us->us.length=hs.length->WR H1 (us.take i) ((hs.take i).map (lM p n hs))-> ∀(x2:Value),
  ∃H' r,aL k (aO prog (lvl prog aY m) (aL m) Np) (Nq (lvl prog aY m) (aL m)) (aG 1 (some (.Q a 0)::x2::u::some (.slice (some ⟨ob,0,none⟩) hs.length hs.length)::aG 10 (u::some (.I hs.length)::some (.I (i:Nat))::aG 13 []))) H1=some (r,H')/\Ext H0 H'/\Rows H' r (hs.map (lM p n hs)):=by
 intro q;induction q with
 |zero=>
  intro i k H1 us hr hi hk2 he ho hul hwr;intros;obtain⟨k,rfl⟩:=aB k U
  obtain rfl:i=hs.length:=U
  have e:decide ((hs.length:Int)<(hs.length:Int))=false:=by simp
  rw[bS,aAn];simp only[gsR,e];rw[aLh];rw[List.take_of_length_le (aUi _),List.take_of_length_le U] at hwr
  refine⟨H1,.slice (some ⟨ob,0,none⟩) hs.length hs.length,rfl,he,hwr.Ns (.inr ⟨ob,0,hs.length,by rw[hul],by omega,λ_=>⟨37,.row,[],[],rfl,λ_=>rfl,?_⟩⟩)⟩
  rw[ho.blk];simp
 |succ q ih=>
  intro i k H1 us hr hi hk2 he ho hul hwr;intros;obtain⟨k,rfl⟩:=aB k U
  have e:decide ((i:Int)<(hs.length:Int))=true:=aUX U
  have e3:=aA (i:=i) U
  obtain⟨h,hh⟩: ∃h,hs[i]? =some h:=⟨_,aUf U⟩
  obtain⟨b,o,g1,_,g3⟩:=(hu.ext he).dM nF hh .i64;have g4:ldN 2 (.Q b o) H1=some (edV h,H1):=(g3 H1 rfl).1;obtain⟨H2,hH2⟩:=aD (H1++[hpB h]);have x2:Ext H1 H2:=by rw[hH2];exact Fr.app _ _ _
  have b2:H2[H1.length]? =some (hpB h):=by rw[hH2];exact cV _ _
  have st:stN 2 (.Q H1.length 0) (edV h) (H1++[.cells [.I 0,.I 0] 83 .fix])=some (undef,H2):=by
   rw[fV 2 _ _ _ rfl,cV,iW _ _ _ _ _ _ aC (by show 0+2<=2;omega) rfl,hH2]
   simp[cU,edV,edC,Value.cells,hpB]
  have l11:=fE (cP hb0 (he.tr x2));have l2:=aAw b2;obtain⟨H3,r,g5,x3,g6,g7⟩:=aLu hk (hin h (aUn hh)) (hp.ext (he.tr x2)) (hu.ext (he.tr x2)) hsl hnd (m:=m) U U
  have gC:Ext H1 H3:=x2.tr x3;have ho3:OwS sC 37 H3 (.slice (some ⟨ob,0,none⟩) hs.length hs.length) ob us:=⟨ho.val,by rw[gC.2 ob (aUd.mp ho.blk).1 id];exact ho.blk⟩
  have ga:=ho3.aG2 1 i .i64 U
  obtain⟨s1,s2⟩:=ho3.st (sz:=1) B5 F9 (i:=i) U (oZ g6)
  have st2:stN 1 (.Q ob (i*1)) r H3=some (undef,H3.set ob (.cells ((us.set i (oZ g6)).map sC).flatten 37 .row)):=by
   have hcl:r.cells.toList=sC (oZ g6):=by
    have:=(oZ g6).2.2;show r.cells.toList=[r]
    rw[show r.cells= #[r] from this]
   rw[fV 1 _ _ _ (by rw[hcl];rfl),hcl]
   exact s1
  rw[bS,aAn];simp only[gsR,e,g1,g4,st,l11,l2,g5,ga,st2,aV,e3];obtain⟨H4,hH4⟩:=aD (H3.set ob (.cells ((us.set i (oZ g6)).map sC).flatten 37 .row));rw[<-hH4] at s2⊢;have x04:Ext H0 H4:=by rw[hH4];exact gM (he.tr gC) U
  have kp: ∀(b:Nat)(cs:List Value),H3[b]? =some (.cells cs 3 .row)->H4[b]? =H3[b]? :=λb cs hb=>by
   rw[hH4];refine aUe λhh=> ?_
   subst hh;rw[ho3.blk] at hb;simp at hb
  have w3:WR H3 (us.take i) ((hs.take i).map (lM p n hs)):=hwr.Ca λb cs hb=>by rw[gC.2 b (aUd.mp hb).1 id]
  have w4:=(w3.aAr (s:=oZ g6) g6).Ca kp;refine ih (i+1) k H4 (us.set i (oZ g6)) U U U x04 s2 (by simp[hul]) ?_ ..
  have e1:(us.set i (oZ g6)).take (i+1)=us.take i++[oZ g6]:=by
   rw[List.take_add_one,aUj U,List.take_set_of_le (aUi _)]
   rfl
  have e2:(hs.take (i+1)).map (lM p n hs)=(hs.take i).map (lM p n hs)++[lM p n hs h]:=by
   rw[List.take_add_one,hh,List.map_append];rfl
  rw[e1,e2];exact w4
theorem aLq (hp:PV H p ev wv nv)(hm:17592186045200<m)(hm2:m<=72057594037927936):
  ∃H' r,lvl prog aY m (.func 75) [plV p ev wv nv] H=some (r,H')/\Ext H H'/\Rows H' r (iX p):=by
 obtain⟨H0,hH0⟩:=aD (H++[plB p ev wv nv]);have x0:Ext H H0:=by rw[hH0];exact Fr.app _ _ _
 have b0:H0[H.length]? =some (plB p ev wv nv):=by rw[hH0];exact cV _ _
 have p0:=hp.ext x0;have l11:=fE b0;obtain⟨H1,g1,x1⟩:=Zf p0 (m:=m-1) U U
 have b1:=cP b0 x1;have p1:=p0.ext x1;have l12:=fE b1;refine dL (dZ rfl rfl) U ?_
 rw[aLi];cases hc:dT p with
 |false=>
  rw[hc] at g1;have en:(uY false !=0)=true:=rfl;have e:iX p=[]:=by unfold iX;rw[if_neg (by simp[hc])]
  simp only[gsR,gL,<-hH0,l11,g1,en]
  exact⟨H1,_,rfl,x0.tr x1,by rw[e];exact⟨[],.inl ⟨rfl,rfl⟩,rfl,λi u xs h=>by simp at h⟩⟩
 |true=>
  rw[hc] at g1;have en:(uY true !=0)=false:=rfl;obtain⟨n,hk⟩:=nG hc;have h15:=hk.e15;obtain⟨H2,u,g2,x2,q2,_⟩:=Zq p1 (m:=m-1) U U
  have hlen:=q2.nY;have hhl:=oC p;have mk:=uQ (H:=H2) 37 1 24 [.N] .i64 .i64 ((aU p).length:Int) U U U rfl
  simp only[aUF] at mk;have e:iX p=(aU p).map (lM p n (aU p)):=by unfold iX;rw[if_pos hc,hk.hn];rfl
  have hfl:(List.replicate (aU p).length [Value.N]).flatten=((List.replicate (aU p).length Nu).map sC).flatten:=by rw[List.map_replicate];rfl
  simp only[gsR,gL,<-hH0,l11,g1,en,l12,g2,hlen,mk];rw[e,hfl];have hx:Ext H2 (H2++[Blk.cells ((List.replicate (aU p).length Nu).map sC).flatten 37 .row]):=Fr.app _ _ _;exact Exists.imp (λH' h=>Exists.imp (λr h=>⟨h.1,((x0.tr x1).tr x2).tr h.2.1,h.2.2⟩) h) (aLr hk (λh hh=>aLw hk hh) U (qU hk).1 (m:=m-1) U U (p1.ext x2) (cP b1 x2) q2.rs rfl (aU p).length 0 (m-1) _ (List.replicate (aU p).length Nu) U U U hx ⟨by simp,cV _ _⟩ (by simp) ⟨by simp,λj s xs h=>by simp at h⟩ ..)
end
end Go.Proofs.YtciiopkbmjppfaaGreatDoor
namespace Go.Abs
open M
def Eg (g:List (List Int))(i k:Nat):Prop:= ∃r,g[i]? =some r/\(k:Int)∈r
inductive Rch (g:List (List Int)):Nat->Nat->Prop
 |one {i k:Nat}:Eg g i k->Rch g i k
 |step {i j k:Nat}:Rch g i j->Eg g j k->Rch g i k
def Cyc (g:List (List Int)):Prop:= ∃i,Rch g i i
def Inn (g:List (List Int)):Prop:= ∀r∈g,∀z∈r,0<=z/\z<(g.length:Int)
def Dn (g:List (List Int))(C:List Int):Prop:= ∀u:Nat,C[u]? =some 2->(∀k:Nat,Eg g u k->C[k]? =some 2)/\ ¬Rch g u u
theorem Dn.aLE {g:List (List Int)}{D:List Int}(h:Dn g D){i:Nat}{r:List Int}(hi:D[i]? =some 1)(hr:g[i]? =some r)(hall: ∀k:Nat,(k:Int)∈r->D[k]? =some 2):Dn g (D.set i 2):=by
 have hl:=(aUd.mp hi).1;have up: ∀k:Nat,D[k]? =some 2->(D.set i 2)[k]? =some 2:=λk hk=>by
  rw[List.getElem?_set];split
  ·rename_i h
   subst h;simp[hl]
  ·exact hk
 intro u hu;by_cases hui:u=i
 ·subst hui
  refine⟨λk ⟨r',h1,h2⟩=> ?_,λhc=> ?_⟩
  ·rw[hr] at h1
   cases h1;exact up k (hall k h2)
  ·have key: ∀k:Nat,Rch g u k->D[k]? =some 2:=by
    intro k hk;induction hk with
    |one e=>
     obtain⟨r',h1,h2⟩:=e;rw[hr] at h1;cases h1;exact hall _ h2
    |step _ e ih=>exact(h _ ih).1 _ e
   have:=key u hc;rw[hi] at this;cases this
 ·rw[aUe (Ne.symm hui)] at hu
  exact⟨λk hk=>up k ((h u hu).1 k hk),(h u hu).2⟩
def Cc (s r:List Int):List Int:=r.foldl (λs k=>s.set k.toNat 1) s
def kX (g:List (List Int))(a:Nat)(s:List Int)(i:Nat):List Int:=if i≠a/\s.getD i 0=0 then s else Cc s (g.getD i [])
def sO (g:List (List Int))(a:Nat)(s:List Int):List Int:=(List.range g.length).foldl (kX g a) s
def fW (g:List (List Int))(a:Nat):Nat->List Int
 |0=>List.replicate g.length 0
 |n+1=>sO g a (fW g a n)
def sN (g:List (List Int)):Bool:=(List.range g.length).any λi=>(fW g i g.length).getD i 0==1
def Le (s s':List Int):Prop:=s.length=s'.length/\ ∀k:Nat,s[k]? =some 1->s'[k]? =some 1
def Bin (s:List Int):Prop:= ∀x∈s,x=0∨x=1
theorem Le.Nv (s:List Int):Le s s:=⟨rfl,λ_ h=>h⟩
theorem Le.aAy {a b c:List Int}(h:Le a b)(h':Le b c):Le a c:=⟨h.1.trans h'.1,λk hk=>h'.2 k (h.2 k hk)⟩
theorem aLJ (s:List Int)(k:Nat):Le s (s.set k 1):=⟨by simp,λj hj=>by
 rw[List.getElem?_set];split
 ·rename_i h
  subst h;simp[(aUd.mp hj).1]
 ·exact hj⟩
theorem Bin.aLD {s:List Int}(h:Bin s)(k:Nat):Bin (s.set k 1):=λx hx=>by
 rcases List.mem_or_eq_of_mem_set hx with h1|h1
 ·exact h x h1
 ·exact .inr h1
theorem Nx: ∀(r s:List Int),Le s (Cc s r)
 |[],s=>Le.Nv s
 |k::r,s=>(aLJ s k.toNat).aAy (Nx r (s.set k.toNat 1))
theorem aAC: ∀(r s:List Int),Bin s->Bin (Cc s r)
 |[],s,h=>h
 |k::r,s,h=>aAC r _ (h.aLD _)
theorem aAD: ∀(r s:List Int)(k:Nat),(k:Int)∈r->k<s.length->(Cc s r)[k]? =some 1
 |[],s,k,h,_=>by cases h
 |z::r,s,k,h,hk=>by
  rcases aUw.mp h with h|h
  ·subst h
   refine(Nx r (s.set (k:Int).toNat 1)).2 k ?_;simp[hk]
  ·exact aAD r _ k h (by simpa using hk)
theorem Ny: ∀(r s:List Int)(k:Nat),(∀z∈r,0<=z)->(Cc s r)[k]? =some 1->s[k]? =some 1∨(k:Int)∈r
 |[],s,k,_,h=> .inl h
 |z::r,s,k,hz,h=>by
  rcases Ny r _ k (λy hy=>hz y (by simp[hy])) h with h1|h1
  ·rw[List.getElem?_set] at h1
   split at h1
   ·rename_i hh
    have:=hz z (by simp)
    exact .inr (by rw[aUw];left;omega)
   ·exact .inl h1
  ·exact .inr (by simp[h1])
theorem Gq (g:List (List Int))(a:Nat)(s:List Int)(i:Nat):Le s (kX g a s i):=by
 unfold kX;split
 ·exact Le.Nv s
 ·exact Nx _ _
theorem N0 (g:List (List Int))(a:Nat): ∀(l:List Nat)(s:List Int),Le s (l.foldl (kX g a) s)
 |[],s=>Le.Nv s
 |i::l,s=>(Gq g a s i).aAy (N0 g a l _)
theorem Ce (g:List (List Int))(a:Nat): ∀(l:List Nat)(s:List Int),Bin s->Bin (l.foldl (kX g a) s)
 |[],s,h=>h
 |i::l,s,h=>Ce g a l _ (by
  unfold kX;split
  ·exact h
  ·exact aAC _ _ h)
theorem Nz (g:List (List Int))(a:Nat)(s:List Int):Le s (sO g a s):=N0 g a _ s
theorem aAH (g:List (List Int))(a:Nat)(s:List Int)(h:Bin s):Bin (sO g a s):=Ce g a _ s h
def Cb (g:List (List Int))(a:Nat)(s:List Int):Prop:= ∀k:Nat,s[k]? =some 1->Rch g a k
theorem aAz {s:List Int}(h:Bin s){i:Nat}(hi: ¬s.getD i 0=0):s[i]? =some 1:=by
 rw[aUh] at hi;cases hs:s[i]? with
 |none=>rw[hs] at hi;simp at hi
 |some x=>
  rw[hs] at hi;simp at hi;rcases h x (aUn hs) with h|h
  ·exact absurd h hi
  ·rw[h]
theorem aLK {g:List (List Int)}{a:Nat}{s:List Int}{i:Nat}(hg:Inn g)(hb:Bin s)(h:Cb g a s):Cb g a (kX g a s i):=by
 unfold kX;split
 ·exact h
 ·rename_i hc
  intro k hk;have hz: ∀z∈g.getD i [],0<=z:=λz hz=>by
   rw[aUh] at hz;cases hg':g[i]? with
   |none=>rw[hg'] at hz;simp at hz
   |some r=>rw[hg'] at hz;exact(hg r (aUn hg') z hz).1
  rcases Ny _ _ k hz hk with h1|h1
  ·exact h k h1
  ·rw[aUh] at h1
   cases hg':g[i]? with
   |none=>rw[hg'] at h1;simp at h1
   |some r=>
    rw[hg'] at h1;have e:Eg g i k:=⟨r,hg',h1⟩;by_cases hia:i=a
    ·rw[<-hia];exact .one e
    ·have: ¬s.getD i 0=0:=λhh=>hc ⟨hia,hh⟩
     exact .step (h i (aAz hb this)) e
theorem aAI {g:List (List Int)}{a:Nat}(hg:Inn g): ∀(l:List Nat)(s:List Int),Bin s->Cb g a s->Cb g a (l.foldl (kX g a) s)
 |[],s,_,h=>h
 |i::l,s,hb,h=>aAI hg l _ (Ce g a [i] s hb) (aLK hg hb h)
def oD (s:List Int):Nat:=s.countP (· ==1)
theorem Cd: ∀(s s':List Int),Le s s'->oD s<=oD s'
 |[],[],_=>aUi _
 |[],_::_,h=>absurd h.1 (by simp)
 |_::_,[],h=>absurd h.1 (by simp)
 |x::s,y::s',h=>by
  have ih:=Cd s s' ⟨by simpa using h.1,λk hk=>by have:=h.2 (k+1) (by simpa using hk);simpa using this⟩
  have h0:=h.2 0;simp only[List.getElem?_cons_zero,aUE] at h0;unfold oD at*;simp only[List.countP_cons];by_cases hx:x=1
  ·rw[hx,h0 hx];simp;exact ih
  ·have:(x==1)=false:=by simp[hx]
   rw[this];simp only[Bool.false_eq_true,if_false];omega
theorem Gn: ∀(s s':List Int),Le s s'->Bin s->Bin s'->oD s'<=oD s->s=s'
 |[],[],_,_,_,_=>rfl
 |[],_::_,h,_,_,_=>absurd h.1 (by simp)
 |_::_,[],h,_,_,_=>absurd h.1 (by simp)
 |x::s,y::s',h,hb,hb',hc=>by
  have hle:Le s s':=⟨by simpa using h.1,λk hk=>by have:=h.2 (k+1) (by simpa using hk);simpa using this⟩
  have h1:=Cd s s' hle;have h0:=h.2 0;simp only[List.getElem?_cons_zero,aUE] at h0;have bx:=hb x (by simp)
  have by':=hb' y (by simp)
  unfold oD at*;simp only[List.countP_cons] at hc;have e:x=y:=by
   rcases bx with bx|bx
   ·rcases by' with by'|by'
    ·rw[bx,by']
    ·rw[bx,by'] at hc
     simp at hc;omega
   ·rw[bx,h0 bx]
  subst e;rw[Gn s s' hle (λz hz=>hb z (by simp[hz])) (λz hz=>hb' z (by simp[hz])) (by unfold oD;omega)]
theorem aLI (s:List Int):oD s<=s.length:=List.countP_le_length
theorem aLH (s:List Int)(h:oD s=s.length): ∀k:Nat,k<s.length->s[k]? =some 1:=by
 intro k hk;have:=(List.countP_eq_length.mp h) s[k] (List.getElem_mem hk);rw[aUf hk];simpa using this
def Clo (g:List (List Int))(a:Nat)(s:List Int):Prop:= ∀i k:Nat,(i=a∨s[i]? =some 1)->Eg g i k->s[k]? =some 1
theorem aAB {g:List (List Int)}{a:Nat}: ∀(l:List Nat)(s:List Int),Bin s->l.foldl (kX g a) s=s-> ∀i∈l,kX g a s i=s
 |[],s,_,_,i,h=>by cases h
 |j::l,s,hb,h,i,hi=>by
  have h1:Le s (kX g a s j):=Gq g a s j;have h2:Le (kX g a s j) s:=by
   have:=N0 g a l (kX g a s j);rw[List.foldl_cons] at h;rw[h] at this;exact this
  have e:kX g a s j=s:=(Gn _ _ h1 hb (Ce g a [j] s hb) (Cd _ _ h2)).symm;rcases aUw.mp hi with rfl|hi
  ·exact e
  ·rw[List.foldl_cons,e] at h
   exact aAB l s hb h i hi
theorem aLF {g:List (List Int)}{a:Nat}{s:List Int}(hg:Inn g)(hl:s.length=g.length)(hb:Bin s)(h:sO g a s=s):Clo g a s:=by
 rintro i k hi ⟨r,hr,hk⟩
 have hil:=(aUd.mp hr).1;have:=aAB _ s hb h i (aUR.mpr hil);unfold kX at this;have hc: ¬(i≠a/\s.getD i 0=0):=by
  rintro ⟨h1,h2⟩
  rcases hi with hi|hi
  ·exact h1 hi
  ·rw[aUh,hi] at h2
   simp at h2
 rw[if_neg hc] at this;have hkl:=(hg r (aUn hr) k hk).2;have h1:=aAD (g.getD i []) s k (by rw[aUh,hr];exact hk) U
 rw[this] at h1;exact h1
theorem aLG {g:List (List Int)}{a:Nat}{s:List Int}(hg:Inn g)(hl:s.length=g.length)(h:oD s=s.length):Clo g a s:=by
 rintro i k _ ⟨r,hr,hk⟩
 have hkl:=(hg r (aUn hr) k hk).2;exact aLH s h k U
theorem Gp (g:List (List Int))(a:Nat): ∀n,(fW g a n).length=g.length
 |0=>by simp[fW]
 |n+1=>by
  have:=(Nz g a (fW g a n)).1;rw[Gp g a n] at this;exact this.symm
theorem vA (g:List (List Int))(a:Nat): ∀n,Bin (fW g a n)
 |0=>λx hx=> .inl (by simp[fW] at hx;exact hx.2)
 |n+1=>aAH g a _ (vA g a n)
theorem aAG {g:List (List Int)}(a:Nat)(hg:Inn g): ∀n,Cb g a (fW g a n)
 |0=>λk hk=>by
  simp only[fW,aUU] at hk
  split at hk<;>simp at hk
 |n+1=>aAI hg _ _ (vA g a n) (aAG a hg n)
theorem aAE {g:List (List Int)}(a:Nat)(hg:Inn g): ∀n,Clo g a (fW g a n)∨n<=oD (fW g a n)
 |0=> .inr (Nat.zero_le _)
 |n+1=>by
  rcases aAE a hg n with h|h
  ·left
   have e: ∀l:List Nat,l.foldl (kX g a) (fW g a n)=fW g a n:=by
    intro l;induction l with
    |nil=>rfl
    |cons i l ih=>
     rw[List.foldl_cons];have:kX g a (fW g a n) i=fW g a n:=by
      refine(Gn _ _ (Gq g a _ i) (vA g a n) (Ce g a [i] _ (vA g a n)) ?_).symm;refine Cd _ _ ⟨(Gq g a _ i).1.symm,λk hk=> ?_⟩
      unfold kX at hk
      split at hk
      ·exact hk
      ·rename_i hc
       have hz: ∀z∈g.getD i [],0<=z:=λz hz=>by
        rw[aUh] at hz;cases hg':g[i]? with
        |none=>rw[hg'] at hz;simp at hz
        |some r=>rw[hg'] at hz;exact(hg r (aUn hg') z hz).1
       rcases Ny _ _ k hz hk with h1|h1
       ·exact h1
       ·rw[aUh] at h1
        cases hg':g[i]? with
        |none=>rw[hg'] at h1;simp at h1
        |some r=>
         rw[hg'] at h1;refine h i k ?_ ⟨r,hg',h1⟩;by_cases hia:i=a
         ·exact .inl hia
         ·exact .inr (aAz (vA g a n) λhh=>hc ⟨hia,hh⟩)
     rw[this];exact ih
   show Clo g a (sO g a (fW g a n))
   unfold sO;rw[e];exact h
  ·by_cases hx:sO g a (fW g a n)=fW g a n
   ·left
    show Clo g a (sO g a (fW g a n))
    rw[hx];exact aLF hg (Gp g a n) (vA g a n) hx
   ·right
    show n+1<=oD (sO g a (fW g a n))
    have h1:=Cd _ _ (Nz g a (fW g a n));by_cases h2:oD (sO g a (fW g a n))<=oD (fW g a n)
    ·exact absurd (Gn _ _ (Nz g a _) (vA g a n) (aAH g a _ (vA g a n)) h2).symm hx
    ·omega
theorem aAF {g:List (List Int)}(hg:Inn g)(a k:Nat):(fW g a g.length)[k]? =some 1↔Rch g a k:=by
 constructor
 ·exact aAG a hg g.length k
 ·have hc:Clo g a (fW g a g.length):=by
   rcases aAE a hg g.length with h|h
   ·exact h
   ·refine aLG hg (Gp g a _) ?_
    have:=aLI (fW g a g.length);rw[Gp] at*;omega
  intro hr;induction hr with
  |one e=>exact hc _ _ (.inl rfl) e
  |step _ e ih=>exact hc _ _ (.inr ih) e
theorem aAA {g:List (List Int)}(hg:Inn g):sN g=true↔Cyc g:=by
 unfold sN;rw[List.any_eq_true];constructor
 ·rintro ⟨i,hi,h⟩
  refine⟨i,(aAF hg i i).mp ?_⟩;rw[aUh] at h;cases hh:(fW g i g.length)[i]? with
  |none=>rw[hh] at h;simp at h
  |some x=>rw[hh] at h;simp at h;rw[h]
 ·rintro ⟨i,h⟩
  have hil:i<g.length:=by
   cases h with
   |one e=>obtain⟨r,h1,_⟩:=e;exact(aUd.mp h1).1
   |step h1 e=>
    obtain⟨r,h2,h3⟩:=e;have:=(hg r (aUn h2) i h3).2;omega
  refine⟨i,aUR.mpr hil,?_⟩;rw[aUh,(aAF hg i i).mpr h];rfl
end Go.Abs
namespace Go.Proofs.YtciiopkbmjppfaaGreatDoor
open Go.Proofs.Tryz
open Go.Abs Go.Abs.M
section
variable {H : aF} {m : Nat} {p : PlanD} {ev wv nv : Value}
theorem aLL (p:PlanD):Inn (iX p):=by
 unfold iX;split
 ·intro r hr z hz
  obtain⟨h,hh,rfl⟩:=aUQ.mp hr;rw[aUr];obtain⟨k,b,rfl,h1,_⟩:=aAx.mp hz;have:=(aUd.mp h1).1;omega
 ·intro r hr;cases hr
theorem aLM (p:PlanD):(iX p).length<=36:=by
 unfold iX;split
 ·rw[aUr];exact oC p
 ·simp
theorem aLN (p:PlanD): ∀r∈iX p,r.length<=36:=by
 unfold iX;split
 ·intro r hr
  obtain⟨h,hh,rfl⟩:=aUQ.mp hr;unfold lM;rw[aUr];have:=oC p;exact aUt (List.length_filter_le _ _) (by rw[aUH];exact this)
 ·intro r hr;cases hr
end
section
variable {H : aF} {m : Nat} {p : PlanD} {ev wv nv : Value}
def atV (ab n:Nat):Value:= .slice (some ⟨ab,0,none⟩) n n
def mkB (ab n:Nat)(wv:Value):Blk:= .cells [atV ab n,wv] 135 .fix
theorem Cf {mb ab n:Nat}(h:H[mb]? =some (mkB ab n wv)):ld1 (.Q mb 0) H=some (atV ab n,H):=Be h rfl
theorem aLU {mb ab n:Nat}(h:H[mb]? =some (mkB ab n wv)):ld1 (.Q mb 1) H=some (wv,H):=Be h rfl
theorem Gr {ab n k:Nat}(h:k<n):cN 1 (atV ab n) (.I (k:Nat))=some (.Q ab k):=by
 have:=ia (c:=ab) (o:=0) (cap:=n) h;rw[aUy] at this;exact this
def Col (C:List Int):Prop:= ∀x∈C,x=0∨x=1∨x=2
theorem Col.aLS {C:List Int}(h:Col C)(i:Nat){y:Int}(hy:y=0∨y=1∨y=2):Col (C.set i y):=λx hx=>by
 rcases List.mem_or_eq_of_mem_set hx with h1|h1
 ·exact h x h1
 ·rw[h1];exact hy
structure Srch (g:List (List Int))(Hw:aF)(mb ab:Nat)(wv:Value)(H:aF)(C:List Int):Prop where
 ext:Ext Hw H
 mrk:H[mb]? =some (mkB ab g.length wv)
 row:H[ab]? =some (mS C [])
 len:C.length=g.length
 col:Col C
theorem Srch.st {g:List (List Int)}{Hw:aF}{mb ab:Nat}{C:List Int}(h:Srch g Hw mb ab wv H C)(hne:mb≠ab)(hab:Hw.length<=ab){i:Nat}(hi:i<g.length)(y:Int)(hy:y=0∨y=1∨y=2):
  ∃H',stN 1 (.Q ab i) (.I y) H=some (undef,H')/\Srch g Hw mb ab wv H' (C.set i y):=
 ⟨_,Zm y h.row (by have:=h.len;omega),gM h.ext hab,by rw[aUe (Ne.symm hne)];exact h.mrk,aUj (aUd.mp h.row).1,by simp[h.len],h.col.aLS i hy⟩
structure Dne (g:List (List Int))(C C':List Int)(i:Nat):Prop where
 i2:C'[i]? =some 2
 dn:Dn g C'
 gr: ∀u:Nat,C'[u]? =some 1↔C[u]? =some 1
 bl: ∀u:Nat,C[u]? =some 2->C'[u]? =some 2
def N3 (g:List (List Int))(Hw:aF)(mb ab:Nat)(wv:Value)(m q:Nat):Prop:=
 ∀(H:aF)(C:List Int)(i:Nat),Srch g Hw mb ab wv H C->C[i]? =some 0->Dn g C->(∀u:Nat,C[u]? =some 1->Rch g u i)->(∃L:List Nat,L.length=q/\ ∀u:Nat,C[u]? =some 0->u∈L)->
  ∃H' b C',lvl prog aY m (.func 76) [.Q mb 0,.I (i:Nat)] H=some (.bool b,H')/\Srch g Hw mb ab wv H' C'/\(b=true->Cyc g)/\(b=false->Dne g C C' i)
theorem aLW {g:List (List Int)}{Hw:aF}{mb ab:Nat}{q':Nat}(hrd:N3 g Hw mb ab wv m q')(hinn:Inn g)(hne:mb≠ab)(hab:Hw.length<=ab){C:List Int}{i:Nat}{r:List Int}{rv:Value}(hr:g[i]? =some r)(hrl:r.length<=100)(hrv:Is Hw rv r)(hgr: ∀u:Nat,C[u]? =some 1->Rch g u i)(hci:C[i]? =some 0){L:List Nat}(hL:L.length=q'):
  ∀(q j k:Nat)(H:aF)(D:List Int),r.length-j=q->j<=r.length->q<k->Srch g Hw mb ab wv H D->D[i]? =some 1->Dn g D->(∀u:Nat,D[u]? =some 1↔(u=i∨C[u]? =some 1))->(∀u:Nat,C[u]? =some 2->D[u]? =some 2)->(∀z∈r.take j,D[z.toNat]? =some 2)->(∀u:Nat,D[u]? =some 0->u∈L)-> ∀(x4:Value),
  ∃H' b C',aL k (aO prog (lvl prog aY m) (aL m) Gk) (B9 (lvl prog aY m) (aL m)) (some (.Q mb 0)::some (.I (i:Nat))::aG 2 (x4::aG 14 (rv::some (.I r.length)::some (.I (j:Nat))::aG 32 []))) H=some (.bool b,H')/\Srch g Hw mb ab wv H' C'/\(b=true->Cyc g)/\(b=false->Dne g C C' i):=by
 intro q;have hil:=(aUd.mp hr).1;induction q with
 |zero=>
  intro j k H D hq hj hk hs hi1 hdn hgray hbl htake hwh;intros;obtain⟨k,rfl⟩:=aB k U
  obtain rfl:r.length=j:=U
  have e:decide ((r.length:Int)<(r.length:Int))=false:=by simp
  rw[List.take_of_length_le (aUi _)] at htake;have l0:=Cf hs.mrk;have a0:=Gr (ab:=ab) hil;obtain⟨H',st,hs'⟩:=hs.st hne hab hil 2 (.inr (.inr rfl));have fin:=hdn.aLE hi1 hr (λk hk=>by have:=htake k hk;simpa using this)
  refine⟨H',false,D.set i 2,?_,hs',λh=>(by cases h),λ_=>⟨?_,fin,λu=> ?_,λu hu=> ?_⟩⟩
  ·rw[bS,aAo]
   simp only[gsR,e];rw[aLj];simp only[gsR,l0,a0,st]
  ·exact aUj (by have:=hs.len;omega)
  ·by_cases hui:u=i
   ·subst hui
    rw[aUj (by have:=hs.len;omega),hci]
    simp
   ·rw[aUe (Ne.symm hui),hgray u]
    simp[hui]
  ·have:=hbl u hu
   by_cases hui:u=i
   ·subst hui
    rw[hi1] at this;cases this
   ·rw[aUe (Ne.symm hui)]
    exact this
 |succ q ih=>
  intro j k H D hq hj hk hs hi1 hdn hgray hbl htake hwh;intros;obtain⟨k,rfl⟩:=aB k U
  have e:decide ((j:Int)<(r.length:Int))=true:=aUX U
  have e3:=aA (i:=j) U
  obtain⟨z,hz⟩: ∃z,r[j]? =some z:=⟨_,aUf U⟩
  have hzin:=hinn r (aUn hr) z (aUn hz);obtain⟨b,o,g1,_,g3⟩:=(hrv.ext hs.ext).dM eP hz .i64;have g4:ld1 (.Q b o) H=some (.I z,H):=(g3 H rfl).2.1 0 _ rfl;obtain⟨t,rfl⟩: ∃t:Nat,z=t:=⟨z.toNat,by omega⟩
  have htl:t<g.length:=U
  have edge:Eg g i t:=⟨r,hr,aUn hz⟩;have l0:=Cf hs.mrk;have a0:=Gr (ab:=ab) htl;obtain⟨x,hx⟩: ∃x,D[t]? =some x:=⟨_,aUf (by have:=hs.len;omega)⟩
  have lx:=zK hs.row hx;have grs: ∀u:Nat,D[u]? =some 1->Rch g u t:=λu hu=>by
   rcases(hgray u).mp hu with h|h
   ·rw[h];exact .one edge
   ·exact .step (hgr u h) edge
  have htk:r.take (j+1)=r.take j++[(t:Int)]:=by rw[List.take_add_one,hz];rfl
  have next: ∀(H2:aF)(D2:List Int),Srch g Hw mb ab wv H2 D2->D2[i]? =some 1->Dn g D2->(∀u:Nat,D2[u]? =some 1↔(u=i∨C[u]? =some 1))->(∀u:Nat,C[u]? =some 2->D2[u]? =some 2)->(∀z∈r.take j,D2[z.toNat]? =some 2)->D2[t]? =some 2->(∀u:Nat,D2[u]? =some 0->u∈L)-> ∀(x4:Value),
    ∃H' b C',aL k (aO prog (lvl prog aY m) (aL m) Gk) (B9 (lvl prog aY m) (aL m)) (some (.Q mb 0)::some (.I (i:Nat))::aG 2 (x4::aG 14 (rv::some (.I r.length)::some (.I (j+1:Nat))::aG 32 []))) H2=some (.bool b,H')/\Srch g Hw mb ab wv H' C'/\(b=true->Cyc g)/\(b=false->Dne g C C' i):=by
   intro H2 D2 h1 h2 h3 h4 h5 h6 h7 h8;refine ih (j+1) k H2 D2 U U U h1 h2 h3 h4 h5 (λz hz=> ?_) h8
   rw[htk,List.mem_append] at hz;rcases hz with hz|hz
   ·exact h6 z hz
   ·have:z=(t:Int):=by simpa using hz
    rw[this];simpa using h7
  rw[bS,aAo];rcases hs.col x (aUn hx) with rfl|rfl|rfl
  ·have d1:((0:Int)==1)=false:=rfl
   have d2:((0:Int)==2)=false:=rfl;obtain⟨H2,bb,D2,c1,hs2,hcyc,hdne⟩:=hrd H D t hs hx hdn grs ⟨L,hL,hwh⟩;cases bb with
   |true=>
    refine⟨H2,true,D2,?_,hs2,λ_=>hcyc rfl,λh=>(by cases h)⟩
    simp only[gsR,e,g1,g4,l0,a0,lx,d1,d2,c1];rw[aAp];rfl
   |false=>
    have hd:=hdne rfl;simp only[gsR,e,g1,g4,l0,a0,lx,d1,d2,c1,aV,e3];refine next H2 D2 hs2 ((hd.gr i).mpr hi1) hd.dn (λu=>by rw[hd.gr u];exact hgray u) (λu hu=>hd.bl u (hbl u hu)) (λz hz=>hd.bl _ (htake z hz)) hd.i2 (λu hu=>hwh u ?_) ..
    have hul:u<g.length:=by have:=(aUd.mp hu).1;have:=hs2.len;omega
    obtain⟨y,hy⟩: ∃y,D[u]? =some y:=⟨_,aUf (by have:=hs.len;omega)⟩
    rcases hs.col y (aUn hy) with rfl|rfl|rfl
    ·exact hy
    ·have:=(hd.gr u).mpr hy
     rw[hu] at this;cases this
    ·have:=hd.bl u hy
     rw[hu] at this;cases this
  ·have d1:((1:Int)==1)=true:=rfl
   refine⟨H,true,D,?_,hs,λ_=>⟨t,grs t hx⟩,λh=>(by cases h)⟩
   simp only[gsR,e,g1,g4,l0,a0,lx,d1];rw[aAp];rfl
  ·have d1:((2:Int)==1)=false:=rfl
   have d2:((2:Int)==2)=true:=rfl;simp only[gsR,e,g1,g4,l0,a0,lx,d1,d2,aV,e3];exact next H D hs hi1 hdn hgray hbl htake hx hwh ..
theorem aLV {g:List (List Int)}{Hw:aF}{mb ab:Nat}(hg:Rows Hw wv g)(hinn:Inn g)(hrl: ∀r∈g,r.length<=100)(hne:mb≠ab)(hab:Hw.length<=ab): ∀(q m:Nat),200+q<m->N3 g Hw mb ab wv m q:=by
 intro q;induction q with
 |zero=>
  intro m hm H C i hs hi hdn hgr ⟨L,hL,hw⟩;have:=hw i hi;rw[aUv.mp hL] at this;cases this
 |succ q ih=>
  intro m hm H C i hs hi hdn hgr ⟨L,hL,hw⟩;have hil:i<g.length:=by have:=(aUd.mp hi).1;have:=hs.len;omega
  have l0:=Cf hs.mrk;have a0:=Gr (ab:=ab) hil;obtain⟨H1,st,hs1⟩:=hs.st hne hab hil 1 (.inr (.inl rfl));have l1:=aLU hs1.mrk;obtain⟨r,hr⟩: ∃r,g[i]? =some r:=⟨_,aUf hil⟩;obtain⟨a1,rv,g1,g2,g3⟩:=hg.Fp hr .i64;have g2':=aKS hs1.ext g2;have hlen:=g3.eC;have hr100:=hrl r (aUn hr);have hcl:C.length=g.length:=hs.len;have other: ∀u:Nat,u≠i->(C.set i 1)[u]? =C[u]? :=λu hu=>aUe (Ne.symm hu)
  have self:(C.set i 1)[i]? =some 1:=aUj U
  obtain⟨m,rfl⟩:=aB m U
  rw[Wi (dZ rfl rfl),aLk];simp only[gsR,l0,a0,st,l1,g1,g2',hlen];have hiL:=hw i hi;refine aLW (ih m U) hinn hne hab hr hr100 g3 hgr hi (L:=L.erase i) (by rw[List.length_erase_of_mem hiL];omega) r.length 0 m H1 (C.set i 1) U U U hs1 self ?_ (λu=> ?_) (λu hu=> ?_) (λz hz=>by simp at hz) (λu hu=> ?_) ..
  ·intro u hu
   have hui:u≠i:=λhh=>by rw[hh,self] at hu;cases hu
   rw[other u hui] at hu;refine⟨λk hk=> ?_,(hdn u hu).2⟩
   have:=(hdn u hu).1 k hk;have hki:k≠i:=λhh=>by rw[hh,hi] at this;cases this
   rw[other k hki];exact this
  ·by_cases hui:u=i
   ·rw[hui,self];simp
   ·rw[other u hui];simp[hui]
  ·have hui:u≠i:=λhh=>by rw[hh,hi] at hu;cases hu
   rw[other u hui];exact hu
  ·have hui:u≠i:=λhh=>by rw[hh,self] at hu;cases hu
   rw[other u hui] at hu
   exact(List.mem_erase_of_ne hui).mpr (hw u hu)
def sP (p:PlanD)(n:Nat):Bool:=(List.range n).all λv=>(List.range n).all λw=>(nH p v w).isSome
def N4 (p:PlanD):Bool:=dT p&&(sP p p.nodes.toNat&& !sN (iX p))
def kE (p:PlanD):Int:=if dT p=true then(if N4 p=true then 0 else 140) else 120
theorem aLR {g:List (List Int)}{Hw:aF}{mb ab:Nat}(hrd:N3 g Hw mb ab wv m g.length)(hgl:g.length<=100)(hinn:Inn g):
  ∀(q i k:Nat)(H:aF)(C:List Int),g.length-i=q->i<=g.length->q<k->Srch g Hw mb ab wv H C->Dn g C->(∀u:Nat,C[u]? ≠some 1)->(∀u:Nat,u<i->C[u]? =some 2)-> ∀(x1 x2 x4 fC eG gS gG:Value),
  ∃H',aL k (aO prog (lvl prog aY m) (aL m) Nf) (Gh (lvl prog aY m) (aL m)) (aG 1 (x1::x2::aG 1 (x4::aG 3 (some (.Q mb 0)::aG 7 (fC::eG::aG 3 (gS::gG::aG 30 (some (.I g.length)::some (.I (i:Nat))::aG 16 []))))))) H=some (.int .u16 (if sN g=true then 140 else 0),H')/\Ext Hw H':=by
 intro q;induction q with
 |zero=>
  intro i k H C hq hi hk hs hdn hgr hbl;intros;obtain⟨k,rfl⟩:=aB k U
  obtain rfl:g.length=i:=U
  have e:decide ((g.length:Int)<(g.length:Int))=false:=by simp
  have hno: ¬sN g=true:=by
   rw[aAA hinn];rintro ⟨i,hc⟩
   have hil:i<g.length:=by
    cases hc with
    |one e=>obtain⟨r,h1,_⟩:=e;exact(aUd.mp h1).1
    |step h1 e=>
     obtain⟨r,h2,h3⟩:=e;have:=(hinn r (aUn h2) i h3).2;omega
   exact(hdn i (hbl i hil)).2 hc
  rw[if_neg hno,bS,aAi];simp only[gsR,e];rw[aK4]
  exact⟨H,rfl,hs.ext⟩
 |succ q ih=>
  intro i k H C hq hi hk hs hdn hgr hbl;intros;obtain⟨k,rfl⟩:=aB k U
  have hil:i<g.length:=U
  have e:decide ((i:Int)<(g.length:Int))=true:=aUX U
  have e3:=aA (i:=i) U
  have l0:=Cf hs.mrk;have a0:=Gr (ab:=ab) hil;obtain⟨x,hx⟩: ∃x,C[i]? =some x:=⟨_,aUf (by have:=hs.len;omega)⟩
  have lx:=zK hs.row hx;rw[bS,aAi];rcases hs.col x (aUn hx) with rfl|rfl|rfl
  ·have d1:((0:Int)==0)=true:=rfl
   obtain⟨H2,bb,D2,c1,hs2,hcyc,hdne⟩:=hrd H C i hs hx hdn (λu hu=>absurd hu (hgr u)) ⟨List.range g.length,by simp,λu hu=>aUR.mpr (by have:=(aUd.mp hu).1;have:=hs.len;omega)⟩
   cases bb with
   |true=>
    have hyes:sN g=true:=(aAA hinn).mpr (hcyc rfl);rw[if_pos hyes];simp only[gsR,e,l0,a0,lx,d1,c1];rw[aK8]
    exact⟨H2,rfl,hs2.ext⟩
   |false=>
    have hd:=hdne rfl;simp only[gsR,e,l0,a0,lx,d1,c1,aV,e3];refine ih (i+1) k H2 D2 U U U hs2 hd.dn (λu hu=>hgr u ((hd.gr u).mp hu)) (λu hu=> ?_) ..
    by_cases hui:u=i
    ·rw[hui];exact hd.i2
    ·exact hd.bl u (hbl u U)
  ·exact absurd hx (hgr i)
  ·have d1:((2:Int)==0)=false:=rfl
   simp only[gsR,e,l0,a0,lx,d1,aV,e3];refine ih (i+1) k H C U U U hs hdn hgr (λu hu=> ?_) ..
   by_cases hui:u=i
   ·rw[hui];exact hx
   ·exact hbl u U
theorem aLQ {n:Nat}(hk:OkP p n){H0:aF}{a v:Nat}(hv:v<n){K:Ex->K (Value×aF)}{Q:aF->Value->Prop}(hp:PV H0 p ev wv nv)(hb:H0[a]? =some (plB p ev wv nv))(hm:400<m)(hm2:m<=72057594037927936):
  ∀(q i k:Nat)(H1:aF),n-i=q->i<=n->q<k->Ext H0 H1->
  (∀H',Ext H0 H'->((List.range' i q).all λw=>(nH p v w).isSome)=true-> ∀(x2 x4 x8 gS gG tA tB:Value),∃H2 r,K .normal (aG 1 (some (.Q a 0)::x2::aG 1 (x4::aG 3 (x8::aG 7 (some (.I n)::some (.I (v+1:Nat))::aG 3 (gS::gG::aG 30 (tA::tB::aG 16 []))))))) H'=some (r,H2)/\Q H2 r)->
  (∀H',Ext H0 H'->((List.range' i q).all λw=>(nH p v w).isSome)=false-> ∀(x1 x4 x8 fC eG gS gG tA tB:Value),∃H2 r,K .ret (aG 1 (x1::some (.int .u16 140)::aG 1 (x4::aG 3 (x8::aG 7 (fC::eG::aG 3 (gS::gG::aG 30 (tA::tB::aG 16 []))))))) H'=some (r,H2)/\Q H2 r)-> ∀(x2 x8 tA tB:Value),
  ∃H' r,aL k (aO prog (lvl prog aY m) (aL m) Nd) (Gg (lvl prog aY m) (aL m) K) (aG 1 (some (.Q a 0)::x2::aG 1 (some (.I (v:Nat))::aG 3 (x8::aG 7 (some (.I n)::some (.I (v:Nat))::aG 3 (some (.I n)::some (.I (i:Nat))::aG 30 (tA::tB::aG 16 []))))))) H1=some (r,H')/\Q H' r:=by
 intro q;have h6:=hk.h6;induction q with
 |zero=>
  intro i k H1 hr hi hk2 he hK hR;intros;obtain⟨k,rfl⟩:=aB k U
  have e:decide ((i:Int)<(n:Int))=false:=aUY U
  have e3:=aA (i:=v) U
  rw[bS,aAh];simp only[gsR,e];rw[aK3];simp only[gsR,aV,e3];exact hK H1 he rfl ..
 |succ q ih=>
  intro i k H1 hr hi hk2 he hK hR;intros;obtain⟨k,rfl⟩:=aB k U
  have e:decide ((i:Int)<(n:Int))=true:=aUX U
  have e3:=aA (i:=i) U
  have l11:=fE (cP hb he);obtain⟨H2,r,g1,x2,lv,rfl,_,_⟩:=aLo hk (hp.ext he) (v:=v) (w:=i) U U (m:=m) U U
  rw[bS,aAh];rw[List.range'_succ,List.all_cons] at hK hR;cases c:(nH p v i).isSome with
  |true=>
   rw[c] at g1 hK hR;simp only[gsR,e,l11,g1,aV,e3];exact ih (i+1) k H2 U U U (he.tr x2) (λH' h1 h2=>hK H' h1 (by simpa using h2)) (λH' h1 h2=>hR H' h1 (by simpa using h2)) ..
  |false=>
   rw[c] at g1 hR;simp only[gsR,e,l11,g1];rw[aK7];exact hR H2 (he.tr x2) rfl ..
theorem aLX (n:Nat):Blk.cells (List.replicate n [Value.int .i64 0]).flatten 3 .row=mS (List.replicate n 0) []:=by
 unfold mS
 congr 1
 rw[List.append_nil,List.map_replicate];induction n with
 |zero=>rfl
 |succ n ih=>rw[List.replicate_succ,List.replicate_succ,aUN,ih];rfl
theorem aLT {v:Value}{us:List Value}(h:Rs vC 37 H v us):bld prog 135 [(1,v)]=some (.agg #[.slice none 0 0,v])/\Blk.cells (Value.agg #[.slice none 0 0,v]).cells.toList 135 .fix= .cells [.slice none 0 0,v] 135 .fix:=by
 rcases h with⟨rfl,_⟩|⟨b,o,cap,rfl,_⟩
 ·exact⟨by kernel_rfl,rfl⟩
 ·have: ∀b o n c:Nat,bld prog 135 [(1,.slice (some ⟨b,o,none⟩) n c)]=some (.agg #[.N,.slice (some ⟨b,o,none⟩) n c]):=λb o n c=>by kernel_rfl
  exact⟨this _ _ _ _,rfl⟩
theorem aLO {n:Nat}(hk:OkP p n){H0:aF}{a:Nat}(hp:PV H0 p ev wv nv)(hb:H0[a]? =some (plB p ev wv nv))(hm:17592186045300<m)(hm2:m<=72057594037927936)(x2 x4 x8 fC eG gS gG tA tB:Value):
  ∃H',Ng (lvl prog aY m) (aL m) (.Q a 0) x2 x4 x8 fC eG gS gG tA tB H0=some (.int .u16 (if sN (iX p)=true then 140 else 0),H')/\Ext H0 H':=by
 have l11:=fE hb;obtain⟨H1,wvv,g1,x1,hg⟩:=aLq hp (m:=m) U U
 have hgl:=aLM p;obtain⟨us,hus,hul,_⟩:=id hg;obtain⟨bm,bc⟩:=aLT hus;obtain⟨g,hgg⟩:=aD (iX p);have hinn:=aLL p;have hrow:=aLN p;rw[<-hgg] at hg hgl hinn hrow⊢;obtain⟨H2,hH2⟩:=aD (H1++[Blk.cells [.slice none 0 0,wvv] 135 .fix]);have x2:Ext H1 H2:=by rw[hH2];exact Fr.app _ _ _
 have b2:H2[H1.length]? =some (.cells [.N,wvv] 135 .fix):=by rw[hH2];exact cV _ _
 have l2:ld1 (.Q H1.length 1) H2=some (wvv,H2):=Be b2 rfl;have hlen:=hg.Zb;have mk:=uQ (H:=H2) 3 1 8 [.I 0] .i64 .i64 (g.length:Int) U U U rfl
 simp only[aUF] at mk;rw[aLX] at mk;obtain⟨H3,hH3⟩:=aD (H2++[mS (List.replicate g.length 0) []]);rw[<-hH3] at mk;have x3:Ext H2 H3:=by rw[hH3];exact Fr.app _ _ _
 have b3:=cP b2 x3;have st:stN 1 (.Q H1.length 0) (.slice (some ⟨H2.length,0,none⟩) g.length g.length) H3=some (undef,H3.set H1.length (mkB H2.length g.length wvv)):=by
  rw[fV 1 _ _ _ rfl,b3,iW _ _ _ _ _ _ aC (by show 0+1<=2;omega) rfl]
  rfl
 obtain⟨H4,hH4⟩:=aD (H3.set H1.length (mkB H2.length g.length wvv));rw[<-hH4] at st;have h12:H2.length=H1.length+1:=by rw[hH2];simp
 have hs:Srch g H1 H1.length H2.length wvv H4 (List.replicate g.length 0):=by
  refine⟨?_,?_,?_,by simp,λx hx=> .inl (by simp at hx;exact hx.2)⟩
  ·rw[hH4];exact gM (x2.tr x3) (aUi _)
  ·rw[hH4];exact aUj (aUd.mp b3).1
  ·rw[hH4,aUe U,hH3];exact cV _ _
 have l4:=Cf hs.mrk;have hlen4:cX (atV H2.length g.length)=some (.I g.length):=rfl;have hrd:=aLV hg hinn (λr hr=>by have:=hrow r hr;omega) (show H1.length≠H2.length by omega) (show H1.length<=H2.length by omega) g.length m U
 unfold Ng;simp only[gsR,l11,g1,bm,bc,<-hH2,l2,hlen,mk,st,l4,hlen4];exact Exists.imp (λH' h=>⟨h.1,x1.tr h.2⟩) (aLR hrd U hinn g.length 0 m H4 (List.replicate g.length 0) U U U hs (λu hu=>by simp[aUU] at hu) (λu hu=>by simp[aUU] at hu) (λu hu=>absurd hu U) ..)
theorem aLP {n:Nat}(hk:OkP p n){H0:aF}{a:Nat}{Q:aF->Value->Prop}(hp:PV H0 p ev wv nv)(hb:H0[a]? =some (plB p ev wv nv))(hm:17592186045300<m)(hm2:m<=72057594037927936)(hQ: ∀H',Ext H0 H'->Q H' (.int .u16 (if sP p n=true/\sN (iX p)=false then 0 else 140))):
  ∀(q i k:Nat)(H1:aF),n-i=q->i<=n->q<k->Ext H0 H1->(∀v,v<i->((List.range n).all λw=>(nH p v w).isSome)=true)-> ∀(x2 x4 x8 gS gG tA tB:Value),
  ∃H' r,aL k (aO prog (lvl prog aY m) (aL m) Nc) (Gf (lvl prog aY m) (aL m)) (aG 1 (some (.Q a 0)::x2::aG 1 (x4::aG 3 (x8::aG 7 (some (.I n)::some (.I (i:Nat))::aG 3 (gS::gG::aG 30 (tA::tB::aG 16 []))))))) H1=some (r,H')/\Q H' r:=by
 intro q;have h6:=hk.h6;induction q with
 |zero=>
  intro i k H1 hr hi hk2 he hpre;intros;obtain⟨k,rfl⟩:=aB k U
  have e:decide ((i:Int)<(n:Int))=false:=aUY U
  have hall:sP p n=true:=by
   unfold sP;rw[aUS];intro v hv;exact hpre v (by have:=aUR.mp hv;omega)
  rw[bS,aAg];simp only[gsR,e];rw[aK2];refine Exists.imp (λH' h=>⟨_,h.1,?_⟩) (aLO hk (hp.ext he) (cP hb he) hm hm2 ..)
  have:=hQ H' (he.tr h.2);rw[hall] at this;cases hc:sN (iX p) with
  |true=>rw[hc] at this;simpa using this
  |false=>rw[hc] at this;simpa using this
 |succ q ih=>
  intro i k H1 hr hi hk2 he hpre;intros;obtain⟨k,rfl⟩:=aB k U
  have e:decide ((i:Int)<(n:Int))=true:=aUX U
  have b1:=cP hb he;have l0:=cQ b1 0 _ rfl;rw[hk.hn] at l0;have hrr: ∀v:Nat,((List.range' 0 n).all λw=>(nH p v w).isSome)=((List.range n).all λw=>(nH p v w).isSome):=λv=>by rw[List.range_eq_range']
  rw[bS,aAg];simp only[gsR,e,l0];refine aLQ hk (v:=i) U (hp.ext he) b1 (Q:=Q) U hm2 n 0 m H1 U U U (Fr.dS _ _) (λH' hx hall=> ?_) (λH' hx hall=> ?_) ..
  ·rw[hrr] at hall
   intros;simp only[gsR];refine ih (i+1) k H' U U U (he.tr hx) (λv hv=> ?_) ..
   by_cases hvi:v=i
   ·rw[hvi];exact hall
   ·exact hpre v U
  ·rw[hrr] at hall
   intros;simp only[gsR];rw[aK6];refine⟨H',_,rfl,?_⟩;have hno:sP p n=false:=by
    rw[<-Bool.not_eq_true];unfold sP;rw[aUS];intro hh;rw[hh i (aUR.mpr U)] at hall
    cases hall
   have:=hQ H' (he.tr hx);rw[hno] at this;simpa using this
theorem aAJ (hp:PV H p ev wv nv)(hm:17592186045400<m)(hm2:m<=72057594037927936):
  ∃H',lvl prog aY m (.func 44) [plV p ev wv nv] H=some (.int .u16 (kE p),H')/\Ext H H':=by
 obtain⟨H0,hH0⟩:=aD (H++[plB p ev wv nv]);have x0:Ext H H0:=by rw[hH0];exact Fr.app _ _ _
 have b0:H0[H.length]? =some (plB p ev wv nv):=by rw[hH0];exact cV _ _
 have p0:=hp.ext x0;have l11:=fE b0;obtain⟨H1,g1,x1⟩:=Zf p0 (m:=m-1) U U
 have b1:=cP b0 x1;have p1:=p0.ext x1;have main: ∃H' r,lvl prog aY m (.func 44) [plV p ev wv nv] H=some (r,H')/\(r= .int .u16 (kE p)/\Ext H H'):=by
  refine dL (Q:=λH' r=>r= .int .u16 (kE p)/\Ext H H') (dZ rfl rfl) U ?_
  rw[aK5];cases hc:dT p with
  |false=>
   rw[hc] at g1;have en:(uY false !=0)=true:=rfl;have e:kE p=uY false:=by unfold kE;rw[if_neg (by simp[hc])];rfl
   simp only[gsR,gL,<-hH0,l11,g1,en]
   exact⟨H1,_,rfl,by rw[e],x0.tr x1⟩
  |true=>
   rw[hc] at g1;have en:(uY true !=0)=false:=rfl;obtain⟨n,hk⟩:=nG hc;have h6:=hk.h6;have l0:=cQ b1 0 _ rfl;rw[hk.hn] at l0;simp only[gsR,gL,<-hH0,l11,g1,en,l0];refine aLP hk (Q:=λH' r=>r= .int .u16 (kE p)/\Ext H H') p1 b1 (m:=m-1) U U (λH' hx=>⟨?_,(x0.tr x1).tr hx⟩) n 0 (m-1) H1 U U U (Fr.dS _ _) (λv hv=>absurd hv U) ..
   congr 1
   unfold kE N4;have hq:p.nodes.toNat=n:=by rw[hk.hn];rfl
   rw[if_pos hc,hc,hq];cases sN (iX p)<;>cases sP p n<;>simp
 obtain⟨H',r,h1,rfl,h2⟩:=main
 exact⟨H',h1,h2⟩
end
theorem aL0 {a:Int}(h:(Lit.int .u16 a).wf=true):0<=a/\a<65536:=by
 have e: ∀z:Int,(Lit.int .u16 z).wf=(decide (0<=z)&&decide (z<=65535)):=λz=>rfl
 rw[e] at h;simp only[aUl,decide_eq_true_eq] at h
 exact⟨h.1,by omega⟩
theorem N5 {a:Int}(h:(Lit.int .u8 a).wf=true): ∃n:Nat,a=n/\n<256:=by
 have:=aHb h
 exact⟨a.toNat,by omega,by omega⟩
theorem aLZ {a:Int}(h:(Lit.int .u16 a).wf=true): ∃n:Nat,a=n/\n<65536:=by
 have:=aL0 h
 exact⟨a.toNat,by omega,by omega⟩
def Cg (r:List Value):Nat:=match r with
 |[.int _ i]=>i.toNat
 |_=>0
theorem Us.aLY {G:aF}{n:Nat}{u:Value}(h:Rp prog G n 22 [u]): ∃next,Us G u next/\(∀x∈next,x<256)/\next.length<=72057594037927936:=by
 obtain⟨m,u',b,rows,h1,h2,h3,h4,h5⟩:=h.Wy (e:=5) (by kernel_rfl)
 cases h1;have hc:prog.cellsOf 5=1:=by kernel_rfl
 have hb:prog.bytesOf 5=1:=by kernel_rfl
 rw[hc] at h2;rw[hb] at h3;have hr: ∀r∈rows,u8C (Cg r)=r/\Cg r<256:=λr hr=>by
  obtain⟨i,hi,hw⟩:=(h5 r hr).2.rZ (k:= .u8) (by kernel_rfl)
  obtain⟨k,rfl,hk⟩:=N5 hw;subst hi
  exact⟨rfl,by simpa[Cg] using hk⟩
 have hm:(rows.map Cg).map u8C=rows:=by
  rw[List.map_map]
  conv=>rhs;rw[<-List.map_id rows]
  exact List.map_congr_left λr hr'=>(hr r hr').1
 refine⟨rows.map Cg,?_,λx hx=> ?_,?_⟩
 ·rw[<-hm] at h2
  rcases h4 with rfl|⟨c,rfl⟩
  ·have h0:rows=[]:=by
    have:=h2.len;have hl:cX (Value.N)=some (.I 0):=rfl;rw[hl,hm] at this;simp at this;exact aUv.mp U
   subst h0;exact .inl ⟨rfl,rfl⟩
  ·exact h2.rs Mu (c:=c) (.inr (by rw[aUr]))
 ·obtain⟨r,hr1,rfl⟩:=aUQ.mp hx
  exact(hr r hr1).2
 ·have:reachBytes=140737488351232:=rfl
  rw[aUr];omega
section
variable {H H0 : aF} {m : Nat} {p : PlanD} {ev wv nv : Value}
def tab (n:Nat)(F:Nat->Nat->Int):List (List Int):=(List.range n).map λv=>(List.range n).map (F v)
theorem aL1 (n:Nat)(F:Nat->Nat->Int):(tab n F).length=n:=by simp[tab]
variable {a : Nat}
end
def cpP (n:Nat)(E:List Ed)(N:List (List Int)):PlanD:=⟨n,E,1,1,1,1,1,1,[1],0,N⟩
theorem aAK {p:PlanD}{n:Nat}{E:List Ed}{N:List (List Int)}(h1:p.nodes=(n:Int))(h2:p.edges=E)(h3:p.next=N)(w:Int): ∀(q:Nat)(l:List Int)(v:Int),wX p w q l v=wX (cpP n E N) w q l v
 |0,_,_=>rfl
 |q+1,l,v=>by
  have e:nx p v w=nx (cpP n E N) v w:=by unfold nx cpP;rw[h3]
  unfold wX;rw[e,h1,h2,aAK h1 h2 h3 w q];rfl
theorem aL2 {p:PlanD}{n:Nat}{E:List Ed}{N:List (List Int)}(h:dT p=true)(hc:dT (cpP n E N)=true)(h1:p.nodes=(n:Int))(h2:p.edges=E)(h3:p.next=N):
  (∀v w,nH p v w=nH (cpP n E N) v w)/\(∀v w,u9 p v w=u9 (cpP n E N) v w)/\iX p=iX (cpP n E N)/\kE p=kE (cpP n E N):=by
 have a1: ∀v w,nH p v w=nH (cpP n E N) v w:=λv w=>by
  unfold nH;rw[aAK h1 h2 h3,h1];rfl
 have a2: ∀v w,u9 p v w=u9 (cpP n E N) v w:=λv w=>by
  unfold u9;rw[a1,h,hc,h1];rfl
 have e: ∀v w,nx p v w=nx (cpP n E N) v w:=λv w=>by unfold nx cpP;rw[h3]
 have e2: ∀a b,wt p n a b=wt (cpP n E N) n a b:=λa b=>by
  unfold wt
  congr 1
  funext w
  unfold Gm;rw[e,e]
 have e3:aU p=aU (cpP n E N):=by
  unfold aU jL;rw[h1,h2];rfl
 have a3:iX p=iX (cpP n E N):=by
  unfold iX;rw[h,hc,e3,h1];simp only[if_true];refine List.map_congr_left λa _=> ?_
  show lM p n _ a=lM (cpP n E N) n _ a
  unfold lM;simp only[e2]
 refine⟨a1,a2,a3,?_⟩;unfold kE N4;rw[a3,h,hc,h1];have: ∀m,sP p m=sP (cpP n E N) m:=λm=>by
  unfold sP;simp only[a1]
 rw[this];rfl
section
variable {H : aF} {m : Nat} {p : PlanD} {ev wv nv : Value}
end
def ofL (c:List Nat)(n:Nat):List Int:=(List.range n).map λj=>((c.getD j 0%(j+1):Nat):Int)
def ofT (c:List Nat):List Int:=if min c.length 5=0 then [0] else ofL c (min c.length 5)
def fA (t:List Int):Bool:=(List.range t.length).all (λi=>decide (0<=t.getD i 0)&&decide (t.getD i 0<=i))&&decide ((t.length:Int)<=5)
def upL (t:List Int):Nat->Int->List Int
 |0,v=>[v]
 |q+1,v=>if 0<v then v::upL t q (t.getD (v-1).toNat 0) else [v]
def upT (t:List Int)(v:Int):List Int:=upL t v.toNat v
def Ci:Nat->List Int->List Int->List Int×List Int
 |0,a,b=>(a,b)
 |q+1,a,b=>if 1<a.length/\1<b.length/\a.getD (a.length-2) 0=b.getD (b.length-2) 0 then Ci q (a.take (a.length-1)) (b.take (b.length-1)) else(a,b)
def Gs (s:List Int×List Int):List Int:=s.1++(s.2.take (s.2.length-1)).reverse
def mU (t:List Int)(v w:Int):List Int:=if fA t=true/\0<=v/\v<=t.length/\0<=w/\w<=t.length then Gs (Ci (upT t v).length (upT t v) (upT t w)) else []
def vD (t:List Int):List Ed:=(List.range t.length).map λi=>(t.getD i 0,((i+1:Nat):Int))
def kY (t:List Int):List (List Int):=tab (t.length+1) λv w=>if v=w then(v:Int) else(mU t v w).getD 1 0
def pW (p:PlanD)(t:List Int):PlanD:={p with nodes:=((t.length+1:Nat):Int),edges:=vD t,next:=kY t}
theorem N6 {t:List Int}(h:fA t=true){i:Nat}{x:Int}(hx:t[i]? =some x):0<=x/\x<=i/\t.length<=5:=by
 unfold fA at h;rw[aUl,aUS] at h;have:=h.1 i (aUR.mpr (aUd.mp hx).1);rw[aUh,hx] at this;simp at this;have h2:=of_decide_eq_true h.2;omega
theorem N7 (t:List Int): ∀(q:Nat)(v:Int),0<(upL t q v).length/\(upL t q v).length<=q+1
 |0,v=>by simp[upL]
 |q+1,v=>by
  unfold upL;split
  ·have:=N7 t q (t.getD (v-1).toNat 0)
   simp only[aUz];omega
  ·simp
section
variable {H : aF} {m : Nat} {p : PlanD} {ev wv nv : Value}
theorem vB {l:List Int}{i:Nat}{x:Int}(h:l[i]? =some x):l.getD i 0=x:=by rw[aUh,h];rfl
theorem aL4 {H0:aF}{cv:Value}{c:List Nat}(hc:Us H0 cv c)(hu8: ∀x∈c,x<256)(hl:c.length<=72057594037927936): ∀(q i k:Nat)(H1:aF)(acc:Value),min c.length 5-i=q->i<=min c.length 5->q<k->Ext H0 H1->Iw H1 acc (ofL c i)->New H0 acc-> ∀(x2:Value),
  ∃H' u,aL k (aO prog (lvl prog aY m) (aL m) M9) (Nb (lvl prog aY m) (aL m)) (cv::aG 1 (x2::acc::some (.I (i:Nat))::aG 28 [])) H1=some (u,H')/\Ext H0 H'/\Iw H' u (ofT c)/\New H0 u:=by
 intro q;induction q with
 |zero=>
  intro i k H1 acc hq hi hk he ha hnew;intros;obtain⟨k,rfl⟩:=aB k U
  have hlen:=(hc.ext he).eC;have hal:=ha.nY;have hal2:(ofL c i).length=i:=by simp[ofL]
  rw[hal2] at hal;have tail: ∀(x2:Value),∃H' u,Na (lvl prog aY m) (aL m) cv x2 acc (.I (i:Nat)) H1=some (u,H')/\Ext H0 H'/\Iw H' u (ofT c)/\New H0 u:=by
   intros;unfold Na;by_cases h0:i=0
   ·have e0:((i:Int)==0)=true:=by simp[h0]
    subst h0;have ha':Iw H1 acc []:=ha;obtain⟨acc2,H2,t1,t2,t3,t4⟩:=ha'.pS (by':=8) eP mQ aC 0 hnew he aC
    simp only[gsR,hal,e0,mR,t1];have:ofT c=[0]:=by unfold ofT;rw[if_pos U]
    rw[this]
    exact⟨_,_,rfl,t4,t2,t3⟩
   ·have e0:((i:Int)==0)=false:=by simp;omega
    simp only[gsR,hal,e0];have:ofT c=ofL c i:=by unfold ofT;rw[if_neg U];congr 1;omega
    rw[this]
    exact⟨_,_,rfl,he,ha,hnew⟩
  rw[bS,aAe];by_cases hcl:i<c.length
  ·have e1:decide ((i:Int)<(c.length:Int))=true:=aUX U
   have e2:decide ((i:Int)<5)=false:=aUY U
   simp only[gsR,hlen,e1,e2];rw[aAf];exact tail ..
  ·have e1:decide ((i:Int)<(c.length:Int))=false:=aUY U
   simp only[gsR,hlen,e1];rw[aAf];exact tail ..
 |succ q ih=>
  intro i k H1 acc hq hi hk he ha hnew;intros;obtain⟨k,rfl⟩:=aB k U
  have hlen:=(hc.ext he).eC;have e1:decide ((i:Int)<(c.length:Int))=true:=aUX U
  have e2:decide ((i:Int)<5)=true:=aUX U
  have e3:=aA (i:=i) U
  obtain⟨x,hx⟩: ∃x,c[i]? =some x:=⟨_,aUf U⟩
  have hx8:=hu8 x (aUn hx);obtain⟨b,o,g1,_,g3⟩:=(hc.ext he).dM Mu hx .i64;have g4:ld1 (.pointer (some ⟨b,o,none⟩)) H1=some (.int .u8 x,H1):=(g3 H1 rfl).2.1 0 _ rfl;have c1:=λH=>cvU H x hx8
  have c2:=wU x (i+1) (i+1:Nat) rfl U
  have hal2:(ofL c i).length=i:=by simp[ofL]
  obtain⟨acc2,H2,t1,t2,t3,t4⟩:=ha.pS (by':=8) eP mQ aC ((x%(i+1):Nat):Int) hnew he (eD (n:=1000) aC U)
  have hn:ofL c (i+1)=ofL c i++[((x%(i+1):Nat):Int)]:=by
   unfold ofL;rw[aUM,List.map_append];simp only[aUI,List.map_nil];rw[aUh,hx];rfl
  rw[bS,aAe];simp only[gsR,hlen,e1,e2,g1,g4,c1,aV,e3,c2,mR,t1];exact ih (i+1) k H2 acc2 U U U t4 (by rw[hn];exact t2) t3 ..
theorem aL3 {cv:Value}{c:List Nat}(hc:Us H cv c)(hu8: ∀x∈c,x<256)(hl:c.length<=72057594037927936)(hm:100<m): ∃H' u,lvl prog aY m (.func 43) [cv] H=some (u,H')/\Ext H H'/\Iw H' u (ofT c)/\New H u:=by
 refine dL (dZ rfl rfl) U ?_
 rw[aK1];exact aL4 hc hu8 hl (min c.length 5) 0 (m-1) H (.N) U U U (Fr.dS _ _) Rw.fD (New.iE _) ..
theorem aL5 {tv:Value}{t:List Int}(ht:Is H tv t)(hl:t.length<=72057594037927936): ∀(q i k:Nat),t.length-i=q->i<=t.length->q<k->(∀j,j<i->(decide (0<=t.getD j 0)&&decide (t.getD j 0<=j))=true)-> ∀(x2:Value),
  aL k (aO prog (lvl prog aY m) (aL m) Nh) (Gi (lvl prog aY m) (aL m)) (tv::aG 1 (x2::some (.I (i:Nat))::aG 22 [])) H=some (.bool (fA t),H):=by
 intro q;have hlen:=ht.eC;induction q with
 |zero=>
  intro i k hq hi hk hpre;intros;obtain⟨k,rfl⟩:=aB k U
  have e:decide ((i:Int)<(t.length:Int))=false:=aUY U
  have hr:fA t=decide ((t.length:Int)<=5):=by
   unfold fA;rw[aUS.mpr (λj hj=>hpre j (by have:=aUR.mp hj;omega)),aUA]
  rw[hr,bS,aAj];simp only[gsR,hlen,e];rw[aK9];simp only[gsR,hlen]
 |succ q ih=>
  intro i k hq hi hk hpre;intros;obtain⟨k,rfl⟩:=aB k U
  have e:decide ((i:Int)<(t.length:Int))=true:=aUX U
  have e3:=aA (i:=i) U
  obtain⟨x,hx⟩: ∃x,t[i]? =some x:=⟨_,aUf U⟩
  obtain⟨b,o,g1,_,g3⟩:=ht.dM eP hx .i64;have g4:ld1 (.pointer (some ⟨b,o,none⟩)) H=some (.int .i64 x,H):=(g3 H rfl).2.1 0 _ rfl;have hd:=vB hx;have bad:(decide (0<=x)&&decide (x<=i))=false->fA t=false:=λh=>by
   rw[<-Bool.not_eq_true];unfold fA;rw[aUl,aUS];rintro ⟨hh,_⟩
   have:=hh i (aUR.mpr U)
   rw[hd,h] at this;cases this
  rw[bS,aAj];by_cases c1:x<0
  ·have d1:decide (x<0)=true:=aUX c1
   rw[bad (by rw[aUY U];rfl)]
   simp only[gsR,hlen,e,g1,g4,d1];rw[aAk];rfl
  ·have d1:decide (x<0)=false:=aUY c1
   by_cases c2:(i:Int)<x
   ·have d2:decide ((i:Int)<x)=true:=aUX c2
    rw[bad (by rw[aUY (show¬x<=i by omega),Bool.and_false])]
    simp only[gsR,hlen,e,g1,g4,d1,d2];rw[aAk];rfl
   ·have d2:decide ((i:Int)<x)=false:=aUY c2
    simp only[gsR,hlen,e,g1,g4,d1,d2,aV,e3];refine ih (i+1) k U U U (λj hj=> ?_) ..
    by_cases hji:j=i
    ·rw[hji,hd,aUX U,aUX U];rfl
    ·exact hpre j U
theorem aAL {tv:Value}{t:List Int}(ht:Is H tv t)(hm:t.length+10<m)(hm2:m<=72057594037927936):lvl prog aY m (.func 71) [tv] H=some (.bool (fA t),H):=by
 refine aS (dZ rfl rfl) U ?_
 rw[aLa];exact aL5 ht U t.length 0 (m-1) U U U (λj hj=>absurd hj U) ..
theorem aL9 {H0:aF}{tv:Value}{t:List Int}(ht:Is H0 tv t)(hr:fA t=true): ∀(q k:Nat)(v:Int)(H1:aF)(acc:Value)(pre:List Int),v.toNat<=q->0<=v/\v<=t.length->q<k->pre.length+q<=20->Ext H0 H1->Iw H1 acc (pre++[v])->New H0 acc-> ∀(x4:Value),
  ∃H' u,aL k (aO prog (lvl prog aY m) (aL m) M0) (M1 (lvl prog aY m) (aL m)) (tv::some (.I v)::aG 2 (x4::acc::aG 14 [])) H1=some (u,H')/\Ext H0 H'/\Iw H' u (pre++upL t q v)/\New H0 u:=by
 intro q;induction q with
 |zero=>
  intro k v H1 acc pre hv hvr hk hpl he ha hnew;intros;obtain⟨k,rfl⟩:=aB k U
  have e:decide (0<v)=false:=aUY U
  rw[bS,Z8];simp only[gsR,e];rw[Z9]
  exact⟨H1,acc,rfl,he,ha,hnew⟩
 |succ q ih=>
  intro k v H1 acc pre hv hvr hk hpl he ha hnew;intros;obtain⟨k,rfl⟩:=aB k U
  rw[bS,Z8];unfold upL;by_cases h0:0<v
  ·have e:decide (0<v)=true:=aUX h0
   rw[if_pos h0];have hev:v-1=(((v-1).toNat:Nat):Int):=U
   obtain⟨x,hx⟩: ∃x,t[(v-1).toNat]? =some x:=⟨_,aUf U⟩
   have hxr:=N6 hr hx;obtain⟨b,o,g1,_,g3⟩:=(ht.ext he).dM eP hx .i64;rw[<-hev] at g1;have g4:ld1 (.Q b o) H1=some (.I x,H1):=(g3 H1 rfl).2.1 0 _ rfl;have e4:IntKind.i64.wrap (v-1)=v-1:=bJ U U
   obtain⟨acc2,H2,t1,t2,t3,t4⟩:=ha.pS (by':=8) eP mQ aC x hnew he (eD (n:=1000) aC (by simp;omega))
   simp only[gsR,e,eM,e4,g1,g4,mR,t1];have:=ih k x H2 acc2 (pre++[v]) U U U (by simp;omega) t4 t2 t3
   rw[vB hx];simp only[aUk,List.singleton_append] at this;exact this ..
  ·have e:decide (0<v)=false:=aUY h0
   rw[if_neg h0];simp only[gsR,e];rw[Z9]
   exact⟨H1,acc,rfl,he,ha,hnew⟩
theorem aAM {tv:Value}{t:List Int}(ht:Is H tv t)(hr:fA t=true){v:Int}(hv:0<=v/\v<=t.length)(hm:100<m): ∃H' u,lvl prog aY m (.func 109) [tv,.I v] H=some (u,H')/\Ext H H'/\Iw H' u (upT t v)/\New H u:=by
 have h5:t.length<=5:=by
  unfold fA at hr;rw[aUl] at hr;have:=of_decide_eq_true hr.2;omega
 have one:Iw (H++[.cells (inC v) 3 .row]) (.slice (some ⟨H.length,0,none⟩) 1 1) ([]++[v]):=⟨rfl,.inr ⟨_,1,[],rfl,by simp,rfl,by simp⟩⟩
 have hnew:New H (.slice (some ⟨H.length,0,none⟩) 1 1):=λb ⟨_,_,_,hh⟩=>by cases hh;exact aUi _
 refine dL (dZ rfl rfl) U ?_
 rw[aKT];simp only[gsR,mR];exact aL9 ht hr v.toNat (m-1) v _ _ [] (aUi _) hv U (by simp;omega) (Fr.app _ _ _) one hnew ..
theorem aL8 {H0:aF}{bv:Value}{b:List Int}(hb:Is H0 bv b)(hbl:b.length<=10): ∀(q k:Nat)(H1:aF)(acc:Value)(pre:List Int),q<=b.length->q<k->pre.length+q<=40->Ext H0 H1->Iw H1 acc pre->New H0 acc-> ∀(x6 x7:Value),
  ∃H' u,aL k (aO prog (lvl prog aY m) (aL m) Nj) (Nn (lvl prog aY m) (aL m)) (aG 6 (x6::x7::bv::acc::some (.I ((q:Int)-1))::aG 80 [])) H1=some (u,H')/\Ext H0 H'/\Iw H' u (pre++(b.take q).reverse)/\New H0 u:=by
 intro q;induction q with
 |zero=>
  intro k H1 acc pre hq hk hpl he ha hnew;intros;obtain⟨k,rfl⟩:=aB k U
  have e:decide (0<=((0:Nat):Int)-1)=false:=by decide
  rw[bS,aAl];simp only[gsR,e];rw[aLc]
  exact⟨H1,acc,rfl,he,by simpa using ha,hnew⟩
 |succ q ih=>
  intro k H1 acc pre hq hk hpl he ha hnew;intros;obtain⟨k,rfl⟩:=aB k U
  have e:decide (0<=((q+1:Nat):Int)-1)=true:=aUX U
  have eq:(((q+1:Nat):Int)-1)=((q:Nat):Int):=U
  have e0:decide (0<=((q:Nat):Int))=true:=aUX U
  have e3:IntKind.i64.wrap (((q:Nat):Int)-1)=((q:Nat):Int)-1:=bJ U U
  obtain⟨x,hx⟩: ∃x,b[q]? =some x:=⟨_,aUf U⟩
  obtain⟨c,o,g1,_,g3⟩:=(hb.ext he).dM eP hx .i64;have g4:ld1 (.Q c o) H1=some (.I x,H1):=(g3 H1 rfl).2.1 0 _ rfl;obtain⟨acc2,H2,t1,t2,t3,t4⟩:=ha.pS (by':=8) eP mQ aC x hnew he (eD (n:=1000) aC U)
  rw[bS,aAl];simp only[gsR,e,e0,eq,g1,g4,mR,t1,eM,e3];have:=ih k H2 acc2 (pre++[x]) U U (by simp;omega) t4 t2 t3
  have hr:(b.take (q+1)).reverse=x::(b.take q).reverse:=by rw[List.take_add_one,hx];simp
  rw[hr];simp only[aUk,List.singleton_append] at this;exact this ..
theorem aL7 {H0:aF}(hm:100<m): ∀(q k:Nat)(a b:List Int)(av bv:Value),a.length<=q->q<k->0<a.length->0<b.length->a.length<=10->b.length<=10->Is H0 av a->Is H0 bv b-> ∀(x6 x9 iS:Value),
  ∃H' u,aL k (aO prog (lvl prog aY m) (aL m) Ni) (Nm (lvl prog aY m) (aL m)) (aG 6 (x6::av::bv::x9::iS::aG 80 [])) H0=some (u,H')/\Ext H0 H'/\Iw H' u (Gs (Ci q a b))/\New H0 u:=by
 intro q;have fin: ∀(a b:List Int)(av bv:Value),0<b.length->a.length<=10->b.length<=10->Is H0 av a->Is H0 bv b-> ∀(x6 x9 iS:Value),∃H' u,Nk (lvl prog aY m) (aL m) x6 av bv x9 iS H0=some (u,H')/\Ext H0 H'/\Iw H' u (Gs (a,b))/\New H0 u:=by
  intro a b av bv hb0 ha hb hav hbv;intros;obtain⟨v',H',t1,t2,t3,t4⟩:=(Rw.fD (el:=inC) (e:=3) (sz:=1) (H:=H0)).wM eP mQ aC (by':=8) hav (New.iE H0) (Fr.dS _ H0) (eD (n:=1000) aC (by simp;omega))
  rw[List.nil_append] at t2;have hlen:=(hbv.ext t4).eC;have e3:IntKind.i64.wrap ((b.length:Int)-2)=((b.length-1:Nat):Int)-1:=by rw[bJ U U];omega
  unfold Nk;simp only[gsR,t1,hlen,eM,e3];exact Exists.imp (λH2 h=>Exists.imp (λu h=>⟨h.1,h.2.1,h.2.2⟩) h) (aL8 (m:=m) hbv hb (b.length-1) m H' v' a U U U t4 t2 t3 ..)
 induction q with
 |zero=>intro k a b av bv h1 _ h2;omega
 |succ q ih=>
  intro k a b av bv haq hk ha0 hb0 ha10 hb10 hav hbv;intros;obtain⟨k,rfl⟩:=aB k U
  have la:=hav.eC;have lb:=hbv.eC;rw[bS,aLb];unfold Ci;by_cases c1:1<a.length
  ·have d1:decide ((1:Int)<(a.length:Int))=true:=aUX U
   by_cases c2:1<b.length
   ·have d2:decide ((1:Int)<(b.length:Int))=true:=aUX U
    obtain⟨x,hx⟩: ∃x,a[a.length-2]? =some x:=⟨_,aUf U⟩
    obtain⟨y,hy⟩: ∃y,b[b.length-2]? =some y:=⟨_,aUf U⟩
    have ea:IntKind.i64.wrap ((a.length:Int)-2)=((a.length-2:Nat):Int):=by rw[bJ U U];omega
    have eb:IntKind.i64.wrap ((b.length:Int)-2)=((b.length-2:Nat):Int):=by rw[bJ U U];omega
    have ea1:IntKind.i64.wrap ((a.length:Int)-1)=((a.length-1:Nat):Int):=by rw[bJ U U];omega
    have eb1:IntKind.i64.wrap ((b.length:Int)-1)=((b.length-1:Nat):Int):=by rw[bJ U U];omega
    obtain⟨c,o,g1,_,g3⟩:=hav.dM eP hx .i64;have g4:ld1 (.Q c o) H0=some (.I x,H0):=(g3 H0 rfl).2.1 0 _ rfl;obtain⟨c',o',k1,_,k3⟩:=hbv.dM eP hy .i64;have k4:ld1 (.Q c' o') H0=some (.I y,H0):=(k3 H0 rfl).2.1 0 _ rfl;by_cases c3:x=y
    ·have d3:(x==y)=true:=by simp[c3]
     rw[if_pos ⟨c1,c2,by rw[vB hx,vB hy,c3]⟩]
     have na:a≠[]:=λh=>by rw[h] at ha0;simp at ha0
     have nb:b≠[]:=λh=>by rw[h] at hb0;simp at hb0
     obtain⟨a',s1,s2,_⟩:=hav.E5 (P:=prog) eP szI na (lo:=none) rfl (gX a.length .i64 (a.length-1)) (Nat.zero_le _) U
     obtain⟨b',s3,s4,_⟩:=hbv.E5 (P:=prog) eP szI nb (lo:=none) rfl (gX b.length .i64 (b.length-1)) (Nat.zero_le _) U
     rw[List.drop_zero] at s2 s4;simp only[gsR,la,d1,lb,d2,eM,ea,eb,g1,g4,k1,k4,d3,ea1,eb1,s1,s3];exact ih k _ _ a' b' (by simp;omega) U (by simp;omega) (by simp;omega) (by simp;omega) (by simp;omega) s2 s4 ..
    ·have d3:(x==y)=false:=by simp[c3]
     rw[if_neg (by rw[vB hx,vB hy];rintro ⟨_,_,h⟩;exact c3 h)]
     simp only[gsR,la,d1,lb,d2,eM,ea,eb,g1,g4,k1,k4,d3];rw[Nl];exact fin a b av bv hb0 ha10 hb10 hav hbv ..
   ·have d2:decide ((1:Int)<(b.length:Int))=false:=aUY U
    rw[if_neg U]
    simp only[gsR,la,d1,lb,d2];rw[Nl];exact fin a b av bv hb0 ha10 hb10 hav hbv ..
  ·have d1:decide ((1:Int)<(a.length:Int))=false:=aUY U
   rw[if_neg U]
   simp only[gsR,la,d1];rw[Nl];exact fin a b av bv hb0 ha10 hb10 hav hbv ..
theorem aL6 {tv:Value}{t:List Int}(ht:Is H tv t)(hr:fA t=true){v w:Int}(hv:0<=v/\v<=t.length)(hw:0<=w/\w<=t.length)(hm:200<m)(hm2:m<=72057594037927936):
  ∃H' u,lvl prog aY m (.func 72) [tv,.I v,.I w] H=some (u,H')/\Ext H H'/\Iw H' u (mU t v w)/\New H u:=by
 have h5:t.length<=5:=by
  unfold fA at hr;rw[aUl] at hr;have:=of_decide_eq_true hr.2;omega
 have g1:=aAL ht (m:=m-1) U U
 rw[hr] at g1;have hlen:=ht.eC;have d1:decide (v<0)=false:=aUY U
 have d2:decide ((t.length:Int)<v)=false:=aUY U
 have d3:decide (w<0)=false:=aUY U
 have d4:decide ((t.length:Int)<w)=false:=aUY U
 obtain⟨H1,a,g2,x1,qa,_⟩:=aAM ht hr hv (m:=m-1) U
 obtain⟨H2,b,g3,x2,qb,_⟩:=aAM (ht.ext x1) hr hw (m:=m-1) U
 have la:=N7 t v.toNat v;have lb:=N7 t w.toNat w;have e:mU t v w=Gs (Ci (upT t v).length (upT t v) (upT t w)):=by unfold mU;rw[if_pos ⟨hr,hv.1,hv.2,hw.1,hw.2⟩]
 refine dL (dZ rfl rfl) U ?_
 rw[aLd];simp only[gsR,g1,hlen,d1,d2,d3,d4,g2,g3];rw[e];have hla:(upT t v).length=(upL t v.toNat v).length:=rfl;have hlb:(upT t w).length=(upL t w.toNat w).length:=rfl;exact Exists.imp (λH' h=>Exists.imp (λu h=>⟨h.1,(x1.tr x2).tr h.2.1,h.2.2.1,λc hc=>aUt (x1.tr x2).1 (h.2.2.2 c hc)⟩) h) (aL7 (m:=m-1) U (upT t v).length (m-1) _ _ a b (aUi _) U U U U U (qa.rs.ext x2) qb.rs ..)
end
end Go.Proofs.YtciiopkbmjppfaaGreatDoor
