/-
  PARTS OF THIS CLAIM'S PROOF, laid together by a program of mine.
-/
import Derived.Ground.NamesProg
import Derived.Shelf.Sort.Plain
import Derived.Shelf.Slices.In.SortNone
import Derived.Test.YtndnnndnhnlkdaaGreatDoorAbsM3
set_option linter.unusedVariables false
set_option linter.unusedSimpArgs false
set_option linter.unusedSectionVars false
namespace Go.Proofs.YtndnnndnhnlkdaaGreatDoor
open Go.Proofs.Tryz
open Go.Shelf
def Tryz.aHz:Go.Shelf.Ren:=⟨λ|189=>83|125=>112|257=>111|128=>136|129=>137|294=>127|295=>128|296=>129|297=>130|298=>131|299=>132|216=>133|300=>134|301=>135|328=>145|329=>146|330=>147|331=>148|332=>149|215=>150|343=>151|n=>n,λ|28=>27|3=>3|46=>200|0=>0|51=>37|53=>82|4=>4|183=>226|182=>225|131=>211|5=>5|9=>9|218=>241|222=>244|228=>247|229=>248|n=>n,λ|n=>n⟩
theorem Tryz.Ws:Go.Proofs.Lays.n189 prog Tryz.aHz:={
 mixed:=by kernel_rfl
 f125:=Tryz.func112.trans (congrArg some (by kernel_rfl))
 f128:=Tryz.func136.trans (congrArg some (by kernel_rfl))
 f129:=Tryz.func137.trans (congrArg some (by kernel_rfl))
 f189:=Tryz.func83.trans (congrArg some (by kernel_rfl))
 f215:=Tryz.func150.trans (congrArg some (by kernel_rfl))
 f216:=Tryz.func133.trans (congrArg some (by kernel_rfl))
 f257:=Tryz.func111.trans (congrArg some (by kernel_rfl))
 f294:=Tryz.func127.trans (congrArg some (by kernel_rfl))
 f295:=Tryz.func128.trans (congrArg some (by kernel_rfl))
 f296:=Tryz.func129.trans (congrArg some (by kernel_rfl))
 f297:=Tryz.func130.trans (congrArg some (by kernel_rfl))
 f298:=Tryz.func131.trans (congrArg some (by kernel_rfl))
 f299:=Tryz.func132.trans (congrArg some (by kernel_rfl))
 f300:=Tryz.func134.trans (congrArg some (by kernel_rfl))
 f301:=Tryz.func135.trans (congrArg some (by kernel_rfl))
 f328:=Tryz.func145.trans (congrArg some (by kernel_rfl))
 f329:=Tryz.func146.trans (congrArg some (by kernel_rfl))
 f330:=Tryz.func147.trans (congrArg some (by kernel_rfl))
 f331:=Tryz.func148.trans (congrArg some (by kernel_rfl))
 f332:=Tryz.func149.trans (congrArg some (by kernel_rfl))
 f343:=Tryz.func151.trans (congrArg some (by kernel_rfl))
 t0:=Tryz.underlying0
 a0:=Tryz.isAgg0
 z0:=Tryz.sizeOf0
 v0:=Tryz.zeroValue0
 t3:=Tryz.underlying3
 a3:=Tryz.isAgg3
 z3:=Tryz.sizeOf3
 v3:=Tryz.zeroValue3
 t4:=Tryz.underlying4
 a4:=Tryz.isAgg4
 z4:=Tryz.sizeOf4
 v4:=Tryz.zeroValue4
 t5:=Tryz.underlying5
 a5:=Tryz.isAgg5
 z5:=Tryz.sizeOf5
 v5:=Tryz.zeroValue5
 t9:=Tryz.underlying9
 a9:=Tryz.isAgg9
 z9:=Tryz.sizeOf9
 v9:=Tryz.zeroValue9
 t28:=Tryz.underlying27
 a28:=Tryz.isAgg27
 z28:=Tryz.sizeOf27
 v28:=Tryz.zeroValue27
 t46:=Tryz.underlying200
 a46:=Tryz.isAgg200
 z46:=Tryz.sizeOf200
 v46:=Tryz.zeroValue200
 t51:=Tryz.underlying37
 a51:=Tryz.isAgg37
 z51:=Tryz.sizeOf37
 v51:=Tryz.zeroValue37
 t53:=Tryz.underlying82
 a53:=Tryz.isAgg82
 z53:=Tryz.sizeOf82
 v53:=Tryz.zeroValue82
 t131:=Tryz.underlying211
 a131:=Tryz.isAgg211
 z131:=Tryz.sizeOf211
 v131:=Tryz.zeroValue211
 t182:=Tryz.underlying225
 a182:=Tryz.isAgg225
 z182:=Tryz.sizeOf225
 v182:=Tryz.zeroValue225
 t183:=Tryz.underlying226
 a183:=Tryz.isAgg226
 z183:=Tryz.sizeOf226
 v183:=Tryz.zeroValue226
 t218:=Tryz.underlying241
 a218:=Tryz.isAgg241
 z218:=Tryz.sizeOf241
 v218:=Tryz.zeroValue241
 t222:=Tryz.underlying244
 a222:=Tryz.isAgg244
 z222:=Tryz.sizeOf244
 v222:=Tryz.zeroValue244
 t228:=Tryz.underlying247
 a228:=Tryz.isAgg247
 z228:=Tryz.sizeOf247
 v228:=Tryz.zeroValue247
 t229:=Tryz.underlying248
 a229:=Tryz.isAgg248
 z229:=Tryz.sizeOf248
 v229:=Tryz.zeroValue248}
end Go.Proofs.YtndnnndnhnlkdaaGreatDoor
namespace Go.Abs
open M
theorem gsR:type_of%(And.intro @r_opt (And.intro @r_ret (And.intro @ob_some (And.intro @ifB_true (And.intro @iteV_true (And.intro @iteV_false (And.intro @r_gdt (And.intro @r_gdt2 (And.intro @r_gdtf (And.intro @r_gdtf2 (And.intro @r_gdff (And.intro @r_gdff2 (And.intro @r_gdft (And.intro @r_gdft2 (And.intro @r_gdu (And.intro @r_gdu2 (And.intro @pick_t (And.intro @pick_f (And.intro @ext_0 (And.intro @ext_1 (And.intro @x_newB (And.intro @r_nil (And.intro @r_fAddr (And.intro @Nat.zero_add (And.intro @b_lss (And.intro @b_leq (And.intro @b_gtr (And.intro @b_geq (And.intro @b_eql (And.intro @b_neq (And.intro @u_not (And.intro @Bool.not_true (And.intro @Bool.not_false (And.intro @oneOf_one (And.intro @oneOf_two (And.intro @again_normal (And.intro @again_exit (And.intro @again_ret @Bool.and_true)))))))))))))))))))))))))))))))))))))):=And.intro @r_opt (And.intro @r_ret (And.intro @ob_some (And.intro @ifB_true (And.intro @iteV_true (And.intro @iteV_false (And.intro @r_gdt (And.intro @r_gdt2 (And.intro @r_gdtf (And.intro @r_gdtf2 (And.intro @r_gdff (And.intro @r_gdff2 (And.intro @r_gdft (And.intro @r_gdft2 (And.intro @r_gdu (And.intro @r_gdu2 (And.intro @pick_t (And.intro @pick_f (And.intro @ext_0 (And.intro @ext_1 (And.intro @x_newB (And.intro @r_nil (And.intro @r_fAddr (And.intro @Nat.zero_add (And.intro @b_lss (And.intro @b_leq (And.intro @b_gtr (And.intro @b_geq (And.intro @b_eql (And.intro @b_neq (And.intro @u_not (And.intro @Bool.not_true (And.intro @Bool.not_false (And.intro @oneOf_one (And.intro @oneOf_two (And.intro @again_normal (And.intro @again_exit (And.intro @again_ret @Bool.and_true)))))))))))))))))))))))))))))))))))))
end Go.Abs
set_option maxRecDepth 100000
namespace Go.Proofs.YtndnnndnhnlkdaaGreatDoor
open Go.Proofs.Tryz
open Go.Abs Go.Abs.M
theorem aHB:SortOk prog 83:=⟨enters_of Tryz.func83 (by kernel_rfl) rfl,Any.slices_Sort_int_none Tryz.Ws,Any.slices_Sort_int Tryz.Ws⟩
theorem Wu:prog.follows .mixedOrders=true:=by kernel_rfl
theorem aHA:PrimsOk prog (tO []):=aEt Wu λg hg=>by simp at hg
theorem aHC:PrimsOk prog (qS [] 83):=aFe aHA aHB
abbrev pkN:gQ:=qV 99 tZ (qV 97 (u6 23) (qS [] 83))
abbrev cR:gQ:=pkN
theorem uA:FrP pkN:=Vz aGq (Vz (aGr _) (aGb _ _))
theorem gN {k:FuncId}(h:((k==99)||(k==97))=false)(h2:(k==83)=false):pkN (.func k)=none:=by
 rw[Bool.or_eq_false_iff] at h;rw[pkN,B7 h.1,B7 h.2];exact aFd h2 rfl
theorem cV {k:FuncId}(h:((k==99)||(k==97)||(k==83))=false):pkN (.func k)=none:=by
 rw[Bool.or_eq_false_iff] at h;exact gN h.1 h.2
theorem Wv (n:Nat)(hn:0<n)(args:List Value)(H:aE):lvl prog cR n (.func 83) args H=rS args H:=
 Kl (((B7 rfl).trans (B7 rfl)).trans aFf) hn args H
theorem Lx (n:Nat)(hn:0<n)(args:List Value)(H:aE):lvl prog pkN n (.func 99) args H=tZ args H:=Kl V3 hn args H
theorem aHD (n:Nat)(hn:0<n)(args:List Value)(H:aE):lvl prog pkN n (.func 97) args H=u6 23 args H:=Kl ((B7 rfl).trans V3) hn args H
end Go.Proofs.YtndnnndnhnlkdaaGreatDoor
namespace Go.Proofs.YtndnnndnhnlkdaaGreatDoor
open Go.Proofs.Tryz
open Go Go.RowKit Go.Abs Go.Abs.M
theorem aHI:I5 prog=some 0:=by kernel_rfl
theorem aHJ:wZ=Lib.deBruijn32tab.map Int.ofNat:=by decide+kernel
theorem Ww {w:World}(h:Ba prog w):TabC w:=by
 obtain⟨cs,e,r,h1,h2⟩:=h 0 aHI;intro j hj;unfold World.cell?;rw[h1];show cs[j]? =_
 rw[<-Array.getElem?_toList,h2,aHJ,List.map_map,aRn];have hl:Lib.deBruijn32tab.length=32:=by decide+kernel
 rw[aRc U,aRe,aRc U]
 rfl
theorem aHE {args:List Value}{H H':aE}{v:Value}(h:tZ args H=some (v,H')):H'=H:=by
 unfold tZ at h
 split at h
 ·split at h
  ·cases h
   rfl
  ·cases h
 ·cases h
theorem aHK {t:TypeId}{args:List Value}{H H':aE}{v:Value}(h:u6 t args H=some (v,H')):H.length<=H'.length:=by
 unfold u6 at h
 split at h
 ·split at h
  ·split at h
   ·split at h
    ·split at h
     ·cases h
      simp
     ·cases h
    ·cases h
   ·cases h
  ·cases h
 ·cases h
theorem aHF {args:List Value}{H H':aE}{v:Value}(h:tZ args H=some (v,H')){ρ:Ren}{w:World}{args':List Value}(hr:Rel prog ρ (dU H) w)(ha:Vrs ρ args args'):
  xI prog (.func 99) args'.toArray w (Post prog ρ H w v H'):=by
 have he:(callFunc 99 args'.toArray).run prog w= .ok (.enter 99 args'.toArray) w:=enters_of Tryz.func99 (by kernel_rfl) rfl _ _
 refine⟨he,?_⟩;unfold tZ at h
 split at h
 ·rename_i m fr n
  split at h
  ·rename_i hm
   cases h;obtain⟨hl,h1⟩:=ha
   match args',hl with
   |[a',b',c'],_=>
    obtain rfl:=(h1 0 _ a' rfl rfl).lE rfl
    obtain rfl:=(h1 1 _ b' rfl rfl).lE rfl
    obtain rfl:=(h1 2 _ c' rfl rfl).lE rfl
    exact(aGy m fr n hm.1 hm.2 w (Ww hr.I3)).mono λe w' ⟨h2,hB⟩=>⟨_,h2,ρ,.oW rfl,Step.Tt hr hB.size (λc hc=>hB.block c hc) hB.os hB.tape hB.output⟩
  ·cases h
 ·cases h
theorem aHH (rows:List Nat)(n:Nat):(kM (λk=>dS (λi=>(rows.getD i 0).testBit k) rows.length) n).toList=(kD rows n).map λz:Nat=>Value.int .u16 (z:Int):=by
 unfold kM kD;rw[List.map_map];rfl
theorem aHL {args:List Value}{H H':aE}{v:Value}(h:u6 23 args H=some (v,H')){ρ:Ren}{w:World}{args':List Value}(hr:Rel prog ρ (dU H) w)(ha:Vrs ρ args args')
  (hfree: ∀b,H.length<=b->b<H'.length->ρ b=none):xI prog (.func 97) args'.toArray w (Post prog ρ H w v H'):=by
 have he:(callFunc 97 args'.toArray).run prog w= .ok (.enter 97 args'.toArray) w:=enters_of Tryz.func97 (by kernel_rfl) rfl _ _
 refine⟨he,?_⟩;unfold u6 at h
 split at h
 ·rename_i b o len cap n
  try dsimp only at h
  split at h
  ·rename_i hc
   try dsimp only at h
   split at h
   ·rename_i cs e k hb
    try dsimp only at h
    split at h
    ·rename_i hlen
     try dsimp only at h
     split at h
     ·rename_i rows hrows
      cases h;obtain⟨hl,h1⟩:=ha
      match args',hl with
      |[a',b'],_=>
       obtain rfl:=(h1 1 _ b' rfl rfl).lE rfl
       have hv:=h1 0 _ a' rfl rfl;cases hv with
       |same hls=>simp[fP] at hls
       |slice0=>omega
       | @slice _ _ _ _ cap' pl hpl hn hcc hroom=>
        obtain⟨ccs,ce,lo,hi,ho,hcv,_,_,_⟩:=hr.blk b pl _ hpl hb;obtain⟨hz,h16⟩:=V2 _ _ hrows;have hzl:rows.length=len:=by
         have:=congrArg List.length hz;simp at this;omega
        obtain⟨n',rfl⟩: ∃n':Nat,n=n':=⟨n.toNat,by omega⟩
        have hin: ∀i,i<len->w.cell? ⟨pl.c,pl.base+o+i,none⟩=some (.int .u16 (rows.getD i 0:Nat)):=by
         intro i hi;have hzi:rows[i]? =some rows[i]:=aRc U
         have h2:cs[o+i]? =some (.int .u16 (rows[i]:Nat)):=by
          have:=congrArg (·[i]?) hz
          simp only[List.getElem?_take,List.getElem?_drop,aRn,hzi,if_pos hi,Option.map_some] at this;exact this
         obtain⟨v',h3,h4⟩:=hcv (o+i) _ h2;have h5:=h4.lE rfl;subst h5;rw[Bd ho,aRe,hzi,Nat.add_assoc];exact h3
        have hcall:=(callsIn_wide (n:=6)).1 (aGS pl.c (pl.base+o) len cap' n' U U U U U w (Ww hr.I3) rows hzl h16 (hr.lt b pl hpl) hin)
        refine hcall.mono λe w' ⟨h2,hB,hrow⟩=>⟨_,h2,ρ.upd H.length ⟨w.heap.size,0,some (1,n')⟩,?_,?_⟩
        ·have:=Vr.slice (ρ:=ρ.upd H.length ⟨w.heap.size,0,some (1,n')⟩) (o:=0) (n:=n') (cap:=n') (cap':=n') (Ren.oX _ _ _) (aRf _) (aRf _) (by
          intro e' T hT;simp only[aRB,Prod.mk.injEq] at hT;obtain⟨rfl,rfl⟩:=hT;simp)
         simpa using this
        ·have hlt:w.heap.size<w'.heap.size:=(aRz.mp hrow).1
         have hcell:prog.cellsOf 23=1:=by kernel_rfl
         refine Step.I7 hr (hfree _ (aRf _) (by simp)) (aRf _) hB.size hlt (λc hc=>hB.block c hc) ?_ (by simp) hB.os hB.tape hB.output
         refine⟨_,_,0,0,hrow,λi v hi=> ?_,λ_ off _=>by omega,λ_=> ?_,λhk=>absurd rfl hk⟩
         ·refine⟨v,?_,?_⟩
          ·rw[<-hi,aRC,<-aHH,<-hzl,Array.getElem?_toList]
           simp
          ·rw[aRn] at hi
           cases hx:(kD rows (n':Int).toNat)[i]? with
           |none=>rw[hx] at hi;cases hi
           |some z=>
            rw[hx] at hi;cases hi;exact .oW rfl
         ·show some (1,n')=some (prog.cellsOf 23,_)
          rw[hcell,Wa]
     ·cases h
    ·cases h
   ·cases h
  ·cases h
 ·cases h
theorem Wx {P:Program}{g:FuncId}{p:List Value->aE->Option (Value×aE)}{pr:gQ}(h:PrimsOk P pr)(hm: ∀args H v H',p args H=some (v,H')->H.length<=H'.length)
  (hs: ∀args H v H',p args H=some (v,H')-> ∀ρ w args',Rel P ρ (dU H) w->Vrs ρ args args'->(∀b,H.length<=b->b<H'.length->ρ b=none)->xI P (.func g) args'.toArray w (Post P ρ H w v H')):PrimsOk P (qV g p pr):=by
 constructor
 ·intro f q hf args H v H' hp
  cases f with
  |func k=>
   by_cases hk:k=g
   ·simp only[qV,if_pos hk] at hf
    cases hf;exact hm _ _ _ _ hp
   ·simp only[qV,if_neg hk] at hf
    exact h.mono _ _ hf _ _ _ _ hp
  |_=>cases hf
 ·intro f q hf args H v H' hp ρ w args' hr ha hfree
  cases f with
  |func k=>
   by_cases hk:k=g
   ·simp only[qV,if_pos hk] at hf
    cases hf;subst hk;exact hs _ _ _ _ hp _ _ _ hr ha hfree
   ·simp only[qV,if_neg hk] at hf
    exact h.sound _ _ hf _ _ _ _ hp _ _ _ hr ha hfree
  |_=>cases hf
theorem aHG:PrimsOk prog pkN:=
 Wx (Wx aHC (λ_ _ _ _ h=>aHK h) λ_ _ _ _ h _ _ _ hr ha hf=>aHL h hr ha hf) (λ_ _ _ _ h=>by rw[aHE h];exact aRf _) λ_ _ _ _ h _ _ _ hr ha _=>aHF h hr ha
end Go.Proofs.YtndnnndnhnlkdaaGreatDoor
namespace Go.Proofs.YtndnnndnhnlkdaaGreatDoor
open Go.Proofs.Tryz
open Go.Abs Go.Abs.M
theorem szI:prog.cellsOf 3=1:=by kernel_rfl
theorem aHU:prog.cellsOf 89=2:=by kernel_rfl
abbrev Ed:=Int×Int
def edC (e:Ed):List Value:=[.I e.1,.I e.2]
theorem p8 (e:Ed):(edC e).length=2:=rfl
theorem yA (e:Ed):dX (edC e)=true:=rfl
def edV (e:Ed):Value:= .agg ⟨edC e⟩
abbrev Is (H:aE)(v:Value)(xs:List Int):=Rs inC 3 H v xs
abbrev Iw (H:aE)(v:Value)(xs:List Int):=Rw inC 3 1 H v xs
abbrev Es (H:aE)(v:Value)(xs:List Ed):=Rs edC 89 H v xs
abbrev Ew (H:aE)(v:Value)(xs:List Ed):=Rw edC 89 2 H v xs
def vC (u:Value):List Value:=[u]
theorem aHV (u:Value):(vC u).length=1:=rfl
def Rows (H:aE)(v:Value)(xss:List (List Int)):Prop:= ∃us,Rs vC 27 H v us/\us.length=xss.length/\ ∀(i:Nat)(u:Value)(xs:List Int),us[i]? =some u->xss[i]? =some xs->Is H u xs
theorem Rows.ext {H H':aE}{v:Value}{xss:List (List Int)}(h:Rows H v xss)(he:Ext H H'):Rows H' v xss:=by
 obtain⟨us,h1,h2,h3⟩:=h
 exact⟨us,h1.ext he,h2,λi u xs hu hx=>(h3 i u xs hu hx).ext he⟩
theorem Rows.Wy {H:aE}{v:Value}{xss:List (List Int)}(h:Rows H v xss):cK v=some (.I xss.length):=by
 obtain⟨us,h1,h2,h3⟩:=h;rw[h1.jX,h2]
theorem Rows.Fo {H:aE}{v:Value}{xss:List (List Int)}(h:Rows H v xss){i:Nat}{xs:List Int}(hx:xss[i]? =some xs)(k:IntKind): ∃p u,bS 1 v (.int k i)=some p/\ld1 p H=some (u,H)/\Is H u xs:=by
 obtain⟨us,h1,h2,h3⟩:=h;have hi:=(aRa.mp hx).1;have hu:us[i]? =some us[i]:=aRc U
 obtain⟨b,o,g1,g2,g3⟩:=h1.fV aHV hu k;have:=(g3 H rfl).2.1 0 us[i] rfl
 exact⟨_,_,g1,this,h3 i _ _ hu hx⟩
structure PlanD where
 nodes:Int
 edges:List Ed
 lanes:Int
 room:Int
 queue:Int
 rounds:Int
 every:Int
 bag:Int
 weights:List Int
 start:Int
 next:List (List Int)
def plC (p:PlanD)(ev wv nv:Value):List Value:=[.I p.nodes,ev,.I p.lanes,.I p.room,.I p.queue,.I p.rounds,.I p.every,.I p.bag,wv,.int .u16 p.start,nv]
def plV (p:PlanD)(ev wv nv:Value):Value:= .agg ⟨plC p ev wv nv⟩
def plB (p:PlanD)(ev wv nv:Value):Blk:= .cells (plC p ev wv nv) 30 .fix
structure PV (H:aE)(p:PlanD)(ev wv nv:Value):Prop where
 e:Es H ev p.edges
 w:Is H wv p.weights
 n:Rows H nv p.next
 be:p.edges.length<=17592186043000
 bw:p.weights.length<=17592186044500
 bn:p.next.length<=17592186043000
theorem PV.ext {H H':aE}{p:PlanD}{ev wv nv:Value}(h:PV H p ev wv nv)(he:Ext H H'):PV H' p ev wv nv:=⟨h.e.ext he,h.w.ext he,h.n.ext he,h.be,h.bw,h.bn⟩
theorem k9 (p:PlanD)(ev wv nv:Value):Blk.cells (plV p ev wv nv).cells.toList 30 .fix=plB p ev wv nv:=rfl
theorem eP {H:aE}{b:Nat}{p:PlanD}{ev wv nv:Value}(h:H[b]? =some (plB p ev wv nv))(j:Nat)(v:Value)(hv:(plC p ev wv nv)[j]? =some v):ld1 (.Q b j) H=some (v,H):=by
 rw[j9,h];unfold plB;rw[tP,hv,vW]
theorem kE {H:aE}{b:Nat}{p:PlanD}{ev wv nv:Value}(h:H[b]? =some (plB p ev wv nv)):ldN 11 (.Q b 0) H=some (plV p ev wv nv,H):=by
 rw[tA,h];unfold plB;rw[tQ _ _ _ _ _ (by simp[plC])]
 rfl
theorem eY (H:aE)(x:Blk):(H++[x])[H.length]? =some x:=by simp
theorem eU {H H':aE}{b:Nat}{x:Blk}(h:H[b]? =some x)(he:Ext H H'):H'[b]? =some x:=by
 rw[he.2 b (aRa.mp h).1 id,h]
def wi (x lo hi:Int):Bool:=decide (lo<=x)&&decide (x<=hi)
def qW (p:PlanD):Bool:=wi p.nodes 2 6&&(wi p.lanes 1 3&&(wi p.room 1 8&&(wi p.queue 1 8&&(wi p.rounds 1 4&&(wi p.every 1 8&&wi p.bag 1 64)))))
section
variable {H : aE} {m : Nat} {p : PlanD} {ev wv nv : Value}
theorem W4 (hm:0<m)(x lo hi:Int)(H:aE):lvl prog cR m (.func 49) [.I x,.I lo,.I hi] H=some (.bool (wi x lo hi),H):=by
 refine dH (gN rfl rfl) hm ?_;rw[aHj];unfold wi;by_cases h:lo<=x
 ·simp only[gsR,h,decide_true,aRx]
 ·simp only[gsR,h,decide_false,Bool.false_and]
theorem aHT (hm:1<m)(p:PlanD)(ev wv nv:Value):lvl prog cR m (.func 78) [plV p ev wv nv] H=some (.bool (qW p),H++[plB p ev wv nv]):=by
 refine dH (gN rfl rfl) U ?_
 have w:=λx lo hi H=>W4 (m:=m-1) U x lo hi H
 have hb:=eY H (plB p ev wv nv);have l0:=eP hb 0 _ rfl;have l2:=eP hb 2 _ rfl;have l3:=eP hb 3 _ rfl;have l4:=eP hb 4 _ rfl;have l5:=eP hb 5 _ rfl;have l6:=eP hb 6 _ rfl;have l7:=eP hb 7 _ rfl;rw[aHo];unfold qW;cases c1:wi p.nodes 2 6 with
 |false=>simp only[gsR,k9,w,l0,l2,l3,l4,l5,l6,c1,Bool.false_and,aRx]
 |true=>
   cases c2:wi p.lanes 1 3 with
   |false=>simp only[gsR,k9,w,l0,l2,l3,l4,l5,l6,c1,c2,Bool.false_and,aRx]
   |true=>
     cases c3:wi p.room 1 8 with
     |false=>simp only[gsR,k9,w,l0,l2,l3,l4,l5,l6,c1,c2,c3,Bool.false_and,aRx]
     |true=>
       cases c4:wi p.queue 1 8 with
       |false=>simp only[gsR,k9,w,l0,l2,l3,l4,l5,l6,c1,c2,c3,c4,Bool.false_and,aRx]
       |true=>
         cases c5:wi p.rounds 1 4 with
         |false=>simp only[gsR,k9,w,l0,l2,l3,l4,l5,l6,c1,c2,c3,c4,c5,Bool.false_and,aRx]
         |true=>
           cases c6:wi p.every 1 8 with
           |false=>simp only[gsR,k9,w,l0,l2,l3,l4,l5,l6,c1,c2,c3,c4,c5,c6,Bool.false_and,aRx]
           |true=>
             simp only[gsR,k9,w,l0,l2,l3,l4,l5,l6,l7,c1,c2,c3,c4,c5,c6,aRx]
def fst (p:Nat->Bool):Nat->Nat->Int
 |0,_=> -1
 |q+1,i=>if p i=true then i else fst p q (i+1)
theorem Ly (p:Nat->Bool): ∀q i,(0<=fst p q i)↔ ∃j,i<=j/\j<i+q/\p j=true
 |0,i=>by simp[fst];omega
 |q+1,i=>by
  unfold fst;by_cases h:p i=true
  ·rw[if_pos h]
   exact⟨λ_=>⟨i,by omega,by omega,h⟩,λ_=>by omega⟩
  ·rw[if_neg h,Ly p q (i+1)]
   constructor
   ·rintro ⟨j,h1,h2,h3⟩
    exact⟨j,by omega,by omega,h3⟩
   ·rintro ⟨j,h1,h2,h3⟩
    have:j≠i:=λhh=>h (hh▸h3)
    exact⟨j,by omega,by omega,h3⟩
theorem Fp (p:Nat->Bool)(n:Nat):decide (0<=fst p n 0)=(List.range n).any p:=by
 rw[Bool.eq_iff_iff,decide_eq_true_iff,Ly,List.any_eq_true];constructor
 ·rintro ⟨j,h1,h2,h3⟩
  exact⟨j,aRO.mpr U,h3⟩
 ·rintro ⟨j,h1,h2⟩
  exact⟨j,by omega,by have:=aRO.mp h1;omega,h2⟩
theorem Cb {α:Type}(xs:List α)(q:α->Bool)(p:Nat->Bool)(h: ∀i x,xs[i]? =some x->p i=q x):(List.range xs.length).any p=xs.any q:=by
 rw[Bool.eq_iff_iff,List.any_eq_true,List.any_eq_true];constructor
 ·rintro ⟨i,h1,h2⟩
  have hi:=aRO.mp h1;have hx:xs[i]? =some xs[i]:=aRc hi
  exact⟨xs[i],List.getElem_mem hi,by rw[<-h i _ hx];exact h2⟩
 ·rintro ⟨x,h1,h2⟩
  obtain⟨i,hi⟩:=List.getElem?_of_mem h1
  exact⟨i,aRO.mpr (aRa.mp hi).1,by rw[h i x hi];exact h2⟩
theorem aHQ {v fv:Value}{n:Nat}(p:Nat->Bool)(hd: ∀i,i<n-> ∃a u,bS 1 v (.I (i:Nat))=some a/\ld1 a H=some (u,H)/\nT (lvl prog cR m) fv [u] H=some (.bool (p i),H))(hn:n<=72057594037927936): ∀(q i k:Nat),n-i=q->i<=n->q<k-> ∀(x2 x3 x4 x5 x6 x9 bQ cG aS aP aQ aO bB bI aR:Value),
  aK k (aM prog (lvl prog cR m) (aK m) K6) (Fh (lvl prog cR m) (aK m)) [v,fv,x2,x3,x4,x5,x6,(.I n),(.I (i:Nat)),x9,bQ,cG,aS,aP,aQ,aO,bB,bI,aR] H=some (.I (fst p q i),H):=by
 intro q;induction q with
 |zero=>
  intro i k hr hi hk;intros;obtain⟨k,rfl⟩:=aB k U
  obtain rfl:i=n:=U
  have e:decide ((i:Int)<i)=false:=by simp
  rw[dG,We];simp only[gsR,e];rw[aG0];rfl
 |succ q ih=>
  intro i k hr hi hk;intros;obtain⟨k,rfl⟩:=aB k U
  have e:decide ((i:Int)<n)=true:=by simp;omega
  have e3:=aA (i:=i) U
  obtain⟨a,u,g1,g2,g3⟩:=hd i U
  rw[dG,We];unfold fst;cases h:p i with
  |true=>
   rw[h] at g3;simp only[gsR,e,g1,g2,g3,if_true];rw[aG2];rfl
  |false=>
   rw[h] at g3;simp only[gsR,e,g1,g2,g3,cU,e3,Bool.false_eq_true,if_false];exact ih (i+1) k U U U ..
theorem Wz {v fv:Value}{n:Nat}(p:Nat->Bool)(hl:cK v=some (.I n))(hn:n+10<m)(hm:m<=72057594037927936)(hd: ∀i,i<n-> ∃a u,bS 1 v (.I (i:Nat))=some a/\ld1 a H=some (u,H)/\nT (lvl prog cR (m-1-1)) fv [u] H=some (.bool (p i),H)):
  lvl prog cR m (.func 86) [v,fv] H=some (.bool ((List.range n).any p),H):=by
 have g:lvl prog cR (m-1) (.func 113) [v,fv] H=some (.I (fst p n 0),H):=by
  refine dH (gN rfl rfl) U ?_
  rw[aG1];simp only[gsR,hl];exact aHQ p hd U n 0 (m-1-1) U U U ..
 refine dH (gN rfl rfl) U ?_
 rw[aHy];simp only[gsR,g,Fp]
theorem aHR {v fv:Value}{n:Nat}(p:Nat->Bool)(hd: ∀i,i<n-> ∃a u,bS 1 v (.I (i:Nat))=some a/\ld1 a H=some (u,H)/\nT (lvl prog cR m) fv [u] H=some (.bool (p i),H))(hn:n<=72057594037927936): ∀(q i k:Nat),n-i=q->i<=n->q<k-> ∀(x2 x3 x4 x5 x6 x9 bQ cG aS aP aQ aO bB bI aR:Value),
  aK k (aM prog (lvl prog cR m) (aK m) K4) (Ff (lvl prog cR m) (aK m)) [v,fv,x2,x3,x4,x5,x6,(.I n),(.I (i:Nat)),x9,bQ,cG,aS,aP,aQ,aO,bB,bI,aR] H=some (.I (fst p q i),H):=by
 intro q;induction q with
 |zero=>
  intro i k hr hi hk;intros;obtain⟨k,rfl⟩:=aB k U
  obtain rfl:i=n:=U
  have e:decide ((i:Int)<i)=false:=by simp
  rw[dG,Wc];simp only[gsR,e];rw[aGU];rfl
 |succ q ih=>
  intro i k hr hi hk;intros;obtain⟨k,rfl⟩:=aB k U
  have e:decide ((i:Int)<n)=true:=by simp;omega
  have e3:=aA (i:=i) U
  obtain⟨a,u,g1,g2,g3⟩:=hd i U
  rw[dG,Wc];unfold fst;cases h:p i with
  |true=>
   rw[h] at g3;simp only[gsR,e,g1,g2,g3,if_true];rw[aGW];rfl
  |false=>
   rw[h] at g3;simp only[gsR,e,g1,g2,g3,cU,e3,Bool.false_eq_true,if_false];exact ih (i+1) k U U U ..
theorem aHM {v fv:Value}{n:Nat}(p:Nat->Bool)(hl:cK v=some (.I n))(hn:n+10<m)(hm:m<=72057594037927936)(hd: ∀i,i<n-> ∃a u,bS 1 v (.I (i:Nat))=some a/\ld1 a H=some (u,H)/\nT (lvl prog cR (m-1-1)) fv [u] H=some (.bool (p i),H)):
  lvl prog cR m (.func 80) [v,fv] H=some (.bool ((List.range n).any p),H):=by
 have g:lvl prog cR (m-1) (.func 109) [v,fv] H=some (.I (fst p n 0),H):=by
  refine dH (gN rfl rfl) U ?_
  rw[aGV];simp only[gsR,hl];exact aHR p hd U n 0 (m-1-1) U U U ..
 refine dH (gN rfl rfl) U ?_
 rw[aHr];simp only[gsR,g,Fp]
theorem W0 (a b:Ed):bin prog .eql 89 (edV a) (edV b)=some (.bool (a==b)):=by
 have k:rH prog 89=some [true,true]:=by kernel_rfl
 obtain⟨a1,a2⟩:=a;obtain⟨b1,b2⟩:=b;simp[bin,edV,eD,nG,k,eqT,edC];rfl
theorem aHS {v:Value}{xs:List Ed}{a:Nat}{y:Ed}(hx:Es H v xs)(ha:H[a]? =some (.cells (edC y) 89 .fix))(hn:xs.length<=72057594037927936): ∀(q i k:Nat),xs.length-i=q->i<=xs.length->q<k-> ∀(x1 x2 x4 x5 x6 x9 bQ cG aS aP aQ aO bB bI aR:Value),
  aK k (aM prog (lvl prog cR m) (aK m) K7) (Fi (lvl prog cR m) (aK m)) [v,x1,x2,(.pointer (some ⟨a,0,none⟩)),x4,x5,x6,(.int .i64 xs.length),(.int .i64 (i:Nat)),x9,bQ,cG,aS,aP,aQ,aO,bB,bI,aR] H=some (.int .i64 (fst (λj=>xs[j]? ==some y) q i),H):=by
 intro q;have la:ldN 2 (.Q a 0) H=some (edV y,H):=by
  rw[tA,ha,tQ _ _ _ _ _ (by simp[edC])]
  rfl
 induction q with
 |zero=>
  intro i k hr hi hk;intros;obtain⟨k,rfl⟩:=aB k U
  obtain rfl:i=xs.length:=U
  have e:decide ((xs.length:Int)<xs.length)=false:=by simp
  rw[dG,Wf];simp only[gsR,e];rw[aG3];rfl
 |succ q ih=>
  intro i k hr hi hk;intros;obtain⟨k,rfl⟩:=aB k U
  have e:decide ((i:Int)<xs.length)=true:=by simp;omega
  have e3:=aA (i:=i) U
  have hxi:xs[i]? =some xs[i]:=aRc U
  obtain⟨b,o,g1,g2,g3⟩:=hx.fV p8 hxi .i64;have l1:ldN 2 (.Q b o) H=some (edV xs[i],H):=(g3 H rfl).1;rw[dG,Wf];unfold fst;by_cases h:y=xs[i]
  ·have d:(y==xs[i])=true:=by rw[h];simp
   have d2:(xs[i]? ==some y)=true:=by rw[hxi,h];simp
   simp only[gsR,e,la,g1,l1,W0,d];rw[aG5,if_pos d2];rfl
  ·have d:(y==xs[i])=false:=by simpa using h
   have d2: ¬(xs[i]? ==some y)=true:=by rw[hxi];simpa using λhh=>h hh.symm
   simp only[gsR,e,la,g1,l1,W0,d,cU,e3];rw[if_neg d2];exact ih (i+1) k U U U ..
theorem aHP {v:Value}{xs:List Ed}(hx:Es H v xs)(y:Ed)(hn:xs.length+10<m)(hm:m<=72057594037927936): ∃H',lvl prog cR m (.func 108) [v,edV y] H=some (.bool (xs.any λx=>x==y),H')/\Ext H H':=by
 have c:Blk.cells (edV y).cells.toList 89 .fix= .cells (edC y) 89 .fix:=rfl;have b0:=eY H (.cells (edC y) 89 .fix);have l0:ldN 2 (.pointer (some ⟨H.length,0,none⟩)) (H++[.cells (edC y) 89 .fix])=some (edV y,H++[.cells (edC y) 89 .fix]):=by
  rw[tA,b0,tQ _ _ _ _ _ (by simp[edC])]
  rfl
 obtain⟨H1,hH1⟩:=aD (H++[Blk.cells (edC y) 89 .fix]);have x1:Ext H H1:=by rw[hH1];exact Fr.app _ _ _
 have x2:Ext H (H1++[.cells (edC y) 89 .fix]):=x1.tr (Fr.app _ _ _);have hx2:=hx.ext x2;have hlen:=hx.jX;have g:lvl prog cR (m-1) (.func 126) [v,edV y] H1=some (.I (fst (λj=>xs[j]? ==some y) xs.length 0),H1++[.cells (edC y) 89 .fix]):=by
  refine dH (gN rfl rfl) U ?_
  rw[aG4];simp only[gsR,c,hlen];exact aHS hx2 (eY H1 _) U xs.length 0 (m-1-1) U U U ..
 refine⟨_,dH (gN rfl rfl) U ?_,x2⟩
 rw[aGT];have hb:decide (0<=fst (λj=>xs[j]? ==some y) xs.length 0)=xs.any λx=>x==y:=by
  rw[Fp];exact Cb xs _ _ λi x h=>by rw[h];rfl
 rw[<-hH1] at l0;simp only[gsR,c,<-hH1,l0,g,hb]
def u7 (n:Int):List Ed->List Ed->Bool
 |_,[]=>true
 |old,e::r=>(!(decide (e.1<0)||(decide (e.2<=e.1)||(decide (n<=e.2)||old.any λx=>x==e))))&&u7 n (old++[e]) r
def yB (p:PlanD):Bool:=u7 p.nodes [] p.edges&&decide ((p.edges.length:Int)<=15)
theorem aHO {a:Nat}(hx:Es H ev p.edges)(hn:p.edges.length+20<m)(hm:m<=72057594037927936): ∀(q i k:Nat)(H':aE),p.edges.length-i=q->i<=p.edges.length->q<k->Ext H H'->H'[a]? =some (plB p ev wv nv)-> ∀(x0 x3 x4 x5 x9 bQ cG aS aP aQ aO bB bI aR bJ bM bT bN bP aU aV aW aX aY aZ bA bH bO bV cH cJ bX cC bY b9 cA cD cF:Value),
  ∃H2,aK k (aM prog (lvl prog cR m) (aK m) Lu) (Fk (lvl prog cR m) (aK m)) [x0,(.Q a 0),(.bool false),x3,x4,x5,ev,(.I p.edges.length),(.I (i:Nat)),x9,bQ,cG,aS,aP,aQ,aO,bB,bI,aR,bJ,bM,bT,bN,bP,aU,aV,aW,aX,aY,aZ,bA,bH,bO,bV,cH,cJ,bX,cC,bY,b9,cA,cD,cF] H'=some (.bool (u7 p.nodes (p.edges.take i) (p.edges.drop i)&&decide ((p.edges.length:Int)<=15)),H2)/\Ext H H2:=by
 intro q;induction q with
 |zero=>
  intro i k H' hr hi hk he ha;intros;obtain⟨k,rfl⟩:=aB k U
  obtain rfl:i=p.edges.length:=U
  have e:decide ((p.edges.length:Int)<p.edges.length)=false:=by simp
  have l1:=eP ha 1 _ rfl;have hlen:=hx.jX;refine⟨H',?_,he⟩;rw[dG,Wp];simp only[gsR,e];rw[aHp];rw[List.drop_length,u7,aRx];simp only[gsR,l1,hlen]
 |succ q ih=>
  intro i k H' hr hi hk he ha;intros;obtain⟨k,rfl⟩:=aB k U
  have e:decide ((i:Int)<p.edges.length)=true:=by simp;omega
  have e3:=aA (i:=i) U
  have hxi:p.edges[i]? =some p.edges[i]:=aRc U
  obtain⟨b,o,g1,g2,g3⟩:=(hx.ext he).fV p8 hxi .i64;obtain⟨y,hy⟩:=aD (p.edges[i]);have l1:ldN 2 (.Q b o) H'=some (edV y,H'):=by rw[hy];exact(g3 H' rfl).1
  have hdrop:p.edges.drop i=y::p.edges.drop (i+1):=by rw[hy];exact List.drop_eq_getElem_cons U
  have htake:p.edges.take i++[y]=p.edges.take (i+1):=by rw[List.take_add_one,hxi,hy];rfl
  have z:Blk.cells [Value.int .i64 0,.int .i64 0] 89 .fix= .cells (edC (0,0)) 89 .fix:=rfl;have st:stN 2 (.pointer (some ⟨H'.length,0,none⟩)) (edV y) (H'++[.cells (edC (0,0)) 89 .fix])=some (undef,H'++[.cells (edC y) 89 .fix]):=by
   rw[mE 2 _ _ _ rfl,eY,nX _ _ _ _ _ _ aC (by simp[edC,edV,Value.cells]) rfl]
   simp[edC,edV,Value.cells,eS]
  obtain⟨H1,hH1⟩:=aD (H'++[Blk.cells (edC y) 89 .fix]);rw[<-hH1] at st;have x1:Ext H' H1:=by rw[hH1];exact Fr.app _ _ _
  have hb1:H1[H'.length]? =some (.cells (edC y) 89 .fix):=by rw[hH1];exact eY _ _
  have la:ld1 (.Q H'.length 0) H1=some (.I y.1,H1):=by rw[j9,hb1];rfl
  have lb:ld1 (.Q H'.length 1) H1=some (.I y.2,H1):=by rw[j9,hb1];rfl
  have lab:ldN 2 (.Q H'.length 0) H1=some (edV y,H1):=by
   rw[tA,hb1,tQ _ _ _ _ _ (by simp[edC])]
   rfl
  have ha1:=eU ha x1;have p0:=eP ha1 0 _ rfl;have p1:=eP ha1 1 _ rfl;obtain⟨v',s1,s2,s3⟩:=((hx.ext he).ext x1).E5 (P:=prog) p8 aHU (λh=>by have:=congrArg List.length h;simp only[List.length_nil] at this;omega) (lo:=none) rfl (oE p.edges.length .i64 i) (Nat.zero_le _) U
  rw[List.drop_zero] at s2;obtain⟨H2,t1,t2⟩:=aHP s2 y (m:=m) (by rw[List.length_take];omega) hm
  rw[dG,Wp,hdrop,u7,htake];by_cases c1:y.1<0
  ·refine⟨H1,?_,he.tr x1⟩
   simp only[gsR,e,g1,l1,z,st,la,lb,c1,decide_true,Bool.true_or,Bool.false_and];rw[Fl];rfl
  ·by_cases c2:y.2<=y.1
   ·refine⟨H1,?_,he.tr x1⟩
    simp only[gsR,e,g1,l1,z,st,la,lb,c1,c2,decide_true,decide_false,Bool.false_or,Bool.true_or,Bool.false_and];rw[Fl];rfl
   ·by_cases c3:p.nodes<=y.2
    ·refine⟨H1,?_,he.tr x1⟩
     simp only[gsR,e,g1,l1,z,st,la,lb,p0,c1,c2,c3,decide_true,decide_false,Bool.false_or,Bool.true_or,Bool.false_and];rw[Fl];rfl
    ·cases c4:(p.edges.take i).any λx=>x==y with
     |true=>
      rw[c4] at t1;refine⟨H2,?_,(he.tr x1).tr t2⟩;simp only[gsR,e,g1,l1,z,st,la,lb,lab,p0,p1,s1,t1,c1,c2,c3,decide_true,decide_false,Bool.false_or,Bool.false_and];rw[Fl];rfl
     |false=>
      rw[c4] at t1;simp only[gsR,e,g1,l1,z,st,la,lb,lab,p0,p1,s1,t1,c1,c2,c3,decide_false,Bool.false_or,aRx,cU,e3];exact ih (i+1) k H2 U U U ((he.tr x1).tr t2) (eU ha1 t2) ..
theorem aHN (hp:PV H p ev wv nv)(hn:p.edges.length+20<m-1)(hm:m<=72057594037927936): ∃H',lvl prog cR m (.func 79) [plV p ev wv nv] H=some (.bool (yB p),H')/\Ext H H':=by
 refine mF (gN rfl rfl) U ?_
 have hb:=eY H (plB p ev wv nv);have l1:=eP hb 1 _ rfl;have hlen:=hp.e.jX;rw[aHq];simp only[gsR,k9,l1,hlen];exact aHO hp.e (m:=m-1) hn U p.edges.length 0 (m-1) _ U U U (Fr.app _ _ _) hb ..
end
def rW (n:Int):Bool:=decide (n<1)||decide (5<n)
def wOk (ws:List Int):Bool:= !(decide ((ws.length:Int)=0)||(decide ((3:Int)<ws.length)||ws.any rW))
def wI (p:PlanD):Bool:= !(p.next.any λr=>decide ((r.length:Int)≠p.nodes))
def gS (p:PlanD):Bool:=qW p&&(yB p&&(decide ((p.weights.length:Int)=p.lanes)&&(wOk p.weights&&(decide ((p.next.length:Int)=p.nodes)&&wI p))))
def wH (b:Bool):Int:=if b=true then 0 else 120
section
variable {H : aE} {m : Nat} {p : PlanD} {ev wv nv : Value}
theorem W6 (hm:0<m)(n:Int)(H:aE):lvl prog cR m (.func 85) [.I n] H=some (.bool (rW n),H):=by
 refine dH (gN rfl rfl) hm ?_;rw[aHx];unfold rW;by_cases h:n<1
 ·simp only[gsR,h,decide_true,Bool.true_or]
 ·simp only[gsR,h,decide_false,Bool.false_or]
theorem aHW (b o n c:Nat):bin prog .eql 27 (.slice (some ⟨b,o,none⟩) n c) (.slice none 0 0)=some (.bool false):=by
 have h1:prog.underlying 27=some (.slice 3):=by kernel_rfl
 simp[bin,eD,nG,mD,eqV,h1]
theorem Fq {v:Value}{xs:List Int}(hx:Is H v xs)(hne:xs≠[])(hl:xs.length<=1000)(hm:0<m): ∃H' u,lvl prog cR m (.func 46) [v] H=some (u,H')/\Ext H H'/\Iw H' u xs/\New H u:=by
 have hv: ∃b o c,v= .slice (some ⟨b,o,none⟩) xs.length c:=by
  rcases hx with⟨_,h⟩|⟨b,o,cap,h,_⟩
  ·exact absurd h hne
  ·exact⟨b,o,cap,h⟩
 have b0:dR 3 1 0 [.I 0] [] H=some (.slice (some ⟨H.length,0,none⟩) 0 0,H++[.cells [] 3 .row]):=rfl;have h0:Iw (H++[.cells [] 3 .row]) (.slice (some ⟨H.length,0,none⟩) 0 0) []:=⟨rfl,.inr ⟨H.length,0,[],rfl,aRf _,rfl,by simp⟩⟩
 obtain⟨u,H',g1,g2,g3,g4⟩:=h0.zT gW o5 aC (by':=8) (H0:=H) (hx.ext (Fr.app _ _ _)) (λb ⟨_,_,_,h⟩=>by cases h;exact aRf _) (Fr.app _ _ _) (gX (n:=1000) aC (by simp;omega))
 refine iB (gN rfl rfl) U ⟨H',u,?_,g4,g2,g3⟩
 obtain⟨b,o,c,rfl⟩:=hv;rw[Lq];simp only[gsR,aHW,b0,g1]
theorem ePW (a:Addr):bin prog .eql 110 (.pointer (some a)) (.pointer none)=some (.bool false):=El 110 164 (by kernel_rfl) a
theorem Lz:bin prog .eql 110 (.pointer none) (.pointer none)=some (.bool true):=T6 110 164 (by kernel_rfl)
theorem aHX {v:Value}{ws:List Int}(hw:Is H v ws)(hl:ws.length<=17592186044500)(hm:ws.length+100<m)(hm2:m<=72057594037927936): ∃H' u,lvl prog cR m (.func 51) [v] H=some (u,H')/\Ext H H'/\bin prog .eql 110 u (.pointer none)=some (.bool (!wOk ws)):=by
 have hlen:=hw.jX;have hcf:lvl prog cR (m-1) (.func 86) [v,.func (.func 85) #[] #[]] H=some (.bool (ws.any rW),H):=by
  have:=Wz (H:=H) (m:=m-1) (v:=v) (fv:= .func (.func 85) #[] #[]) (n:=ws.length) (λi=>(ws[i]?.map rW).getD false) hlen U U (λi hi=>by
   have hx:ws[i]? =some ws[i]:=aRc hi;obtain⟨b,o,g1,g2,g3⟩:=hw.fV gW hx .i64;have l1:=(g3 H rfl).2.1 0 _ rfl;refine⟨_,_,g1,l1,?_⟩;have:=W6 (m:=m-1-1-1) U ws[i] H
   rw[hx];exact this)
  rw[this,Cb ws rW _ λi x h=>by rw[h];rfl]
 by_cases c1:(ws.length:Int)=0
 ·have e1:((ws.length:Int)==0)=true:=by simpa using c1
  have hno:wOk ws=false:=by unfold wOk;simp only[c1,decide_true,Bool.true_or,Bool.not_true]
  refine iB (gN rfl rfl) U ⟨H,.pointer none,?_,Fr.gR _ _,by rw[hno];exact Lz⟩
  rw[B9];simp only[gsR,hlen,e1]
 ·have e1:((ws.length:Int)==0)=false:=by simpa using c1
  by_cases c2:(3:Int)<ws.length
  ·have hno:wOk ws=false:=by unfold wOk;simp only[c2,decide_true,Bool.true_or,Bool.or_true,Bool.not_true]
   refine iB (gN rfl rfl) U ⟨H,.pointer none,?_,Fr.gR _ _,by rw[hno];exact Lz⟩
   rw[B9];simp only[gsR,hlen,e1,c2,decide_true]
  ·cases c3:ws.any rW with
   |true=>
    have hno:wOk ws=false:=by unfold wOk;simp only[c3,Bool.or_true,Bool.not_true]
    rw[c3] at hcf;refine iB (gN rfl rfl) U ⟨H,.pointer none,?_,Fr.gR _ _,by rw[hno];exact Lz⟩
    rw[B9];simp only[gsR,hlen,e1,c2,decide_false,hcf]
   |false=>
    have hyes:wOk ws=true:=by unfold wOk;simp only[c1,c2,c3,decide_false,Bool.or_false,Bool.not_false]
    rw[c3] at hcf;obtain⟨H1,u1,g1,g2,g3,g4⟩:=Fq (m:=m-1) hw (λh=>c1 (by rw[h];rfl)) U U
    obtain⟨H2,u2,q1,q2,q3,q4⟩:=Fq (m:=m-1) (hw.ext g2) (λh=>c1 (by rw[h];rfl)) U U
    have hb:bld prog 164 [(0,u1),(1,u2)]=some (.agg #[u1,u2,.I 0]):=by
     rcases g3 with⟨_,⟨rfl,_⟩|⟨_,_,_,rfl,_⟩⟩<;>rcases q3 with⟨_,⟨rfl,_⟩|⟨_,_,_,rfl,_⟩⟩<;>rfl
    refine iB (gN rfl rfl) U ⟨H2++[.cells (Value.agg #[u1,u2,.I 0]).cells.toList 164 .fix],.Q H2.length 0,?_,(g2.tr q2).tr (Fr.app _ _ _),by rw[hyes];exact ePW _⟩
    rw[B9];simp only[gsR,hlen,e1,c2,decide_false,hcf,g1,q1,hb]
theorem W5 (hp:PV H p ev wv nv)(hm:17592186045000<m)(hm2:m<=72057594037927936): ∃H',lvl prog cR m (.func 41) [plV p ev wv nv] H=some (.int .u16 (wH (gS p)),H')/\Ext H H':=by
 have h1:=hp.be;have h2:=hp.bw;have h3:=hp.bn;obtain⟨H0,hH0⟩:=aD (H++[plB p ev wv nv]);have x0:Ext H H0:=by rw[hH0];exact Fr.app _ _ _
 have b0:H0[H.length]? =some (plB p ev wv nv):=by rw[hH0];exact eY _ _
 have l11:=kE b0;have g1:=aHT (H:=H0) (m:=m-1) U p ev wv nv
 obtain⟨H1,hH1⟩:=aD (H0++[plB p ev wv nv]);have x1:Ext H0 H1:=by rw[hH1];exact Fr.app _ _ _
 rw[<-hH1] at g1;have b1:=eU b0 x1;have l11':=kE b1;obtain⟨H2,g2,x2⟩:=aHN (m:=m-1) (hp.ext (x0.tr x1)) U U
 have b2:=eU b1 x2;have w2:=eP b2 8 _ rfl;have la2:=eP b2 2 _ rfl;have p2:=hp.ext ((x0.tr x1).tr x2);have wl:=p2.w.jX;obtain⟨H3,u3,g3,x3,g4⟩:=aHX p2.w (m:=m-1) U U U
 have b3:=eU b2 x3;have n3:=eP b3 10 _ rfl;have no3:=eP b3 0 _ rfl;have p3:=p2.ext x3;have nl:=p3.n.Wy;have hcf:lvl prog cR (m-1) (.func 80) [nv,.func (.func 77) #[] #[.pointer (some ⟨H.length,0,none⟩)]] H3=some (.bool (p.next.any λr=>decide ((r.length:Int)≠p.nodes)),H3):=by
  have:=aHM (H:=H3) (m:=m-1) (v:=nv) (fv:= .func (.func 77) #[] #[.pointer (some ⟨H.length,0,none⟩)]) (n:=p.next.length) (λi=>(p.next[i]?.map λr=>decide ((r.length:Int)≠p.nodes)).getD false) nl U U (λi hi=>by
   have hx:p.next[i]? =some p.next[i]:=aRc hi;obtain⟨a,u,q1,q2,q3⟩:=p3.n.Fo hx .i64;refine⟨a,u,q1,q2,?_⟩;have hlen:=q3.jX;have:lvl prog cR (m-1-1-1+0) (.func 77) [u,.Q H.length 0] H3=some (.bool (decide ((p.next[i].length:Int)≠p.nodes)),H3):=by
    refine dH (gN rfl rfl) U ?_
    rw[aHn];have e:(((p.next[i].length:Nat):Int)!=p.nodes)=decide ((p.next[i].length:Int)≠p.nodes):=by
     rw[Bool.eq_iff_iff];simp
    simp only[gsR,hlen,no3,e]
   rw[hx];exact this)
  rw[this,Cb p.next (λr=>decide ((r.length:Int)≠p.nodes)) _ λi x h=>by rw[h];rfl]
 have hn1:((p.weights.length:Int)!=p.lanes)= !decide ((p.weights.length:Int)=p.lanes):=by rw[Bool.eq_iff_iff];simp
 have hn2:((p.next.length:Int)!=p.nodes)= !decide ((p.next.length:Int)=p.nodes):=by rw[Bool.eq_iff_iff];simp
 have hr:(p.next.any λr=>decide ((r.length:Int)≠p.nodes))= !wI p:=by unfold wI;rw[Bool.not_not]
 rw[hr] at hcf;have hz:wH false=120:=rfl;have hz1:wH true=0:=rfl;refine mF (gN rfl rfl) U ?_
 rw[aHg];unfold gS;cases c1:qW p with
 |false=>exact⟨H1,by simp only[gsR,k9,<-hH0,l11,g1,c1,hz,hz1,Bool.false_and,aRx],x0.tr x1⟩
 |true=>
   cases c2:yB p with
   |false=>exact⟨H2,by simp only[gsR,k9,<-hH0,l11,g1,l11',g2,c1,c2,hz,hz1,Bool.false_and,aRx],(x0.tr x1).tr x2⟩
   |true=>
     cases c3:decide ((p.weights.length:Int)=p.lanes) with
     |false=>exact⟨H2,by simp only[gsR,k9,<-hH0,l11,g1,l11',g2,w2,wl,la2,hn1,c1,c2,c3,hz,hz1,Bool.false_and,aRx],(x0.tr x1).tr x2⟩
     |true=>
       cases c4:wOk p.weights with
       |false=>exact⟨H3,by simp only[gsR,k9,<-hH0,l11,g1,l11',g2,w2,wl,la2,hn1,g3,g4,c1,c2,c3,c4,hz,hz1,Bool.false_and,aRx],((x0.tr x1).tr x2).tr x3⟩
       |true=>
         cases c5:decide ((p.next.length:Int)=p.nodes) with
         |false=>exact⟨H3,by simp only[gsR,k9,<-hH0,l11,g1,l11',g2,w2,wl,la2,hn1,g3,g4,n3,nl,no3,hn2,c1,c2,c3,c4,c5,hz,hz1,Bool.false_and,aRx],((x0.tr x1).tr x2).tr x3⟩
         |true=>
           cases c6:wI p with
           |false=>exact⟨H3,by simp only[gsR,k9,<-hH0,l11,g1,l11',g2,w2,wl,la2,hn1,g3,g4,n3,nl,no3,hn2,hcf,c1,c2,c3,c4,c5,c6,hz,hz1,Bool.false_and,aRx],((x0.tr x1).tr x2).tr x3⟩
           |true=>
             exact⟨H3,by simp only[gsR,k9,<-hH0,l11,g1,l11',g2,w2,wl,la2,hn1,g3,g4,n3,nl,no3,hn2,hcf,c1,c2,c3,c4,c5,c6,hz,hz1,Bool.false_and,aRx],((x0.tr x1).tr x2).tr x3⟩
end
def dd:List Int->List Int
 |[]=>[]
 |[x]=>[x]
 |x::y::r=>if x=y then dd (y::r) else x::dd (y::r)
theorem Xa: ∀(l:List Int)(a b:Int),dd (l++[a,b])=if a=b then dd (l++[a]) else dd (l++[a])++[b]
 |[],a,b=>by
  by_cases h:a=b<;>simp[dd,h]
 |[x],a,b=>by
  by_cases h:a=b<;>by_cases h2:x=a<;>simp[dd,h,h2]<;>simp_all
 |x::y::l,a,b=>by
  have ih:=Xa (y::l) a b;simp only[List.cons_append] at ih⊢;simp only[dd];by_cases h2:x=y
  ·rw[if_pos h2,if_pos h2,ih]
  ·rw[if_neg h2,if_neg h2,ih]
   by_cases h:a=b
   ·rw[if_pos h,if_pos h]
   ·rw[if_neg h,if_neg h]
    rfl
theorem Xb {zs:List Int}{j:Nat}{a b:Int}(h0:0<j)(ha:zs[j-1]? =some a)(hb:zs[j]? =some b):dd (zs.take (j+1))=if b=a then dd (zs.take j) else dd (zs.take j)++[b]:=by
 have e1:zs.take j=zs.take (j-1)++[a]:=by
  have:=List.take_add_one (l:=zs) (i:=j-1);rw[ha,show j-1+1=j by omega] at this
  simpa using this
 have e2:zs.take (j+1)=zs.take (j-1)++[a,b]:=by
  rw[List.take_add_one,hb,e1];simp
 rw[e2,Xa,<-e1];by_cases h:a=b
 ·rw[if_pos h,if_pos h.symm]
 ·rw[if_neg h,if_neg (Ne.symm h)]
theorem W9: ∀l:List Int,(dd l).length<=l.length
 |[]=>aRf _
 |[x]=>aRf _
 |x::y::r=>by
  have:=W9 (y::r);unfold dd;split
  ·simp only[aRw] at *; omega
  ·simp only[aRw] at *; omega
section
variable {H : aE} {m c cap : Nat} {ys rest : List Value}
theorem ia {o n i:Nat}(h:i<n):bS 1 (.slice (some ⟨c,o,none⟩) n cap) (.I (i:Nat))=some (.Q c (o+i)):=by
 rw[pM _ _ _ _ _ _ _ U U]
 simp
def o8 (ys:List Int)(rest:List Value):Blk:= .cells (ys.map (Value.int .i64)++rest) 3 .row
theorem zW {ys:List Int}{i:Nat}{y:Int}(hc:H[c]? =some (o8 ys rest))(hi:ys[i]? =some y):ld1 (.Q c i) H=some (.I y,H):=by
 have:=(aRa.mp hi).1;rw[j9,hc];unfold o8;rw[tP,aRd (by rw[aRo];exact this),aRn,hi]
 rfl
theorem Xc {ys:List Int}{i:Nat}(y:Int)(hc:H[c]? =some (o8 ys rest))(hi:i<ys.length):stN 1 (.Q c i) (.I y) H=some (undef,H.set c (o8 (ys.set i y) rest)):=by
 rw[mE 1 _ _ _ rfl,hc];unfold o8;have e:(Value.I y).cells.toList=[.I y]:=rfl;rw[e,nX _ _ _ _ _ _ aC (by simp;omega) rfl]
 congr 3
 simp only[eS];rw[List.set_append_left _ _ (by rw[aRo];exact hi),<-List.map_set]
theorem aH0 {zs ys:List Int}{k:Nat}(hc:H[c]? =some (o8 ys rest))(hy:ys.length=zs.length)(hk:k<zs.length)(hcap:zs.length<=cap)(hrest:rest.length=cap-zs.length)(hd:ys.take k=dd zs):
  ∃w H',slc prog 1 (.slice (some ⟨c,0,none⟩) zs.length cap) (some (.I (k:Nat))) none none H=some (w,H)/\clr 1 [.I 0] w H=some (.tuple #[],H')/\
   slc prog 1 (.slice (some ⟨c,0,none⟩) zs.length cap) none (some (.I (k:Nat))) none H'=some (.slice (some ⟨c,0,none⟩) k cap,H')/\Iw H' (.slice (some ⟨c,0,none⟩) k cap) (dd zs)/\H'.length=H.length/\ ∀b,b≠c->H'[b]? =H[b]? :=by
 have hlt:=(aRa.mp hc).1;have g1:=uZ (P:=prog) (H:=H) (o:=0) (sz:=1) (len:=zs.length) (cap:=cap) (lo:=some (.I (k:Nat))) (hi:=none) (mx:=none) (h:=zs.length) (m:=cap) (l:=k) hc (λ_=>szI) (oE 0 .i64 k) rfl rfl U U (aRf _)
 rw[aRv,Nat.mul_one] at g1;obtain⟨H',hH'⟩: ∃H',H'=H.set c (o8 (ys.take k) ((List.replicate (zs.length-k) [Value.I 0]).flatten++rest)):=⟨_,rfl⟩;have hc':H'[c]? =some (o8 (ys.take k) ((List.replicate (zs.length-k) [Value.I 0]).flatten++rest)):=by rw[hH'];exact aRg hlt
 have hyk:(ys.take k).length=k:=by rw[List.length_take];omega
 have g2:clr 1 [.I 0] (.slice (some ⟨c,k,none⟩) (zs.length-k) (cap-k)) H=some (.tuple #[],H'):=by
  unfold clr;simp only;rw[if_neg U,hc]
  unfold o8;simp only;rw[if_pos ⟨by decide,by simp;omega,rfl,rfl⟩,hH']
  congr 3
  unfold o8
  congr 1
  have hsplit:ys.map (Value.int .i64)=(ys.take k).map (Value.int .i64)++(ys.drop k).map (Value.int .i64):=by rw[<-List.map_append,List.take_append_drop]
  have hl:((List.replicate (zs.length-k) [Value.I 0]).flatten).length=zs.length-k:=by simp
  rw[hsplit];have:=wA ((List.replicate (zs.length-k) [Value.I 0]).flatten) ((ys.drop k).map (Value.int .i64)) ((ys.take k).map (Value.int .i64)) rest (by rw[hl,aRo,List.length_drop];omega)
  rw[aRo,hyk] at this;rw[this,aRh]
 have g3:=uZ (P:=prog) (H:=H') (o:=0) (sz:=1) (len:=zs.length) (cap:=cap) (lo:=none) (hi:=some (.I (k:Nat))) (mx:=none) (h:=k) (m:=cap) (l:=0) hc' (λ_=>szI) rfl (oE _ .i64 k) rfl U U (aRf _)
 rw[Nat.zero_mul,aRv,Nat.sub_zero,Nat.sub_zero] at g3;refine⟨_,H',g1,g2,g3,?_,by rw[hH'];simp,λb hb=>by rw[hH'];exact aRb (Ne.symm hb)⟩
 have hdl:(dd zs).length=k:=by rw[<-hd,hyk]
 refine⟨by rw[u5,aRo,Nat.mul_one],.inr ⟨c,cap,(List.replicate (zs.length-k) [Value.I 0]).flatten++rest,by rw[hdl],by omega,?_,by rw[u5,hc',hd];rfl⟩⟩
 simp[hdl];omega
def W7 (H0:aE)(c cap:Nat)(zs:List Int)(v:Value)(H':aE):Prop:=Iw H' v (dd zs)/\(∀b,cP v b->b=c)/\H'.length=H0.length/\ ∀b,b≠c->H'[b]? =H0[b]?
theorem aH2 {zs:List Int}{rest:List Value}{k0 kk:Nat}{H0:aE}{Q:aE->Value->Prop}(hQ: ∀H' v,W7 H0 c cap zs v H'->Q H' v)(hcap:zs.length<=cap)(hrest:rest.length=cap-zs.length)(hn:zs.length<=72057594037927936)(h1:1<=k0):
  ∀(q j t k:Nat)(H:aE)(ys:List Int),zs.length-j=q->j<=zs.length->q<k->k0<j->t<j->H[c]? =some (o8 ys rest)->ys.length=zs.length->ys.take t=dd (zs.take j)->ys.drop t=zs.drop t->H.length=H0.length->(∀b,b≠c->H[b]? =H0[b]?)-> ∀(x1 x2 x6 x7 x8 x9 bQ cG aS aP aQ aO bB bI aR bJ bM bT bN bP aU aV aW aX aY aZ bA bH bO bV cH cJ bX cC bY b9 cA cD cF cM cN cO cQ cW cX cY cS cT cZ dA dE dB dC dF dL dM dN:Value),
  ∃H' v,aK k (aM prog (lvl prog cR m) (aK m) Lv) (Lw (lvl prog cR m) (aK m) (Bj kk (aM prog (lvl prog cR m) (aK m) Fm) (Ca (lvl prog cR m) (aK m)))) [(.slice (some ⟨c,0,none⟩) zs.length cap),x1,x2,(.I (t:Nat)),(.slice (some ⟨c,k0,none⟩) (zs.length-k0) (cap-k0)),(.I (j-k0:Nat)),x6,x7,x8,x9,bQ,cG,aS,aP,aQ,aO,bB,bI,aR,bJ,bM,bT,bN,bP,aU,aV,aW,aX,aY,aZ,bA,bH,bO,bV,cH,cJ,bX,cC,bY,b9,cA,cD,cF,cM,cN,cO,cQ,cW,cX,cY,cS,cT,cZ,dA,dE,dB,dC,dF,dL,dM,dN] H=some (v,H')/\Q H' v:=by
 intro q;induction q with
 |zero=>
  intro j t k H ys hr hj hk hkj htj hc hy hd hdr hl hf;intros;obtain⟨k,rfl⟩:=aB k U
  obtain rfl:j=zs.length:=U
  rw[List.take_of_length_le (aRf _)] at hd;obtain⟨w,H',g1,g2,g3,g4,g5,g6⟩:=aH0 hc hy htj hcap hrest hd;have e:decide (((zs.length-k0:Nat):Int)<(zs.length-k0:Nat))=false:=by simp
  refine⟨H',.slice (some ⟨c,0,none⟩) t cap,?_,hQ _ _ ⟨g4,λb ⟨_,_,_,h⟩=>by cases h;rfl,by omega,λb hb=>by rw[g6 b hb,hf b hb]⟩⟩
  rw[dG,Wr];simp only[gsR,vV,e];rw[aHu];simp only[gsR,g1,g2,g3];rw[aHw];rfl
 |succ q ih=>
  intro j t k H ys hr hj hk hkj htj hc hy hd hdr hl hf;intros;obtain⟨k,rfl⟩:=aB k U
  have e:decide (((j-k0:Nat):Int)<(zs.length-k0:Nat))=true:=by simp;omega
  have e3:IntKind.i64.wrap (((j-k0:Nat):Int)+1)=((j+1-k0:Nat):Int):=by rw[dJ U U];omega
  have e4:IntKind.i64.wrap (((j-k0:Nat):Int)-1)=((j-1-k0:Nat):Int):=by rw[dJ U U];omega
  have e5:=aA (i:=t) U
  have get: ∀i,t<=i->ys[i]? =zs[i]? :=λi hi=>by
   have:=congrArg (·[i-t]?) hdr
   simp only[List.getElem?_drop] at this;rwa [show t+(i-t)=i by omega] at this
  have ga:ys[j-1]? =some (zs[j-1]' U):=by rw[get _ U];exact aRc U
  have gb:ys[j]? =some (zs[j]' U):=by rw[get _ U];exact aRc U
  have i1:bS 1 (.slice (some ⟨c,k0,none⟩) (zs.length-k0) (cap-k0)) (.I (j-k0:Nat))=some (.Q c j):=by rw[ia U,show k0+(j-k0)=j by omega]
  have i2:bS 1 (.slice (some ⟨c,k0,none⟩) (zs.length-k0) (cap-k0)) (.I (j-1-k0:Nat))=some (.Q c (j-1)):=by rw[ia U,show k0+(j-1-k0)=j-1 by omega]
  have i3:bS 1 (.slice (some ⟨c,0,none⟩) zs.length cap) (.I (t:Nat))=some (.Q c t):=by rw[ia U,aRv]
  have l1:=zW hc gb;have l2:=zW hc ga;have s1:=Xc (i:=t) (zs[j]' U) hc U
  have hdt:=Xb (zs:=zs) (j:=j) U (aRc (show j-1<zs.length by omega)) (aRc (show j<zs.length by omega))
  rw[dG,Wr];by_cases hx:zs[j]' U=zs[j-1]' U
  ·have d:((zs[j]' U)!=(zs[j-1]' U))=false:=by simp[hx]
   rw[if_pos hx] at hdt;simp only[gsR,vV,e,i1,l1,j8,e4,i2,l2,d,cU,e3];exact ih (j+1) t k H ys U U U U U hc hy (by rw[hdt];exact hd) hdr hl hf ..
  ·have d:((zs[j]' U)!=(zs[j-1]' U))=true:=by simp[hx]
   rw[if_neg hx] at hdt;simp only[gsR,vV,e,i1,l1,j8,e4,i2,l2,d,i3,s1,cU,e3,e5];refine ih (j+1) (t+1) k _ (ys.set t (zs[j]' U)) U U U U U (aRg (aRa.mp hc).1) (by rw[List.length_set];exact hy) ?_ ?_ (by rw[List.length_set];exact hl) (λb hb=>by rw[aRb (Ne.symm hb)];exact hf b hb) ..
   ·rw[hdt,<-hd,List.take_add_one,aRg U,List.take_set_of_le (aRf _)]
    rfl
   ·rw[List.drop_set_of_lt U,<-aRT (i:=1),hdr,aRT]
theorem aH1 {zs:List Int}{rest:List Value}{Q:aE->Value->Prop}(hQ: ∀H' v,W7 H c cap zs v H'->Q H' v)(hcap:zs.length<=cap)(hrest:rest.length=cap-zs.length)(hn:zs.length+10<m)(hm:m<=72057594037927936)(hc:H[c]? =some (o8 zs rest)):
  ∀(q j k:Nat),zs.length-j=q->1<=j->j<=zs.length->q<k->dd (zs.take j)=zs.take j-> ∀(x1 x2 x4 x5 x6 x7 x8 x9 bQ cG aS aP aQ aO bB bI aR bJ bM bT bN bP aU aV aW aX aY aZ bA bH bO bV cH cJ bX cC bY b9 cA cD cF cM cN cO cQ cW cX cY cS cT cZ dA dE dB dC dF dL dM dN:Value),
  ∃H' v,aK k (aM prog (lvl prog cR m) (aK m) Fm) (Ca (lvl prog cR m) (aK m)) [(.slice (some ⟨c,0,none⟩) zs.length cap),x1,x2,(.I (j:Nat)),x4,x5,x6,x7,x8,x9,bQ,cG,aS,aP,aQ,aO,bB,bI,aR,bJ,bM,bT,bN,bP,aU,aV,aW,aX,aY,aZ,bA,bH,bO,bV,cH,cJ,bX,cC,bY,b9,cA,cD,cF,cM,cN,cO,cQ,cW,cX,cY,cS,cT,cZ,dA,dE,dB,dC,dF,dL,dM,dN] H=some (v,H')/\Q H' v:=by
 intro q;induction q with
 |zero=>
  intro j k hr h1 hj hk hd;intros;obtain⟨k,rfl⟩:=aB k U
  obtain rfl:j=zs.length:=U
  rw[List.take_of_length_le (aRf _)] at hd;have e:decide ((zs.length:Int)<zs.length)=false:=by simp
  refine⟨H,.slice (some ⟨c,0,none⟩) zs.length cap,?_,hQ _ _ ⟨?_,λb ⟨_,_,_,h⟩=>by cases h;rfl,rfl,λb hb=>rfl⟩⟩
  ·rw[dG,Wq]
   simp only[gsR,vV,e];rw[aHt];rfl
  ·rw[hd]
   exact⟨by rw[u5,aRo,Nat.mul_one],.inr ⟨c,cap,rest,rfl,hcap,by rw[hrest,Nat.mul_one],by rw[u5,hc];rfl⟩⟩
 |succ q ih=>
  intro j k hr h1 hj hk hd;intros;obtain⟨k,rfl⟩:=aB k U
  have e:decide ((j:Int)<zs.length)=true:=by simp;omega
  have e3:=aA (i:=j) U
  have e4:IntKind.i64.wrap ((j:Int)-1)=((j-1:Nat):Int):=by rw[dJ U U];omega
  have i1:bS 1 (.slice (some ⟨c,0,none⟩) zs.length cap) (.I (j:Nat))=some (.Q c j):=by rw[ia U,aRv]
  have i2:bS 1 (.slice (some ⟨c,0,none⟩) zs.length cap) (.I (j-1:Nat))=some (.Q c (j-1)):=by rw[ia U,aRv]
  have ga:zs[j-1]? =some (zs[j-1]' U):=aRc U
  have gb:zs[j]? =some (zs[j]' U):=aRc U
  have l1:=zW hc gb;have l2:=zW hc ga;have hdt:=Xb (zs:=zs) (j:=j) U ga gb
  rw[dG,Wq];by_cases hx:zs[j]' U=zs[j-1]' U
  ·have d:((zs[j]' U)==(zs[j-1]' U))=true:=by simp[hx]
   have g1:=uZ (P:=prog) (H:=H) (o:=0) (sz:=1) (len:=zs.length) (cap:=cap) (lo:=some (.I (j:Nat))) (hi:=none) (mx:=none) (h:=zs.length) (m:=cap) (l:=j) hc (λ_=>szI) (oE 0 .i64 j) rfl rfl U U (aRf _)
   rw[aRv,Nat.mul_one] at g1;rw[if_pos hx] at hdt;have e1:(1:Int)=((j+1-j:Nat):Int):=U
   simp only[gsR,vV,e,i1,l1,j8,e4,i2,l2,d,g1];have:=aH2 (m:=m) (kk:=k) (H0:=H) (cap:=cap) (c:=c) (k0:=j) hQ hcap hrest U h1 (zs.length-(j+1)) (j+1) j m H zs rfl U U U U hc rfl (by rw[hdt,hd]) rfl rfl (λ_ _=>rfl)
   rw[<-e1] at this;exact this ..
  ·have d:((zs[j]' U)==(zs[j-1]' U))=false:=by simp[hx]
   rw[if_neg hx] at hdt;simp only[gsR,vV,e,i1,l1,j8,e4,i2,l2,d,cU,e3];exact ih (j+1) k U U U U (by rw[hdt,hd,List.take_add_one,gb];rfl) ..
theorem W8 {v:Value}{zs:List Int}{H0:aE}(hv:Iw H v zs)(hnew:New H0 v)(he:Ext H0 H)(hn:zs.length+20<m)(hm:m<=72057594037927936): ∃H' u,lvl prog cR m (.func 84) [v] H=some (u,H')/\Ext H0 H'/\Iw H' u (dd zs)/\New H0 u:=by
 have hlen:=hv.qT;refine iB (gN rfl rfl) U ?_
 rw[aHv];by_cases h2:zs.length<2
 ·have e:decide ((zs.length:Int)<2)=true:=by simp;omega
  have hd:dd zs=zs:=by
   match zs,h2 with
   |[],_=>rfl
   |[x],_=>rfl
   |x::y::r,h=>exact absurd h (by simp only[aRw];omega)
  refine⟨H,v,?_,he,by rw[hd];exact hv,hnew⟩
  simp only[gsR,hlen,e]
 ·have e:decide ((zs.length:Int)<2)=false:=by simp;omega
  obtain⟨hcs,⟨rfl,h0⟩|⟨c,cap,rest,rfl,h1,h2',h3⟩⟩:=hv
  ·omega
  ·rw[u5] at h3
   rw[Nat.mul_one] at h2';have hcl:=hnew c ⟨_,_,_,rfl⟩;simp only[gsR,hlen,e];have hd1:dd (zs.take 1)=zs.take 1:=by
    match zs with
    |[]=>rfl
    |x::r=>rfl
   refine aH1 (λH' u hC=> ?_) h1 h2' U U h3 (zs.length-1) 1 (m-1) rfl (aRf _) U U hd1 ..
   obtain⟨g2,g3,g4,g5⟩:=hC;refine⟨⟨by rw[g4];exact he.1,λb hb _=> ?_⟩,g2,λb hb=>by rw[g3 b hb];exact hcl⟩
   rw[g5 b U,he.2 b hb id]
end
def qX (v:Int)(e:Ed):List Int:=if e.1=e.2 then [] else if e.1=v then [e.2] else if e.2=v then [e.1] else []
def oM (es:List Ed)(v:Int):List Int:=es.flatMap (qX v)
def bes (es:List Ed)(v:Int):List Int:=dd (srt (oM es v))
theorem Ft (v:Int): ∀es:List Ed,(oM es v).length<=es.length
 |[]=>aRf _
 |e::es=>by
  have:=Ft v es;unfold oM at*;rw[List.flatMap_cons,aRm];have h1:(qX v e).length<=1:=by
   unfold qX;split
   ·simp
   ·split
    ·simp
    ·split<;>simp
  simp only[aRw];omega
theorem aHZ {es:List Ed}{i:Nat}{e:Ed}(v:Int)(h:es[i]? =some e):oM (es.take (i+1)) v=oM (es.take i) v++qX v e:=by
 unfold oM;rw[List.take_add_one,h];simp
theorem o7 (H:aE)(k:Int):dR 3 1 1 [.I 0] [(0,.I k)] H=some (.slice (some ⟨H.length,0,none⟩) 1 1,H++[.cells (inC k) 3 .row]):=rfl
theorem zEd:Blk.cells [Value.int .i64 0,.int .i64 0] 89 .fix= .cells (edC (0,0)) 89 .fix:=rfl
def edB (y:Ed):Blk:= .cells (edC y) 89 .fix
theorem aH5 (y:Ed)(H:aE):stN 2 (.Q H.length 0) (edV y) (H++[.cells (edC (0,0)) 89 .fix])=some (undef,H++[edB y]):=by
 rw[mE 2 _ _ _ rfl,eY,nX _ _ _ _ _ _ aC (by simp[edC,edV,Value.cells]) rfl]
 simp[edC,edV,Value.cells,eS,edB]
theorem aH3 {H:aE}{b:Nat}{y:Ed}(h:H[b]? =some (edB y)):ld1 (.Q b 0) H=some (.I y.1,H):=by rw[j9,h];rfl
theorem aH4 {H:aE}{b:Nat}{y:Ed}(h:H[b]? =some (edB y)):ld1 (.Q b 1) H=some (.I y.2,H):=by rw[j9,h];rfl
section
variable {H : aE} {m : Nat} {p : PlanD} {ev wv nv : Value}
theorem aHY {v:Int}{Q:aE->Value->Prop}(hQ: ∀H' u,Ext H H'->Iw H' u (bes p.edges v)->New H u->Q H' u)(hx:Es H ev p.edges)(hL:p.edges.length<=17592186043000)(hn:p.edges.length+30<m)(hm:m<=72057594037927936): ∀(q i k:Nat)(H1:aE)(acc:Value),p.edges.length-i=q->i<=p.edges.length->q<k->Ext H H1->Iw H1 acc (oM (p.edges.take i) v)->New H acc-> ∀(x0 x2 x3 x4 x6 x7 x8 aS aP aQ aO bB bI aR bJ bM bT bN bP aU aV aW aX aY aZ bA bH bO bV cH cJ bX cC bY b9 cA cD cF cM cN cO:Value),
  ∃H' u,aK k (aM prog (lvl prog cR m) (aK m) Lr) (Ls (lvl prog cR m) (aK m)) [x0,(.I v),x2,x3,x4,acc,x6,x7,x8,ev,(.I p.edges.length),(.I (i:Nat)),aS,aP,aQ,aO,bB,bI,aR,bJ,bM,bT,bN,bP,aU,aV,aW,aX,aY,aZ,bA,bH,bO,bV,cH,cJ,bX,cC,bY,b9,cA,cD,cF,cM,cN,cO] H1=some (u,H')/\Q H' u:=by
 intro q;induction q with
 |zero=>
  intro i k H1 acc hr hi hk he ha hnew;intros;obtain⟨k,rfl⟩:=aB k U
  obtain rfl:i=p.edges.length:=U
  have e:decide ((p.edges.length:Int)<p.edges.length)=false:=by simp
  rw[List.take_of_length_le (aRf _)] at ha;have hcl:=Ft v p.edges;obtain⟨H2,g1,g2,g3⟩:=Vn ha U hnew he
  have g1':=Wv m U [acc] H1
  rw[g1] at g1';have hsl:=rT (oM p.edges v);obtain⟨H3,u,q1,q2,q3,q4⟩:=W8 (m:=m) g2 hnew g3 U U
  refine⟨H3,u,?_,hQ _ _ q2 q3 q4⟩;rw[dG,Wn];simp only[gsR,e];rw[aHh];simp only[gsR,g1',q1]
 |succ q ih=>
  intro i k H1 acc hr hi hk he ha hnew;intros;obtain⟨k,rfl⟩:=aB k U
  have e:decide ((i:Int)<p.edges.length)=true:=by simp;omega
  have e3:=aA (i:=i) U
  have hxi:p.edges[i]? =some p.edges[i]:=aRc U
  obtain⟨b,o,g1,g2,g3⟩:=(hx.ext he).fV p8 hxi .i64;obtain⟨y,hy⟩:=aD (p.edges[i]);have l1:ldN 2 (.Q b o) H1=some (edV y,H1):=by rw[hy];exact(g3 H1 rfl).1
  rw[<-hy] at hxi;have hct:=aHZ v hxi;have hcl:=Ft v (p.edges.take i);rw[List.length_take] at hcl;have st:=aH5 y H1;obtain⟨H2,hH2⟩:=aD (H1++[edB y]);rw[<-hH2] at st;have x1:Ext H1 H2:=by rw[hH2];exact Fr.app _ _ _
  have hb:H2[H1.length]? =some (edB y):=by rw[hH2];exact eY _ _
  have la:=aH3 hb;have lb:=aH4 hb;have ha2:Iw H2 acc (oM (p.edges.take i) v):=by rw[hH2];exact ha.wC _
  rw[dG,Wn];by_cases c1:y.1=y.2
  ·have d1:(y.1==y.2)=true:=by simpa using c1
   have hc0:qX v y=[]:=if_pos c1;rw[hc0,List.append_nil] at hct;simp only[gsR,e,g1,l1,zEd,st,la,lb,d1,cU,e3];exact ih (i+1) k H2 acc U U U (he.tr x1) (by rw[hct];exact ha2) hnew ..
  ·have d1:(y.1==y.2)=false:=by simpa using c1
   by_cases c2:y.1=v
   ·have d2:(y.1==v)=true:=by simpa using c2
    have hc0:qX v y=[y.2]:=by unfold qX;rw[if_neg c1,if_pos c2]
    rw[hc0] at hct;obtain⟨u,H3,t1,t2,t3,t4⟩:=ha2.rU (by':=8) gW o5 aC y.2 hnew (he.tr x1) (gX (n:=17592186044100) aC U)
    simp only[gsR,e,g1,l1,zEd,st,la,lb,d1,d2,o7,t1,cU,e3];exact ih (i+1) k H3 u U U U t4 (by rw[hct];exact t2) t3 ..
   ·have d2:(y.1==v)=false:=by simpa using c2
    by_cases c3:y.2=v
    ·have d3:(y.2==v)=true:=by simpa using c3
     have hc0:qX v y=[y.1]:=by unfold qX;rw[if_neg c1,if_neg c2,if_pos c3]
     rw[hc0] at hct;obtain⟨u,H3,t1,t2,t3,t4⟩:=ha2.rU (by':=8) gW o5 aC y.1 hnew (he.tr x1) (gX (n:=17592186044100) aC U)
     simp only[gsR,e,g1,l1,zEd,st,la,lb,d1,d2,d3,o7,t1,cU,e3];exact ih (i+1) k H3 u U U U t4 (by rw[hct];exact t2) t3 ..
    ·have d3:(y.2==v)=false:=by simpa using c3
     have hc0:qX v y=[]:=by unfold qX;rw[if_neg c1,if_neg c2,if_neg c3]
     rw[hc0,List.append_nil] at hct;simp only[gsR,e,g1,l1,zEd,st,la,lb,d1,d2,d3,cU,e3];exact ih (i+1) k H2 acc U U U (he.tr x1) (by rw[hct];exact ha2) hnew ..
theorem Cc (hp:PV H p ev wv nv)(hn:p.edges.length+40<m)(hm:m<=72057594037927936)(v:Int): ∃H' u,lvl prog cR m (.func 48) [plV p ev wv nv,.I v] H=some (u,H')/\Ext H H'/\Iw H' u (bes p.edges v)/\New H u:=by
 refine iB (gN rfl rfl) U ?_
 have hb:=eY H (plB p ev wv nv);have l1:=eP hb 1 _ rfl;have hlen:=hp.e.jX;rw[aHi];simp only[gsR,k9,l1,hlen];exact aHY (λH' u h1 h2 h3=>⟨h1,h2,h3⟩) hp.e hp.be (m:=m-1) U U p.edges.length 0 (m-1) _ _ U U U (Fr.app _ _ _) (Rw.kL (el:=inC)) (New.mN _) ..
end
def rX (xs:List Int)(w:Int):Int:=fst (λj=>xs[j]? ==some w) xs.length 0
def zX (es:List Ed)(v w:Int):Int:=if rX (bes es v) w<0 then rX (bes es v) w else rX (bes es v) w+1
def pN (es:List Ed)(v:Nat):List Ed:=((bes es v).filter λw=>wi w 0 5).map λw=>((v:Int),w)
def mY (p:PlanD):Nat:=(min (max p.nodes 0) 6).toNat
def dK (p:PlanD):List Ed:=(List.range (mY p)).flatMap (pN p.edges)
abbrev Hs (H:aE)(v:Value)(xs:List Ed):=Rs edC 65 H v xs
abbrev Hw (H:aE)(v:Value)(xs:List Ed):=Rw edC 65 2 H v xs
theorem Fv (z:Int): ∀l,z∈dd l↔z∈l
 |[]=>Iff.rfl
 |[x]=>Iff.rfl
 |x::y::r=>by
  have ih:=Fv z (y::r);unfold dd;split
  ·rename_i h
   subst h;rw[ih];simp
  ·simp only[aRt] at ih⊢
   rw[ih]
theorem L0: ∀l:List Int,l.Pairwise (· <= ·)->(dd l).Pairwise (· < ·)
 |[],_=>List.Pairwise.nil
 |[x],_=>by simp[dd]
 |x::y::r,h=>by
  obtain⟨h1,h2⟩:=List.pairwise_cons.mp h;have ih:=L0 (y::r) h2;unfold dd;split
  ·exact ih
  ·rename_i hne
   refine List.pairwise_cons.mpr ⟨λz hz=> ?_,ih⟩
   have hz':=(Fv z _).mp hz;have h3:=h1 y (by simp)
   have h4:y<=z:=by
    rcases aRt.mp hz' with rfl|hz'
    ·exact Int.le_refl _
    ·exact(List.pairwise_cons.mp h2).1 z hz'
   omega
theorem Cd (es:List Ed)(v:Int):(bes es v).Pairwise (· < ·):=L0 _ (Eu _)
theorem Fw: ∀(l:List Int)(lo hi:Int),l.Pairwise (· < ·)->(∀x∈l,lo<=x/\x<=hi)->lo<=hi+1->(l.length:Int)<=hi+1-lo
 |[],lo,hi,_,_,h=>by simp;omega
 |x::r,lo,hi,hp,hb,h=>by
  obtain⟨h1,h2⟩:=List.pairwise_cons.mp hp;have hx:=hb x (by simp)
  have:=Fw r (x+1) hi h2 (λy hy=>⟨by have:=h1 y hy;omega,(hb y (by simp[hy])).2⟩) U
  simp only[aRw];omega
theorem Xe (l:List Int)(h:l.Pairwise (· < ·)):(l.filter λw=>wi w 0 5).length<=6:=by
 have:=Fw (l.filter λw=>wi w 0 5) 0 5 (h.sublist (List.filter_sublist)) (λx hx=>by
  have:=(List.mem_filter.mp hx).2;unfold wi at this;simpa using this) U
 omega
section
variable {H : aE} {m : Nat} {p : PlanD} {ev wv nv : Value}
theorem Xf (p:Nat->Bool): ∀q i,fst p q i= -1∨((i:Int)<=fst p q i/\fst p q i<(i+q:Nat))
 |0,i=> .inl rfl
 |q+1,i=>by
  unfold fst;split
  ·exact .inr ⟨by omega,by omega⟩
  ·rcases Xf p q (i+1) with h|h
   ·exact .inl h
   ·exact .inr ⟨by omega,by omega⟩
theorem aIa {v:Value}{xs:List Int}{w:Int}(hx:Is H v xs)(hn:xs.length<=72057594037927936): ∀(q i k:Nat),xs.length-i=q->i<=xs.length->q<k-> ∀(x2 x3 x4 x5 x6 x9 bQ cG aS aP aQ aO bB bI aR:Value),
  aK k (aM prog (lvl prog cR m) (aK m) Lt) (Fj (lvl prog cR m) (aK m)) [v,(.I w),x2,x3,x4,x5,x6,(.I xs.length),(.I (i:Nat)),x9,bQ,cG,aS,aP,aQ,aO,bB,bI,aR] H=some (.I (fst (λj=>xs[j]? ==some w) q i),H):=by
 intro q;induction q with
 |zero=>
  intro i k hr hi hk;intros;obtain⟨k,rfl⟩:=aB k U
  obtain rfl:xs.length=i:=U
  have e:decide (((xs.length:Nat):Int)<(xs.length:Nat))=false:=by simp
  rw[dG,Wo];simp only[gsR,e];rw[aHk];rfl
 |succ q ih=>
  intro i k hr hi hk;intros;obtain⟨k,rfl⟩:=aB k U
  have e:decide ((i:Int)<(xs.length:Nat))=true:=aRU U
  have e3:=aA (i:=i) U
  have hxi:xs[i]? =some xs[i]:=aRc U
  obtain⟨b,o,g1,g2,g3⟩:=hx.fV gW hxi .i64;have l1:ld1 (.Q b o) H=some (.I xs[i],H):=(g3 H rfl).2.1 0 _ rfl;rw[dG,Wo];unfold fst;by_cases h:w=xs[i]
  ·have d:(w==xs[i])=true:=by rw[h];simp
   have d2:(xs[i]? ==some w)=true:=by rw[hxi,h];simp
   simp only[gsR,e,g1,l1,d];rw[aHm,if_pos d2];rfl
  ·have d:(w==xs[i])=false:=by simpa using h
   have d2: ¬(xs[i]? ==some w)=true:=by rw[hxi];simpa using λhh=>h hh.symm
   simp only[gsR,e,g1,l1,d,cU,e3];rw[if_neg d2];exact ih (i+1) k U U U ..
theorem Xh {v:Value}{xs:List Int}(hx:Is H v xs)(w:Int)(hn:xs.length+10<m)(hm:m<=72057594037927936):lvl prog cR m (.func 72) [v,.I w] H=some (.I (rX xs w),H):=by
 have hlen:=hx.jX;refine dH (gN rfl rfl) U ?_
 rw[aHl];simp only[gsR,hlen];exact aIa hx U xs.length 0 (m-1) U U U ..
theorem Fu (es:List Ed)(v:Int):(bes es v).length<=es.length:=by
 have h1:=W9 (srt (oM es v));have h2:=rT (oM es v);have h3:=Ft v es;unfold bes;omega
theorem Xi (hp:PV H p ev wv nv)(hn:p.edges.length+50<m)(hm:m<=72057594037927936)(v w:Int): ∃H',lvl prog cR m (.func 29) [plV p ev wv nv,.I v,.I w] H=some (.I (zX p.edges v w),H')/\Ext H H':=by
 have hL:=hp.be;obtain⟨H0,hH0⟩:=aD (H++[plB p ev wv nv]);have x0:Ext H H0:=by rw[hH0];exact Fr.app _ _ _
 have b0:H0[H.length]? =some (plB p ev wv nv):=by rw[hH0];exact eY _ _
 have l11:=kE b0;obtain⟨H1,u,g1,g2,g3,g4⟩:=Cc (hp.ext x0) (m:=m-1) U U v
 have hb:=Fu p.edges v;have g5:=Xh g3.rs w (m:=m-1) U U
 refine mF (gN rfl rfl) U ⟨H1,?_,x0.tr g2⟩
 rw[aHf];unfold zX;by_cases h:rX (bes p.edges v) w<0
 ·simp only[gsR,k9,<-hH0,l11,g1,g5,h,decide_true,if_true]
 ·have e3:IntKind.i64.wrap (rX (bes p.edges v) w+1)=rX (bes p.edges v) w+1:=by
   rcases Xf (λj=>(bes p.edges v)[j]? ==some w) (bes p.edges v).length 0 with hh|⟨h1,h2⟩
   ·unfold rX at h⊢
    rw[hh] at h;omega
   ·unfold rX
    exact dJ U U
  simp only[gsR,k9,<-hH0,l11,g1,g5,h,decide_false,if_false,cU,e3]
theorem Xd (a b:Int):bld prog 65 [(0,.I a),(1,.I b)]=some (edV (a,b)):=rfl
theorem aH6 (H:aE)(y:Ed):dR 65 2 1 [.I 0,.I 0] [(0,edV y)] H=some (.slice (some ⟨H.length,0,none⟩) 1 1,H++[.cells (edC y) 65 .row]):=rfl
theorem aH9 {H0:aE}{a:Nat}{v:Nat}{ws:List Int}{hs:List Ed}{Q:aE->Value->Prop}{K:Ex->K (Value×aE)}{bn:Int}{u:Value}(hs1:hs.length+(ws.filter λw=>wi w 0 5).length<=1000)(hws:ws.length<=72057594037927936)(hm:0<m)
  (hK: ∀(H':aE)(acc:Value),Ext H0 H'->Hw H' acc (hs++(ws.filter λw=>wi w 0 5).map λw=>((v:Int),w))->New H0 acc-> ∀(x0 x2 x4 x5 x6 x7 x8 x9 aS aP aQ aO bB bI aR bJ bM bT bN bP aU aV aW aX aY aZ bA bH bO:Value),∃H2 u2,K .normal [x0,(.pointer (some ⟨a,0,none⟩)),x2,acc,x4,x5,x6,x7,x8,x9,(.int .i64 bn),(.int .i64 (IntKind.i64.wrap ((v:Int)+1))),aS,aP,aQ,aO,bB,bI,aR,bJ,bM,bT,bN,bP,aU,aV,aW,aX,aY,aZ,bA,bH,bO] H'=some (u2,H2)/\Q H2 u2): ∀(q i k:Nat)(H1:aE)(acc:Value),ws.length-i=q->i<=ws.length->q<k->Ext H0 H1->Is H1 u ws->Apart H1 u acc->Hw H1 acc (hs++((ws.take i).filter λw=>wi w 0 5).map λw=>((v:Int),w))->New H0 acc-> ∀(x0 x2 x5 x6 x7 x8 x9 aS aP aQ aO bJ bM bT bN bP aU aV aW aX aY aZ bA bH bO:Value),
  ∃H' u2,aK k (aM prog (lvl prog cR m) (aK m) Ln) (Lp (lvl prog cR m) (aK m) K) [x0,(.Q a 0),x2,acc,(.I (v:Nat)),x5,x6,x7,x8,x9,(.I bn),(.I (v:Nat)),aS,aP,aQ,aO,u,(.I ws.length),(.I (i:Nat)),bJ,bM,bT,bN,bP,aU,aV,aW,aX,aY,aZ,bA,bH,bO] H1=some (u2,H')/\Q H' u2:=by
 intro q;induction q with
 |zero=>
  intro i k H1 acc hr hi hk he hu hap ha hnew;intros;obtain⟨k,rfl⟩:=aB k U
  obtain rfl:ws.length=i:=U
  have e:decide (((ws.length:Nat):Int)<(ws.length:Nat))=false:=by simp
  rw[List.take_of_length_le (aRf _)] at ha;rw[dG,Wm];simp only[gsR,e];rw[aHd];simp only[gsR,cU];exact hK H1 acc he ha hnew ..
 |succ q ih=>
  intro i k H1 acc hr hi hk he hu hap ha hnew;intros;obtain⟨k,rfl⟩:=aB k U
  have e:decide ((i:Int)<(ws.length:Nat))=true:=aRU U
  have e3:=aA (i:=i) U
  have hxi:ws[i]? =some ws[i]:=aRc U
  obtain⟨b,o,g1,g2,g3⟩:=hu.fV gW hxi .i64;have l1:ld1 (.Q b o) H1=some (.I ws[i],H1):=(g3 H1 rfl).2.1 0 _ rfl;have htake:ws.take (i+1)=ws.take i++[ws[i]]:=by rw[List.take_add_one,hxi];rfl
  have w1:=W4 (m:=m) hm ws[i] 0 5 H1;have hfl:((ws.take i).filter λw=>wi w 0 5).length<=(ws.filter λw=>wi w 0 5).length:=(List.Sublist.filter _ (List.take_sublist i ws)).length_le
  rw[dG,Wm];cases c:wi ws[i] 0 5 with
  |true=>
   rw[c] at w1;obtain⟨acc2,H2,t1,t2,t3,t4,t5,t6⟩:=ha.Kw (by':=16) p8 yA aC ((v:Int),ws[i]) hnew he (gX (n:=1000000) aC (by simp only[aRm,aRo];omega))
   simp only[gsR,e,g1,l1,w1,Xd,aH6,t1,cU,e3];refine ih (i+1) k H2 acc2 U U U t4 (hu.aF5 hap t5) (hap.up t5 t6) ?_ t3 ..
   ·rw[htake,List.filter_append,List.map_append,<-aRh]
    have:([ws[i]].filter λw=>wi w 0 5)=[ws[i]]:=by rw[List.filter_cons,if_pos c];rfl
    rw[this];exact t2
  |false=>
   rw[c] at w1;simp only[gsR,e,g1,l1,w1,cU,e3];refine ih (i+1) k H1 acc U U U he hu hap ?_ hnew ..
   have:([ws[i]].filter λw=>wi w 0 5)=[]:=by rw[List.filter_cons,if_neg (by rw[c];decide)];rfl
   rw[htake,List.filter_append,this,List.append_nil];exact ha
theorem aH7 (es:List Ed)(v:Nat):(pN es v).length<=6:=by
 have h2:=Xe _ (Cd es v);unfold pN;rw[aRo];omega
theorem L1 (es:List Ed): ∀i,((List.range i).flatMap (pN es)).length<=i*6
 |0=>by simp
 |i+1=>by
  have:=L1 es i;have:=aH7 es i;rw[aRJ,List.flatMap_append,aRm,Nat.succ_mul];simp only[List.flatMap_cons,List.flatMap_nil,List.append_nil];omega
theorem uC (p:PlanD):(dK p).length<=36:=by
 have:=L1 p.edges (mY p);have h6:mY p<=6:=by unfold mY;omega
 unfold dK;omega
theorem aIc (a b:Int):mV prog false [.I a,.I b]=some (.I (min a b)):=by
 simp[mV,eD,gZ,pur,Builtin.min_,Builtin.min2,pure,bind,Sem.bind]
 split<;>omega
theorem aIb (a b:Int):mV prog true [.I a,.I b]=some (.I (max a b)):=by
 simp[mV,eD,gZ,pur,Builtin.max_,Builtin.max2,pure,bind,Sem.bind]
 split<;>omega
theorem aH8 {H0:aE}{a:Nat}(hp:PV H0 p ev wv nv)(hn:p.edges.length+60<m)(hm:m<=72057594037927936): ∀(q i k:Nat)(H1:aE)(acc:Value),(mY p)-i=q->i<=(mY p)->q<k->Ext H0 H1->H0[a]? =some (plB p ev wv nv)->Hw H1 acc ((List.range i).flatMap (pN p.edges))->New H0 acc-> ∀(x0 x2 x4 x5 x6 x7 x8 x9 aS aP aQ aO bB bI aR bJ bM bT bN bP aU aV aW aX aY aZ bA bH bO:Value),
  ∃H' u2,aK k (aM prog (lvl prog cR m) (aK m) Lm) (Lo (lvl prog cR m) (aK m)) [x0,(.Q a 0),x2,acc,x4,x5,x6,x7,x8,x9,(.I (mY p)),(.I (i:Nat)),aS,aP,aQ,aO,bB,bI,aR,bJ,bM,bT,bN,bP,aU,aV,aW,aX,aY,aZ,bA,bH,bO] H1=some (u2,H')/\Ext H0 H'/\Hw H' u2 (dK p)/\New H0 u2:=by
 intro q;have h6:mY p<=6:=by unfold mY;omega
 induction q with
 |zero=>
  intro i k H1 acc hr hi hk he hb0 ha hnew;intros;obtain⟨k,rfl⟩:=aB k U
  obtain rfl:(mY p)=i:=U
  have e:decide ((((mY p):Nat):Int)<((mY p):Nat))=false:=by simp
  refine⟨H1,acc,?_,he,ha,hnew⟩;rw[dG,Wl];simp only[gsR,e];rw[aHc];rfl
 |succ q ih=>
  intro i k H1 acc hr hi hk he hb0 ha hnew;intros;obtain⟨k,rfl⟩:=aB k U
  have e:decide ((i:Int)<((mY p):Nat))=true:=aRU U
  have e3:=aA (i:=i) U
  have hb:=eU hb0 he;have l11:=kE hb;obtain⟨H2,u,g1,g2,g3,g4⟩:=Cc (hp.ext he) (m:=m) U U (i:Int)
  have hlen:=g3.qT;have hble:=Fu p.edges (i:Int);have hol:=L1 p.edges i;have hff:=Xe _ (Cd p.edges (i:Int));have hL:=hp.be;have hap:Apart H2 u acc:=λb hb=>⟨g3.gM hb,λhc=>by have:=g4 b hb;have:=ha.gM hc;omega⟩
  have ha2:Hw H2 acc ((List.range i).flatMap (pN p.edges)):=ha.eX λb hb=>g2.2 b (ha.gM hb) id
  rw[dG,Wl];simp only[gsR,e,l11,g1,hlen];refine aH9 (H0:=H0) (a:=a) (v:=i) (ws:=bes p.edges (i:Int)) (hs:=(List.range i).flatMap (pN p.edges)) (Q:=λH' u2=>Ext H0 H'/\Hw H' u2 (dK p)/\New H0 u2) U U U ?_ (bes p.edges (i:Int)).length 0 m H2 acc U U U (he.tr g2) g3.rs hap (by simpa using ha2) hnew ..
  intro H3 acc3 k1 k2 k3;intros;rw[again_normal,e3];refine ih (i+1) k H3 acc3 U U U k1 hb0 ?_ k3 ..
  rw[aRJ,List.flatMap_append];simpa[pN] using k2
theorem Xg (hp:PV H p ev wv nv)(hn:p.edges.length+70<m)(hm:m<=72057594037927936): ∃H' u,lvl prog cR m (.func 18) [plV p ev wv nv] H=some (u,H')/\Ext H H'/\Hw H' u (dK p)/\New H u:=by
 have hL:=hp.be;obtain⟨H0,hH0⟩:=aD (H++[plB p ev wv nv]);have x0:Ext H H0:=by rw[hH0];exact Fr.app _ _ _
 have b0:H0[H.length]? =some (plB p ev wv nv):=by rw[hH0];exact eY _ _
 have l0:=eP b0 0 _ rfl;have h6:mY p<=6:=by unfold mY;omega
 have e1:mV prog true [.I p.nodes,.I 0]=some (.I (max p.nodes 0)):=aIb p.nodes 0;have e2:mV prog false [.I (max p.nodes 0),.I 6]=some (.I (mY p)):=by
  rw[aIc]
  congr 2
  unfold mY;omega
 obtain⟨H',u,g1,g2,g3,g4⟩: ∃H' u,lvl prog cR m (.func 18) [plV p ev wv nv] H=some (u,H')/\Ext H0 H'/\Hw H' u (dK p)/\New H0 u:=by
  refine iB (gN rfl rfl) U ?_
  rw[aHe];simp only[gsR,k9,<-hH0,l0,e1,e2];exact aH8 (hp.ext x0) (m:=m-1) U U (mY p) 0 (m-1) H0 _ U U U (Fr.gR _ _) b0 (Rw.kL (el:=edC)) (New.mN _) ..
 exact⟨H',u,g1,x0.tr g2,g3,λb hb=>aRq x0.1 (g4 b hb)⟩
end
theorem Xj: ∀(l l':List Int),l.Pairwise (· < ·)->l'.Pairwise (· < ·)->(∀z,z∈l↔z∈l')->l=l'
 |[],[],_,_,_=>rfl
 |[],y::r,_,_,h=>absurd ((h y).mpr (by simp)) (by simp)
 |x::l,[],_,_,h=>absurd ((h x).mp (by simp)) (by simp)
 |x::l,y::r,h1,h2,h=>by
  obtain⟨a1,a2⟩:=List.pairwise_cons.mp h1;obtain⟨b1,b2⟩:=List.pairwise_cons.mp h2;have hxy:x=y:=by
   have h3:=(h x).mp (by simp)
   have h4:=(h y).mpr (by simp)
   rcases aRt.mp h3 with h3|h3
   ·exact h3
   ·rcases aRt.mp h4 with h4|h4
    ·exact h4.symm
    ·have:=b1 x h3
     have:=a1 y h4;omega
  subst hxy;rw[Xj l r a2 b2 λz=> ?_]
  constructor
  ·intro hz
   rcases aRt.mp ((h z).mp (by simp[hz])) with h3|h3
   ·have:=a1 z hz
    omega
   ·exact h3
  ·intro hz
   rcases aRt.mp ((h z).mpr (by simp[hz])) with h3|h3
   ·have:=b1 z hz
    omega
   ·exact h3
theorem L2 (es:List Ed)(v z:Int):z∈bes es v↔z∈oM es v:=by
 unfold bes;rw[Fv,(Bt _).mem_iff]
section
variable {H : aE} {m : Nat} {p : PlanD} {ev wv nv : Value}
end
def mkN (nodes:Nat):Nat:=2+nodes%5
def mkW (more:Nat)(i:Nat):Int:=((1+(i+more)%5:Nat):Int)
def prs (n:Nat):List (Nat×Nat):=(List.range n).flatMap λb=>(List.range b).map λa=>(a,b)
def oN:Nat->List (Nat×Nat)->List Ed
 |_,[]=>[]
 |bit,(a,b)::r=>if bit%2=1 then((a:Int),(b:Int))::oN (bit/2) r else oN (bit/2) r
def nxt (n:Nat)(next:List Nat)(k w:Nat):Nat:=match next[k]? with
 |some x=>if x%4=0 then(x/4)%n else w
 |none=>w
def wJ (n:Nat)(next:List Nat)(v:Nat):List Int:=(List.range n).map λw=>((nxt n next (v*n+w) w:Nat):Int)
def mkP (nodes room more joined:Nat)(next:List Nat):PlanD where
 nodes:=mkN nodes
 edges:=oN joined (prs (mkN nodes))
 lanes:=((1+more%3:Nat):Int)
 room:=((1+room%8:Nat):Int)
 queue:=((1+room/8%8:Nat):Int)
 rounds:=((1+more/3%4:Nat):Int)
 every:=((1+more/12%8:Nat):Int)
 bag:=64
 weights:=(List.range (1+more%3)).map (mkW more)
 start:=joined
 next:=(List.range (mkN nodes)).map (wJ (mkN nodes) next)
def u8C (n:Nat):List Value:=[.int .u8 n]
theorem L4 (n:Nat):(u8C n).length=1:=rfl
abbrev Us (H:aE)(v:Value)(xs:List Nat):=Rs u8C 5 H v xs
theorem cvU (H:aE)(n:Nat)(h:n<256):eI prog 5 3 (.int .u8 n) H=some (.I n,H):=by
 have h1:prog.underlying 5=some (.int .u8):=by kernel_rfl
 have h2:prog.underlying 3=some (.int .i64):=by kernel_rfl
 rw[hZ _ _ h1 h2,dJ U U]
theorem yD (a b:Nat)(c:Int)(hc:c=b)(hb:0<b):bin prog .rem 5 (.int .u8 a) (.int .u8 c)=some (.int .u8 (a%b:Nat)):=by rw[hc,J9 _ _ _ _ U,Int.tmod_eq_emod_of_nonneg U];congr 2
theorem yC (a b:Nat)(c:Int)(hc:c=b)(hb:0<b):bin prog .rem 3 (.I a) (.I c)=some (.I (a%b:Nat)):=by rw[hc,J9 _ _ _ _ U,Int.tmod_eq_emod_of_nonneg U];congr 2
theorem aIp (a b:Nat)(c:Int)(hc:c=b)(hb:0<b):bin prog .rem 23 (.int .u16 a) (.int .u16 c)=some (.int .u16 (a%b:Nat)):=by rw[hc,J9 _ _ _ _ U,Int.tmod_eq_emod_of_nonneg U];congr 2
theorem aIr {n:Nat}(h:n<256):IntKind.u8.wrap (n:Int)=n:=by simp[IntKind.wrap,IntKind.bits,IntKind.signed];omega
theorem aIq {n:Nat}(h:n<65536):IntKind.u16.wrap (n:Int)=n:=by simp[IntKind.wrap,IntKind.bits,IntKind.signed];omega
theorem Fz (a b:Nat)(c:Int)(hc:c=b)(hb:0<b)(ha:a<256):bin prog .quo 5 (.int .u8 a) (.int .u8 c)=some (.int .u8 (a/b:Nat)):=by
 rw[hc,T0 _ _ _ _ U,Int.tdiv_eq_ediv_of_nonneg U]
 have h2:((a:Int)/(b:Int))=((a/b:Nat):Int):=by simp
 rw[h2,aIr (Nat.lt_of_le_of_lt (Nat.div_le_self a b) ha)]
theorem aIo (a b:Nat)(c:Int)(hc:c=b)(hb:0<b)(ha:a<65536):bin prog .quo 23 (.int .u16 a) (.int .u16 c)=some (.int .u16 (a/b:Nat)):=by
 rw[hc,T0 _ _ _ _ U,Int.tdiv_eq_ediv_of_nonneg U]
 have h2:((a:Int)/(b:Int))=((a/b:Nat):Int):=by simp
 rw[h2,aIq (Nat.lt_of_le_of_lt (Nat.div_le_self a b) ha)]
def Fx (b:Nat)(e:TypeId)(H H':aE):Prop:= ∀(c:Nat)(y:Blk),c≠b->(∀cs,y≠ .cells cs e .row)->H[c]? =some y->H'[c]? =some y
section
variable {H : aE} {m : Nat} {p : PlanD} {ev wv nv : Value}
theorem Ce {α:Type}{el:α->List Value}{e:TypeId}{sz by':Nat}{tb:TypeId}(hsz: ∀x,(el x).length=sz)(hall: ∀x,dX (el x)=true)(h0:0<sz){H0:aE}{v:Value}{xs:List α}{b j:Nat}{cs:List Value}(x:α)
  (hb:H[b]? =some (.cells cs tb .fix))(hj:j<cs.length)(hv:Rw el e sz H v xs)(hn:New H0 v)(hbn:H0.length<=b)(he:Ext H0 H)(hr:hP (xs.length+1) by'=true):
  ∃v' H1 H',app e sz by' v (.slice (some ⟨H.length,0,none⟩) 1 1) (H++[.cells (el x) e .row])=some (v',H1)/\stN 1 (.Q b j) v' H1=some (undef,H')/\
   Rw el e sz H' v' (xs++[x])/\New H0 v'/\Ext H0 H'/\H'[b]? =some (.cells (cs.set j v') tb .fix)/\Fx b e H H':=by
 obtain⟨v',H1,g1,g2,g3,g4,g5,g6⟩:=hv.Kw hsz hall h0 (by':=by') x hn he hr;have hbl:=(aRa.mp hb).1;have hnh: ¬cP v b:=λhh=>by
  obtain⟨c',hc'⟩:=hv.blk hh;rw[hb] at hc';simp at hc'
 have hb1:H1[b]? =some (.cells cs tb .fix):=by rw[g5.2 b hbl hnh,hb]
 obtain⟨s1,s2⟩:=g2.tW;have hb1l:=(aRa.mp hb1).1;refine⟨v',H1,H1.set b (.cells (cs.set j v') tb .fix),g1,?_,g2.eX λc hc=> ?_,g3,⟨by rw[List.length_set];exact g4.1,λc hc _=> ?_⟩,aRg hb1l,λc y hcb hA hy=> ?_⟩
 ·rw[mE 1 _ _ _ (by rw[s1];rfl),hb1,s1,nX _ _ _ _ _ _ aC (by simp;omega) s2]
  rfl
 ·refine aRb λhh=> ?_
  subst hh;obtain⟨c',hc'⟩:=g2.blk hc;rw[hb1] at hc';simp at hc'
 ·rw[aRb U,g4.2 c hc id]
 ·have hch: ¬cP v c:=λhh=>by
   obtain⟨c',hc'⟩:=hv.blk hh;rw[hy] at hc';cases hc';exact hA _ rfl
  rw[aRb (Ne.symm hcb),g5.2 c (aRa.mp hy).1 hch,hy]
theorem Rw.zY {α:Type}{el:α->List Value}{e e' tb:TypeId}{sz b:Nat}{H':aE}{v:Value}{xs:List α}{cs:List Value}(h:Rw el e' sz H v xs)(hk:Fx b e H H')(hb:H[b]? =some (.cells cs tb .fix))(hne:e'≠e):Rw el e' sz H' v xs:=h.eX λc hc=>by
 obtain⟨cs',hx⟩:=h.blk hc;have hcb:c≠b:=λhh=>by
  subst hh;rw[hb] at hx;simp at hx
 rw[hx];exact hk c _ hcb (λcs'' hh=>by cases hh;exact hne rfl) hx
theorem bEd (a b:Int):bld prog 89 [(0,.I a),(1,.I b)]=some (edV (a,b)):=rfl
theorem aIf (H:aE)(y:Ed):dR 89 2 1 [.I 0,.I 0] [(0,edV y)] H=some (.slice (some ⟨H.length,0,none⟩) 1 1,H++[.cells (edC y) 89 .row]):=rfl
theorem aIl {H0:aE}{b rb n v joined:Nat}{a4:Value}{next:List Nat}{zs:List Value}{Q:aE->Value->Prop}{K:Ex->K (Value×aE)}(hn6:n<=6)(hv6:v<n)(hnx:Us H0 a4 next)(hu8: ∀x∈next,x<256)(hnl:next.length<=72057594037927936)(hpn:p.nodes=(n:Int))(hbr:H0[rb]? =some (.cells zs 30 .fix))(hb:H0[b]? =some (plB p ev wv nv))
  (hK: ∀(H':aE)(u:Value),Ext H0 H'->Iw H' u (wJ n next v)->New H0 u-> ∀(x0 x1 x2 x5 x6 x7 x8 x9 aS aP aQ aO bJ bM bT bN bP aU aV aW aX aY aZ bA bH bO bV cH cJ bX cC bY b9 cA cD cF cM cN cO cQ cW cX cY cS cT cZ dA dE dB dC dF dL dM dN dQ dZ eA eE eF eG eH eK eN eO eZ fA fB fC fD fE fI fJ fK fL fM fN fX fY fZ gC gF gG gH gI iF iG iH iI iJ iK iL iM iN iO iP iQ iR iS iT iV iW iX iY iZ jA jB jC jD jE jH jI jJ jK jL jM jO jQ lS lT lU lV lW lX lY lZ mA mB mC pG pH pI pJ:Value),∃H2 u2,Lf (lvl prog cR m) (aK m) K x0 x1 x2 (.int .u16 joined) a4 x5 x6 x7 x8 x9 (.pointer (some ⟨rb,0,none⟩)) (.pointer (some ⟨b,0,none⟩)) aS aP aQ aO (.int .i64 ((v+1)*n:Nat)) (.int .i64 (v:Nat)) u bJ bM bT bN bP aU aV aW aX aY aZ bA bH bO bV cH cJ bX cC bY b9 cA cD cF cM cN cO cQ cW cX cY cS cT cZ dA dE dB dC dF dL dM dN dQ dZ eA eE eF eG eH eK eN eO eZ fA fB fC fD fE fI fJ fK fL fM fN fX fY fZ gC gF gG gH gI iF iG iH iI iJ iK iL iM iN iO iP iQ iR iS iT iV iW iX iY iZ jA jB jC jD jE jH jI jJ jK jL jM jO jQ lS lT lU lV lW lX lY lZ mA mB mC pG pH pI pJ H'=some (u2,H2)/\Q H2 u2): ∀(q i k:Nat)(H1:aE)(acc:Value),n-i=q->i<=n->q<k->Ext H0 H1->Iw H1 acc ((List.range i).map λw=>((nxt n next (v*n+w) w:Nat):Int))->New H0 acc-> ∀(x0 x1 x2 x5 x6 x7 x8 x9 aS aP aQ aO bM bT bN bP aU aV aW aX aY aZ bA bH bO bV cH cJ bX cC bY b9 cA cD cF cM cN cO cQ cW cX cY cS cT cZ dA dE dB dC dF dL dM dN dQ dZ eA eE eF eG eH eK eN eO eZ fA fB fC fD fE fI fJ fK fL fM fN fX fY fZ gC gF gG gH gI iF iG iH iI iJ iK iL iM iN iO iP iQ iR iS iT iV iW iX iY iZ jA jB jC jD jE jH jI jJ jK jL jM jO jQ lS lT lU lV lW lX lY lZ mA mB mC pG pH pI pJ:Value),
  ∃H2 u2,aK k (aM prog (lvl prog cR m) (aK m) Lc) (Ll (lvl prog cR m) (aK m) K) [x0,x1,x2,(.int .u16 joined),a4,x5,x6,x7,x8,x9,(.Q rb 0),(.Q b 0),aS,aP,aQ,aO,(.I (v*n+i:Nat)),(.I (v:Nat)),acc,(.I (i:Nat)),bM,bT,bN,bP,aU,aV,aW,aX,aY,aZ,bA,bH,bO,bV,cH,cJ,bX,cC,bY,b9,cA,cD,cF,cM,cN,cO,cQ,cW,cX,cY,cS,cT,cZ,dA,dE,dB,dC,dF,dL,dM,dN,dQ,dZ,eA,eE,eF,eG,eH,eK,eN,eO,eZ,fA,fB,fC,fD,fE,fI,fJ,fK,fL,fM,fN,fX,fY,fZ,gC,gF,gG,gH,gI,iF,iG,iH,iI,iJ,iK,iL,iM,iN,iO,iP,iQ,iR,iS,iT,iV,iW,iX,iY,iZ,jA,jB,jC,jD,jE,jH,jI,jJ,jK,jL,jM,jO,jQ,lS,lT,lU,lV,lW,lX,lY,lZ,mA,mB,mC,pG,pH,pI,pJ] H1=some (u2,H2)/\Q H2 u2:=by
 intro q;induction q with
 |zero=>
  intro i k H1 acc hr hi hk he ha hnew;intros;obtain⟨k,rfl⟩:=aB k U
  obtain rfl:n=i:=U
  have e:decide (((n:Nat):Int)<(n:Nat))=false:=by simp
  have l0:=eP (eU hb he) 0 _ rfl;rw[hpn] at l0;rw[dG,Wk];simp only[gsR,l0,e];rw[aHa];have hk:v*n+n=(v+1)*n:=by rw[Nat.succ_mul]
  rw[hk];exact hK H1 acc he ha hnew ..
 |succ q ih=>
  intro i k H1 acc hr hi hk he ha hnew;intros;obtain⟨k,rfl⟩:=aB k U
  have e:decide ((i:Int)<(n:Nat))=true:=aRU U
  have e3:=aA (i:=i) U
  have l0:=eP (eU hb he) 0 _ rfl;rw[hpn] at l0;have hlen:=(hnx.ext he).jX;have hvn:v*n+i<42:=by
   have:v*n<=5*n:=Nat.mul_le_mul_right _ U
   omega
  have e4:IntKind.i64.wrap (((v*n+i:Nat):Int)+1)=((v*n+(i+1):Nat):Int):=by rw[dJ U U];omega
  have hrange:(List.range (i+1)).map (λw=>((nxt n next (v*n+w) w:Nat):Int))=(List.range i).map (λw=>((nxt n next (v*n+w) w:Nat):Int))++[((nxt n next (v*n+i) i:Nat):Int)]:=by rw[aRJ,List.map_append];rfl
  obtain⟨acc2,H2,t1,t2,t3,t4⟩:=ha.rU (by':=8) gW o5 aC ((nxt n next (v*n+i) i:Nat):Int) hnew he (gX (n:=1000) aC (by simp;omega))
  rw[<-hrange] at t2;rw[dG,Wk];by_cases c:v*n+i<next.length
  ·have d:decide (((v*n+i:Nat):Int)<next.length)=true:=aRU U
   have hx:next[v*n+i]? =some next[v*n+i]:=aRc c
   obtain⟨bb,oo,g1,g2,g3⟩:=(hnx.ext he).fV L4 hx .i64;have l1:ld1 (.Q bb oo) H1=some (.int .u8 (next[v*n+i]:Nat),H1):=(g3 H1 rfl).2.1 0 _ rfl
   have hx8:=hu8 _ (List.getElem_mem c);have r4:=yD next[v*n+i] 4 4 rfl U
   by_cases c4:next[v*n+i]%4=0
   ·have d4:(((next[v*n+i]%4:Nat):Int)==0)=true:=by rw[c4];rfl
    have q4:=Fz next[v*n+i] 4 4 rfl U hx8
    have hcv:=λH=>cvU H (next[v*n+i]/4) U
    have rn:=yC (next[v*n+i]/4) n n rfl U
    have hval:nxt n next (v*n+i) i=next[v*n+i]/4%n:=by unfold nxt;rw[hx];simp only;rw[if_pos c4]
    rw[hval] at t1;simp only[gsR,l0,e,hlen,d,g1,l1,r4,d4,q4,hcv,rn,o7,t1,cU,e4,e3];exact ih (i+1) k H2 acc2 U U U t4 t2 t3 ..
   ·have d4:(((next[v*n+i]%4:Nat):Int)==0)=false:=by simpa using λh=>c4 U
    have hval:nxt n next (v*n+i) i=i:=by unfold nxt;rw[hx];simp only;rw[if_neg c4]
    rw[hval] at t1;simp only[gsR,l0,e,hlen,d,g1,l1,r4,d4,o7,t1,cU,e4,e3];exact ih (i+1) k H2 acc2 U U U t4 t2 t3 ..
  ·have d:decide (((v*n+i:Nat):Int)<next.length)=false:=aRV U
   have hval:nxt n next (v*n+i) i=i:=by unfold nxt;rw[aRl U]
   rw[hval] at t1;simp only[gsR,l0,e,hlen,d,o7,t1,cU,e4,e3];exact ih (i+1) k H2 acc2 U U U t4 t2 t3 ..
def SV:={u:Value // dX [u]=true/\u.cells= #[u]}
def sC (u:SV):List Value:=[u.1]
theorem Cf (u:SV):(sC u).length=1:=rfl
theorem F7 (u:SV):dX (sC u)=true:=u.2.1
theorem Cg: ∀us:List SV,(us.map sC)=(us.map (·.1)).map vC
 |[]=>rfl
 |u::us=>by rw[aRF,aRF,aRF,Cg us];rfl
structure RowsI (H:aE)(v:Value)(xss:List (List Int))(us:List SV):Prop where
 row:Rw sC 27 1 H v us
 len:us.length=xss.length
 el: ∀(j:Nat)(u:SV)(xs:List Int),us[j]? =some u->xss[j]? =some xs->Iw H u.1 xs
 ap: ∀(j j':Nat)(u u':SV),j<j'->us[j]? =some u->us[j']? =some u'-> ∀b,cP u.1 b->cP u'.1 b->False
def RowsW (H:aE)(v:Value)(xss:List (List Int)):Prop:= ∃us,RowsI H v xss us
theorem RowsI.Xk {H':aE}{v:Value}{xss:List (List Int)}{us:List SV}(h:RowsI H v xss us)(h1: ∀b,cP v b->H'[b]? =H[b]?)(h2: ∀u∈us,∀b,cP u.1 b->H'[b]? =H[b]?):RowsI H' v xss us:=
 ⟨h.row.eX h1,h.len,λj u xs hu hx=>(h.el j u xs hu hx).eX λb hb=>h2 u (aRk hu) b hb,h.ap⟩
theorem RowsI.Xl {v:Value}{xss:List (List Int)}{us:List SV}(h:RowsI H v xss us){u:SV}(hu:u∈us){b:Nat}(hb:cP u.1 b):b<H.length:=by
 obtain⟨j,hj⟩:=List.getElem?_of_mem hu;have:=(aRa.mp hj).1
 exact(h.el j u _ hj (aRc (by rw[<-h.len];exact this))).gM hb
theorem RowsI.blk {v:Value}{xss:List (List Int)}{us:List SV}(h:RowsI H v xss us){u:SV}(hu:u∈us){b:Nat}(hb:cP u.1 b): ∃cs,H[b]? =some (.cells cs 3 .row):=by
 obtain⟨j,hj⟩:=List.getElem?_of_mem hu;have:=(aRa.mp hj).1
 exact(h.el j u _ hj (aRc (by rw[<-h.len];exact this))).blk hb
theorem RowsW.aIe {v:Value}{xss:List (List Int)}(h:RowsW H v xss):Rows H v xss:=by
 obtain⟨us,hi⟩:=h;refine⟨us.map (·.1),?_,by rw[aRo,hi.len],λj u xs hu hx=> ?_⟩
 ·have:=hi.row.rs
  unfold Rs at this⊢;rw[aRo,<-Cg];rcases this with⟨h1,h2⟩|⟨b,o,cap,h1,h2,h3⟩
  ·exact .inl ⟨h1,by rw[h2];rfl⟩
  ·exact .inr ⟨b,o,cap,h1,h2,λhne=>h3 λhh=>hne (by rw[hh];rfl)⟩
 ·rw[aRn] at hu
  cases hj:us[j]? with
  |none=>rw[hj] at hu;cases hu
  |some u'=>
   rw[hj] at hu;cases hu
   exact(hi.el j u' xs hj hx).rs
def RowsA (H0 H:aE)(v:Value)(xss:List (List Int))(wv:Value):Prop:= ∃us,RowsI H v xss us/\ ∀u∈us,∀b,cP u.1 b-> ¬cP wv b/\H0.length<=b
theorem RowsA.rw {H0:aE}{v wv:Value}{xss:List (List Int)}(h:RowsA H0 H v xss wv):RowsW H v xss:=let⟨us,hi,_⟩:=h;⟨us,hi⟩
structure MS (H0 H1:aE)(pb rb:Nat)(zs:List Value)(p:PlanD)(ev wv nv:Value)(E:List Ed)(W:List Int):Prop where
 ext:Ext H0 H1
 hb:H1[pb]? =some (plB p ev wv nv)
 hr:H1[rb]? =some (.cells zs 30 .fix)
 e:Ew H1 ev E
 en:New H0 ev
 w:Iw H1 wv W
 wn:New H0 wv
 ne:rb≠pb
 lp:H0.length<=pb
 lr:H0.length<=rb
 zl:zs.length=11
theorem MS.aId {H0 H1 H2:aE}{pb rb:Nat}{zs:List Value}{E:List Ed}{W:List Int}(h:MS H0 H1 pb rb zs p ev wv nv E W)(he:Ext H1 H2):MS H0 H2 pb rb zs p ev wv nv E W:=
 ⟨h.ext.tr he,eU h.hb he,eU h.hr he,h.e.eX λb hb=>he.2 b (h.e.gM hb) id,h.en,h.w.eX λb hb=>he.2 b (h.w.gM hb) id,h.wn,h.ne,h.lp,h.lr,h.zl⟩
theorem aIk {H0 H1:aE}{pb rb:Nat}{zs:List Value}{E:List Ed}{W:List Int}{N:List (List Int)}(h:MS H0 H1 pb rb zs p ev wv nv E W)(hn:RowsA H0 H1 nv N wv){Q:aE->Value->Prop}(hQ: ∀H2,Ext H0 H2->Ew H2 ev E->Iw H2 wv W->RowsA H0 H2 nv N wv->Q H2 (plV p ev wv nv))(x0 x1 x2 x3 x4 x5 x6 x7 x8 x9 aS aP aQ aO bB bI aR bJ bM bT bN bP aU aV aW aX aY aZ bA bH bO bV cH cJ bX cC bY b9 cA cD cF cM cN cO cQ cW cX cY cS cT cZ dA dE dB dC dF dL dM dN dQ dZ eA eE eF eG eH eK eN eO eZ fA fB fC fD fE fI fJ fK fL fM fN fX fY fZ gC gF gG gH gI iF iG iH iI iJ iK iL iM iN iO iP iQ iR iS iT iV iW iX iY iZ jA jB jC jD jE jH jI jJ jK jL jM jO jQ lS lT lU lV lW lX lY lZ mA mB mC pG pH pI pJ:Value):
  ∃H2 u2,Ld (lvl prog cR m) (aK m) x0 x1 x2 x3 x4 x5 x6 x7 x8 x9 (.Q rb 0) (.Q pb 0) aS aP aQ aO bB bI aR bJ bM bT bN bP aU aV aW aX aY aZ bA bH bO bV cH cJ bX cC bY b9 cA cD cF cM cN cO cQ cW cX cY cS cT cZ dA dE dB dC dF dL dM dN dQ dZ eA eE eF eG eH eK eN eO eZ fA fB fC fD fE fI fJ fK fL fM fN fX fY fZ gC gF gG gH gI iF iG iH iI iJ iK iL iM iN iO iP iQ iR iS iT iV iW iX iY iZ jA jB jC jD jE jH jI jJ jK jL jM jO jQ lS lT lU lV lW lX lY lZ mA mB mC pG pH pI pJ H1=some (u2,H2)/\Q H2 u2:=by
 have l11:=kE h.hb;have hrl:=(aRa.mp h.hr).1;obtain⟨a1,a2⟩:=Rw.tW h.e;obtain⟨b1,b2⟩:=Rw.tW h.w;obtain⟨us,hi,hap⟩:=hn;obtain⟨c1,c2⟩:=Rw.tW hi.row;have hall:dX (plC p ev wv nv)=true:=by
  have e1: ∀(v:Value)(vs:List Value),dX [v]=true->dX (v::vs)=dX vs:=λv vs h=>by
   simp only[dX,List.all_cons,List.all_nil,Bool.and_true] at h⊢;rw[h,aRx]
  simp only[plC,Ua,e1 _ _ a2,e1 _ _ b2,e1 _ _ c2,Ub]
 have st:stN 11 (.Q rb 0) (plV p ev wv nv) H1=some (undef,H1.set rb (plB p ev wv nv)):=by
  have e1:(plV p ev wv nv).cells.toList=plC p ev wv nv:=rfl;rw[mE 11 _ _ _ rfl,h.hr,e1,nX _ _ _ _ _ _ aC (by rw[h.zl];simp[plC]) hall]
  have hs:eS zs 0 (plC p ev wv nv)=plC p ev wv nv:=by
   match zs,h.zl with
   |[z1,z2,z3,z4,z5,z6,z7,z8,z9,z10,z11],_=>rfl
  rw[hs];rfl
 have hb2:(H1.set rb (plB p ev wv nv))[rb]? =some (plB p ev wv nv):=aRg hrl;have l2:=kE hb2;have kp: ∀(b:Nat)(cs:List Value)(e:TypeId),H1[b]? =some (.cells cs e .row)->(H1.set rb (plB p ev wv nv))[b]? =H1[b]? :=λb cs e hb=>by
  refine aRb λhh=> ?_
  subst hh;rw[h.hr] at hb;simp at hb
 refine⟨H1.set rb (plB p ev wv nv),plV p ev wv nv,?_,hQ _ ⟨by rw[List.length_set];exact h.ext.1,λb hb _=> ?_⟩ (h.e.eX λb hb=> ?_) (h.w.eX λb hb=> ?_) ⟨us,hi.Xk (λb hb=> ?_) (λu hu b hb=> ?_),hap⟩⟩
 ·unfold Ld
  simp only[gsR,l11,st,l2]
 ·rw[aRb (by have:=h.lr;omega),h.ext.2 b hb id]
 ·obtain⟨cs,hc⟩:=h.e.blk hb
  exact kp b cs _ hc
 ·obtain⟨cs,hc⟩:=h.w.blk hb
  exact kp b cs _ hc
 ·obtain⟨cs,hc⟩:=hi.row.blk hb
  exact kp b cs _ hc
 ·obtain⟨cs,hc⟩:=hi.blk hu hb
  exact kp b cs _ hc
def Made (H0:aE)(p:PlanD)(H2:aE)(u:Value):Prop:= ∃ev wv nv,u=plV p ev wv nv/\Ext H0 H2/\Ew H2 ev p.edges/\Iw H2 wv p.weights/\RowsA H0 H2 nv p.next wv
theorem aIm {H0:aE}{pb rb n joined:Nat}{a4:Value}{next:List Nat}{zs:List Value}(hn6:n<=6)(hnx:Us H0 a4 next)(hu8: ∀x∈next,x<256)(hnl:next.length<=72057594037927936)(hpn:p.nodes=(n:Int))(hm:50<m)(hpx:p.next=(List.range n).map (wJ n next)): ∀(q i k:Nat)(H1:aE)(nv1:Value),n-i=q->i<=n->q<k->MS H0 H1 pb rb zs p ev wv nv1 p.edges p.weights->RowsA H0 H1 nv1 ((List.range i).map (wJ n next)) wv->New H0 nv1-> ∀(x0 x1 x2 x5 x6 x7 x8 x9 aS aP aQ aO aR bJ bM bT bN bP aU aV aW aX aY aZ bA bH bO bV cH cJ bX cC bY b9 cA cD cF cM cN cO cQ cW cX cY cS cT cZ dA dE dB dC dF dL dM dN dQ dZ eA eE eF eG eH eK eN eO eZ fA fB fC fD fE fI fJ fK fL fM fN fX fY fZ gC gF gG gH gI iF iG iH iI iJ iK iL iM iN iO iP iQ iR iS iT iV iW iX iY iZ jA jB jC jD jE jH jI jJ jK jL jM jO jQ lS lT lU lV lW lX lY lZ mA mB mC pG pH pI pJ:Value),
  ∃H2 u2,aK k (aM prog (lvl prog cR m) (aK m) Lb) (Lj (lvl prog cR m) (aK m)) [x0,x1,x2,(.int .u16 joined),a4,x5,x6,x7,x8,x9,(.Q rb 0),(.Q pb 0),aS,aP,aQ,aO,(.I (i*n:Nat)),(.I (i:Nat)),aR,bJ,bM,bT,bN,bP,aU,aV,aW,aX,aY,aZ,bA,bH,bO,bV,cH,cJ,bX,cC,bY,b9,cA,cD,cF,cM,cN,cO,cQ,cW,cX,cY,cS,cT,cZ,dA,dE,dB,dC,dF,dL,dM,dN,dQ,dZ,eA,eE,eF,eG,eH,eK,eN,eO,eZ,fA,fB,fC,fD,fE,fI,fJ,fK,fL,fM,fN,fX,fY,fZ,gC,gF,gG,gH,gI,iF,iG,iH,iI,iJ,iK,iL,iM,iN,iO,iP,iQ,iR,iS,iT,iV,iW,iX,iY,iZ,jA,jB,jC,jD,jE,jH,jI,jJ,jK,jL,jM,jO,jQ,lS,lT,lU,lV,lW,lX,lY,lZ,mA,mB,mC,pG,pH,pI,pJ] H1=some (u2,H2)/\Made H0 p H2 u2:=by
 intro q;induction q with
 |zero=>
  intro i k H1 nv1 hr hi hk hM hR hnew;intros;obtain⟨k,rfl⟩:=aB k U
  obtain rfl:n=i:=U
  have e:decide (((n:Nat):Int)<(n:Nat))=false:=by simp
  have l0:=eP hM.hb 0 _ rfl;rw[hpn] at l0;rw[dG,Wj];simp only[gsR,l0,e];rw[aG9];exact aIk hM hR (λH2 g2 g3 g4 g5=>⟨ev,wv,nv1,rfl,g2,g3,g4,by rw[hpx];exact g5⟩) ..
 |succ q ih=>
  intro i k H1 nv1 hr hi hk hM hR hnew;intros;obtain⟨k,rfl⟩:=aB k U
  have e:decide ((i:Int)<(n:Nat))=true:=aRU U
  have e3:=aA (i:=i) U
  have l0:=eP hM.hb 0 _ rfl;rw[hpn] at l0;rw[dG,Wj];simp only[gsR,l0,e];have hz0:i*n=i*n+0:=rfl;rw[hz0];refine aIl (H0:=H1) (b:=pb) (rb:=rb) (v:=i) (zs:=zs) (next:=next) (Q:=Made H0 p) hn6 U (hnx.ext hM.ext) hu8 hnl hpn hM.hr hM.hb ?_ n 0 m H1 (.slice none 0 0) U U U (Fr.gR _ _) (Rw.kL (el:=inC)) (New.mN _) ..
  intro H2 u x2 hu hun;intros;have hM2:=hM.aId x2;obtain⟨us,hi1,hap⟩:=hR;have hi:RowsI H2 nv1 ((List.range i).map (wJ n next)) us:=hi1.Xk (λb hb=>x2.2 b (hi1.row.gM hb) id) λu hu b hb=>x2.2 b (hi1.Xl hu hb) id
  have l10:=eP hM2.hb 10 _ rfl;obtain⟨s1,s2⟩:=Rw.tW hu;have s3:u.cells= #[u]:=Array.toList_inj.mp s1;obtain⟨su,rfl⟩: ∃su:SV,su.1=u:=⟨⟨u,s2,s3⟩,rfl⟩;have hb1:=Vi 27 (.slice none 0 0) su.1 s2 s3 H2;obtain⟨nv2,H3,H4,g1,g2,g3,g4,g5,g6,g7⟩:=Ce (by':=24) Cf F7 aC (j:=10) (H0:=H0) su hM2.hb (by simp[plC]) hi.row hnew hM.lp hM2.ext (gX (n:=1000) aC (by have:=hi.len;rw[aRo,aRE] at this;omega))
  have g1':app 27 1 24 nv1 (.slice (some ⟨H2.length,0,none⟩) 1 1) (H2++[.cells [su.1] 27 .row])=some (nv2,H3):=g1;have hb4:H4[pb]? =some (plB p ev wv nv2):=g6;have e5:IntKind.i64.wrap ((i:Int)+1)=((i+1:Nat):Int):=e3;unfold Lf;simp only[gsR,l10,hb1,g1',g2,cU,e5];have kI: ∀(w:Value)(xs:List Int),Iw H2 w xs->Iw H4 w xs:=λw xs hw=>Rw.zY hw g7 hM2.hb aC
  refine ih (i+1) k H4 nv2 U U U ⟨g5,hb4,g7 _ _ hM.ne (λcs hh=>by cases hh) hM2.hr,Rw.zY hM2.e g7 hM2.hb aC,hM.en,kI _ _ hM2.w,hM.wn,hM.ne,hM.lp,hM.lr,hM.zl⟩ ⟨us++[su],⟨g3,?_,?_,?_⟩,?_⟩ g4 ..
  ·rw[aRm,hi.len]
   simp
  ·intro j w xs hw hxs
   rw[aRJ,List.map_append] at hxs;by_cases hj:j<us.length
   ·rw[aRd hj] at hw
    rw[aRd (by rw[<-hi.len];exact hj)] at hxs
    exact kI _ _ (hi.el j w xs hw hxs)
   ·rw[aRu U] at hw
    rw[aRu (by rw[<-hi.len];omega),<-hi.len] at hxs
    by_cases h0:j-us.length=0
    ·rw[h0] at hw hxs
     cases hw;cases hxs;exact kI _ _ hu
    ·rw[aRl (by simp;omega)] at hw
     cases hw
  ·intro j j' w w' hjj hw hw' bb hb1' hb2'
   by_cases hj':j'<us.length
   ·rw[aRd hj'] at hw'
    rw[aRd U] at hw
    exact hi.ap j j' w w' hjj hw hw' bb hb1' hb2'
   ·rw[aRu U] at hw'
    by_cases h0:j'-us.length=0
    ·rw[h0] at hw'
     cases hw';rw[aRd U] at hw
     have h1:=hi1.Xl (aRk hw) hb1';have h2:=hun bb hb2';omega
    ·rw[aRl (by simp;omega)] at hw'
     cases hw'
  ·intro w hw bb hb1'
   rcases List.mem_append.mp hw with hw|hw
   ·exact hap w hw bb hb1'
   ·have:w=su:=by simpa using hw
    subst this;have h1:=hun bb hb1';have h3:=hM.ext.1
    exact⟨λhb2'=>by have h2:=hM.w.gM hb2';omega,by omega⟩
theorem Xn (a b:Nat): ∀(L:List (Nat×Nat))(bit:Nat),oN bit (L++[(a,b)])=oN bit L++(if bit/2 ^ L.length%2=1 then [((a:Int),(b:Int))] else [])
 |[],bit=>by
  simp only[List.nil_append,oN,List.length_nil,Nat.pow_zero,Nat.div_one]
 |(c,d)::L,bit=>by
  have ih:=Xn a b L (bit/2);have hp:bit/2/2 ^ L.length=bit/2 ^ (L.length+1):=by rw[Nat.div_div_eq_div_mul,Nat.pow_succ,Nat.mul_comm]
  rw[hp] at ih;simp only[List.cons_append,oN,aRw,ih];by_cases h:bit%2=1
  ·rw[if_pos h,if_pos h];rfl
  ·rw[if_neg h,if_neg h]
theorem L3: ∀(L:List (Nat×Nat))(bit:Nat),(oN bit L).length<=L.length
 |[],_=>aRf _
 |(c,d)::L,bit=>by
  have ih:=L3 L (bit/2);unfold oN;split
  ·simp only[aRw];omega
  ·simp only[aRw];omega
theorem Fy (n:Nat):prs (n+1)=prs n++(List.range n).map λa=>(a,n):=by
 unfold prs;rw[aRJ,List.flatMap_append];simp
theorem Xm: ∀n,(prs n).length<=n*n
 |0=>by simp[prs]
 |n+1=>by
  have:=Xm n;rw[Fy,aRm,aRo,aRE];have e:(n+1)*(n+1)=n*n+n+n+1:=by rw[Nat.succ_mul,Nat.mul_succ];omega
  omega
theorem aIg (bit k:Nat):bit/2 ^ k/2=bit/2 ^ (k+1):=by rw[Nat.div_div_eq_div_mul,Nat.pow_succ]
theorem aIh {H0:aE}{pb rb B joined:Nat}{a4:Value}{zs:List Value}{Wt:List Int}(hB:B<=6)(hj:joined<65536){Q:aE->Value->Prop}{K:Ex->K (Value×aE)}
  (hK: ∀(H':aE)(ev':Value),MS H0 H' pb rb zs p ev' wv nv (oN joined (prs (B+1))) Wt-> ∀(x0 x1 x2 x5 x6 x7 x8 x9 aS aO bB bI aR bJ bM bT bN bP aU aV aW aX aY aZ bA bH bO bV cH cJ bX cC bY b9 cA cD cF cM cN cO cQ cW cX cY cS cT cZ dA dE dB dC dF dL dM dN dQ dZ eA eE eF eG eH eK eN eO eZ fA fB fC fD fE fI fJ fK fL fM fN fX fY fZ gC gF gG gH gI iF iG iH iI iJ iK iL iM iN iO iP iQ iR iS iT iV iW iX iY iZ jA jB jC jD jE jH jI jJ jK jL jM jO jQ lS lT lU lV lW lX lY lZ mA mB mC pG pH pI pJ:Value),∃H2 u2,K .normal [x0,x1,x2,(.int .u16 joined),a4,x5,x6,x7,x8,x9,(.pointer (some ⟨rb,0,none⟩)),(.pointer (some ⟨pb,0,none⟩)),aS,(.int .u16 (joined/2 ^ (prs (B+1)).length:Nat)),(.int .i64 (IntKind.i64.wrap ((B:Int)+1))),aO,bB,bI,aR,bJ,bM,bT,bN,bP,aU,aV,aW,aX,aY,aZ,bA,bH,bO,bV,cH,cJ,bX,cC,bY,b9,cA,cD,cF,cM,cN,cO,cQ,cW,cX,cY,cS,cT,cZ,dA,dE,dB,dC,dF,dL,dM,dN,dQ,dZ,eA,eE,eF,eG,eH,eK,eN,eO,eZ,fA,fB,fC,fD,fE,fI,fJ,fK,fL,fM,fN,fX,fY,fZ,gC,gF,gG,gH,gI,iF,iG,iH,iI,iJ,iK,iL,iM,iN,iO,iP,iQ,iR,iS,iT,iV,iW,iX,iY,iZ,jA,jB,jC,jD,jE,jH,jI,jJ,jK,jL,jM,jO,jQ,lS,lT,lU,lV,lW,lX,lY,lZ,mA,mB,mC,pG,pH,pI,pJ] H'=some (u2,H2)/\Q H2 u2): ∀(q i k:Nat)(H1:aE)(ev1:Value),B-i=q->i<=B->q<k->MS H0 H1 pb rb zs p ev1 wv nv (oN joined (prs B++(List.range i).map λa=>(a,B))) Wt-> ∀(x0 x1 x2 x5 x6 x7 x8 x9 aS bB bI aR bJ bM bT bN bP aU aV aW aX aY aZ bA bH bO bV cH cJ bX cC bY b9 cA cD cF cM cN cO cQ cW cX cY cS cT cZ dA dE dB dC dF dL dM dN dQ dZ eA eE eF eG eH eK eN eO eZ fA fB fC fD fE fI fJ fK fL fM fN fX fY fZ gC gF gG gH gI iF iG iH iI iJ iK iL iM iN iO iP iQ iR iS iT iV iW iX iY iZ jA jB jC jD jE jH jI jJ jK jL jM jO jQ lS lT lU lV lW lX lY lZ mA mB mC pG pH pI pJ:Value),
  ∃H2 u2,aK k (aM prog (lvl prog cR m) (aK m) La) (Li (lvl prog cR m) (aK m) K) [x0,x1,x2,(.int .u16 joined),a4,x5,x6,x7,x8,x9,(.Q rb 0),(.Q pb 0),aS,(.int .u16 (joined/2 ^ ((prs B).length+i):Nat)),(.I (B:Nat)),(.I (i:Nat)),bB,bI,aR,bJ,bM,bT,bN,bP,aU,aV,aW,aX,aY,aZ,bA,bH,bO,bV,cH,cJ,bX,cC,bY,b9,cA,cD,cF,cM,cN,cO,cQ,cW,cX,cY,cS,cT,cZ,dA,dE,dB,dC,dF,dL,dM,dN,dQ,dZ,eA,eE,eF,eG,eH,eK,eN,eO,eZ,fA,fB,fC,fD,fE,fI,fJ,fK,fL,fM,fN,fX,fY,fZ,gC,gF,gG,gH,gI,iF,iG,iH,iI,iJ,iK,iL,iM,iN,iO,iP,iQ,iR,iS,iT,iV,iW,iX,iY,iZ,jA,jB,jC,jD,jE,jH,jI,jJ,jK,jL,jM,jO,jQ,lS,lT,lU,lV,lW,lX,lY,lZ,mA,mB,mC,pG,pH,pI,pJ] H1=some (u2,H2)/\Q H2 u2:=by
 intro q;induction q with
 |zero=>
  intro i k H1 ev1 hr hi hk hM;intros;obtain⟨k,rfl⟩:=aB k U
  obtain rfl:B=i:=U
  have e:decide (((B:Nat):Int)<(B:Nat))=false:=by simp
  rw[<-Fy] at hM;have hl:(prs B).length+B=(prs (B+1)).length:=by rw[Fy,aRm,aRo,aRE]
  rw[hl];rw[dG,Wi];simp only[gsR,e];rw[aG8];simp only[gsR,cU];exact hK H1 ev1 hM ..
 |succ q ih=>
  intro i k H1 ev1 hr hi hk hM;intros;obtain⟨k,rfl⟩:=aB k U
  have e:decide ((i:Int)<(B:Nat))=true:=aRU U
  have e3:=aA (i:=i) U
  have hpl:=Xm B;have hpl2:B*B<=36:=Nat.mul_le_mul hB hB;have hbit:joined/2 ^ ((prs B).length+i)<65536:=Nat.lt_of_le_of_lt (Nat.div_le_self _ _) hj;have r2:=aIp (joined/2 ^ ((prs B).length+i)) 2 2 rfl U
  have q2:=aIo (joined/2 ^ ((prs B).length+i)) 2 2 rfl U hbit
  rw[aIg,Nat.add_assoc] at q2;have l1:=eP hM.hb 1 _ rfl;have hlen:(prs B++(List.range i).map λa=>(a,B)).length=(prs B).length+i:=by rw[aRm,aRo,aRE]
  have hsn:=Xn i B (prs B++(List.range i).map λa=>(a,B)) joined
  rw[hlen] at hsn;have hap:prs B++(List.range (i+1)).map (λa=>(a,B))=(prs B++(List.range i).map λa=>(a,B))++[(i,B)]:=by rw[aRJ,List.map_append,aRh];rfl
  have hsl:=L3 (prs B++(List.range i).map λa=>(a,B)) joined
  rw[hlen] at hsl;rw[dG,Wi];by_cases c:joined/2 ^ ((prs B).length+i)%2=1
  ·have d:(((joined/2 ^ ((prs B).length+i)%2:Nat):Int)==1)=true:=by rw[c];rfl
   rw[if_pos c] at hsn;obtain⟨ev2,H3,H4,g1,g2,g3,g4,g5,g6,g7⟩:=Ce (by':=16) p8 yA aC (j:=1) (H0:=H0) ((i:Int),(B:Int)) hM.hb (by simp[plC]) hM.e hM.en hM.lp hM.ext (gX (n:=1000) aC U)
   have hb4:H4[pb]? =some (plB p ev2 wv nv):=g6;simp only[gsR,e,r2,d,l1,bEd,aIf,g1,g2,q2,cU,e3];exact ih (i+1) k H4 ev2 U U U ⟨g5,hb4,g7 _ _ hM.ne (λcs hh=>by cases hh) hM.hr,by rw[hap,hsn];exact g3,g4,Rw.zY hM.w g7 hM.hb aC,hM.wn,hM.ne,hM.lp,hM.lr,hM.zl⟩ ..
  ·have d:(((joined/2 ^ ((prs B).length+i)%2:Nat):Int)==1)=false:=beq_eq_false_iff_ne.mpr (λh=>c (Int.ofNat.inj h))
   rw[if_neg c,List.append_nil] at hsn;simp only[gsR,e,r2,d,q2,cU,e3];exact ih (i+1) k H1 ev1 U U U (by rw[hap,hsn];exact hM) ..
theorem aIi {H0:aE}{pb rb n joined:Nat}{a4:Value}{next:List Nat}{zs:List Value}(hn6:n<=6)(hnx:Us H0 a4 next)(hu8: ∀x∈next,x<256)(hnl:next.length<=72057594037927936)(hpn:p.nodes=(n:Int))(hm:50<m)(hj:joined<65536)(hpx:p.next=(List.range n).map (wJ n next))(hpe:p.edges=oN joined (prs n))(hn1:1<=n): ∀(q i k:Nat)(H1:aE)(ev1:Value),n-i=q->i<=n->q<k->1<=i->MS H0 H1 pb rb zs p ev1 wv (.slice none 0 0) (oN joined (prs i)) p.weights-> ∀(x0 x1 x2 x5 x6 x7 x8 x9 aS aO bB bI aR bJ bM bT bN bP aU aV aW aX aY aZ bA bH bO bV cH cJ bX cC bY b9 cA cD cF cM cN cO cQ cW cX cY cS cT cZ dA dE dB dC dF dL dM dN dQ dZ eA eE eF eG eH eK eN eO eZ fA fB fC fD fE fI fJ fK fL fM fN fX fY fZ gC gF gG gH gI iF iG iH iI iJ iK iL iM iN iO iP iQ iR iS iT iV iW iX iY iZ jA jB jC jD jE jH jI jJ jK jL jM jO jQ lS lT lU lV lW lX lY lZ mA mB mC pG pH pI pJ:Value),
  ∃H2 u2,aK k (aM prog (lvl prog cR m) (aK m) K9) (Lh (lvl prog cR m) (aK m)) [x0,x1,x2,(.int .u16 joined),a4,x5,x6,x7,x8,x9,(.Q rb 0),(.Q pb 0),aS,(.int .u16 (joined/2 ^ (prs i).length:Nat)),(.I (i:Nat)),aO,bB,bI,aR,bJ,bM,bT,bN,bP,aU,aV,aW,aX,aY,aZ,bA,bH,bO,bV,cH,cJ,bX,cC,bY,b9,cA,cD,cF,cM,cN,cO,cQ,cW,cX,cY,cS,cT,cZ,dA,dE,dB,dC,dF,dL,dM,dN,dQ,dZ,eA,eE,eF,eG,eH,eK,eN,eO,eZ,fA,fB,fC,fD,fE,fI,fJ,fK,fL,fM,fN,fX,fY,fZ,gC,gF,gG,gH,gI,iF,iG,iH,iI,iJ,iK,iL,iM,iN,iO,iP,iQ,iR,iS,iT,iV,iW,iX,iY,iZ,jA,jB,jC,jD,jE,jH,jI,jJ,jK,jL,jM,jO,jQ,lS,lT,lU,lV,lW,lX,lY,lZ,mA,mB,mC,pG,pH,pI,pJ] H1=some (u2,H2)/\Made H0 p H2 u2:=by
 intro q;induction q with
 |zero=>
  intro i k H1 ev1 hr hi hk h1i hM;intros;obtain⟨k,rfl⟩:=aB k U
  obtain rfl:n=i:=U
  have e:decide (((n:Nat):Int)<(n:Nat))=false:=by simp
  have l0:=eP hM.hb 0 _ rfl;rw[hpn] at l0;rw[<-hpe] at hM;rw[dG,Wh];simp only[gsR,l0,e];rw[aG7];have:=aIm (m:=m) (pb:=pb) (rb:=rb) (zs:=zs) (wv:=wv) (ev:=ev1) (joined:=joined) hn6 hnx hu8 hnl hpn hm hpx n 0 m H1 (.slice none 0 0) U U U hM ⟨[],⟨Rw.kL,rfl,λj u xs h=>by simp at h,λj j' u u' _ h=>by simp at h⟩,λu hu=>by cases hu⟩ (New.mN _)
  rw[Nat.zero_mul] at this;exact this ..
 |succ q ih=>
  intro i k H1 ev1 hr hi hk h1i hM;intros;obtain⟨k,rfl⟩:=aB k U
  have e:decide ((i:Int)<(n:Nat))=true:=aRU U
  have e3:=aA (i:=i) U
  have l0:=eP hM.hb 0 _ rfl;rw[hpn] at l0;rw[dG,Wh];simp only[gsR,l0,e];refine aIh (H0:=H0) (pb:=pb) (rb:=rb) (B:=i) (joined:=joined) (zs:=zs) (wv:=wv) (Wt:=p.weights) (Q:=Made H0 p) U hj ?_ i 0 m H1 ev1 U U U (by simpa using hM) ..
  intro H2 ev2 hM2;intros;rw[again_normal,e3];exact ih (i+1) k H2 ev2 U U U U hM2 ..
theorem aIn {H0:aE}{pb rb n joined:Nat}{a4:Value}{next:List Nat}{zs:List Value}(hn6:n<=6)(hnx:Us H0 a4 next)(hu8: ∀x∈next,x<256)(hnl:next.length<=72057594037927936)(hpn:p.nodes=(n:Int))(hm:50<m){more:Nat}(hmore:more<256)(hj:joined<65536)(hpx:p.next=(List.range n).map (wJ n next))(hpe:p.edges=oN joined (prs n))(hpw:p.weights=(List.range (1+more%3)).map (mkW more))(hpl:p.lanes=((1+more%3:Nat):Int))(hn1:1<=n): ∀(q i k:Nat)(H1:aE)(wv1:Value),(1+more%3)-i=q->i<=(1+more%3)->q<k->MS H0 H1 pb rb zs p (.slice none 0 0) wv1 (.slice none 0 0) [] ((List.range i).map (mkW more))-> ∀(x0 x1 x5 x6 x7 x8 x9 aP aQ aO bB bI aR bJ bM bT bN bP aU aV aW aX aY aZ bA bH bO bV cH cJ bX cC bY b9 cA cD cF cM cN cO cQ cW cX cY cS cT cZ dA dE dB dC dF dL dM dN dQ dZ eA eE eF eG eH eK eN eO eZ fA fB fC fD fE fI fJ fK fL fM fN fX fY fZ gC gF gG gH gI iF iG iH iI iJ iK iL iM iN iO iP iQ iR iS iT iV iW iX iY iZ jA jB jC jD jE jH jI jJ jK jL jM jO jQ lS lT lU lV lW lX lY lZ mA mB mC pG pH pI pJ:Value),
  ∃H2 u2,aK k (aM prog (lvl prog cR m) (aK m) K8) (Lg (lvl prog cR m) (aK m)) [x0,x1,(.int .u8 more),(.int .u16 joined),a4,x5,x6,x7,x8,x9,(.Q rb 0),(.Q pb 0),(.I (i:Nat)),aP,aQ,aO,bB,bI,aR,bJ,bM,bT,bN,bP,aU,aV,aW,aX,aY,aZ,bA,bH,bO,bV,cH,cJ,bX,cC,bY,b9,cA,cD,cF,cM,cN,cO,cQ,cW,cX,cY,cS,cT,cZ,dA,dE,dB,dC,dF,dL,dM,dN,dQ,dZ,eA,eE,eF,eG,eH,eK,eN,eO,eZ,fA,fB,fC,fD,fE,fI,fJ,fK,fL,fM,fN,fX,fY,fZ,gC,gF,gG,gH,gI,iF,iG,iH,iI,iJ,iK,iL,iM,iN,iO,iP,iQ,iR,iS,iT,iV,iW,iX,iY,iZ,jA,jB,jC,jD,jE,jH,jI,jJ,jK,jL,jM,jO,jQ,lS,lT,lU,lV,lW,lX,lY,lZ,mA,mB,mC,pG,pH,pI,pJ] H1=some (u2,H2)/\Made H0 p H2 u2:=by
 intro q;induction q with
 |zero=>
  intro i k H1 wv1 hr hi hk hM;intros;obtain⟨k,rfl⟩:=aB k U
  obtain rfl:(1+more%3)=i:=U
  have e:decide ((((1+more%3):Nat):Int)<((1+more%3):Nat))=false:=by simp
  have l2:=eP hM.hb 2 _ rfl;rw[hpl] at l2;rw[<-hpw] at hM;rw[dG,Wg];simp only[gsR,l2,e];rw[aG6];have:=aIi (m:=m) (pb:=pb) (rb:=rb) (zs:=zs) (wv:=wv1) (joined:=joined) hn6 hnx hu8 hnl hpn hm hj hpx hpe hn1 (n-1) 1 m H1 (.slice none 0 0) rfl hn1 U (aRf _) hM
  have hp1:joined/2 ^ (prs 1).length=joined:=by
   have:(prs 1).length=0:=rfl;rw[this,Nat.pow_zero,Nat.div_one]
  rw[hp1] at this;exact this ..
 |succ q ih=>
  intro i k H1 wv1 hr hi hk hM;intros;obtain⟨k,rfl⟩:=aB k U
  have e:decide ((i:Int)<((1+more%3):Nat))=true:=aRU U
  have e3:=aA (i:=i) U
  have l2:=eP hM.hb 2 _ rfl;rw[hpl] at l2;have l8:=eP hM.hb 8 _ rfl;have hcv:=λH=>cvU H more hmore
  have a1:IntKind.i64.wrap ((i:Int)+(more:Int))=((i+more:Nat):Int):=by rw[dJ U U];omega
  have a2:=yC (i+more) 5 5 rfl U
  have a3:IntKind.i64.wrap (1+((((i+more)%5:Nat)):Int))=mkW more i:=by unfold mkW;rw[dJ U U];omega
  obtain⟨wv2,H2,H3,g1,g2,g3,g4,g5,g6,g7⟩:=Ce (by':=8) gW o5 aC (j:=8) (H0:=H0) (mkW more i) hM.hb (by simp[plC]) hM.w hM.wn hM.lp hM.ext (gX (n:=1000) aC (by simp;omega))
  have hb3:H3[pb]? =some (plB p (.slice none 0 0) wv2 (.slice none 0 0)):=g6;rw[dG,Wg];simp only[gsR,l2,e,l8,hcv,cU,a1,a2,a3,o7,g1,g2,e3];exact ih (i+1) k H3 wv2 U U U ⟨g5,hb3,g7 _ _ hM.ne (λcs hh=>by cases hh) hM.hr,Rw.kL,New.mN _,by rw[aRJ,List.map_append];exact g3,g4,hM.ne,hM.lp,hM.lr,hM.zl⟩ ..
theorem bPl (a b c d e f g h:Int):bld prog 30 [(0,.I a),(2,.I b),(3,.I c),(4,.I d),(5,.I e),(6,.I f),(7,.I g),(9,.int .u16 h)]=some (.agg #[.I a,.slice none 0 0,.I b,.I c,.I d,.I e,.I f,.I g,.slice none 0 0,.int .u16 h,.slice none 0 0]):=by kernel_rfl
theorem aIj (nodes room more joined:Nat)(h1:nodes<256)(h2:room<256)(h3:more<256)(h4:joined<65536){a4:Value}{next:List Nat}(hnx:Us H a4 next)(hu8: ∀x∈next,x<256)(hnl:next.length<=72057594037927936)(hm:60<m):
  ∃H2 u,lvl prog cR m (.func 14) [.int .u8 nodes,.int .u8 room,.int .u8 more,.int .u16 joined,a4] H=some (u,H2)/\Made H (mkP nodes room more joined next) H2 u:=by
 obtain⟨p,hp⟩:=aD (mkP nodes room more joined next)
 rw[<-hp];obtain⟨zs,hzs⟩:=aD ([Value.int .i64 0,.slice none 0 0,.int .i64 0,.int .i64 0,.int .i64 0,.int .i64 0,.int .i64 0,.int .i64 0,.slice none 0 0,.int .u16 0,.slice none 0 0]);obtain⟨H1,hH1⟩:=aD (H++[Blk.cells zs 30 .fix]);have x1:Ext H H1:=by rw[hH1];exact Fr.app _ _ _
 have n1:=yD nodes 5 5 rfl U
 have n2:=λH=>cvU H (nodes%5) U
 have n3:IntKind.i64.wrap (2+((nodes%5:Nat):Int))=p.nodes:=by rw[dJ U U,hp];simp[mkP,mkN]
 have n4:=yD more 3 3 rfl U
 have n5:=λH=>cvU H (more%3) U
 have n6:IntKind.i64.wrap (1+((more%3:Nat):Int))=p.lanes:=by rw[dJ U U,hp];simp[mkP]
 have r1:=yD room 8 8 rfl U
 have r2:=λH=>cvU H (room%8) U
 have r3:IntKind.i64.wrap (1+((room%8:Nat):Int))=p.room:=by rw[dJ U U,hp];simp[mkP]
 have r4:=Fz room 8 8 rfl U h2
 have r5:=yD (room/8) 8 8 rfl U
 have r6:=λH=>cvU H (room/8%8) U
 have r7:IntKind.i64.wrap (1+((room/8%8:Nat):Int))=p.queue:=by rw[dJ U U,hp];simp[mkP]
 have m1:=Fz more 3 3 rfl U h3
 have m2:=yD (more/3) 4 4 rfl U
 have m3:=λH=>cvU H (more/3%4) U
 have m4:IntKind.i64.wrap (1+((more/3%4:Nat):Int))=p.rounds:=by rw[dJ U U,hp];simp[mkP]
 have m5:=Fz more 12 12 rfl U h3
 have m6:=yD (more/12) 8 8 rfl U
 have m7:=λH=>cvU H (more/12%8) U
 have m8:IntKind.i64.wrap (1+((more/12%8:Nat):Int))=p.every:=by rw[dJ U U,hp];simp[mkP]
 have b64:p.bag=64:=by rw[hp];rfl
 have bst:p.start=joined:=by rw[hp];rfl
 obtain⟨H2,hH2⟩:=aD (H1++[plB p (.slice none 0 0) (.slice none 0 0) (.slice none 0 0)]);have x2:Ext H1 H2:=by rw[hH2];exact Fr.app _ _ _
 have st:stN 11 (.Q H1.length 0) (.agg #[.I p.nodes,.slice none 0 0,.I p.lanes,.I p.room,.I p.queue,.I p.rounds,.I p.every,.I 64,.slice none 0 0,.int .u16 joined,.slice none 0 0]) (H1++[.cells zs 30 .fix])=some (undef,H2):=by
  rw[mE 11 _ _ _ rfl,eY,nX _ _ _ _ _ _ aC (by rw[hzs];simp[Value.cells]) rfl,hH2,hzs]
  simp[eS,Value.cells,plB,plC,b64,bst]
 have hr1:H1[H.length]? =some (.cells zs 30 .fix):=by rw[hH1];exact eY _ _
 have hM:MS H H2 H1.length H.length zs p (.slice none 0 0) (.slice none 0 0) (.slice none 0 0) [] ((List.range 0).map (mkW more)):=
  ⟨x1.tr x2,by rw[hH2];exact eY _ _,eU hr1 x2,Rw.kL,New.mN _,Rw.kL,New.mN _,by rw[hH1,aRm];simp,x1.1,aRf _,by rw[hzs];rfl⟩
 refine iB (gN rfl rfl) U ?_
 rw[aHb];simp only[gsR,<-hzs,<-hH1,n1,n2,cU,n3,n4,n5,n6,r1,r2,r3,r4,r5,r6,r7,m1,m2,m3,m4,m5,m6,m7,m8,bPl,st];exact aIn (m:=m-1) (n:=mkN nodes) (p:=p) (pb:=H1.length) (rb:=H.length) (zs:=zs) (by unfold mkN;omega) hnx hu8 hnl (by rw[hp];rfl) U h3 h4 (by rw[hp];rfl) (by rw[hp];rfl) (by rw[hp];rfl) (by rw[hp];rfl) (by unfold mkN;omega) (1+more%3) 0 (m-1) H2 (.slice none 0 0) U U U hM ..
end
def okE (n:Int)(e:Ed):Prop:=0<=e.1/\e.1<e.2/\e.2<n
structure VE (n:Int)(E:List Ed):Prop where
 ok: ∀e∈E,okE n e
 nd:E.Nodup
theorem Xo (n:Int): ∀(E old:List Ed),u7 n old E=true↔((∀e∈E,okE n e)/\E.Nodup/\ ∀e∈E,e∉old)
 |[],old=>by simp[u7]
 |e::E,old=>by
  have ih:=Xo n E (old++[e]);have hany:(old.any λx=>x==e)=true↔e∈old:=by
   rw[List.any_eq_true];constructor
   ·rintro ⟨x,h1,h2⟩
    have:x=e:=by simpa using h2
    exact this▸h1
   ·intro h
    exact⟨e,h,by simp⟩
  unfold u7;rw[aRi,ih,Bool.not_eq_true',Bool.or_eq_false_iff,Bool.or_eq_false_iff,Bool.or_eq_false_iff];simp only[decide_eq_false_iff_not,List.nodup_cons,aRt,List.mem_append,aRA,or_false];have hany':(old.any λx=>x==e)=false↔e∉old:=by rw[<-Bool.not_eq_true,hany]
  rw[hany'];constructor
  ·rintro ⟨⟨h1,h2,h3,h4⟩,h5,h6,h7⟩
   refine⟨?_,⟨λhh=>(h7 e hh) (.inr rfl),h6⟩,?_⟩
   ·rintro x (rfl|hx)
    ·exact⟨by omega,by omega,by omega⟩
    ·exact h5 x hx
   ·rintro x (rfl|hx)
    ·exact h4
    ·exact λhh=>h7 x hx (.inl hh)
  ·rintro ⟨h1,⟨h2,h3⟩,h4⟩
   obtain⟨a1,a2,a3⟩:=h1 e (.inl rfl);refine⟨⟨by omega,by omega,by omega,h4 e (.inl rfl)⟩,λx hx=>h1 x (.inr hx),h3,λx hx=> ?_⟩
   rintro (hh|rfl)
   ·exact h4 x (.inr hx) hh
   ·exact h2 hx
theorem Xp (n:Int)(E:List Ed):u7 n [] E=true↔VE n E:=by
 rw[Xo]
 exact⟨λh=>⟨h.1,h.2.1⟩,λh=>⟨h.ok,h.nd,λ_ _=>aRA⟩⟩
def Aa (p:Nat×Nat):Ed:=((p.1:Int),(p.2:Int))
theorem L8: ∀(L:List (Nat×Nat))(bit:Nat),(oN bit L).Sublist (L.map Aa)
 |[],_=>List.Sublist.slnil
 |(a,b)::L,bit=>by
  unfold oN;split
  ·exact(L8 L (bit/2)).cons_cons _
  ·exact(L8 L (bit/2)).cons _
theorem Xt {n a b:Nat}:(a,b)∈prs n↔a<b/\b<n:=by
 unfold prs;rw[List.mem_flatMap];constructor
 ·rintro ⟨x,h1,h2⟩
  obtain⟨y,h3,h4⟩:=aRN.mp h2;cases h4
  exact⟨aRO.mp h3,aRO.mp h1⟩
 ·rintro ⟨h1,h2⟩
  exact⟨b,aRO.mpr h2,aRN.mpr ⟨a,aRO.mpr h1,rfl⟩⟩
theorem Xu: ∀n,(prs n).Nodup
 |0=>List.Pairwise.nil
 |n+1=>by
  rw[Fy];refine List.nodup_append.mpr ⟨Xu n,?_,?_⟩
  ·exact(List.nodup_range).map (λa=>(a,n)) λa b hab h=>hab (by cases h;rfl)
  ·intro x hx y hy
   obtain⟨a,_,rfl⟩:=aRN.mp hy;obtain⟨x1,x2⟩:=x;have:=(Xt.mp hx).2;intro hh;cases hh;omega
theorem aIu {x y:Nat×Nat}(h:Aa x=Aa y):x=y:=by
 obtain⟨a,b⟩:=x;obtain⟨c,d⟩:=y;simp only[Aa,Prod.mk.injEq] at h;have h1:a=c:=U
 have h2:b=d:=U
 rw[h1,h2]
theorem aIy (bit n:Nat):VE n (oN bit (prs n)):=by
 have hs:=L8 (prs n) bit;refine⟨λe he=> ?_,(((Xu n).map Aa λa b hab h=>hab (aIu h)).sublist hs)⟩
 obtain⟨⟨a,b⟩,h1,rfl⟩:=aRN.mp (hs.subset he);obtain⟨h2,h3⟩:=Xt.mp h1;simp only[okE,Aa];omega
theorem aIx {n:Nat}(h:n<=6):(prs n).length<=15:=by
 have:n=0∨n=1∨n=2∨n=3∨n=4∨n=5∨n=6:=U
 rcases this with rfl|rfl|rfl|rfl|rfl|rfl|rfl<;>decide
theorem L6 {v w:Int}{e:Ed}:w∈qX v e↔v≠w/\(e=(v,w)∨e=(w,v)):=by
 obtain⟨a,b⟩:=e;unfold qX;simp only[Prod.mk.injEq];by_cases h1:a=b
 ·rw[if_pos h1]
  constructor
  ·intro h;cases h
  ·rintro ⟨h,⟨h2,h3⟩|⟨h2,h3⟩⟩
   ·exact absurd (h2.symm.trans (h1.trans h3)) h
   ·exact absurd (h3.symm.trans (h1.symm.trans h2)) h
 ·rw[if_neg h1]
  by_cases h2:a=v
  ·rw[if_pos h2,List.mem_singleton]
   constructor
   ·rintro rfl
    exact⟨λhh=>h1 (h2.trans hh),.inl ⟨h2,rfl⟩⟩
   ·rintro ⟨h,⟨_,h3⟩|⟨h3,h4⟩⟩
    ·exact h3.symm
    ·exact absurd (h2.symm.trans h3) h
  ·rw[if_neg h2]
   by_cases h3:b=v
   ·rw[if_pos h3,List.mem_singleton]
    constructor
    ·rintro rfl
     exact⟨λhh=>h2 hh.symm,.inr ⟨rfl,h3⟩⟩
    ·rintro ⟨h,⟨h4,_⟩|⟨h4,_⟩⟩
     ·exact absurd h4 h2
     ·exact h4.symm
   ·rw[if_neg h3]
    constructor
    ·intro h;cases h
    ·rintro ⟨h,⟨h4,_⟩|⟨_,h4⟩⟩
     ·exact absurd h4 h2
     ·exact absurd h4 h3
theorem aIt {E:List Ed}{v w:Int}:w∈oM E v↔v≠w/\((v,w)∈E∨(w,v)∈E):=by
 unfold oM;rw[List.mem_flatMap];constructor
 ·rintro ⟨e,h1,h2⟩
  obtain⟨h3,h4⟩:=L6.mp h2;rcases h4 with rfl|rfl
  ·exact⟨h3,.inl h1⟩
  ·exact⟨h3,.inr h1⟩
 ·rintro ⟨h3,h4|h4⟩
  ·exact⟨_,h4,L6.mpr ⟨h3,.inl rfl⟩⟩
  ·exact⟨_,h4,L6.mpr ⟨h3,.inr rfl⟩⟩
theorem L5 {E:List Ed}{v w:Int}:w∈bes E v↔v≠w/\((v,w)∈E∨(w,v)∈E):=by rw[L2,aIt]
theorem aIs {E:List Ed}{v w:Int}(h:w∈bes E v):v∈bes E w:=by
 rw[L5] at h⊢
 exact⟨Ne.symm h.1,h.2.symm⟩
theorem zZ {n:Int}{E:List Ed}(hE:VE n E){v w:Int}(h:w∈bes E v):0<=w/\w<n/\0<=v/\v<n:=by
 obtain⟨_,h|h⟩:=L5.mp h
 ·have:=hE.ok _ h
  simp only[okE] at this;omega
 ·have:=hE.ok _ h
  simp only[okE] at this;omega
theorem Xq (l:List Int)(hl:l.Pairwise (· < ·)): ∀(q i:Nat){j:Nat}{x:Int},i+q=l.length->i<=j->l[j]? =some x->fst (λk=>l[k]? ==some x) q i=j
 |0,i,j,x,h1,h2,h3=>by
  have:=(aRa.mp h3).1;omega
 |q+1,i,j,x,h1,h2,h3=>by
  unfold fst;by_cases hij:i=j
  ·subst hij
   rw[if_pos (by rw[h3];simp)]
  ·have hj:=(aRa.mp h3).1
   have hne: ¬(l[i]? ==some x)=true:=by
    have hx:l[i]? =some l[i]:=aRc U
    rw[hx];have hlt:l[i]<l[j]:=List.pairwise_iff_getElem.mp hl i j U hj U
    have hjx:l[j]=x:=(aRa.mp h3).2;simp;omega
   rw[if_neg hne];exact Xq l hl q (i+1) U U h3
theorem aIw {E:List Ed}{v:Int}{i:Nat}{x:Int}(h:(bes E v)[i]? =some x):zX E v x=i+1:=by
 have h1:=Xq (bes E v) (Cd E v) (bes E v).length 0 U (Nat.zero_le i) h
 unfold zX rX;rw[h1,if_neg U]
theorem L7 (nodes:Nat):2<=mkN nodes/\mkN nodes<=6:=by unfold mkN;omega
theorem aIv (nodes room more joined:Nat)(next:List Nat):VE (mkP nodes room more joined next).nodes (mkP nodes room more joined next).edges:=aIy joined (mkN nodes)
theorem Xr (nodes room more joined:Nat)(next:List Nat):(mkP nodes room more joined next).edges.length<=15:=
 aRq (L3 _ _) (aIx (L7 nodes).2)
theorem Xs (nodes room more joined:Nat)(next:List Nat):gS (mkP nodes room more joined next)=true:=by
 have hn:=L7 nodes;unfold gS;simp only[aRi,decide_eq_true_eq];refine⟨?_,by unfold yB;rw[aRi,decide_eq_true_eq];exact⟨(Xp _ _).mpr (aIv ..),by have:=Xr nodes room more joined next;omega⟩,?_,?_,?_,?_⟩
 ·unfold qW wi mkP
  simp only[aRi,decide_eq_true_eq];omega
 ·simp[mkP]
 ·unfold wOk
  simp only[mkP,aRo,aRE];rw[aRV U,aRV U]
  simp only[Bool.false_or,Bool.not_eq_true',List.any_eq_false];intro x hx;obtain⟨i,_,rfl⟩:=aRN.mp hx;unfold rW mkW;rw[aRV U,aRV U]
  simp
 ·simp[mkP]
 ·unfold wI
  simp only[Bool.not_eq_true',List.any_eq_false];intro x hx;obtain⟨i,_,rfl⟩:=aRN.mp hx;simp[wJ,mkP]
theorem Made.pv {H0 H2:aE}{nodes room more joined:Nat}{next:List Nat}{u:Value}(h:Made H0 (mkP nodes room more joined next) H2 u): ∃ev wv nv,u=plV (mkP nodes room more joined next) ev wv nv/\Ext H0 H2/\PV H2 (mkP nodes room more joined next) ev wv nv:=by
 obtain⟨ev,wv,nv,h1,h2,h3,h4,h5⟩:=h;have:=Xr nodes room more joined next
 have hn:=L7 nodes
 exact⟨ev,wv,nv,h1,h2,h3.rs,h4.rs,h5.rw.aIe,by omega,by simp[mkP];omega,by simp[mkP];omega⟩
def plZ:Blk:= .cells [Value.int .i64 0,.slice none 0 0,.int .i64 0,.int .i64 0,.int .i64 0,.int .i64 0,.int .i64 0,.int .i64 0,.slice none 0 0,.int .u16 0,.slice none 0 0] 30 .fix
theorem yE:Blk.cells [Value.int .i64 0,.slice none 0 0,.int .i64 0,.int .i64 0,.int .i64 0,.int .i64 0,.int .i64 0,.int .i64 0,.slice none 0 0,.int .u16 0,.slice none 0 0] 30 .fix=plZ:=rfl
section
variable {H : aE} {m : Nat} {p : PlanD} {ev wv nv : Value}
theorem Rs.Cj {α:Type}{el:α->List Value}{e:TypeId}{v:Value}{xs:List α}(h:Rs el e H v xs):v.cells.toList=[v]/\dX [v]=true/\veq 3 v v=true:=by
 rcases h with⟨rfl,_⟩|⟨b,o,cap,rfl,_⟩
 ·exact⟨rfl,rfl,rfl⟩
 ·exact⟨rfl,rfl,by simp[veq]⟩
theorem Rows.Xv {v:Value}{xss:List (List Int)}(h:Rows H v xss):v.cells.toList=[v]/\dX [v]=true/\veq 3 v v=true:=by
 obtain⟨us,h1,_⟩:=h;exact Rs.Cj h1
theorem PV.Ci (h:PV H p ev wv nv):dX (plC p ev wv nv)=true:=by
 have e1: ∀(v:Value)(vs:List Value),dX [v]=true->dX (v::vs)=dX vs:=λv vs h=>by
  simp only[dX,List.all_cons,List.all_nil,Bool.and_true] at h⊢;rw[h,aRx]
 simp only[plC,Ua,e1 _ _ (Rs.Cj h.e).2.1,e1 _ _ (Rs.Cj h.w).2.1,e1 _ _ (Rows.Xv h.n).2.1,Ub]
theorem PV.chk (h:PV H p ev wv nv)(H':aE):Go.Abs.chk (some (plV p ev wv nv,H')) (plV p ev wv nv)=true:=by
 have h1:=(Rs.Cj h.e).2.2;have h2:=(Rs.Cj h.w).2.2;have h3:=(Rows.Xv h.n).2.2;have hi: ∀(k:IntKind)(a:Int),veq 3 (.int k a) (.int k a)=true:=λk a=>by simp[veq]
 show veq 4 (plV p ev wv nv) (plV p ev wv nv)=true
 unfold plV plC;rw[veq];simp only[tK,hi,h1,h2,h3,Bool.and_self]
theorem F8 (h:PV H p ev wv nv)(H':aE):stN 11 (.Q H'.length 0) (plV p ev wv nv) (H'++[plZ])=some (undef,H'++[plB p ev wv nv]):=by
 have e1:(plV p ev wv nv).cells.toList=plC p ev wv nv:=rfl;rw[mE 11 _ _ _ rfl,eY,e1];unfold plZ;rw[nX _ _ _ _ _ _ aC (by simp[plC]) h.Ci]
 simp[eS,plC,plB]
theorem L9 {q q':PlanD}{ev' wv' nv' v:Value}{b j:Nat}(hb:H[b]? =some (plB q ev wv nv))(hv:v.cells.toList=[v])(ha:dX [v]=true)(hj:j<11)(hq:(plC q ev wv nv).set j v=plC q' ev' wv' nv'):stN 1 (.Q b j) v H=some (undef,H.set b (plB q' ev' wv' nv')):=by
 rw[mE 1 _ _ _ (by rw[hv];rfl),hb]
 unfold plB;rw[hv,nX _ _ _ _ _ _ aC (by simp[plC];omega) ha]
 rw[<-hq];rfl
theorem nM {H0 H1:aE}{b:Nat}{x:Blk}(he:Ext H0 H1)(hb:H0.length<=b):Ext H0 (H1.set b x):=⟨by rw[List.length_set];exact he.1,λc hc _=>by rw[aRb U,he.2 c hc id]⟩
end
section
variable {H : aE} {m : Nat} {p : PlanD} {ev wv nv : Value}
theorem aIz (H:aE):Us H (.slice none 0 0) []:= .inl ⟨rfl,rfl⟩
end
section
variable {H : aE} {m : Nat} {p : PlanD} {ev wv nv : Value}
theorem F9 {n:Nat}{E:List Ed}(hE:VE n E)(hn:n<=6){v:Nat}{x:Ed}:x∈pN E v↔x.1=v/\x.2∈bes E v:=by
 unfold pN;simp only[aRN,List.mem_filter];constructor
 ·rintro ⟨w,⟨h1,_⟩,rfl⟩
  exact⟨rfl,h1⟩
 ·rintro ⟨h1,h2⟩
  obtain⟨a,b⟩:=x;simp only at h1 h2;refine⟨b,⟨h2,?_⟩,by rw[h1]⟩
  have:=zZ hE h2;unfold wi;simp;omega
theorem Ck {n:Nat}{E:List Ed}(hE:VE n E)(hn:n<=6){x:Ed}:x∈(List.range n).flatMap (pN E)↔x.2∈bes E x.1:=by
 rw[List.mem_flatMap];constructor
 ·rintro ⟨v,_,h2⟩
  obtain⟨h3,h4⟩:=(F9 hE hn).mp h2;rw[h3];exact h4
 ·intro h
  have:=zZ hE h;have e:((x.1.toNat:Nat):Int)=x.1:=U
  refine⟨x.1.toNat,aRO.mpr U,(F9 hE hn).mpr ⟨e.symm,?_⟩⟩
  rw[e];exact h
theorem aIA {n:Nat}{E:List Ed}(hE:VE n E)(hn:n<=6):((List.range n).flatMap (pN E)).Pairwise (λa b=>a.1<b.1∨(a.1=b.1/\a.2<b.2)):=by
 rw[List.pairwise_flatMap];constructor
 ·intro v _
  unfold pN;rw[List.pairwise_map]
  exact(List.Pairwise.filter _ (Cd E v)).imp λh=> .inr ⟨rfl,h⟩
 ·refine List.pairwise_lt_range.imp λ{a b} hab x hx y hy=> ?_
  have h1:=((F9 hE hn).mp hx).1;have h2:=((F9 hE hn).mp hy).1
  left;omega
end
section
variable {H : aE} {m : Nat} {p : PlanD} {ev wv nv : Value}
theorem aIB (H:aE)(x:Ed):dR 89 2 1 [.I 0,.I 0] [(0,edV x)] H=some (.slice (some ⟨H.length,0,none⟩) 1 1,H++[.cells (edC x) 89 .row]):=rfl
end
section
variable {H : aE} {m : Nat} {p : PlanD} {ev wv nv : Value}
theorem Rs.sv {α:Type}{el:α->List Value}{e:TypeId}{v:Value}{xs:List α}(h:Rs el e H v xs):dX [v]=true/\v.cells= #[v]:=by
 rcases h with⟨rfl,_⟩|⟨b,o,cap,rfl,_⟩<;>exact⟨rfl,rfl⟩
theorem aIC {H0 H1:aE}{a u:Value}(he:Ext H0 H1)(h:ld1 a H0=some (u,H0)):ld1 a H1=some (u,H1):=by
 unfold ld1 at*;cases a with
 |pointer x=>
  cases x with
  |none=>simp at h
  |some ad=>
   obtain⟨b,o,s⟩:=ad;cases s with
   |some s=>simp at h
   |none=>
    simp only at h⊢;cases hb:H0[b]? with
    |none=>rw[hb] at h;simp at h
    |some y=>
     rw[eU hb he];rw[hb] at h;cases y with
     |cells cs e k=>
      simp only at h⊢;cases hc:cs[o]? with
      |none=>rw[hc] at h;simp at h
      |some z=>
       rw[hc] at h;simp at h;subst h;rfl
     |map=>simp at h
     |dead=>simp at h
 |_=>simp at h
end
end Go.Proofs.YtndnnndnhnlkdaaGreatDoor
noncomputable section
namespace Go.Proofs.YtndnnndnhnlkdaaGreatDoor
open Go.Proofs.Tryz
open Go.Abs Go.Abs.M
variable (O:aG)(L:LV)(k:KV)(N P Q R S T U V W X Y Z a b c d e f g i j l m n o p q r s t u v w x y z A B C D E F G H I J zz zy zx zw zv zu zt zs zr zq zp zo zn zm zl zk zj zi zh zg zf ze zd zc zb za yz yy yx yw yv yu yt ys yr yq yp yo yn ym yl yk yj yi yh yg yf ye yd yc yb ya xz xy xx xw xv xu xt xs xr xq xp xo xn xm xl xk xj xi xh xg xf xe xd xc xb xa wz wy wx ww wv wu wt ws wr wq wp wo wn wm wl wk wj wi wh wg wf we wd wc wb wa vz:Value)(h:aE)
theorem aI1:cL prog O L 5 [N,P,Q,R] h=ob (dD 30 [(.I 0),(.slice none 0 0),(.I 0),(.I 0),(.I 0),(.I 0),(.I 0),(.I 0),(.slice none 0 0),(.int .u16 0),(.slice none 0 0)] .fix h) λaa h=>ob (O (.func 14) [(.int .u8 0),P,Q,R,(.slice none 0 0)] h) λab h=>ob (O (.func 15) [N] h) λac h=>ob (O (.func 13) [ab,ac] h) λad h=>ob (aF (ext 0 ad) h) λae h=>ob (aF (ext 1 ad) h) λaf h=>ob (dD 30 [(.I 0),(.slice none 0 0),(.I 0),(.I 0),(.I 0),(.I 0),(.I 0),(.I 0),(.slice none 0 0),(.int .u16 0),(.slice none 0 0)] .fix h) λag h=>ob (stN 11 ag ae h) λah h=>ob (ldN 11 ag h) λai h=>ob (stN 11 aa ai h) λaj h=>ob (ldN 11 aa h) λw10 _=>some (aL [w10],h):=by kernel_rfl
def Mc:Code:=bU [1,1,1,1,1,1,1,1,1,1,0,1,0,0,1,0,0,1,0,1,0,0] (cE prog 13)
def Mg:KV:=(dP 4 (dY prog O L (bU [1,1,1,1,1,1,1,1,1,1,0,1,0,0,1,0,0,1,1] (cE prog 13)) (dP 3 (dY prog O L (bU [1,1,1,1,1,1,1,1,1,1,0,1,0,0,1,1] (cE prog 13)) k))))
def Md (O:aG)(L:LV) (k:KV) (a b c d e f g i j l m n o p q r s t u v w x y z A B C D E F G H I J zz zy zx zw zv zu zt zs zr zq zp zo zn zm zl zk zj zi zh zg zf ze zd zc zb za yz yy yx yw yv yu yt ys yr yq yp yo yn ym yl yk yj yi yh yg yf ye yd:Value) (h:aE):OV:=ob (aF (aJ 10 c) h) λaa h=>ob (ld1 aa h) λab h=>ob (dR 27 1 1 [(.slice none 0 0)] [(0,m)] h) λac h=>ob (app 27 1 24 ab ac h) λad h=>ob (aF (aJ 10 c) h) λae h=>ob (stN 1 ae ad h) λaf h=>ob (aF (bin prog .add 3 l (.I 1)) h) λag h=>k .normal [a,b,c,d,e,f,g,i,j,ag,m,n,o,p,q,r,s,t,u,v,w,x,y,z,A,B,C,D,E,F,G,H,I,J,zz,zy,zx,zw,zv,zu,zt,zs,zr,zq,zp,zo,zn,zm,zl,zk,zj,zi,zh,zg,zf,l,ag,zc,zb,za,yz,yy,yx,yw,yv,yu,yt,ys,yr,yq,yp,yo,yn,ym,yl,yk,aa,ab,m,ac,ad,ae,yd] h
theorem aIF:Mg O L k (.exit 4) [a,b,c,d,e,f,g,i,j,l,m,n,o,p,q,r,s,t,u,v,w,x,y,z,A,B,C,D,E,F,G,H,I,J,zz,zy,zx,zw,zv,zu,zt,zs,zr,zq,zp,zo,zn,zm,zl,zk,zj,zi,zh,zg,zf,ze,zd,zc,zb,za,yz,yy,yx,yw,yv,yu,yt,ys,yr,yq,yp,yo,yn,ym,yl,yk,yj,yi,yh,yg,yf,ye,yd] h=Md O L k a b c d e f g i j l m n o p q r s t u v w x y z A B C D E F G H I J zz zy zx zw zv zu zt zs zr zq zp zo zn zm zl zk zj zi zh zg zf ze zd zc zb za yz yy yx yw yv yu yt ys yr yq yp yo yn ym yl yk yj yi yh yg yf ye yd h:=by kernel_rfl
theorem Xy:aM prog O L Mc k [a,b,c,d,e,f,g,i,j,l,m,n,o,p,q,r,s,t,u,v,w,x,y,z,A,B,C,D,E,F,G,H,I,J,zz,zy,zx,zw,zv,zu,zt,zs,zr,zq,zp,zo,zn,zm,zl,zk,zj,zi,zh,zg,zf,ze,zd,zc,zb,za,yz,yy,yx,yw,yv,yu,yt,ys,yr,yq,yp,yo,yn,ym,yl,yk,yj,yi,yh,yg,yf,ye,yd] h=ob (aF (bin prog .lss 3 n g) h) λaa h=>aN aa (ob (aF (bin prog .neq 3 l n) h) λab h=>aN ab (ob (O (.func 40) [b,l,n] h) λac h=>ob (aF (bS 1 ac (.I 1)) h) λad h=>ob (ld1 ad h) λae h=>ob (dR 3 1 1 [(.I 0)] [(0,ae)] h) λaf h=>ob (app 3 1 8 m af h) λag h=>ob (aF (bin prog .add 3 n (.I 1)) h) λah h=>k .normal [a,b,c,d,e,f,g,i,j,l,ag,ah,ae,p,q,r,s,t,u,v,w,x,y,z,A,B,C,D,E,F,G,H,I,J,zz,zy,zx,zw,zv,zu,zt,zs,zr,zq,zp,zo,zn,zm,zl,zk,zj,zi,zh,zg,zf,ze,zd,n,g,aa,n,ah,l,l,n,ab,b,l,n,ac,ad,ae,m,ae,af,ag,yj,yi,yh,yg,yf,ye,yd] h) (ob (dR 3 1 1 [(.I 0)] [(0,l)] h) λai h=>ob (app 3 1 8 m ai h) λaj h=>ob (aF (bin prog .add 3 n (.I 1)) h) λak h=>k .normal [a,b,c,d,e,f,g,i,j,l,aj,ak,l,p,q,r,s,t,u,v,w,x,y,z,A,B,C,D,E,F,G,H,I,J,zz,zy,zx,zw,zv,zu,zt,zs,zr,zq,zp,zo,zn,zm,zl,zk,zj,zi,zh,zg,zf,ze,zd,n,g,aa,n,ak,l,l,n,ab,yt,ys,yr,yq,yp,yo,m,l,ai,aj,yj,yi,yh,yg,yf,ye,yd] h)) (k (.exit 4) [a,b,c,d,e,f,g,i,j,l,m,n,o,p,q,r,s,t,u,v,w,x,y,z,A,B,C,D,E,F,G,H,I,J,zz,zy,zx,zw,zv,zu,zt,zs,zr,zq,zp,zo,zn,zm,zl,zk,zj,zi,zh,zg,zf,ze,zd,n,g,aa,yz,yy,yx,yw,yv,yu,yt,ys,yr,yq,yp,yo,yn,ym,yl,yk,yj,yi,yh,yg,yf,ye,yd] h):=by kernel_rfl
def Mb:Code:=bU [1,1,1,1,1,1,1,1,1,1,0,1,0,0] (cE prog 13)
def Mf:KV:=(dP 2 (dY prog O L (bU [1,1,1,1,1,1,1,1,1,1,1] (cE prog 13)) (eQ prog Tryz.f13)))
theorem aIE:Mf O L (.exit 2) [a,b,c,d,e,f,g,i,j,l,m,n,o,p,q,r,s,t,u,v,w,x,y,z,A,B,C,D,E,F,G,H,I,J,zz,zy,zx,zw,zv,zu,zt,zs,zr,zq,zp,zo,zn,zm,zl,zk,zj,zi,zh,zg,zf,ze,zd,zc,zb,za,yz,yy,yx,yw,yv,yu,yt,ys,yr,yq,yp,yo,yn,ym,yl,yk,yj,yi,yh,yg,yf,ye,yd] h=ob (ldN 11 c h) λaa h=>ob (stN 11 e aa h) λab h=>ob (ldN 11 e h) λw39 _=>some (aL [w39,(.I 0)],h):=by kernel_rfl
theorem Xx:aM prog O L Mb k [a,b,c,d,e,f,g,i,j,l,m,n,o,p,q,r,s,t,u,v,w,x,y,z,A,B,C,D,E,F,G,H,I,J,zz,zy,zx,zw,zv,zu,zt,zs,zr,zq,zp,zo,zn,zm,zl,zk,zj,zi,zh,zg,zf,ze,zd,zc,zb,za,yz,yy,yx,yw,yv,yu,yt,ys,yr,yq,yp,yo,yn,ym,yl,yk,yj,yi,yh,yg,yf,ye,yd] h=ob (aF (bin prog .lss 3 l g) h) λaa h=>aN aa (L (aM prog O L Mc) (Mg O L k) [a,b,c,d,e,f,g,i,j,l,(.slice none 0 0),(.I 0),o,p,q,r,s,t,u,v,w,x,y,z,A,B,C,D,E,F,G,H,I,J,zz,zy,zx,zw,zv,zu,zt,zs,zr,zq,zp,zo,zn,zm,zl,zk,zj,zi,l,g,aa,ze,zd,zc,zb,za,yz,yy,yx,yw,yv,yu,yt,ys,yr,yq,yp,yo,yn,ym,yl,yk,yj,yi,yh,yg,yf,ye,yd] h) (k (.exit 2) [a,b,c,d,e,f,g,i,j,l,m,n,o,p,q,r,s,t,u,v,w,x,y,z,A,B,C,D,E,F,G,H,I,J,zz,zy,zx,zw,zv,zu,zt,zs,zr,zq,zp,zo,zn,zm,zl,zk,zj,zi,l,g,aa,ze,zd,zc,zb,za,yz,yy,yx,yw,yv,yu,yt,ys,yr,yq,yp,yo,yn,ym,yl,yk,yj,yi,yh,yg,yf,ye,yd] h):=by kernel_rfl
def Ma:Code:=bU [1,1,1,1,1,0,1,0,0] (cE prog 13)
def Me:KV:=(dP 0 (dY prog O L (bU [1,1,1,1,1,1] (cE prog 13)) (eQ prog Tryz.f13)))
theorem aID:Me O L (.exit 0) [a,b,c,d,e,f,g,i,j,l,m,n,o,p,q,r,s,t,u,v,w,x,y,z,A,B,C,D,E,F,G,H,I,J,zz,zy,zx,zw,zv,zu,zt,zs,zr,zq,zp,zo,zn,zm,zl,zk,zj,zi,zh,zg,zf,ze,zd,zc,zb,za,yz,yy,yx,yw,yv,yu,yt,ys,yr,yq,yp,yo,yn,ym,yl,yk,yj,yi,yh,yg,yf,ye,yd] h=ob (aF (aJ 8 c) h) λaa h=>ob (ld1 aa h) λab h=>ob (app 3 1 8 (.slice none 0 0) ab h) λac h=>ob (aF (aJ 8 c) h) λad h=>ob (stN 1 ad ac h) λae h=>ob (aF (aJ 10 c) h) λaf h=>ob (stN 1 af (.slice none 0 0) h) λag h=>L (aM prog O L Mb) (Mf O L) [a,b,c,d,e,f,g,i,ac,(.I 0),m,n,o,p,q,r,s,t,u,v,w,x,y,z,A,B,C,D,E,F,G,H,I,J,zz,zy,zx,zw,zv,zu,zt,zs,zr,zq,zp,(.slice none 0 0),aa,ab,ac,ac,ad,af,zh,zg,zf,ze,zd,zc,zb,za,yz,yy,yx,yw,yv,yu,yt,ys,yr,yq,yp,yo,yn,ym,yl,yk,yj,yi,yh,yg,yf,ye,yd] h:=by kernel_rfl
theorem Xw:aM prog O L Ma k [a,b,c,d,e,f,g,i,j,l,m,n,o,p,q,r,s,t,u,v,w,x,y,z,A,B,C,D,E,F,G,H,I,J,zz,zy,zx,zw,zv,zu,zt,zs,zr,zq,zp,zo,zn,zm,zl,zk,zj,zi,zh,zg,zf,ze,zd,zc,zb,za,yz,yy,yx,yw,yv,yu,yt,ys,yr,yq,yp,yo,yn,ym,yl,yk,yj,yi,yh,yg,yf,ye,yd] h=ob (aF (bin prog .lss 3 i g) h) λaa h=>aN aa (ob (aF (aJ 1 c) h) λab h=>ob (ld1 ab h) λac h=>ifB (true) (ob (aF (bin prog .sub 3 i (.I 1)) h) λad h=>ob (aF (bS 1 b ad) h) λae h=>ob (ld1 ae h) λaf h=>ifB (true) (ob (aF (bld prog 89 [(0,af),(1,i)]) h) λag h=>ob (dR 89 2 1 [(.I 0),(.I 0)] [(0,ag)] h) λah h=>ob (app 89 2 16 ac ah h) λai h=>ifB (true) (ob (aF (aJ 1 c) h) λaj h=>ob (stN 1 aj ai h) λak h=>ifB (true) (ob (aF (bin prog .add 3 i (.I 1)) h) λal h=>k .normal [a,b,c,d,e,f,g,al,j,l,m,n,o,p,q,r,s,t,u,v,w,x,y,z,A,B,C,D,i,g,aa,i,al,ab,ac,b,i,ad,ae,af,i,ag,ah,ai,aj,zo,zn,zm,zl,zk,zj,zi,zh,zg,zf,ze,zd,zc,zb,za,yz,yy,yx,yw,yv,yu,yt,ys,yr,yq,yp,yo,yn,ym,yl,yk,yj,yi,yh,yg,yf,ye,yd] h))))) (k (.exit 0) [a,b,c,d,e,f,g,i,j,l,m,n,o,p,q,r,s,t,u,v,w,x,y,z,A,B,C,D,i,g,aa,H,I,J,zz,zy,zx,zw,zv,zu,zt,zs,zr,zq,zp,zo,zn,zm,zl,zk,zj,zi,zh,zg,zf,ze,zd,zc,zb,za,yz,yy,yx,yw,yv,yu,yt,ys,yr,yq,yp,yo,yn,ym,yl,yk,yj,yi,yh,yg,yf,ye,yd] h):=by kernel_rfl
theorem aIG:cL prog O L 13 [N,P] h=ob (dD 30 (Value.cells N).toList .fix h) λaa h=>ob (dD 30 [(.I 0),(.slice none 0 0),(.I 0),(.I 0),(.I 0),(.I 0),(.I 0),(.I 0),(.slice none 0 0),(.int .u16 0),(.slice none 0 0)] .fix h) λab h=>ob (O (.func 39) [P] h) λac h=>ob (aF (un prog .not ac) h) λad h=>ob (gd ad false (c9 P) h) λae h=>ob (gd ad false (aF (cK ae)) h) λaf h=>ob (gd ad false (aF (bin prog .eql 3 af (.I 0))) h) λag h=>ob (aF (dO ad (.bool true) ag) h) λah h=>aN ah (ob (aF (bld prog 30 []) h) λai h=>ob (stN 11 ab ai h) λaj h=>ob (ldN 11 ab h) λw10 _=>some (aL [w10,(.I 120)],h)) (ob (aF (cK P) h) λak h=>ob (aF (bin prog .add 3 ak (.I 1)) h) λal h=>ob (aF (aJ 0 aa) h) λam h=>ob (stN 1 am al h) λan h=>ob (aF (aJ 1 aa) h) λao h=>ob (stN 1 ao (.slice none 0 0) h) λap h=>L (aM prog O L Ma) (Me O L) [N,P,aa,undef,ab,(.I 0),al,(.I 1),undef,undef,undef,undef,undef,P,ac,ad,ad,ae,af,ag,ah,undef,P,ak,al,al,am,ao,undef,undef,undef,undef,undef,undef,undef,undef,undef,undef,undef,undef,undef,undef,undef,undef,undef,undef,undef,undef,undef,undef,undef,undef,undef,undef,undef,undef,undef,undef,undef,undef,undef,undef,undef,undef,undef,undef,undef,undef,undef,undef,undef,undef,undef,undef,undef,undef,undef,undef,undef,undef,undef,undef,undef] h):=by kernel_rfl
def Mh:Code:=bU [1,1,0,1,0,0] (cE prog 15)
def Mj:KV:=(dP 0 (dY prog O L (bU [1,1,1] (cE prog 15)) (eQ prog Tryz.f15)))
def Mi (O:aG)(L:LV) (a b c d e f g i j l m n o p q r s t u v w x y z A B C D E F G H I:Value) (h:aE):OV:=ob (aF (cK d) h) λaa h=>ob (aF (bin prog .eql 3 aa (.I 0)) h) λab h=>aN ab (ob (dR 3 1 1 [(.I 0)] [(0,(.I 0))] h) λac h=>ob (app 3 1 8 d ac h) λad h=>some (aL [ad],h)) (some (aL [d],h))
theorem X0:Mj O L (.exit 0) [a,b,c,d,e,f,g,i,j,l,m,n,o,p,q,r,s,t,u,v,w,x,y,z,A,B,C,D,E,F,G,H,I] h=Mi O L a b c d e f g i j l m n o p q r s t u v w x y z A B C D E F G H I h:=by kernel_rfl
theorem Xz:aM prog O L Mh k [a,b,c,d,e,f,g,i,j,l,m,n,o,p,q,r,s,t,u,v,w,x,y,z,A,B,C,D,E,F,G,H,I] h=ob (aF (cK a) h) λaa h=>ob (aF (bin prog .lss 3 e aa) h) λab h=>ob (gd ab true (c9 e) h) λac h=>ob (gd ab true (aF (bin prog .lss 3 ac (.I 5))) h) λad h=>ob (aF (dO ab ad (.bool false)) h) λae h=>aN ae (ob (aF (bS 1 a e) h) λaf h=>ob (ld1 af h) λag h=>ob (eI prog 5 3 ag h) λah h=>ob (aF (bin prog .add 3 e (.I 1)) h) λai h=>ob (aF (bin prog .rem 3 ah ai) h) λaj h=>ob (dR 3 1 1 [(.I 0)] [(0,aj)] h) λak h=>ob (app 3 1 8 d ak h) λal h=>ob (aF (bin prog .add 3 e (.I 1)) h) λam h=>k .normal [a,b,c,al,am,e,a,aa,ab,ab,ac,ad,ae,e,am,d,a,e,af,ag,ah,e,ai,aj,ak,al,C,D,E,F,G,H,I] h) (k (.exit 0) [a,b,c,d,e,e,a,aa,ab,ab,ac,ad,ae,p,q,r,s,t,u,v,w,x,y,z,A,B,C,D,E,F,G,H,I] h):=by kernel_rfl
theorem aIH:cL prog O L 15 [N] h=L (aM prog O L Mh) (Mj O L) [N,undef,(.slice none 0 0),(.slice none 0 0),(.I 0),undef,undef,undef,undef,undef,undef,undef,undef,undef,undef,undef,undef,undef,undef,undef,undef,undef,undef,undef,undef,undef,undef,undef,undef,undef,undef,undef,undef] h:=by kernel_rfl
def Mm:Code:=bU [1,1,1,1,1,0,1,0,0] (cE prog 16)
def Gc:KV:=(dP 4 (dY prog O L (bU [1,1,1,1,1,1] (cE prog 16)) (eQ prog Tryz.f16)))
theorem aIK:Gc O L (.exit 4) [a,b,c,d,e,f,g,i,j,l,m,n,o,p,q,r,s,t,u,v,w,x,y,z,A,B,C,D,E,F,G,H,I,J,zz,zy,zx,zw,zv,zu,zt,zs,zr,zq,zp,zo,zn,zm,zl,zk,zj,zi,zh,zg,zf,ze,zd,zc,zb,za,yz,yy,yx,yw,yv,yu,yt,ys,yr,yq,yp] h=some (aL [(.int .u16 0)],h):=by kernel_rfl
theorem aIO:Gc O L .ret [a,b,c,d,e,f,g,i,j,l,m,n,o,p,q,r,s,t,u,v,w,x,y,z,A,B,C,D,E,F,G,H,I,J,zz,zy,zx,zw,zv,zu,zt,zs,zr,zq,zp,zo,zn,zm,zl,zk,zj,zi,zh,zg,zf,ze,zd,zc,zb,za,yz,yy,yx,yw,yv,yu,yt,ys,yr,yq,yp] h=some (aL [c],h):=by kernel_rfl
theorem X3:aM prog O L Mm k [a,b,c,d,e,f,g,i,j,l,m,n,o,p,q,r,s,t,u,v,w,x,y,z,A,B,C,D,E,F,G,H,I,J,zz,zy,zx,zw,zv,zu,zt,zs,zr,zq,zp,zo,zn,zm,zl,zk,zj,zi,zh,zg,zf,ze,zd,zc,zb,za,yz,yy,yx,yw,yv,yu,yt,ys,yr,yq,yp] h=ob (aF (bin prog .lss 3 zf zg) h) λaa h=>aN aa (ob (aF (aT j) h) λab h=>ob (aF (aJ 0 ab) h) λac h=>ob (ld1 ac h) λad h=>ob (aF (bS 1 ad zf) h) λae h=>ob (ld1 ae h) λaf h=>ob (aF (bin prog .eql 3 af (.I 0)) h) λag h=>ob (gd ag true (c9 j) h) λah h=>ob (gd ag true (c9 zf) h) λai h=>ob (gd ag true (O (.func 44) [ah,ai]) h) λaj h=>ob (aF (dO ag aj (.bool false)) h) λak h=>aN ak (k .ret [a,b,(.int .u16 140),d,e,f,g,i,j,zf,m,n,o,p,q,r,s,t,u,v,w,x,y,z,A,B,C,D,E,F,G,H,I,J,zz,zy,zx,zw,zv,zu,zt,zs,zr,zq,zp,zo,zn,zm,zl,zk,zj,zi,zh,zg,zf,aa,zf,j,ab,ac,ad,zf,ae,af,ag,ag,ah,ai,aj,ak,yp] h) (ob (aF (bin prog .add 3 zf (.I 1)) h) λal h=>k .normal [a,b,c,d,e,f,g,i,j,zf,m,n,o,p,q,r,s,t,u,v,w,x,y,z,A,B,C,D,E,F,G,H,I,J,zz,zy,zx,zw,zv,zu,zt,zs,zr,zq,zp,zo,zn,zm,zl,zk,zj,zi,zh,zg,al,aa,zf,j,ab,ac,ad,zf,ae,af,ag,ag,ah,ai,aj,ak,al] h)) (k (.exit 4) [a,b,c,d,e,f,g,i,j,l,m,n,o,p,q,r,s,t,u,v,w,x,y,z,A,B,C,D,E,F,G,H,I,J,zz,zy,zx,zw,zv,zu,zt,zs,zr,zq,zp,zo,zn,zm,zl,zk,zj,zi,zh,zg,zf,aa,zd,zc,zb,za,yz,yy,yx,yw,yv,yu,yt,ys,yr,yq,yp] h):=by kernel_rfl
def Ml:Code:=bU [1,1,0,1,0,0,1,1,0,0,1,1,0,0] (cE prog 16)
def Gb:KV:=(dP 2 (dP 1 (dY prog O L (bU [1,1,0,1,0,0,1,1,1] (cE prog 16)) k)))
theorem aIJ:Gb O L k (.exit 2) [a,b,c,d,e,f,g,i,j,l,m,n,o,p,q,r,s,t,u,v,w,x,y,z,A,B,C,D,E,F,G,H,I,J,zz,zy,zx,zw,zv,zu,zt,zs,zr,zq,zp,zo,zn,zm,zl,zk,zj,zi,zh,zg,zf,ze,zd,zc,zb,za,yz,yy,yx,yw,yv,yu,yt,ys,yr,yq,yp] h=ob (aF (bin prog .add 3 t (.I 1)) h) λaa h=>k .normal [a,b,c,d,e,f,g,i,j,l,m,n,o,p,q,r,s,aa,u,v,w,x,y,z,A,B,C,D,E,F,G,H,I,J,zz,aa,zx,zw,zv,zu,zt,zs,zr,zq,zp,zo,zn,zm,zl,zk,zj,zi,zh,zg,zf,ze,zd,zc,zb,za,yz,yy,yx,yw,yv,yu,yt,ys,yr,yq,yp] h:=by kernel_rfl
theorem aIN:Gb O L k .ret [a,b,c,d,e,f,g,i,j,l,m,n,o,p,q,r,s,t,u,v,w,x,y,z,A,B,C,D,E,F,G,H,I,J,zz,zy,zx,zw,zv,zu,zt,zs,zr,zq,zp,zo,zn,zm,zl,zk,zj,zi,zh,zg,zf,ze,zd,zc,zb,za,yz,yy,yx,yw,yv,yu,yt,ys,yr,yq,yp] h=k .ret [a,b,c,d,e,f,g,i,j,l,m,n,o,p,q,r,s,t,u,v,w,x,y,z,A,B,C,D,E,F,G,H,I,J,zz,zy,zx,zw,zv,zu,zt,zs,zr,zq,zp,zo,zn,zm,zl,zk,zj,zi,zh,zg,zf,ze,zd,zc,zb,za,yz,yy,yx,yw,yv,yu,yt,ys,yr,yq,yp] h:=by kernel_rfl
theorem X2:aM prog O L Ml k [a,b,c,d,e,f,g,i,j,l,m,n,o,p,q,r,s,t,u,v,w,x,y,z,A,B,C,D,E,F,G,H,I,J,zz,zy,zx,zw,zv,zu,zt,zs,zr,zq,zp,zo,zn,zm,zl,zk,zj,zi,zh,zg,zf,ze,zd,zc,zb,za,yz,yy,yx,yw,yv,yu,yt,ys,yr,yq,yp] h=ob (aF (bin prog .lss 3 y x) h) λaa h=>aN aa (ob (ldN 11 b h) λab h=>ob (O (.func 42) [ab,e,y] h) λac h=>ob (aF (ext 0 ac) h) λad h=>ob (aF (ext 1 ac) h) λae h=>ob (aF (un prog .not ae) h) λaf h=>aN af (k .ret [a,b,(.int .u16 140),d,e,y,ad,ae,j,l,m,n,o,p,q,r,s,t,u,v,w,x,y,aa,y,ac,ab,e,y,ac,ad,ae,ae,af,zz,zy,zx,zw,zv,zu,zt,zs,zr,zq,zp,zo,zn,zm,zl,zk,zj,zi,zh,zg,zf,ze,zd,zc,zb,za,yz,yy,yx,yw,yv,yu,yt,ys,yr,yq,yp] h) (ob (aF (bin prog .add 3 y (.I 1)) h) λag h=>k .normal [a,b,c,d,e,y,ad,ae,j,l,m,n,o,p,q,r,s,t,u,v,w,x,ag,aa,y,ac,ab,e,y,ac,ad,ae,ae,af,ag,zy,zx,zw,zv,zu,zt,zs,zr,zq,zp,zo,zn,zm,zl,zk,zj,zi,zh,zg,zf,ze,zd,zc,zb,za,yz,yy,yx,yw,yv,yu,yt,ys,yr,yq,yp] h)) (k (.exit 2) [a,b,c,d,e,f,g,i,j,l,m,n,o,p,q,r,s,t,u,v,w,x,y,aa,A,B,C,D,E,F,G,H,I,J,zz,zy,zx,zw,zv,zu,zt,zs,zr,zq,zp,zo,zn,zm,zl,zk,zj,zi,zh,zg,zf,ze,zd,zc,zb,za,yz,yy,yx,yw,yv,yu,yt,ys,yr,yq,yp] h):=by kernel_rfl
def Mk:Code:=bU [1,1,0,1,0,0] (cE prog 16)
def Ga:KV:=(dP 0 (dY prog O L (bU [1,1,1] (cE prog 16)) (eQ prog Tryz.f16)))
def Mn (O:aG)(L:LV) (a b c d e f g i j l m n o p q r s t u v w x y z A B C D E F G H I J zz zy zx zw zv zu zt zs zr zq zp zo zn zm zl zk zj zi zh zg zf ze zd zc zb za yz yy yx yw yv yu yt ys yr yq yp:Value) (h:aE):OV:=ob (ldN 11 b h) λaa h=>ob (O (.func 43) [aa] h) λab h=>ob (aF (bld prog 96 [(1,ab)]) h) λac h=>ob (dD 96 (Value.cells ac).toList .fix h) λad h=>ob (aF (aT ad) h) λae h=>ob (aF (aJ 1 ae) h) λaf h=>ob (ld1 af h) λag h=>ob (aF (cK ag) h) λah h=>ob (lD 3 1 8 [(.I 0)] ah ah h) λai h=>ob (aF (aT ad) h) λaj h=>ob (aF (aJ 0 aj) h) λak h=>ob (stN 1 ak ai h) λal h=>ob (aF (aT ad) h) λam h=>ob (aF (aJ 0 am) h) λan h=>ob (ld1 an h) λao h=>ob (aF (cK ao) h) λap h=>L (aM prog O L Mm) (Gc O L) [a,b,c,d,e,f,g,i,ad,l,m,n,o,p,q,r,s,t,u,v,w,x,y,z,A,B,C,D,E,F,G,H,I,J,zz,zy,aa,ab,ac,ad,ad,ad,ae,af,ag,ah,ai,aj,ak,ad,am,an,ao,ap,(.I 0),ze,zd,zc,zb,za,yz,yy,yx,yw,yv,yu,yt,ys,yr,yq,yp] h
theorem aII:Ga O L (.exit 0) [a,b,c,d,e,f,g,i,j,l,m,n,o,p,q,r,s,t,u,v,w,x,y,z,A,B,C,D,E,F,G,H,I,J,zz,zy,zx,zw,zv,zu,zt,zs,zr,zq,zp,zo,zn,zm,zl,zk,zj,zi,zh,zg,zf,ze,zd,zc,zb,za,yz,yy,yx,yw,yv,yu,yt,ys,yr,yq,yp] h=Mn O L a b c d e f g i j l m n o p q r s t u v w x y z A B C D E F G H I J zz zy zx zw zv zu zt zs zr zq zp zo zn zm zl zk zj zi zh zg zf ze zd zc zb za yz yy yx yw yv yu yt ys yr yq yp h:=by kernel_rfl
theorem aIM:Ga O L .ret [a,b,c,d,e,f,g,i,j,l,m,n,o,p,q,r,s,t,u,v,w,x,y,z,A,B,C,D,E,F,G,H,I,J,zz,zy,zx,zw,zv,zu,zt,zs,zr,zq,zp,zo,zn,zm,zl,zk,zj,zi,zh,zg,zf,ze,zd,zc,zb,za,yz,yy,yx,yw,yv,yu,yt,ys,yr,yq,yp] h=some (aL [c],h):=by kernel_rfl
theorem X1:aM prog O L Mk k [a,b,c,d,e,f,g,i,j,l,m,n,o,p,q,r,s,t,u,v,w,x,y,z,A,B,C,D,E,F,G,H,I,J,zz,zy,zx,zw,zv,zu,zt,zs,zr,zq,zp,zo,zn,zm,zl,zk,zj,zi,zh,zg,zf,ze,zd,zc,zb,za,yz,yy,yx,yw,yv,yu,yt,ys,yr,yq,yp] h=ob (aF (bin prog .lss 3 t s) h) λaa h=>aN aa (ob (aF (aJ 0 b) h) λab h=>ob (ld1 ab h) λac h=>L (aM prog O L Ml) (Gb O L k) [a,b,c,d,t,f,g,i,j,l,m,n,o,p,q,r,s,t,aa,t,ab,ac,(.I 0),z,A,B,C,D,E,F,G,H,I,J,zz,zy,zx,zw,zv,zu,zt,zs,zr,zq,zp,zo,zn,zm,zl,zk,zj,zi,zh,zg,zf,ze,zd,zc,zb,za,yz,yy,yx,yw,yv,yu,yt,ys,yr,yq,yp] h) (k (.exit 0) [a,b,c,d,e,f,g,i,j,l,m,n,o,p,q,r,s,t,aa,v,w,x,y,z,A,B,C,D,E,F,G,H,I,J,zz,zy,zx,zw,zv,zu,zt,zs,zr,zq,zp,zo,zn,zm,zl,zk,zj,zi,zh,zg,zf,ze,zd,zc,zb,za,yz,yy,yx,yw,yv,yu,yt,ys,yr,yq,yp] h):=by kernel_rfl
theorem aIL:cL prog O L 16 [N] h=ob (dD 30 (Value.cells N).toList .fix h) λaa h=>ob (ldN 11 aa h) λab h=>ob (O (.func 41) [ab] h) λac h=>ob (aF (bin prog .neq 33 ac (.int .u16 0)) h) λad h=>aN ad (some (aL [ac],h)) (ob (aF (aJ 0 aa) h) λae h=>ob (ld1 ae h) λaf h=>L (aM prog O L Mk) (Ga O L) [N,aa,(.int .u16 0),ac,undef,undef,undef,undef,undef,undef,ab,ac,ac,ad,undef,ae,af,(.I 0),undef,undef,undef,undef,undef,undef,undef,undef,undef,undef,undef,undef,undef,undef,undef,undef,undef,undef,undef,undef,undef,undef,undef,undef,undef,undef,undef,undef,undef,undef,undef,undef,undef,undef,undef,undef,undef,undef,undef,undef,undef,undef,undef,undef,undef,undef,undef,undef,undef,undef,undef,undef,undef] h):=by kernel_rfl
def Mo:Code:=bU [1,0,1,0,0] (cE prog 39)
def Gd:KV:=(dP 0 (dY prog O L (bU [1,1] (cE prog 39)) (eQ prog Tryz.f39)))
theorem aIP:Gd O L (.exit 0) [a,b,c,d,e,f,g,i,j,l,m,n,o,p,q,r,s,t,u,v,w,x,y,z,A,B] h=ob (aF (cK a) h) λaa h=>ob (aF (bin prog .leq 3 aa (.I 5)) h) λab h=>some (aL [ab],h):=by kernel_rfl
theorem X5:Gd O L .ret [a,b,c,d,e,f,g,i,j,l,m,n,o,p,q,r,s,t,u,v,w,x,y,z,A,B] h=some (aL [c],h):=by kernel_rfl
theorem X4:aM prog O L Mo k [a,b,c,d,e,f,g,i,j,l,m,n,o,p,q,r,s,t,u,v,w,x,y,z,A,B] h=ob (aF (cK a) h) λaa h=>ob (aF (bin prog .lss 3 d aa) h) λab h=>aN ab (ob (aF (bS 1 a d) h) λac h=>ob (ld1 ac h) λad h=>ob (aF (bin prog .lss 3 ad (.I 0)) h) λae h=>ob (gd ae false (c9 a) h) λaf h=>ob (gd ae false (c9 d) h) λag h=>ob (gd ae false (aF (bS 1 af ag)) h) λah h=>ob (gd ae false (ld1 ah) h) λai h=>ob (gd ae false (c9 d) h) λaj h=>ob (gd ae false (aF (bin prog .gtr 3 ai aj)) h) λak h=>ob (aF (dO ae (.bool true) ak) h) λal h=>aN al (k .ret [a,b,(.bool false),d,d,a,aa,ab,j,l,a,d,ac,ad,ae,ae,af,ag,ah,ai,aj,ak,al,z,A,B] h) (ob (aF (bin prog .add 3 d (.I 1)) h) λam h=>k .normal [a,b,c,am,d,a,aa,ab,d,am,a,d,ac,ad,ae,ae,af,ag,ah,ai,aj,ak,al,z,A,B] h)) (k (.exit 0) [a,b,c,d,d,a,aa,ab,j,l,m,n,o,p,q,r,s,t,u,v,w,x,y,z,A,B] h):=by kernel_rfl
theorem aIQ:cL prog O L 39 [N] h=L (aM prog O L Mo) (Gd O L) [N,undef,(.bool false),(.I 0),undef,undef,undef,undef,undef,undef,undef,undef,undef,undef,undef,undef,undef,undef,undef,undef,undef,undef,undef,undef,undef,undef] h:=by kernel_rfl
def Mq:Code:=bU [1,1,1,1,1,1,1,0,1,0,0] (cE prog 40)
def Mu:KV:=(dP 2 (dY prog O L (bU [1,1,1,1,1,1,1,1] (cE prog 40)) (eQ prog Tryz.f40)))
theorem aIS:Mu O L (.exit 2) [a,b,c,d,e,f,g,i,j,l,m,n,o,p,q,r,s,t,u,v,w,x,y,z,A,B,C,D,E,F,G,H,I,J,zz,zy,zx,zw,zv,zu,zt,zs,zr,zq,zp,zo,zn,zm,zl,zk,zj,zi,zh,zg,zf,ze,zd,zc,zb,za,yz,yy,yx,yw,yv,yu,yt,ys,yr,yq,yp,yo,yn,ym,yl,yk,yj,yi,yh,yg,yf,ye,yd,yc,yb,ya,xz,xy,xx,xw,xv] h=some (aL [l],h):=by kernel_rfl
theorem X6:aM prog O L Mq k [a,b,c,d,e,f,g,i,j,l,m,n,o,p,q,r,s,t,u,v,w,x,y,z,A,B,C,D,E,F,G,H,I,J,zz,zy,zx,zw,zv,zu,zt,zs,zr,zq,zp,zo,zn,zm,zl,zk,zj,zi,zh,zg,zf,ze,zd,zc,zb,za,yz,yy,yx,yw,yv,yu,yt,ys,yr,yq,yp,yo,yn,ym,yl,yk,yj,yi,yh,yg,yf,ye,yd,yc,yb,ya,xz,xy,xx,xw,xv] h=ob (aF (bin prog .geq 3 m (.I 0)) h) λaa h=>aN aa (ob (aF (bS 1 j m) h) λab h=>ob (ld1 ab h) λac h=>ob (dR 3 1 1 [(.I 0)] [(0,ac)] h) λad h=>ob (app 3 1 8 l ad h) λae h=>ob (aF (bin prog .sub 3 m (.I 1)) h) λaf h=>k .normal [a,b,c,d,e,f,g,i,j,ae,af,n,o,p,q,r,s,t,u,v,w,x,y,z,A,B,C,D,E,F,G,H,I,J,zz,zy,zx,zw,zv,zu,zt,zs,zr,zq,zp,zo,zn,zm,zl,zk,zj,zi,zh,zg,zf,ze,zd,zc,zb,za,yz,yy,yx,yw,yv,yu,yt,ys,yr,yq,yp,yo,yn,ym,yl,yk,yj,yi,yh,m,aa,m,af,l,j,m,ab,ac,ad,ae,xv] h) (k (.exit 2) [a,b,c,d,e,f,g,i,j,l,m,n,o,p,q,r,s,t,u,v,w,x,y,z,A,B,C,D,E,F,G,H,I,J,zz,zy,zx,zw,zv,zu,zt,zs,zr,zq,zp,zo,zn,zm,zl,zk,zj,zi,zh,zg,zf,ze,zd,zc,zb,za,yz,yy,yx,yw,yv,yu,yt,ys,yr,yq,yp,yo,yn,ym,yl,yk,yj,yi,yh,m,aa,ye,yd,yc,yb,ya,xz,xy,xx,xw,xv] h):=by kernel_rfl
def Mp:Code:=bU [1,1,1,1,0,0,0] (cE prog 40)
def Mt:KV:=(dP 0 (dY prog O L (bU [1,1,1,1,1] (cE prog 40)) (eQ prog Tryz.f40)))
def Mr (O:aG)(L:LV) (a b c d e f g i j l m n o p q r s t u v w x y z A B C D E F G H I J zz zy zx zw zv zu zt zs zr zq zp zo zn zm zl zk zj zi zh zg zf ze zd zc zb za yz yy yx yw yv yu yt ys yr yq yp yo yn ym yl yk yj yi yh yg yf ye yd yc yb ya xz xy xx xw xv:Value) (h:aE):OV:=ob (app 3 1 8 (.slice none 0 0) i h) λaa h=>ob (aF (cK j) h) λab h=>ob (aF (bin prog .sub 3 ab (.I 2)) h) λac h=>L (aM prog O L Mq) (Mu O L) [a,b,c,d,e,f,g,i,j,aa,ac,n,o,p,q,r,s,t,u,v,w,x,y,z,A,B,C,D,E,F,G,H,I,J,zz,zy,zx,zw,zv,zu,zt,zs,zr,zq,zp,zo,zn,zm,zl,zk,zj,zi,zh,zg,zf,ze,zd,zc,zb,za,yz,yy,yx,yw,yv,yu,yt,ys,yr,yq,yp,yo,yn,(.slice none 0 0),i,aa,j,ab,ac,yg,yf,ye,yd,yc,yb,ya,xz,xy,xx,xw,xv] h
theorem Ms:Mt O L (.exit 0) [a,b,c,d,e,f,g,i,j,l,m,n,o,p,q,r,s,t,u,v,w,x,y,z,A,B,C,D,E,F,G,H,I,J,zz,zy,zx,zw,zv,zu,zt,zs,zr,zq,zp,zo,zn,zm,zl,zk,zj,zi,zh,zg,zf,ze,zd,zc,zb,za,yz,yy,yx,yw,yv,yu,yt,ys,yr,yq,yp,yo,yn,ym,yl,yk,yj,yi,yh,yg,yf,ye,yd,yc,yb,ya,xz,xy,xx,xw,xv] h=Mr O L a b c d e f g i j l m n o p q r s t u v w x y z A B C D E F G H I J zz zy zx zw zv zu zt zs zr zq zp zo zn zm zl zk zj zi zh zg zf ze zd zc zb za yz yy yx yw yv yu yt ys yr yq yp yo yn ym yl yk yj yi yh yg yf ye yd yc yb ya xz xy xx xw xv h:=by kernel_rfl
theorem aIR:aM prog O L Mp k [a,b,c,d,e,f,g,i,j,l,m,n,o,p,q,r,s,t,u,v,w,x,y,z,A,B,C,D,E,F,G,H,I,J,zz,zy,zx,zw,zv,zu,zt,zs,zr,zq,zp,zo,zn,zm,zl,zk,zj,zi,zh,zg,zf,ze,zd,zc,zb,za,yz,yy,yx,yw,yv,yu,yt,ys,yr,yq,yp,yo,yn,ym,yl,yk,yj,yi,yh,yg,yf,ye,yd,yc,yb,ya,xz,xy,xx,xw,xv] h=ob (aF (cK i) h) λaa h=>ob (aF (bin prog .gtr 3 aa (.I 1)) h) λab h=>ob (gd ab true (c9 j) h) λac h=>ob (gd ab true (aF (cK ac)) h) λad h=>ob (gd ab true (aF (bin prog .gtr 3 ad (.I 1))) h) λae h=>ob (aF (dO ab ae (.bool false)) h) λaf h=>ob (gd af true (c9 i) h) λag h=>ob (gd af true (c9 i) h) λah h=>ob (gd af true (aF (cK ah)) h) λai h=>ob (gd af true (aF (bin prog .sub 3 ai (.I 2))) h) λaj h=>ob (gd af true (aF (bS 1 ag aj)) h) λak h=>ob (gd af true (ld1 ak) h) λal h=>ifB (true) (ob (gd af true (c9 j) h) λam h=>ob (gd af true (c9 j) h) λan h=>ob (gd af true (aF (cK an)) h) λao h=>ob (gd af true (aF (bin prog .sub 3 ao (.I 2))) h) λap h=>ob (gd af true (aF (bS 1 am ap)) h) λaq h=>ob (gd af true (ld1 aq) h) λar h=>ifB (true) (ob (gd af true (aF (bin prog .eql 3 al ar)) h) λau h=>ob (aF (dO af au (.bool false)) h) λav h=>aN av (ob (aF (cK i) h) λaw h=>ob (aF (bin prog .sub 3 aw (.I 1)) h) λax h=>ob (slc prog 1 i none (some ax) none h) λay h=>ob (aF (cK j) h) λaz h=>ob (aF (bin prog .sub 3 az (.I 1)) h) λba h=>ob (slc prog 1 j none (some ba) none h) λbb h=>k .normal [a,b,c,d,e,f,g,ay,bb,l,m,n,o,p,q,r,s,t,u,v,w,x,y,z,A,B,C,D,E,F,G,H,I,J,zz,zy,zx,zw,zv,zu,i,aa,ab,ab,ac,ad,ae,af,af,ag,ah,ai,aj,ak,al,am,an,ao,ap,aq,ar,au,av,i,i,aw,ax,ay,j,j,az,ba,bb,ym,yl,yk,yj,yi,yh,yg,yf,ye,yd,yc,yb,ya,xz,xy,xx,xw,xv] h) (k (.exit 0) [a,b,c,d,e,f,g,i,j,l,m,n,o,p,q,r,s,t,u,v,w,x,y,z,A,B,C,D,E,F,G,H,I,J,zz,zy,zx,zw,zv,zu,i,aa,ab,ab,ac,ad,ae,af,af,ag,ah,ai,aj,ak,al,am,an,ao,ap,aq,ar,au,av,yw,yv,yu,yt,ys,yr,yq,yp,yo,yn,ym,yl,yk,yj,yi,yh,yg,yf,ye,yd,yc,yb,ya,xz,xy,xx,xw,xv] h))):=by kernel_rfl
theorem aIT:cL prog O L 40 [N,P,Q] h=ob (O (.func 39) [N] h) λaa h=>ob (aF (un prog .not aa) h) λab h=>ob (gd ab false (c9 P) h) λac h=>ob (gd ab false (aF (bin prog .lss 3 ac (.I 0))) h) λad h=>ob (aF (dO ab (.bool true) ad) h) λae h=>ob (gd ae false (c9 P) h) λaf h=>ob (gd ae false (c9 N) h) λag h=>ob (gd ae false (aF (cK ag)) h) λah h=>ob (gd ae false (aF (bin prog .gtr 3 af ah)) h) λai h=>ob (aF (dO ae (.bool true) ai) h) λaj h=>ob (gd aj false (c9 Q) h) λak h=>ob (gd aj false (aF (bin prog .lss 3 ak (.I 0))) h) λal h=>ob (aF (dO aj (.bool true) al) h) λam h=>ob (gd am false (c9 Q) h) λan h=>ob (gd am false (c9 N) h) λao h=>ob (gd am false (aF (cK ao)) h) λap h=>ob (gd am false (aF (bin prog .gtr 3 an ap)) h) λaq h=>ob (aF (dO am (.bool true) aq) h) λar h=>aN ar (some (aL [(.slice none 0 0)],h)) (ob (O (.func 76) [N,P] h) λau h=>ob (O (.func 76) [N,Q] h) λav h=>L (aM prog O L Mp) (Mt O L) [N,P,Q,undef,undef,undef,(.slice none 0 0),au,av,undef,undef,N,aa,ab,ab,ac,ad,ae,ae,af,ag,ah,ai,aj,aj,ak,al,am,am,an,ao,ap,aq,ar,N,P,au,N,Q,av,undef,undef,undef,undef,undef,undef,undef,undef,undef,undef,undef,undef,undef,undef,undef,undef,undef,undef,undef,undef,undef,undef,undef,undef,undef,undef,undef,undef,undef,undef,undef,undef,undef,undef,undef,undef,undef,undef,undef,undef,undef,undef,undef,undef,undef,undef,undef,undef,undef,undef,undef] h):=by kernel_rfl
def Mw:Code:=bU [1,1,0,0,0] (cE prog 42)
def Ge:KV:=(dP 0 (dY prog O L (bU [1,1,1] (cE prog 42)) (eQ prog Tryz.f42)))
theorem aIV:Ge O L (.exit 0) [a,b,c,d,e,f,g,i,j,l,m,n,o,p,q,r,s,t,u,v,w,x,y,z,A,B,C,D,E,F,G,H,I,J,zz,zy,zx,zw,zv,zu,zt,zs] h=some (aL [j,(.bool true)],h):=by kernel_rfl
theorem X7:Ge O L .ret [a,b,c,d,e,f,g,i,j,l,m,n,o,p,q,r,s,t,u,v,w,x,y,z,A,B,C,D,E,F,G,H,I,J,zz,zy,zx,zw,zv,zu,zt,zs] h=some (aL [g,i],h):=by kernel_rfl
theorem aIU:aM prog O L Mw k [a,b,c,d,e,f,g,i,j,l,m,n,o,p,q,r,s,t,u,v,w,x,y,z,A,B,C,D,E,F,G,H,I,J,zz,zy,zx,zw,zv,zu,zt,zs] h=ob (aF (bin prog .neq 3 b c) h) λaa h=>aN aa (ob (aF (aJ 10 d) h) λab h=>ob (ld1 ab h) λac h=>ob (aF (bS 1 ac b) h) λad h=>ob (ld1 ad h) λae h=>ob (aF (bS 1 ae c) h) λaf h=>ob (ld1 af h) λag h=>ob (aF (cK j) h) λah h=>ob (aF (aJ 0 d) h) λai h=>ob (ld1 ai h) λaj h=>ob (aF (bin prog .eql 3 ah aj) h) λak h=>ob (gd ak false (ldN 11 d) h) λal h=>ob (gd ak false (c9 b) h) λam h=>ob (gd ak false (O (.func 48) [al,am]) h) λan h=>ob (gd ak false (c9 ag) h) λao h=>ob (gd ak false (O (.func 81) [an,ao]) h) λap h=>ob (gd ak false (aF (un prog .not ap)) h) λaq h=>ob (aF (dO ak (.bool true) aq) h) λar h=>aN ar (k .ret [a,b,c,d,e,f,(.slice none 0 0),(.bool false),j,ag,m,n,b,c,aa,ab,ac,b,ad,ae,c,af,ag,j,ah,ai,aj,ak,ak,al,am,an,ao,ap,aq,ar,zx,zw,zv,zu,zt,zs] h) (ob (dR 3 1 1 [(.I 0)] [(0,ag)] h) λau h=>ob (app 3 1 8 j au h) λav h=>k .normal [a,ag,c,d,e,f,g,i,av,ag,m,n,b,c,aa,ab,ac,b,ad,ae,c,af,ag,j,ah,ai,aj,ak,ak,al,am,an,ao,ap,aq,ar,j,ag,au,av,ag,zs] h)) (k (.exit 0) [a,b,c,d,e,f,g,i,j,l,m,n,b,c,aa,r,s,t,u,v,w,x,y,z,A,B,C,D,E,F,G,H,I,J,zz,zy,zx,zw,zv,zu,zt,zs] h):=by kernel_rfl
theorem aIW:cL prog O L 42 [N,P,Q] h=ob (dD 30 (Value.cells N).toList .fix h) λaa h=>ob (dR 3 1 1 [(.I 0)] [(0,P)] h) λab h=>L (aM prog O L Mw) (Ge O L) [N,P,Q,aa,undef,undef,(.slice none 0 0),(.bool false),ab,undef,P,ab,undef,undef,undef,undef,undef,undef,undef,undef,undef,undef,undef,undef,undef,undef,undef,undef,undef,undef,undef,undef,undef,undef,undef,undef,undef,undef,undef,undef,undef,undef] h:=by kernel_rfl
def Mx:Code:=bU [1,1,1,1,0,1,0,0] (cE prog 43)
def My:KV:=(dP 0 (dY prog O L (bU [1,1,1,1,1] (cE prog 43)) (eQ prog Tryz.f43)))
theorem aIX:My O L (.exit 0) [a,b,c,d,e,f,g,i,j,l,m,n,o,p,q,r,s,t,u,v,w,x,y,z,A,B,C,D,E,F,G] h=some (aL [e],h):=by kernel_rfl
theorem X9:aM prog O L Mx k [a,b,c,d,e,f,g,i,j,l,m,n,o,p,q,r,s,t,u,v,w,x,y,z,A,B,C,D,E,F,G] h=ob (aF (bin prog .lss 3 t s) h) λaa h=>aN aa (ob (aF (bS 2 r t) h) λab h=>ob (ldN 2 ab h) λac h=>ob (dD 65 [(.I 0),(.I 0)] .fix h) λad h=>ob (stN 2 ad ac h) λae h=>ob (ldN 11 b h) λaf h=>ob (ldN 2 ad h) λag h=>ob (O (.func 82) [af,ag,d] h) λah h=>ob (aF (bS 1 e t) h) λai h=>ob (stN 1 ai ah h) λaj h=>ob (aF (bin prog .add 3 t (.I 1)) h) λak h=>k .normal [a,b,c,d,e,t,ad,i,j,l,m,n,o,p,q,r,s,ak,aa,t,ab,ac,e,t,af,ag,d,ah,ai,ak,G] h) (k (.exit 0) [a,b,c,d,e,f,g,i,j,l,m,n,o,p,q,r,s,t,aa,v,w,x,y,z,A,B,C,D,E,F,G] h):=by kernel_rfl
theorem aIY:cL prog O L 43 [N] h=ob (dD 30 (Value.cells N).toList .fix h) λaa h=>ob (ldN 11 aa h) λab h=>ob (O (.func 41) [ab] h) λac h=>ob (aF (bin prog .neq 33 ac (.int .u16 0)) h) λad h=>aN ad (some (aL [(.slice none 0 0)],h)) (ob (ldN 11 aa h) λae h=>ob (O (.func 18) [ae] h) λaf h=>ob (aF (cK af) h) λag h=>ob (lD 27 1 24 [(.slice none 0 0)] ag ag h) λah h=>ob (aF (cK af) h) λai h=>L (aM prog O L Mx) (My O L) [N,aa,(.slice none 0 0),af,ah,undef,undef,ab,ac,ad,ae,af,af,ag,ah,af,ai,(.I 0),undef,undef,undef,undef,undef,undef,undef,undef,undef,undef,undef,undef,undef] h):=by kernel_rfl
def Gf:Code:=bU [1,0,1,1,0,1,0,0] (cE prog 44)
def Cl:KV:=(dP 0 (dY prog O L (bU [1,0,1,1,1] (cE prog 44)) (eQ prog Tryz.f44)))
theorem aIZ:Cl O L (.exit 0) [a,b,c,d,e,f,g,i,j,l,m,n,o,p,q,r,s,t,u,v,w,x,y,z,A,B,C,D,E,F,G,H,I,J,zz,zy,zx,zw,zv,zu,zt,zs,zr,zq,zp,zo,zn,zm,zl,zk,zj,zi,zh,zg] h=ob (aF (aT a) h) λaa h=>ob (aF (aJ 0 aa) h) λab h=>ob (ld1 ab h) λac h=>ob (aF (bS 1 ac b) h) λad h=>ob (stN 1 ad (.I 2) h) λae h=>some (aL [(.bool false)],h):=by kernel_rfl
theorem Yb:Cl O L .ret [a,b,c,d,e,f,g,i,j,l,m,n,o,p,q,r,s,t,u,v,w,x,y,z,A,B,C,D,E,F,G,H,I,J,zz,zy,zx,zw,zv,zu,zt,zs,zr,zq,zp,zo,zn,zm,zl,zk,zj,zi,zh,zg] h=some (aL [e],h):=by kernel_rfl
theorem Ya:aM prog O L Gf k [a,b,c,d,e,f,g,i,j,l,m,n,o,p,q,r,s,t,u,v,w,x,y,z,A,B,C,D,E,F,G,H,I,J,zz,zy,zx,zw,zv,zu,zt,zs,zr,zq,zp,zo,zn,zm,zl,zk,zj,zi,zh,zg] h=ob (aF (bin prog .lss 3 x w) h) λaa h=>aN aa (ob (aF (bS 1 v x) h) λab h=>ob (ld1 ab h) λac h=>ob (aF (aT a) h) λad h=>ob (aF (aJ 0 ad) h) λae h=>ob (ld1 ae h) λaf h=>ob (aF (bS 1 af ac) h) λag h=>ob (ld1 ag h) λah h=>ob (aF (bin prog .eql 3 ah (.I 1)) h) λai h=>aN ai (k .ret [a,b,c,d,(.bool true),f,ac,i,j,l,m,n,o,p,q,r,s,t,u,v,w,x,aa,ab,ac,ai,a,ad,ae,af,ac,ag,ah,ai,zz,zy,zx,zw,zv,zu,zt,zs,zr,zq,zp,zo,zn,zm,zl,zk,zj,zi,zh,zg] h) (ob (aF (aT a) h) λaj h=>ob (aF (aJ 0 aj) h) λak h=>ob (ld1 ak h) λal h=>ob (aF (bS 1 al ac) h) λam h=>ob (ld1 am h) λan h=>ob (aF (bin prog .eql 3 an (.I 2)) h) λao h=>aN ao (ob (aF (bin prog .add 3 x (.I 1)) h) λap h=>k .normal [a,b,c,d,e,f,ac,i,j,l,m,n,o,p,q,r,s,t,u,v,w,ap,aa,ab,ac,ai,a,ad,ae,af,ac,ag,ah,ai,ao,a,aj,ak,al,ac,am,an,ao,zq,zp,zo,zn,ap,zl,zk,zj,zi,zh,zg] h) (ob (O (.func 44) [a,ac] h) λaq h=>aN aq (k .ret [a,b,c,d,(.bool true),f,ac,i,j,l,m,n,o,p,q,r,s,t,u,v,w,x,aa,ab,ac,ai,a,ad,ae,af,ac,ag,ah,ai,ao,a,aj,ak,al,ac,am,an,ao,aq,a,ac,aq,zm,zl,zk,zj,zi,zh,zg] h) (ob (aF (bin prog .add 3 x (.I 1)) h) λar h=>k .normal [a,b,c,d,e,f,ac,i,j,l,m,n,o,p,q,r,s,t,u,v,w,ar,aa,ab,ac,ai,a,ad,ae,af,ac,ag,ah,ai,ao,a,aj,ak,al,ac,am,an,ao,aq,a,ac,aq,ar,zl,zk,zj,zi,zh,zg] h)))) (k (.exit 0) [a,b,c,d,e,f,g,i,j,l,m,n,o,p,q,r,s,t,u,v,w,x,aa,z,A,B,C,D,E,F,G,H,I,J,zz,zy,zx,zw,zv,zu,zt,zs,zr,zq,zp,zo,zn,zm,zl,zk,zj,zi,zh,zg] h):=by kernel_rfl
theorem aI0:cL prog O L 44 [N,P] h=ob (aF (aT N) h) λaa h=>ob (aF (aJ 0 aa) h) λab h=>ob (ld1 ab h) λac h=>ob (aF (bS 1 ac P) h) λad h=>ob (stN 1 ad (.I 1) h) λae h=>ob (aF (aT N) h) λaf h=>ob (aF (aJ 1 af) h) λag h=>ob (ld1 ag h) λah h=>ob (aF (bS 1 ah P) h) λai h=>ob (ld1 ai h) λaj h=>ob (aF (cK aj) h) λak h=>L (aM prog O L Gf) (Cl O L) [N,P,undef,undef,(.bool false),undef,undef,N,aa,ab,ac,P,ad,N,af,ag,ah,P,ai,aj,ak,(.I 0),undef,undef,undef,undef,undef,undef,undef,undef,undef,undef,undef,undef,undef,undef,undef,undef,undef,undef,undef,undef,undef,undef,undef,undef,undef,undef,undef,undef,undef,undef,undef,undef] h:=by kernel_rfl
def Mz:Code:=bU [1,1,0,0,0] (cE prog 76)
def M0:KV:=(dP 0 (dY prog O L (bU [1,1,1] (cE prog 76)) (eQ prog Tryz.f76)))
theorem Yd:M0 O L (.exit 0) [a,b,c,d,e,f,g,i,j,l,m,n,o,p,q,r,s,t,u,v] h=some (aL [f],h):=by kernel_rfl
theorem Yc:aM prog O L Mz k [a,b,c,d,e,f,g,i,j,l,m,n,o,p,q,r,s,t,u,v] h=ob (aF (bin prog .gtr 3 b (.I 0)) h) λaa h=>aN aa (ob (aF (bin prog .sub 3 b (.I 1)) h) λab h=>ob (aF (bS 1 a ab) h) λac h=>ob (ld1 ac h) λad h=>ob (dR 3 1 1 [(.I 0)] [(0,ad)] h) λae h=>ob (app 3 1 8 f ae h) λaf h=>k .normal [a,ad,c,d,e,af,g,i,b,aa,a,b,ab,ac,ad,f,ad,ae,af,v] h) (k (.exit 0) [a,b,c,d,e,f,g,i,b,aa,m,n,o,p,q,r,s,t,u,v] h):=by kernel_rfl
theorem aI2:cL prog O L 76 [N,P] h=ob (dR 3 1 1 [(.I 0)] [(0,P)] h) λaa h=>L (aM prog O L Mz) (M0 O L) [N,P,undef,undef,(.slice none 0 0),aa,P,aa,undef,undef,undef,undef,undef,undef,undef,undef,undef,undef,undef,undef] h:=by kernel_rfl
def Gg:Code:=bU [1,1,0,1,0,0] (cE prog 82)
def Gh:KV:=(dP 0 (dY prog O L (bU [1,1,1] (cE prog 82)) (eQ prog Tryz.f82)))
theorem aI3:Gh O L (.exit 0) [a,b,c,d,e,f,g,i,j,l,m,n,o,p,q,r,s,t,u,v,w,x,y,z,A,B,C,D,E,F,G,H,I,J,zz,zy,zx,zw,zv,zu,zt,zs,zr,zq,zp,zo,zn,zm,zl,zk,zj,zi,zh,zg,zf,ze,zd,zc,zb,za,yz,yy,yx,yw] h=ob (O (.func 83) [i] h) λaa h=>ob (O (.func 84) [i] h) λab h=>some (aL [ab],h):=by kernel_rfl
theorem Ye:aM prog O L Gg k [a,b,c,d,e,f,g,i,j,l,m,n,o,p,q,r,s,t,u,v,w,x,y,z,A,B,C,D,E,F,G,H,I,J,zz,zy,zx,zw,zv,zu,zt,zs,zr,zq,zp,zo,zn,zm,zl,zk,zj,zi,zh,zg,zf,ze,zd,zc,zb,za,yz,yy,yx,yw] h=ob (aF (bin prog .lss 3 o n) h) λaa h=>aN aa (ob (aF (aJ 0 e) h) λab h=>ob (ld1 ab h) λac h=>ifB (true) (ob (aF (bin prog .eql 3 o ac) h) λad h=>ob (gd ad false (c9 o) h) λae h=>ob (gd ad false (aF (aJ 1 e)) h) λaf h=>ob (gd ad false (ld1 af) h) λag h=>ifB (true) (ob (gd ad false (aF (bin prog .eql 3 ae ag)) h) λah h=>ob (aF (dO ad (.bool true) ah) h) λai h=>ob (gd ai false (aF (aJ 10 d)) h) λaj h=>ob (gd ai false (ld1 aj) h) λak h=>ifB (true) (ob (gd ai false (aF (aJ 0 e)) h) λal h=>ob (gd ai false (ld1 al) h) λam h=>ifB (true) (ob (gd ai false (aF (bS 1 ak am)) h) λan h=>ob (gd ai false (ld1 an) h) λao h=>ifB (true) (ob (gd ai false (c9 o) h) λap h=>ob (gd ai false (aF (bS 1 ao ap)) h) λaq h=>ob (gd ai false (ld1 aq) h) λar h=>ifB (true) (ob (gd ai false (aF (aJ 1 e)) h) λau h=>ob (gd ai false (ld1 au) h) λav h=>ifB (true) (ob (gd ai false (aF (bin prog .neq 3 ar av)) h) λaw h=>ob (aF (dO ai (.bool true) aw) h) λax h=>aN ax (ob (aF (bin prog .add 3 o (.I 1)) h) λay h=>k .normal [a,b,c,d,e,f,g,i,o,l,m,n,ay,aa,o,o,ab,ac,ad,ad,ae,af,ag,ah,ai,ai,aj,ak,al,am,an,ao,ap,aq,ar,au,av,aw,ax,zu,zt,zs,zr,zq,zp,zo,zn,zm,zl,zk,zj,zi,zh,zg,zf,ze,zd,zc,zb,ay,yz,yy,yx,yw] h) (ob (aF (aJ 1 e) h) λaz h=>ob (ld1 az h) λba h=>ifB (true) (ob (aF (aJ 10 d) h) λbb h=>ob (ld1 bb h) λbc h=>ifB (true) (ob (aF (aJ 1 e) h) λbd h=>ob (ld1 bd h) λbe h=>ifB (true) (ob (aF (bS 1 bc be) h) λbf h=>ob (ld1 bf h) λbg h=>ifB (true) (ob (aF (bS 1 bg o) h) λbh h=>ob (ld1 bh h) λbi h=>ifB (true) (ob (aF (bld prog 65 [(0,ba),(1,bi)]) h) λbj h=>ob (O (.func 110) [c,bj] h) λbk h=>ifB (true) (ob (aF (bin prog .geq 3 bk (.I 0)) h) λbl h=>aN bl (ob (dR 3 1 1 [(.I 0)] [(0,bk)] h) λbm h=>ob (app 3 1 8 i bm h) λbn h=>ob (aF (bin prog .add 3 o (.I 1)) h) λbo h=>k .normal [a,b,c,d,e,f,g,bn,o,bk,m,n,bo,aa,o,o,ab,ac,ad,ad,ae,af,ag,ah,ai,ai,aj,ak,al,am,an,ao,ap,aq,ar,au,av,aw,ax,c,az,ba,bb,bc,bd,be,bf,bg,o,bh,bi,bj,bk,bk,bl,i,bk,bm,bn,bo,yz,yy,yx,yw] h) (ob (aF (bin prog .add 3 o (.I 1)) h) λbp h=>k .normal [a,b,c,d,e,f,g,i,o,bk,m,n,bp,aa,o,o,ab,ac,ad,ad,ae,af,ag,ah,ai,ai,aj,ak,al,am,an,ao,ap,aq,ar,au,av,aw,ax,c,az,ba,bb,bc,bd,be,bf,bg,o,bh,bi,bj,bk,bk,bl,ze,zd,zc,zb,bp,yz,yy,yx,yw] h)))))))))))))))) (k (.exit 0) [a,b,c,d,e,f,g,i,j,l,m,n,o,aa,q,r,s,t,u,v,w,x,y,z,A,B,C,D,E,F,G,H,I,J,zz,zy,zx,zw,zv,zu,zt,zs,zr,zq,zp,zo,zn,zm,zl,zk,zj,zi,zh,zg,zf,ze,zd,zc,zb,za,yz,yy,yx,yw] h):=by kernel_rfl
theorem aI4:cL prog O L 82 [N,P,Q] h=ob (dD 30 (Value.cells N).toList .fix h) λaa h=>ob (dD 65 (Value.cells P).toList .fix h) λab h=>ob (aF (aJ 0 aa) h) λac h=>ob (ld1 ac h) λad h=>L (aM prog O L Gg) (Gh O L) [N,P,Q,aa,ab,undef,(.slice none 0 0),(.slice none 0 0),undef,undef,ac,ad,(.I 0),undef,undef,undef,undef,undef,undef,undef,undef,undef,undef,undef,undef,undef,undef,undef,undef,undef,undef,undef,undef,undef,undef,undef,undef,undef,undef,undef,undef,undef,undef,undef,undef,undef,undef,undef,undef,undef,undef,undef,undef,undef,undef,undef,undef,undef,undef,undef,undef,undef,undef,undef] h:=by kernel_rfl
end Go.Proofs.YtndnnndnhnlkdaaGreatDoor
end
namespace Go.Proofs.YtndnnndnhnlkdaaGreatDoor
open Go.Proofs.Tryz
open Go.Abs Go.Abs.M
def nx (p:PlanD)(v w:Int):Int:=(p.next.getD v.toNat []).getD w.toNat 0
def yF (p:PlanD)(w:Int):Nat->List Int->Int->Option (List Int)
 |0,_,_=>none
 |q+1,l,v=>if v=w then some l else if((l.length:Int)=p.nodes∨(oM p.edges v).contains (nx p v w)=false) then none else yF p w q (l++[nx p v w]) (nx p v w)
def pO (p:PlanD)(v w:Int):Option (List Int):=yF p w p.nodes.toNat [v] v
def wK (p:PlanD)(v w:Int):List Int:=if gS p=true/\0<=v/\v<p.nodes/\0<=w/\w<p.nodes then(pO p v w).getD [] else []
structure OkP (p:PlanD)(n:Nat):Prop where
 hn:p.nodes=(n:Int)
 h2:2<=n
 h6:n<=6
 ve:VE n p.edges
 e15:p.edges.length<=15
 nl:p.next.length=n
 rl: ∀r∈p.next,r.length=n
theorem tB {p:PlanD}(h:gS p=true): ∃n,OkP p n:=by
 unfold gS qW yB wI wi at h;simp only[aRi,decide_eq_true_eq,Bool.not_eq_true'] at h;obtain⟨⟨⟨h1,h2⟩,_⟩,⟨h3,h4⟩,_,_,h5,h6⟩:=h;have hn:p.nodes=((p.nodes.toNat:Nat):Int):=U
 refine⟨p.nodes.toNat,hn,by omega,by omega,?_,by omega,by omega,λr hr=> ?_⟩
 ·rw[<-hn];exact(Xp _ _).mp h3
 ·rw[List.any_eq_false] at h6
  have:=h6 r hr;simp only[decide_eq_true_eq,ne_eq,Decidable.not_not] at this;omega
theorem aI5 {E:List Ed}{v x:Int}:(bes E v).contains x=(oM E v).contains x:=by
 rw[Bool.eq_iff_iff,List.contains_iff_mem,List.contains_iff_mem,L2]
section
variable {H : aE} {m : Nat} {p : PlanD} {ev wv nv : Value}
theorem aI7 (xs:List Int)(w:Int):decide (0<=rX xs w)=xs.contains w:=by
 unfold rX;rw[Fp,Cb xs (λx=>x==w) _ (λi x hx=>by rw[hx];rfl)]
 rw[Bool.eq_iff_iff,List.any_eq_true,List.contains_iff_mem];constructor
 ·rintro ⟨x,h1,h2⟩
  have:x=w:=by simpa using h2
  exact this▸h1
 ·exact λh=>⟨w,h,by simp⟩
theorem aI6 {v:Value}{xs:List Int}(hx:Is H v xs)(w:Int)(hn:xs.length+20<m)(hm:m<=72057594037927936):lvl prog cR m (.func 81) [v,.I w] H=some (.bool (xs.contains w),H):=by
 have g:=Xh hx w (m:=m-1) U U
 refine dH (gN rfl rfl) U ?_
 rw[aHs];simp only[gsR,g,aI7]
theorem M1 {n:Nat}(hk:OkP p n)(hp:PV H p ev wv nv){v w:Int}(hv:0<=v/\v<n)(hw:0<=w/\w<n): ∃a u a2,bS 1 nv (.I v)=some a/\ld1 a H=some (u,H)/\bS 1 u (.I w)=some a2/\ld1 a2 H=some (.I (nx p v w),H):=by
 have ev':v=((v.toNat:Nat):Int):=U
 have ew':w=((w.toNat:Nat):Int):=U
 have h1:=hk.nl;obtain⟨r,hr⟩: ∃r,p.next[v.toNat]? =some r:=⟨_,aRc U⟩
 have h2:=hk.rl r (aRk hr);obtain⟨x,hx⟩: ∃x,r[w.toNat]? =some x:=⟨_,aRc U⟩
 obtain⟨a,u,g1,g2,g3⟩:=hp.n.Fo hr .i64;obtain⟨b,o,g4,_,g6⟩:=g3.fV gW hx .i64;rw[<-ev'] at g1;rw[<-ew'] at g4;have e:nx p v w=x:=by
  unfold nx;simp only[aRe,hr,hx,aRD]
 rw[e]
 exact⟨a,u,_,g1,g2,g4,(g6 H rfl).2.1 0 _ rfl⟩
def Yf (H0:aE)(o:Option (List Int))(H':aE)(u:Value):Prop:=Ext H0 H'/\ ∃lv,u= .tuple #[lv,.bool o.isSome]/\Iw H' lv (o.getD [])/\New H0 lv
theorem aI9 {n:Nat}(hk:OkP p n){H0:aE}{a:Nat}{w:Int}(hw:0<=w/\w<n)(hp:PV H0 p ev wv nv)(hb:H0[a]? =some (plB p ev wv nv))(hm:200<m)(hm2:m<=72057594037927936):
  ∀(q k:Nat)(H1:aE)(u:Value)(l:List Int)(v:Int),q+l.length=n+1->l.length<=n->q<k->0<=v/\v<n->Ext H0 H1->Iw H1 u l->New H0 u-> ∀(x0 x4 x5 x6 x7 x9 bQ cG aS aP aQ aO bB bI aR bJ bM bT bN bP aU aV aW aX aY aZ bA bH bO bV cH cJ bX cC bY b9 cA cD:Value),
  ∃H' r,aK k (aM prog (lvl prog cR m) (aK m) Mw) (Ge (lvl prog cR m) (aK m)) [x0,(.I v),(.I w),(.Q a 0),x4,x5,x6,x7,u,x9,bQ,cG,aS,aP,aQ,aO,bB,bI,aR,bJ,bM,bT,bN,bP,aU,aV,aW,aX,aY,aZ,bA,bH,bO,bV,cH,cJ,bX,cC,bY,b9,cA,cD] H1=some (r,H')/\Yf H0 (yF p w q l v) H' r:=by
 intro q;have h6:=hk.h6;have h15:=hk.e15;induction q with
 |zero=>intro k H1 u l v h1 h2;omega
 |succ q ih=>
  intro k H1 u l v hql hln hk2 hv he hu hnew;intros;obtain⟨k,rfl⟩:=aB k U
  rw[dG,aIU];unfold yF;by_cases hvw:v=w
  ·have d:(v !=w)=false:=by simp[hvw]
   rw[if_pos hvw];simp only[gsR,d];rw[aIV]
   exact⟨H1,_,rfl,he,u,rfl,hu,hnew⟩
  ·have d:(v !=w)=true:=by simp[hvw]
   rw[if_neg hvw];have b1:=eU hb he;have p1:=hp.ext he;have l10:=eP b1 10 _ rfl;have l0:=eP b1 0 _ rfl;rw[hk.hn] at l0;obtain⟨a1,u1,a2,g1,g2,g3,g4⟩:=M1 hk p1 hv hw;have hlen:=hu.qT;obtain⟨x,hx⟩:=aD (nx p v w);rw[<-hx] at g4⊢;by_cases hl:l.length=n
   ·have dl:((l.length:Int)==(n:Int))=true:=by simp[hl]
    rw[if_pos (.inl (by rw[hk.hn];omega))]
    simp only[gsR,d,l10,g1,g2,g3,g4,hlen,l0,dl];rw[X7]
    exact⟨H1,_,rfl,he,.slice none 0 0,rfl,Rw.kL,New.mN _⟩
   ·have dl:((l.length:Int)==(n:Int))=false:=by simp;omega
    have l11:=kE b1;obtain⟨H2,ub,g5,x2,q2,_⟩:=Cc p1 (m:=m) U U v
    have hbl:=Fu p.edges v;have g6:=aI6 q2.rs x (m:=m) U U
    rw[aI5] at g6;cases hc:(oM p.edges v).contains x with
    |false=>
     rw[hc] at g6;rw[if_pos (.inr rfl)];simp only[gsR,d,l10,g1,g2,g3,g4,hlen,l0,dl,l11,g5,g6];rw[X7]
     exact⟨H2,_,rfl,he.tr x2,.slice none 0 0,rfl,Rw.kL,New.mN _⟩
    |true=>
     rw[hc] at g6;rw[if_neg (by rw[hk.hn];rintro (h|h);omega;cases h)]
     have hxin:=zZ hk.ve (L2 _ _ _ |>.mpr (List.contains_iff_mem.mp hc));have hu2:Iw H2 u l:=hu.eX λb hb=>x2.2 b (hu.gM hb) id
     obtain⟨u2,H3,t1,t2,t3,t4⟩:=hu2.rU (by':=8) gW o5 aC x hnew (he.tr x2) (gX (n:=1000000) aC U)
     simp only[gsR,d,l10,g1,g2,g3,g4,hlen,l0,dl,l11,g5,g6,o7,t1];exact ih k H3 u2 (l++[x]) x (by simp;omega) (by simp;omega) U ⟨hxin.1,hxin.2.1⟩ t4 t2 t3 ..
theorem aI8 {n:Nat}(hk:OkP p n)(hp:PV H p ev wv nv){v w:Int}(hv:0<=v/\v<n)(hw:0<=w/\w<n)(hm:300<m)(hm2:m<=72057594037927936):
  ∃H' r,lvl prog cR m (.func 42) [plV p ev wv nv,.I v,.I w] H=some (r,H')/\Yf H (pO p v w) H' r:=by
 obtain⟨H0,hH0⟩:=aD (H++[plB p ev wv nv]);have x0:Ext H H0:=by rw[hH0];exact Fr.app _ _ _
 have b0:H0[H.length]? =some (plB p ev wv nv):=by rw[hH0];exact eY _ _
 have h6:=hk.h6;have h2:=hk.h2;have one:Iw (H0++[.cells (inC v) 3 .row]) (.slice (some ⟨H0.length,0,none⟩) 1 1) [v]:=⟨rfl,.inr ⟨_,1,[],rfl,by simp,rfl,by simp⟩⟩
 have hnew:New H0 (.slice (some ⟨H0.length,0,none⟩) 1 1):=λb ⟨_,_,_,hh⟩=>by cases hh;exact aRf _
 have x1:Ext H0 (H0++[Blk.cells (inC v) 3 .row]):=Fr.app _ _ _;refine iB (gN rfl rfl) U ?_
 rw[aIW];simp only[gsR,k9,<-hH0,o7];have hq:p.nodes.toNat=n:=by rw[hk.hn];rfl
 unfold pO;rw[hq];have:=aI9 hk hw (hp.ext x0) b0 (m:=m-1) U U n (m-1) _ _ [v] v (by simp) (by simp;omega) U hv x1 one hnew
 refine Exists.imp (λH' h=>Exists.imp (λr h=>⟨h.1,x0.tr h.2.1,?_⟩) h) (this ..)
 obtain⟨lv,e1,e2,e3⟩:=h.2.2
 exact⟨lv,e1,e2,λb hb=>aRq x0.1 (e3 b hb)⟩
end
def Gj (p:PlanD)(a b:Ed)(w:Nat):Bool:=a.2==b.1&&((w:Int)!=a.2&&((w:Int)!=a.1&&(nx p a.1 w==a.2&&nx p a.2 w==b.2)))
def wt (p:PlanD)(n:Nat)(a b:Ed):Bool:=(List.range n).any (Gj p a b)
def oG (p:PlanD)(n:Nat)(hs:List Ed)(a:Ed):List Int:=((List.range hs.length).filter λk=>wt p n a (hs.getD k (0,0))).map (λk:Nat=>(k:Int))
def mO (p:PlanD):List (List Int):=if gS p=true then(dK p).map (oG p p.nodes.toNat (dK p)) else []
def qY (hs:List Ed)(y:Ed):Int:=fst (λj=>hs[j]? ==some y) hs.length 0
def nN (p:PlanD)(hs:List Ed)(h:Ed)(w:Nat):List Int:=
 if(w:Int)=h.1∨(w:Int)=h.2∨nx p h.1 w≠h.2 then [] else if 0<=qY hs (h.2,nx p h.2 w) then [qY hs (h.2,nx p h.2 w)] else []
def Gi (p:PlanD)(n:Nat)(hs:List Ed)(h:Ed):List Int:=(List.range n).flatMap (nN p hs h)
theorem Yi (p:Nat->Bool): ∀q i,0<=fst p q i->p (fst p q i).toNat=true
 |0,i=>by simp[fst]
 |q+1,i=>by
  unfold fst;split
  ·rename_i h
   intro _;simpa using h
  ·exact Yi p q (i+1)
theorem Yk {hs:List Ed}(hn:hs.Nodup)(y:Ed)(k:Nat):qY hs y=k↔hs[k]? =some y:=by
 have key:0<=qY hs y->hs[(qY hs y).toNat]? =some y:=λh=>by
  unfold qY at h⊢;have:=Yi _ _ _ h;simpa using this
 constructor
 ·intro h
  have:=key U
  rw[h] at this;simpa using this
 ·intro h
  have hk:=(aRa.mp h).1;have h0:0<=qY hs y:=(Ly _ _ _).mpr ⟨k,by omega,by omega,by rw[h];simp⟩
  have h1:=key h0;have hk1:=(aRa.mp h1).1;have:=(List.getElem_inj (h₀:=hk1) (h₁:=hk) hn).mp (by
   rw[(aRa.mp h1).2,(aRa.mp h).2])
  omega
theorem aJc (p:PlanD)(hs:List Ed)(h:Ed)(w:Nat):(nN p hs h w).length<=1:=by
 unfold nN;split
 ·simp
 ·split<;>simp
theorem M3 (p:PlanD)(hs:List Ed)(h:Ed): ∀i,((List.range i).flatMap (nN p hs h)).length<=i
 |0=>by simp
 |i+1=>by
  have:=M3 p hs h i;have:=aJc p hs h i;rw[aRJ,List.flatMap_append];simp only[aRm,List.flatMap_cons,List.flatMap_nil,List.append_nil];omega
theorem Ym {p:PlanD}{n:Nat}{hs:List Ed}{a:Ed}{z:Int}:z∈oG p n hs a↔ ∃k b,z=(k:Nat)/\hs[k]? =some b/\wt p n a b=true:=by
 unfold oG;simp only[aRN,List.mem_filter,aRO];constructor
 ·rintro ⟨k,⟨h1,h2⟩,rfl⟩
  exact⟨k,hs[k],rfl,aRc h1,by rwa [aRe,aRc h1,aRD] at h2⟩
 ·rintro ⟨k,b,rfl,h1,h2⟩
  refine⟨k,⟨(aRa.mp h1).1,?_⟩,rfl⟩;rwa [aRe,h1,aRD]
theorem aJm (p:PlanD)(n:Nat)(hs:List Ed)(a:Ed):(oG p n hs a).Pairwise (· < ·):=by
 unfold oG;rw[List.pairwise_map]
 exact(List.Pairwise.filter _ List.pairwise_lt_range).imp λh=>by omega
theorem aJl (z:Int)(l:List Int):z∈srt l↔z∈l:=(Bt l).mem_iff
theorem aJd {p:PlanD}{n:Nat}{hs:List Ed}(hn:hs.Nodup)(a:Ed):dd (srt (Gi p n hs a))=oG p n hs a:=by
 refine Xj _ _ (L0 _ (Eu _)) (aJm p n hs a) λz=> ?_
 rw[Fv,aJl,Ym];unfold Gi wt;simp only[List.mem_flatMap,aRO,List.any_eq_true];constructor
 ·rintro ⟨w,hw,hz⟩
  unfold nN at hz
  split at hz
  ·simp at hz
  ·rename_i hc
   split at hz
   ·rename_i h0
    simp only[List.mem_singleton] at hz;have e:qY hs (a.2,nx p a.2 w)=((qY hs (a.2,nx p a.2 w)).toNat:Nat):=U
    refine⟨_,_,by rw[hz];exact e,(Yk hn _ _).mp e,w,hw,?_⟩
    unfold Gj;simp only[aRi,bne_iff_ne,beq_iff_eq];refine⟨trivial,?_,?_,?_,trivial⟩<;>omega
   ·simp at hz
 ·rintro ⟨k,b,rfl,hk,w,hw,hz⟩
  unfold Gj at hz;simp only[aRi,bne_iff_ne,beq_iff_eq] at hz;obtain⟨h1,h2,h3,h4,h5⟩:=hz;refine⟨w,hw,?_⟩;unfold nN;rw[if_neg U]
  have:(a.2,nx p a.2 w)=b:=by rw[h5,h1]
  rw[this,(Yk hn b k).mpr hk,if_pos U]
  simp
theorem wL {p:PlanD}{n:Nat}(hk:OkP p n):(dK p).Nodup/\dK p=(List.range n).flatMap (pN p.edges):=by
 have hN:mY p=n:=by have:=hk.h6;unfold mY;rw[hk.hn];omega
 have hho:dK p=(List.range n).flatMap (pN p.edges):=by unfold dK;rw[hN]
 refine⟨?_,hho⟩;rw[hho]
 exact(aIA hk.ve hk.h6).imp λh hh=>by subst hh;omega
theorem aJg {p:PlanD}{n:Nat}(hk:OkP p n){h:Ed}(hh:h∈dK p):0<=h.1/\h.1<n/\0<=h.2/\h.2<n:=by
 rw[(wL hk).2] at hh;have:=zZ hk.ve ((Ck hk.ve hk.h6).mp hh);omega
section
variable {H : aE} {m : Nat} {p : PlanD} {ev wv nv : Value}
def hpB (h:Ed):Blk:= .cells (edC h) 65 .fix
theorem Yj (h:Ed):Blk.cells (edV h).cells.toList 65 .fix=hpB h:=rfl
theorem aJj {b:Nat}{h:Ed}(hb:H[b]? =some (hpB h)):ld1 (.Q b 0) H=some (.I h.1,H):=Bk hb rfl
theorem aJk {b:Nat}{h:Ed}(hb:H[b]? =some (hpB h)):ld1 (.Q b 1) H=some (.I h.2,H):=Bk hb rfl
theorem Yl {b:Nat}{h:Ed}(hb:H[b]? =some (hpB h)):ldN 2 (.Q b 0) H=some (edV h,H):=by
 rw[tA,hb];unfold hpB;rw[tQ _ _ _ _ _ (by simp[edC])]
 rfl
theorem Yh (a b:Ed):bin prog .eql 65 (edV a) (edV b)=some (.bool (a==b)):=by
 have k:rH prog 65=some [true,true]:=by kernel_rfl
 obtain⟨a1,a2⟩:=a;obtain⟨b1,b2⟩:=b;simp[bin,edV,eD,nG,k,eqT,edC];rfl
theorem aJi {v:Value}{xs:List Ed}{a:Nat}{y:Ed}(hx:Hs H v xs)(ha:H[a]? =some (hpB y))(hn:xs.length<=72057594037927936): ∀(q i k:Nat),xs.length-i=q->i<=xs.length->q<k-> ∀(x1 x2 x4 x5 x6 x9 bQ cG aS aP aQ aO bB bI aR:Value),
  aK k (aM prog (lvl prog cR m) (aK m) K5) (Fg (lvl prog cR m) (aK m)) [v,x1,x2,(.pointer (some ⟨a,0,none⟩)),x4,x5,x6,(.int .i64 xs.length),(.int .i64 (i:Nat)),x9,bQ,cG,aS,aP,aQ,aO,bB,bI,aR] H=some (.int .i64 (fst (λj=>xs[j]? ==some y) q i),H):=by
 intro q;have la:=Yl ha;induction q with
 |zero=>
  intro i k hr hi hk;intros;obtain⟨k,rfl⟩:=aB k U
  obtain rfl:i=xs.length:=U
  have e:decide ((xs.length:Int)<xs.length)=false:=by simp
  rw[dG,Wd];simp only[gsR,e];rw[aGX];rfl
 |succ q ih=>
  intro i k hr hi hk;intros;obtain⟨k,rfl⟩:=aB k U
  have e:decide ((i:Int)<xs.length)=true:=by simp;omega
  have e3:=aA (i:=i) U
  have hxi:xs[i]? =some xs[i]:=aRc U
  obtain⟨b,o,g1,g2,g3⟩:=hx.fV p8 hxi .i64;have l1:ldN 2 (.Q b o) H=some (edV xs[i],H):=(g3 H rfl).1;rw[dG,Wd];unfold fst;by_cases h:y=xs[i]
  ·have d:(y==xs[i])=true:=by rw[h];simp
   have d2:(xs[i]? ==some y)=true:=by rw[hxi,h];simp
   simp only[gsR,e,la,g1,l1,Yh,d];rw[aGZ,if_pos d2];rfl
  ·have d:(y==xs[i])=false:=by simpa using h
   have d2: ¬(xs[i]? ==some y)=true:=by rw[hxi];simpa using λhh=>h hh.symm
   simp only[gsR,e,la,g1,l1,Yh,d,cU,e3];rw[if_neg d2];exact ih (i+1) k U U U ..
theorem aJh {v:Value}{xs:List Ed}(hx:Hs H v xs)(y:Ed)(hn:xs.length+10<m)(hm:m<=72057594037927936): ∃H',lvl prog cR m (.func 110) [v,edV y] H=some (.I (qY xs y),H')/\Ext H H':=by
 have x2:Ext H (H++[hpB y]):=Fr.app _ _ _;have hlen:=hx.jX;refine⟨H++[hpB y],dH (gN rfl rfl) U ?_,x2⟩
 rw[aGY];simp only[gsR,Yj,hlen];exact aJi (hx.ext x2) (eY H _) U xs.length 0 (m-1) U U U ..
theorem aJf {n:Nat}(hk:OkP p n){H0:aE}{a hb:Nat}{h:Ed}{u:Value}{hs:List Ed}(hh:0<=h.1/\h.1<n/\0<=h.2/\h.2<n)(hp:PV H0 p ev wv nv)(hb0:H0[a]? =some (plB p ev wv nv))(hhb:H0[hb]? =some (hpB h))(hu:Hs H0 u hs)(hsl:hs.length<=100)(hm:300<m)(hm2:m<=72057594037927936):
  ∀(q i k:Nat)(H1:aE)(acc:Value),n-i=q->i<=n->q<k->Ext H0 H1->Iw H1 acc ((List.range i).flatMap (nN p hs h))->New H0 acc-> ∀(x0 x1 x5 x6 x8 x9 bQ aP aQ aO bB bI aR bJ bM bT bN bP aU aV aW aX aY aZ bA bH bO bV cH cJ bX cC bY b9 cA cD cF cM cN cO cQ cW cX cY cS cT cZ dA dE dB dC dF dL dM dN dQ dZ eA:Value),
  ∃H' r,aK k (aM prog (lvl prog cR m) (aK m) Gg) (Gh (lvl prog cR m) (aK m)) [x0,x1,u,(.Q a 0),(.Q hb 0),x5,x6,acc,x8,x9,bQ,(.I n),(.I (i:Nat)),aP,aQ,aO,bB,bI,aR,bJ,bM,bT,bN,bP,aU,aV,aW,aX,aY,aZ,bA,bH,bO,bV,cH,cJ,bX,cC,bY,b9,cA,cD,cF,cM,cN,cO,cQ,cW,cX,cY,cS,cT,cZ,dA,dE,dB,dC,dF,dL,dM,dN,dQ,dZ,eA] H1=some (r,H')/\Ext H0 H'/\Iw H' r (dd (srt (Gi p n hs h)))/\New H0 r:=by
 intro q;have h6:=hk.h6;induction q with
 |zero=>
  intro i k H1 acc hr hi hk2 he ha hnew;intros;obtain⟨k,rfl⟩:=aB k U
  obtain rfl:i=n:=U
  have e:decide ((i:Int)<(i:Int))=false:=by simp
  have hal:=M3 p hs h i;obtain⟨H2,g1,g2,g3⟩:=Vn ha U hnew he
  have g1':=Wv m U [acc] H1
  rw[g1] at g1';have hsl:=rT ((List.range i).flatMap (nN p hs h));obtain⟨H3,r,q1,q2,q3,q4⟩:=W8 (m:=m) g2 hnew g3 U U
  refine⟨H3,r,?_,q2,q3,q4⟩;rw[dG,Ye];simp only[gsR,e];rw[aI3];simp only[gsR,g1',q1]
 |succ q ih=>
  intro i k H1 acc hr hi hk2 he ha hnew;intros;obtain⟨k,rfl⟩:=aB k U
  have e:decide ((i:Int)<(n:Int))=true:=aRU U
  have e3:=aA (i:=i) U
  have hb1:=eU hhb he;have h0:=aJj hb1;have h1:=aJk hb1;have bp:=eU hb0 he;have l10:=eP bp 10 _ rfl;have p1:=hp.ext he;have hran:(List.range (i+1)).flatMap (nN p hs h)=(List.range i).flatMap (nN p hs h)++nN p hs h i:=by
   rw[aRJ,List.flatMap_append];simp
  have hal:=M3 p hs h i;have skip:nN p hs h i=[]-> ∀(x0 x1 x5 x6 x8 x9 bQ aP aQ aO bB bI aR bJ bM bT bN bP aU aV aW aX aY aZ bA bH bO bV cH cJ bX cC bY b9 cA cD cF cM cN cO cQ cW cX cY cS cT cZ dA dE dB dC dF dL dM dN dQ dZ eA:Value),∃H' r,aK k (aM prog (lvl prog cR m) (aK m) Gg) (Gh (lvl prog cR m) (aK m)) [x0,x1,u,(.Q a 0),(.Q hb 0),x5,x6,acc,x8,x9,bQ,(.I n),(.I (i+1:Nat)),aP,aQ,aO,bB,bI,aR,bJ,bM,bT,bN,bP,aU,aV,aW,aX,aY,aZ,bA,bH,bO,bV,cH,cJ,bX,cC,bY,b9,cA,cD,cF,cM,cN,cO,cQ,cW,cX,cY,cS,cT,cZ,dA,dE,dB,dC,dF,dL,dM,dN,dQ,dZ,eA] H1=some (r,H')/\Ext H0 H'/\Iw H' r (dd (srt (Gi p n hs h)))/\New H0 r:=by
   intro h0;exact ih (i+1) k H1 acc U U U he (by rw[hran,h0,List.append_nil];exact ha) hnew
  rw[dG,Ye];cases c1:((i:Int)==h.1) with
  |true=>
   simp only[gsR,e,h0,c1,cU,e3];exact skip (by unfold nN;rw[if_pos (.inl (by simpa using c1))]) ..
  |false=>
   cases c2:((i:Int)==h.2) with
   |true=>
    simp only[gsR,e,h0,h1,c1,c2,cU,e3];exact skip (by unfold nN;rw[if_pos (.inr (.inl (by simpa using c2)))]) ..
   |false=>
    obtain⟨a1,u1,a2,g1,g2,g3,g4⟩:=M1 hk p1 (v:=h.1) (w:=i) U U
    cases c3:(nx p h.1 i !=h.2) with
    |true=>
     simp only[gsR,e,h0,h1,c1,c2,l10,g1,g2,g3,g4,c3,cU,e3];exact skip (by unfold nN;rw[if_pos (.inr (.inr (by simpa using c3)))]) ..
    |false=>
     obtain⟨a3,u3,a4,k1,k2,k3,k4⟩:=M1 hk p1 (v:=h.2) (w:=i) U U
     have bh:bld prog 65 [(0,.I h.2),(1,.I (nx p h.2 i))]=some (edV (h.2,nx p h.2 i)):=Xd _ _;obtain⟨H2,x1,x2⟩:=aJh (hu.ext he) (h.2,nx p h.2 i) (m:=m) U U
     have hnot: ¬((i:Int)=h.1∨(i:Int)=h.2∨nx p h.1 i≠h.2):=by
      have c1': ¬(i:Int)=h.1:=by simpa using c1
      have c2': ¬(i:Int)=h.2:=by simpa using c2
      have c3':nx p h.1 i=h.2:=by simpa using c3
      rintro (hx|hx|hx)
      ·exact c1' hx
      ·exact c2' hx
      ·exact hx c3'
     have ha2:Iw H2 acc ((List.range i).flatMap (nN p hs h)):=ha.eX λb hb=>x2.2 b (ha.gM hb) id
     cases c4:decide (0<=qY hs (h.2,nx p h.2 i)) with
     |true=>
      obtain⟨acc2,H3,t1,t2,t3,t4⟩:=ha2.rU (by':=8) gW o5 aC (qY hs (h.2,nx p h.2 i)) hnew (he.tr x2) (gX (n:=1000000) aC U)
      simp only[gsR,e,h0,h1,c1,c2,l10,g1,g2,g3,g4,c3,k1,k2,k3,k4,bh,x1,c4,o7,t1,cU,e3];refine ih (i+1) k H3 acc2 U U U t4 ?_ t3 ..
      have:nN p hs h i=[qY hs (h.2,nx p h.2 i)]:=by unfold nN;rw[if_neg hnot,if_pos (of_decide_eq_true c4)]
      rw[hran,this];exact t2
     |false=>
      simp only[gsR,e,h0,h1,c1,c2,l10,g1,g2,g3,g4,c3,k1,k2,k3,k4,bh,x1,c4,cU,e3];refine ih (i+1) k H2 acc U U U (he.tr x2) ?_ hnew ..
      have:nN p hs h i=[]:=by unfold nN;rw[if_neg hnot,if_neg (of_decide_eq_false c4)]
      rw[hran,this,List.append_nil];exact ha2
theorem aJe {n:Nat}(hk:OkP p n){h:Ed}{u:Value}{hs:List Ed}(hh:0<=h.1/\h.1<n/\0<=h.2/\h.2<n)(hp:PV H p ev wv nv)(hu:Hs H u hs)(hsl:hs.length<=100)(hnd:hs.Nodup)(hm:400<m)(hm2:m<=72057594037927936):
  ∃H' r,lvl prog cR m (.func 82) [plV p ev wv nv,edV h,u] H=some (r,H')/\Ext H H'/\Iw H' r (oG p n hs h)/\New H r:=by
 obtain⟨H0,hH0⟩:=aD (H++[plB p ev wv nv]);have x0:Ext H H0:=by rw[hH0];exact Fr.app _ _ _
 have b0:H0[H.length]? =some (plB p ev wv nv):=by rw[hH0];exact eY _ _
 obtain⟨H1,hH1⟩:=aD (H0++[hpB h]);have x1:Ext H0 H1:=by rw[hH1];exact Fr.app _ _ _
 have b1:H1[H0.length]? =some (hpB h):=by rw[hH1];exact eY _ _
 have l0:=eP (eU b0 x1) 0 _ rfl;rw[hk.hn] at l0;have x01:=x0.tr x1;have h6:=hk.h6;refine iB (gN rfl rfl) U ?_
 rw[aI4];simp only[gsR,k9,<-hH0,Yj,<-hH1,l0];rw[<-aJd hnd];exact Exists.imp (λH' h=>Exists.imp (λr h=>⟨h.1,x01.tr h.2.1,h.2.2.1,λb hb=>aRq x01.1 (h.2.2.2 b hb)⟩) h) (aJf hk hh (hp.ext x01) (eU b0 x1) b1 (hu.ext x01) hsl (m:=m-1) U U n 0 (m-1) H1 (.slice none 0 0) U U U (Fr.gR _ _) Rw.kL (New.mN _) ..)
structure WR (H:aE)(us:List SV)(xss:List (List Int)):Prop where
 len:us.length=xss.length
 row: ∀(j:Nat)(s:SV)(xs:List Int),us[j]? =some s->xss[j]? =some xs->Iw H s.1 xs
theorem WR.Cm {us:List SV}{xss:List (List Int)}{H':aE}(h:WR H us xss)(hk: ∀(b:Nat)(cs:List Value),H[b]? =some (.cells cs 3 .row)->H'[b]? =H[b]?):WR H' us xss:=
 ⟨h.len,λj s xs h1 h2=>(h.row j s xs h1 h2).eX λb hb=>by
  obtain⟨cs,hc⟩:=(h.row j s xs h1 h2).blk hb;exact hk b cs hc⟩
theorem WR.Yg {us:List SV}{xss:List (List Int)}{s:SV}{xs:List Int}(h:WR H us xss)(hs:Iw H s.1 xs):WR H (us++[s]) (xss++[xs]):=by
 refine⟨by simp[h.len],λj s' xs' h1 h2=> ?_⟩
 by_cases hj:j<us.length
 ·rw[aRd hj] at h1
  rw[aRd (by have:=h.len;omega)] at h2
  exact h.row j s' xs' h1 h2
 ·have hj2:j=us.length:=by
   have:=(aRa.mp h1).1;simp at this;omega
  subst hj2;simp at h1;rw[h.len] at h2;simp at h2;subst h1 h2;exact hs
theorem WR.M2 {us:List SV}{xss:List (List Int)}{v:Value}(h:WR H us xss)(hv:Rs sC 27 H v us):Rows H v xss:=by
 refine⟨us.map (·.1),?_,by simp[h.len],λj u xs h1 h2=> ?_⟩
 ·rcases hv with⟨h1,h2⟩|⟨b,o,cap,h1,h2,h3⟩
  ·exact .inl ⟨h1,by rw[h2];rfl⟩
  ·refine .inr ⟨b,o,cap,by rw[aRo];exact h1,by rw[aRo];exact h2,λhne=> ?_⟩
   rw[<-Cg];exact h3 λhh=>hne (by rw[hh];rfl)
 ·rw[aRn] at h1
  obtain⟨s,hs,rfl⟩:=aRG.mp h1
  exact(h.row j s xs hs h2).rs
def qZ {u:Value}{xs:List Int}(h:Iw H u xs):SV:=⟨u,Rs.sv h.rs⟩
def M4:SV:=⟨.slice none 0 0,rfl,rfl⟩
theorem aJb {n:Nat}(hk:OkP p n){H0:aE}{a ob:Nat}{u:Value}{hs:List Ed}(hin: ∀h∈hs,0<=h.1/\h.1<n/\0<=h.2/\h.2<n)(hsl:hs.length<=100)(hnd:hs.Nodup)(hm:500<m)(hm2:m<=72057594037927936)(hp:PV H0 p ev wv nv)(hb0:H0[a]? =some (plB p ev wv nv))(hu:Hs H0 u hs)(hob:H0.length=ob):
  ∀(q i k:Nat)(H1:aE)(us:List SV),hs.length-i=q->i<=hs.length->q<k->Ext H0 H1->OwS sC 27 H1 (.slice (some ⟨ob,0,none⟩) hs.length hs.length) ob us->us.length=hs.length->WR H1 (us.take i) ((hs.take i).map (oG p n hs))-> ∀(x0 x2 x5 x6 x7 x8 x9 bQ cG aS aP aQ aR bJ bM bT bN bP aU aV aW aX aY aZ bA:Value),
  ∃H' r,aK k (aM prog (lvl prog cR m) (aK m) Mx) (My (lvl prog cR m) (aK m)) [x0,(.Q a 0),x2,u,(.slice (some ⟨ob,0,none⟩) hs.length hs.length),x5,x6,x7,x8,x9,bQ,cG,aS,aP,aQ,u,(.I hs.length),(.I (i:Nat)),aR,bJ,bM,bT,bN,bP,aU,aV,aW,aX,aY,aZ,bA] H1=some (r,H')/\Ext H0 H'/\Rows H' r (hs.map (oG p n hs)):=by
 intro q;induction q with
 |zero=>
  intro i k H1 us hr hi hk2 he ho hul hwr;intros;obtain⟨k,rfl⟩:=aB k U
  obtain rfl:i=hs.length:=U
  have e:decide ((hs.length:Int)<(hs.length:Int))=false:=by simp
  rw[dG,X9];simp only[gsR,e];rw[aIX];rw[List.take_of_length_le (aRf _),List.take_of_length_le U] at hwr
  refine⟨H1,.slice (some ⟨ob,0,none⟩) hs.length hs.length,rfl,he,hwr.M2 (.inr ⟨ob,0,hs.length,by rw[hul],by omega,λ_=>⟨27,.row,[],[],rfl,λ_=>rfl,?_⟩⟩)⟩
  rw[ho.blk];simp
 |succ q ih=>
  intro i k H1 us hr hi hk2 he ho hul hwr;intros;obtain⟨k,rfl⟩:=aB k U
  have e:decide ((i:Int)<(hs.length:Int))=true:=aRU U
  have e3:=aA (i:=i) U
  obtain⟨h,hh⟩: ∃h,hs[i]? =some h:=⟨_,aRc U⟩
  obtain⟨b,o,g1,_,g3⟩:=(hu.ext he).fV p8 hh .i64;have g4:ldN 2 (.Q b o) H1=some (edV h,H1):=(g3 H1 rfl).1;obtain⟨H2,hH2⟩:=aD (H1++[hpB h]);have x2:Ext H1 H2:=by rw[hH2];exact Fr.app _ _ _
  have b2:H2[H1.length]? =some (hpB h):=by rw[hH2];exact eY _ _
  have st:stN 2 (.Q H1.length 0) (edV h) (H1++[.cells [.I 0,.I 0] 65 .fix])=some (undef,H2):=by
   rw[mE 2 _ _ _ rfl,eY,nX _ _ _ _ _ _ aC (by show 0+2<=2;omega) rfl,hH2]
   simp[eS,edV,edC,Value.cells,hpB]
  have l11:=kE (eU hb0 (he.tr x2));have l2:=Yl b2;obtain⟨H3,r,g5,x3,g6,g7⟩:=aJe hk (hin h (aRk hh)) (hp.ext (he.tr x2)) (hu.ext (he.tr x2)) hsl hnd (m:=m) U U
  have aP:Ext H1 H3:=x2.tr x3;have ho3:OwS sC 27 H3 (.slice (some ⟨ob,0,none⟩) hs.length hs.length) ob us:=⟨ho.val,by rw[aP.2 ob (aRa.mp ho.blk).1 id];exact ho.blk⟩
  have ga:=ho3.aEI 1 i .i64 U
  obtain⟨s1,s2⟩:=ho3.st (sz:=1) Cf F7 (i:=i) U (qZ g6)
  have st2:stN 1 (.Q ob (i*1)) r H3=some (undef,H3.set ob (.cells ((us.set i (qZ g6)).map sC).flatten 27 .row)):=by
   have hcl:r.cells.toList=sC (qZ g6):=by
    have:=(qZ g6).2.2;show r.cells.toList=[r]
    rw[show r.cells= #[r] from this]
   rw[mE 1 _ _ _ (by rw[hcl];rfl),hcl]
   exact s1
  rw[dG,X9];simp only[gsR,e,g1,g4,st,l11,l2,g5,ga,st2,cU,e3];obtain⟨H4,hH4⟩:=aD (H3.set ob (.cells ((us.set i (qZ g6)).map sC).flatten 27 .row));rw[<-hH4] at s2⊢;have x04:Ext H0 H4:=by rw[hH4];exact nM (he.tr aP) U
  have kp: ∀(b:Nat)(cs:List Value),H3[b]? =some (.cells cs 3 .row)->H4[b]? =H3[b]? :=λb cs hb=>by
   rw[hH4];refine aRb λhh=> ?_
   subst hh;rw[ho3.blk] at hb;simp at hb
  have w3:WR H3 (us.take i) ((hs.take i).map (oG p n hs)):=hwr.Cm λb cs hb=>by rw[aP.2 b (aRa.mp hb).1 id]
  have w4:=(w3.Yg (s:=qZ g6) g6).Cm kp;refine ih (i+1) k H4 (us.set i (qZ g6)) U U U x04 s2 (by simp[hul]) ?_ ..
  have e1:(us.set i (qZ g6)).take (i+1)=us.take i++[qZ g6]:=by
   rw[List.take_add_one,aRg U,List.take_set_of_le (aRf _)]
   rfl
  have e2:(hs.take (i+1)).map (oG p n hs)=(hs.take i).map (oG p n hs)++[oG p n hs h]:=by
   rw[List.take_add_one,hh,List.map_append];rfl
  rw[e1,e2];exact w4
theorem aJa (hp:PV H p ev wv nv)(hm:17592186045200<m)(hm2:m<=72057594037927936):
  ∃H' r,lvl prog cR m (.func 43) [plV p ev wv nv] H=some (r,H')/\Ext H H'/\Rows H' r (mO p):=by
 obtain⟨H0,hH0⟩:=aD (H++[plB p ev wv nv]);have x0:Ext H H0:=by rw[hH0];exact Fr.app _ _ _
 have b0:H0[H.length]? =some (plB p ev wv nv):=by rw[hH0];exact eY _ _
 have p0:=hp.ext x0;have l11:=kE b0;obtain⟨H1,g1,x1⟩:=W5 p0 (m:=m-1) U U
 have b1:=eU b0 x1;have p1:=p0.ext x1;have l12:=kE b1;refine iB (gN rfl rfl) U ?_
 rw[aIY];cases hc:gS p with
 |false=>
  rw[hc] at g1;have en:(wH false !=0)=true:=rfl;have e:mO p=[]:=by unfold mO;rw[if_neg (by simp[hc])]
  simp only[gsR,k9,<-hH0,l11,g1,en]
  exact⟨H1,_,rfl,x0.tr x1,by rw[e];exact⟨[],.inl ⟨rfl,rfl⟩,rfl,λi u xs h=>by simp at h⟩⟩
 |true=>
  rw[hc] at g1;have en:(wH true !=0)=false:=rfl;obtain⟨n,hk⟩:=tB hc;have h15:=hk.e15;obtain⟨H2,u,g2,x2,q2,_⟩:=Xg p1 (m:=m-1) U U
  have hlen:=q2.qT;have hhl:=uC p;have mk:=vY (H:=H2) 27 1 24 [.slice none 0 0] .i64 .i64 ((dK p).length:Int) U U U rfl
  simp only[aRC] at mk;have e:mO p=(dK p).map (oG p n (dK p)):=by unfold mO;rw[if_pos hc,hk.hn];rfl
  have hfl:(List.replicate (dK p).length [Value.slice none 0 0]).flatten=((List.replicate (dK p).length M4).map sC).flatten:=by rw[List.map_replicate];rfl
  simp only[gsR,k9,<-hH0,l11,g1,en,l12,g2,hlen,mk];rw[e,hfl];have hx:Ext H2 (H2++[Blk.cells ((List.replicate (dK p).length M4).map sC).flatten 27 .row]):=Fr.app _ _ _;exact Exists.imp (λH' h=>Exists.imp (λr h=>⟨h.1,((x0.tr x1).tr x2).tr h.2.1,h.2.2⟩) h) (aJb hk (λh hh=>aJg hk hh) U (wL hk).1 (m:=m-1) U U (p1.ext x2) (eU b1 x2) q2.rs rfl (dK p).length 0 (m-1) _ (List.replicate (dK p).length M4) U U U hx ⟨by simp,eY _ _⟩ (by simp) ⟨by simp,λj s xs h=>by simp at h⟩ ..)
end
end Go.Proofs.YtndnnndnhnlkdaaGreatDoor
namespace Go.Abs
open M
def Eg (g:List (List Int))(i k:Nat):Prop:= ∃r,g[i]? =some r/\(k:Int)∈r
inductive Rch (g:List (List Int)):Nat->Nat->Prop
 |one {i k:Nat}:Eg g i k->Rch g i k
 |step {i j k:Nat}:Rch g i j->Eg g j k->Rch g i k
def Cyc (g:List (List Int)):Prop:= ∃i,Rch g i i
def Inn (g:List (List Int)):Prop:= ∀r∈g,∀z∈r,0<=z/\z<(g.length:Int)
def Dn (g:List (List Int))(C:List Int):Prop:= ∀u:Nat,C[u]? =some 2->(∀k:Nat,Eg g u k->C[k]? =some 2)/\ ¬Rch g u u
theorem Dn.aJo {g:List (List Int)}{D:List Int}(h:Dn g D){i:Nat}{r:List Int}(hi:D[i]? =some 1)(hr:g[i]? =some r)(hall: ∀k:Nat,(k:Int)∈r->D[k]? =some 2):Dn g (D.set i 2):=by
 have hl:=(aRa.mp hi).1;have up: ∀k:Nat,D[k]? =some 2->(D.set i 2)[k]? =some 2:=λk hk=>by
  rw[List.getElem?_set];split
  ·rename_i h
   subst h;simp[hl]
  ·exact hk
 intro u hu;by_cases hui:u=i
 ·subst hui
  refine⟨λk ⟨r',h1,h2⟩=> ?_,λhc=> ?_⟩
  ·rw[hr] at h1
   cases h1;exact up k (hall k h2)
  ·have key: ∀k:Nat,Rch g u k->D[k]? =some 2:=by
    intro k hk;induction hk with
    |one e=>
     obtain⟨r',h1,h2⟩:=e;rw[hr] at h1;cases h1;exact hall _ h2
    |step _ e ih=>exact(h _ ih).1 _ e
   have:=key u hc;rw[hi] at this;cases this
 ·rw[aRb (Ne.symm hui)] at hu
  exact⟨λk hk=>up k ((h u hu).1 k hk),(h u hu).2⟩
def Co (s r:List Int):List Int:=r.foldl (λs k=>s.set k.toNat 1) s
def nY (g:List (List Int))(a:Nat)(s:List Int)(i:Nat):List Int:=if i≠a/\s.getD i 0=0 then s else Co s (g.getD i [])
def uE (g:List (List Int))(a:Nat)(s:List Int):List Int:=(List.range g.length).foldl (nY g a) s
def kX (g:List (List Int))(a:Nat):Nat->List Int
 |0=>List.replicate g.length 0
 |n+1=>uE g a (kX g a n)
def uD (g:List (List Int)):Bool:=(List.range g.length).any λi=>(kX g i g.length).getD i 0==1
def Le (s s':List Int):Prop:=s.length=s'.length/\ ∀k:Nat,s[k]? =some 1->s'[k]? =some 1
def Bin (s:List Int):Prop:= ∀x∈s,x=0∨x=1
theorem Le.M5 (s:List Int):Le s s:=⟨rfl,λ_ h=>h⟩
theorem Le.Yn {a b c:List Int}(h:Le a b)(h':Le b c):Le a c:=⟨h.1.trans h'.1,λk hk=>h'.2 k (h.2 k hk)⟩
theorem aJt (s:List Int)(k:Nat):Le s (s.set k 1):=⟨by simp,λj hj=>by
 rw[List.getElem?_set];split
 ·rename_i h
  subst h;simp[(aRa.mp hj).1]
 ·exact hj⟩
theorem Bin.aJn {s:List Int}(h:Bin s)(k:Nat):Bin (s.set k 1):=λx hx=>by
 rcases List.mem_or_eq_of_mem_set hx with h1|h1
 ·exact h x h1
 ·exact .inr h1
theorem M6: ∀(r s:List Int),Le s (Co s r)
 |[],s=>Le.M5 s
 |k::r,s=>(aJt s k.toNat).Yn (M6 r (s.set k.toNat 1))
theorem Yr: ∀(r s:List Int),Bin s->Bin (Co s r)
 |[],s,h=>h
 |k::r,s,h=>Yr r _ (h.aJn _)
theorem Ys: ∀(r s:List Int)(k:Nat),(k:Int)∈r->k<s.length->(Co s r)[k]? =some 1
 |[],s,k,h,_=>by cases h
 |z::r,s,k,h,hk=>by
  rcases aRt.mp h with h|h
  ·subst h
   refine(M6 r (s.set (k:Int).toNat 1)).2 k ?_;simp[hk]
  ·exact Ys r _ k h (by simpa using hk)
theorem M7: ∀(r s:List Int)(k:Nat),(∀z∈r,0<=z)->(Co s r)[k]? =some 1->s[k]? =some 1∨(k:Int)∈r
 |[],s,k,_,h=> .inl h
 |z::r,s,k,hz,h=>by
  rcases M7 r _ k (λy hy=>hz y (by simp[hy])) h with h1|h1
  ·rw[List.getElem?_set] at h1
   split at h1
   ·rename_i hh
    have:=hz z (by simp)
    exact .inr (by rw[aRt];left;omega)
   ·exact .inl h1
  ·exact .inr (by simp[h1])
theorem Gm (g:List (List Int))(a:Nat)(s:List Int)(i:Nat):Le s (nY g a s i):=by
 unfold nY;split
 ·exact Le.M5 s
 ·exact M6 _ _
theorem M9 (g:List (List Int))(a:Nat): ∀(l:List Nat)(s:List Int),Le s (l.foldl (nY g a) s)
 |[],s=>Le.M5 s
 |i::l,s=>(Gm g a s i).Yn (M9 g a l _)
theorem Cq (g:List (List Int))(a:Nat): ∀(l:List Nat)(s:List Int),Bin s->Bin (l.foldl (nY g a) s)
 |[],s,h=>h
 |i::l,s,h=>Cq g a l _ (by
  unfold nY;split
  ·exact h
  ·exact Yr _ _ h)
theorem M8 (g:List (List Int))(a:Nat)(s:List Int):Le s (uE g a s):=M9 g a _ s
theorem Yw (g:List (List Int))(a:Nat)(s:List Int)(h:Bin s):Bin (uE g a s):=Cq g a _ s h
def Cn (g:List (List Int))(a:Nat)(s:List Int):Prop:= ∀k:Nat,s[k]? =some 1->Rch g a k
theorem Yo {s:List Int}(h:Bin s){i:Nat}(hi: ¬s.getD i 0=0):s[i]? =some 1:=by
 rw[aRe] at hi;cases hs:s[i]? with
 |none=>rw[hs] at hi;simp at hi
 |some x=>
  rw[hs] at hi;simp at hi;rcases h x (aRk hs) with h|h
  ·exact absurd h hi
  ·rw[h]
theorem aJu {g:List (List Int)}{a:Nat}{s:List Int}{i:Nat}(hg:Inn g)(hb:Bin s)(h:Cn g a s):Cn g a (nY g a s i):=by
 unfold nY;split
 ·exact h
 ·rename_i hc
  intro k hk;have hz: ∀z∈g.getD i [],0<=z:=λz hz=>by
   rw[aRe] at hz;cases hg':g[i]? with
   |none=>rw[hg'] at hz;simp at hz
   |some r=>rw[hg'] at hz;exact(hg r (aRk hg') z hz).1
  rcases M7 _ _ k hz hk with h1|h1
  ·exact h k h1
  ·rw[aRe] at h1
   cases hg':g[i]? with
   |none=>rw[hg'] at h1;simp at h1
   |some r=>
    rw[hg'] at h1;have e:Eg g i k:=⟨r,hg',h1⟩;by_cases hia:i=a
    ·rw[<-hia];exact .one e
    ·have: ¬s.getD i 0=0:=λhh=>hc ⟨hia,hh⟩
     exact .step (h i (Yo hb this)) e
theorem Yx {g:List (List Int)}{a:Nat}(hg:Inn g): ∀(l:List Nat)(s:List Int),Bin s->Cn g a s->Cn g a (l.foldl (nY g a) s)
 |[],s,_,h=>h
 |i::l,s,hb,h=>Yx hg l _ (Cq g a [i] s hb) (aJu hg hb h)
def p9 (s:List Int):Nat:=s.countP (· ==1)
theorem Cp: ∀(s s':List Int),Le s s'->p9 s<=p9 s'
 |[],[],_=>aRf _
 |[],_::_,h=>absurd h.1 (by simp)
 |_::_,[],h=>absurd h.1 (by simp)
 |x::s,y::s',h=>by
  have ih:=Cp s s' ⟨by simpa using h.1,λk hk=>by have:=h.2 (k+1) (by simpa using hk);simpa using this⟩
  have h0:=h.2 0;simp only[List.getElem?_cons_zero,aRB] at h0;unfold p9 at*;simp only[List.countP_cons];by_cases hx:x=1
  ·rw[hx,h0 hx];simp;exact ih
  ·have:(x==1)=false:=by simp[hx]
   rw[this];simp only[Bool.false_eq_true,if_false];omega
theorem Gk: ∀(s s':List Int),Le s s'->Bin s->Bin s'->p9 s'<=p9 s->s=s'
 |[],[],_,_,_,_=>rfl
 |[],_::_,h,_,_,_=>absurd h.1 (by simp)
 |_::_,[],h,_,_,_=>absurd h.1 (by simp)
 |x::s,y::s',h,hb,hb',hc=>by
  have hle:Le s s':=⟨by simpa using h.1,λk hk=>by have:=h.2 (k+1) (by simpa using hk);simpa using this⟩
  have h1:=Cp s s' hle;have h0:=h.2 0;simp only[List.getElem?_cons_zero,aRB] at h0;have bx:=hb x (by simp)
  have by':=hb' y (by simp)
  unfold p9 at*;simp only[List.countP_cons] at hc;have e:x=y:=by
   rcases bx with bx|bx
   ·rcases by' with by'|by'
    ·rw[bx,by']
    ·rw[bx,by'] at hc
     simp at hc;omega
   ·rw[bx,h0 bx]
  subst e;rw[Gk s s' hle (λz hz=>hb z (by simp[hz])) (λz hz=>hb' z (by simp[hz])) (by unfold p9;omega)]
theorem aJs (s:List Int):p9 s<=s.length:=List.countP_le_length
theorem aJr (s:List Int)(h:p9 s=s.length): ∀k:Nat,k<s.length->s[k]? =some 1:=by
 intro k hk;have:=(List.countP_eq_length.mp h) s[k] (List.getElem_mem hk);rw[aRc hk];simpa using this
def Clo (g:List (List Int))(a:Nat)(s:List Int):Prop:= ∀i k:Nat,(i=a∨s[i]? =some 1)->Eg g i k->s[k]? =some 1
theorem Yq {g:List (List Int)}{a:Nat}: ∀(l:List Nat)(s:List Int),Bin s->l.foldl (nY g a) s=s-> ∀i∈l,nY g a s i=s
 |[],s,_,_,i,h=>by cases h
 |j::l,s,hb,h,i,hi=>by
  have h1:Le s (nY g a s j):=Gm g a s j;have h2:Le (nY g a s j) s:=by
   have:=M9 g a l (nY g a s j);rw[List.foldl_cons] at h;rw[h] at this;exact this
  have e:nY g a s j=s:=(Gk _ _ h1 hb (Cq g a [j] s hb) (Cp _ _ h2)).symm;rcases aRt.mp hi with rfl|hi
  ·exact e
  ·rw[List.foldl_cons,e] at h
   exact Yq l s hb h i hi
theorem aJp {g:List (List Int)}{a:Nat}{s:List Int}(hg:Inn g)(hl:s.length=g.length)(hb:Bin s)(h:uE g a s=s):Clo g a s:=by
 rintro i k hi ⟨r,hr,hk⟩
 have hil:=(aRa.mp hr).1;have:=Yq _ s hb h i (aRO.mpr hil);unfold nY at this;have hc: ¬(i≠a/\s.getD i 0=0):=by
  rintro ⟨h1,h2⟩
  rcases hi with hi|hi
  ·exact h1 hi
  ·rw[aRe,hi] at h2
   simp at h2
 rw[if_neg hc] at this;have hkl:=(hg r (aRk hr) k hk).2;have h1:=Ys (g.getD i []) s k (by rw[aRe,hr];exact hk) U
 rw[this] at h1;exact h1
theorem aJq {g:List (List Int)}{a:Nat}{s:List Int}(hg:Inn g)(hl:s.length=g.length)(h:p9 s=s.length):Clo g a s:=by
 rintro i k _ ⟨r,hr,hk⟩
 have hkl:=(hg r (aRk hr) k hk).2;exact aJr s h k U
theorem Gl (g:List (List Int))(a:Nat): ∀n,(kX g a n).length=g.length
 |0=>by simp[kX]
 |n+1=>by
  have:=(M8 g a (kX g a n)).1;rw[Gl g a n] at this;exact this.symm
theorem wM (g:List (List Int))(a:Nat): ∀n,Bin (kX g a n)
 |0=>λx hx=> .inl (by simp[kX] at hx;exact hx.2)
 |n+1=>Yw g a _ (wM g a n)
theorem Yv {g:List (List Int)}(a:Nat)(hg:Inn g): ∀n,Cn g a (kX g a n)
 |0=>λk hk=>by
  simp only[kX,aRR] at hk
  split at hk<;>simp at hk
 |n+1=>Yx hg _ _ (wM g a n) (Yv a hg n)
theorem Yt {g:List (List Int)}(a:Nat)(hg:Inn g): ∀n,Clo g a (kX g a n)∨n<=p9 (kX g a n)
 |0=> .inr (Nat.zero_le _)
 |n+1=>by
  rcases Yt a hg n with h|h
  ·left
   have e: ∀l:List Nat,l.foldl (nY g a) (kX g a n)=kX g a n:=by
    intro l;induction l with
    |nil=>rfl
    |cons i l ih=>
     rw[List.foldl_cons];have:nY g a (kX g a n) i=kX g a n:=by
      refine(Gk _ _ (Gm g a _ i) (wM g a n) (Cq g a [i] _ (wM g a n)) ?_).symm;refine Cp _ _ ⟨(Gm g a _ i).1.symm,λk hk=> ?_⟩
      unfold nY at hk
      split at hk
      ·exact hk
      ·rename_i hc
       have hz: ∀z∈g.getD i [],0<=z:=λz hz=>by
        rw[aRe] at hz;cases hg':g[i]? with
        |none=>rw[hg'] at hz;simp at hz
        |some r=>rw[hg'] at hz;exact(hg r (aRk hg') z hz).1
       rcases M7 _ _ k hz hk with h1|h1
       ·exact h1
       ·rw[aRe] at h1
        cases hg':g[i]? with
        |none=>rw[hg'] at h1;simp at h1
        |some r=>
         rw[hg'] at h1;refine h i k ?_ ⟨r,hg',h1⟩;by_cases hia:i=a
         ·exact .inl hia
         ·exact .inr (Yo (wM g a n) λhh=>hc ⟨hia,hh⟩)
     rw[this];exact ih
   show Clo g a (uE g a (kX g a n))
   unfold uE;rw[e];exact h
  ·by_cases hx:uE g a (kX g a n)=kX g a n
   ·left
    show Clo g a (uE g a (kX g a n))
    rw[hx];exact aJp hg (Gl g a n) (wM g a n) hx
   ·right
    show n+1<=p9 (uE g a (kX g a n))
    have h1:=Cp _ _ (M8 g a (kX g a n));by_cases h2:p9 (uE g a (kX g a n))<=p9 (kX g a n)
    ·exact absurd (Gk _ _ (M8 g a _) (wM g a n) (Yw g a _ (wM g a n)) h2).symm hx
    ·omega
theorem Yu {g:List (List Int)}(hg:Inn g)(a k:Nat):(kX g a g.length)[k]? =some 1↔Rch g a k:=by
 constructor
 ·exact Yv a hg g.length k
 ·have hc:Clo g a (kX g a g.length):=by
   rcases Yt a hg g.length with h|h
   ·exact h
   ·refine aJq hg (Gl g a _) ?_
    have:=aJs (kX g a g.length);rw[Gl] at*;omega
  intro hr;induction hr with
  |one e=>exact hc _ _ (.inl rfl) e
  |step _ e ih=>exact hc _ _ (.inr ih) e
theorem Yp {g:List (List Int)}(hg:Inn g):uD g=true↔Cyc g:=by
 unfold uD;rw[List.any_eq_true];constructor
 ·rintro ⟨i,hi,h⟩
  refine⟨i,(Yu hg i i).mp ?_⟩;rw[aRe] at h;cases hh:(kX g i g.length)[i]? with
  |none=>rw[hh] at h;simp at h
  |some x=>rw[hh] at h;simp at h;rw[h]
 ·rintro ⟨i,h⟩
  have hil:i<g.length:=by
   cases h with
   |one e=>obtain⟨r,h1,_⟩:=e;exact(aRa.mp h1).1
   |step h1 e=>
    obtain⟨r,h2,h3⟩:=e;have:=(hg r (aRk h2) i h3).2;omega
  refine⟨i,aRO.mpr hil,?_⟩;rw[aRe,(Yu hg i i).mpr h];rfl
end Go.Abs
namespace Go.Proofs.YtndnnndnhnlkdaaGreatDoor
open Go.Proofs.Tryz
open Go.Abs Go.Abs.M
section
variable {H : aE} {m : Nat} {p : PlanD} {ev wv nv : Value}
theorem aJv (p:PlanD):Inn (mO p):=by
 unfold mO;split
 ·intro r hr z hz
  obtain⟨h,hh,rfl⟩:=aRN.mp hr;rw[aRo];obtain⟨k,b,rfl,h1,_⟩:=Ym.mp hz;have:=(aRa.mp h1).1;omega
 ·intro r hr;cases hr
theorem aJw (p:PlanD):(mO p).length<=36:=by
 unfold mO;split
 ·rw[aRo];exact uC p
 ·simp
theorem aJx (p:PlanD): ∀r∈mO p,r.length<=36:=by
 unfold mO;split
 ·intro r hr
  obtain⟨h,hh,rfl⟩:=aRN.mp hr;unfold oG;rw[aRo];have:=uC p;exact aRq (List.length_filter_le _ _) (by rw[aRE];exact this)
 ·intro r hr;cases hr
end
section
variable {H : aE} {m : Nat} {p : PlanD} {ev wv nv : Value}
def atV (ab n:Nat):Value:= .slice (some ⟨ab,0,none⟩) n n
def mkB (ab n:Nat)(wv:Value):Blk:= .cells [atV ab n,wv] 96 .fix
theorem Cr {mb ab n:Nat}(h:H[mb]? =some (mkB ab n wv)):ld1 (.Q mb 0) H=some (atV ab n,H):=Bk h rfl
theorem aJE {mb ab n:Nat}(h:H[mb]? =some (mkB ab n wv)):ld1 (.Q mb 1) H=some (wv,H):=Bk h rfl
theorem Gn {ab n k:Nat}(h:k<n):bS 1 (atV ab n) (.I (k:Nat))=some (.Q ab k):=by
 have:=ia (c:=ab) (o:=0) (cap:=n) h;rw[aRv] at this;exact this
def Col (C:List Int):Prop:= ∀x∈C,x=0∨x=1∨x=2
theorem Col.aJC {C:List Int}(h:Col C)(i:Nat){y:Int}(hy:y=0∨y=1∨y=2):Col (C.set i y):=λx hx=>by
 rcases List.mem_or_eq_of_mem_set hx with h1|h1
 ·exact h x h1
 ·rw[h1];exact hy
structure Srch (g:List (List Int))(Hw:aE)(mb ab:Nat)(wv:Value)(H:aE)(C:List Int):Prop where
 ext:Ext Hw H
 mrk:H[mb]? =some (mkB ab g.length wv)
 row:H[ab]? =some (o8 C [])
 len:C.length=g.length
 col:Col C
theorem Srch.st {g:List (List Int)}{Hw:aE}{mb ab:Nat}{C:List Int}(h:Srch g Hw mb ab wv H C)(hne:mb≠ab)(hab:Hw.length<=ab){i:Nat}(hi:i<g.length)(y:Int)(hy:y=0∨y=1∨y=2):
  ∃H',stN 1 (.Q ab i) (.I y) H=some (undef,H')/\Srch g Hw mb ab wv H' (C.set i y):=
 ⟨_,Xc y h.row (by have:=h.len;omega),nM h.ext hab,by rw[aRb (Ne.symm hne)];exact h.mrk,aRg (aRa.mp h.row).1,by simp[h.len],h.col.aJC i hy⟩
structure Dne (g:List (List Int))(C C':List Int)(i:Nat):Prop where
 i2:C'[i]? =some 2
 dn:Dn g C'
 gr: ∀u:Nat,C'[u]? =some 1↔C[u]? =some 1
 bl: ∀u:Nat,C[u]? =some 2->C'[u]? =some 2
def Na (g:List (List Int))(Hw:aE)(mb ab:Nat)(wv:Value)(m q:Nat):Prop:=
 ∀(H:aE)(C:List Int)(i:Nat),Srch g Hw mb ab wv H C->C[i]? =some 0->Dn g C->(∀u:Nat,C[u]? =some 1->Rch g u i)->(∃L:List Nat,L.length=q/\ ∀u:Nat,C[u]? =some 0->u∈L)->
  ∃H' b C',lvl prog cR m (.func 44) [.Q mb 0,.I (i:Nat)] H=some (.bool b,H')/\Srch g Hw mb ab wv H' C'/\(b=true->Cyc g)/\(b=false->Dne g C C' i)
theorem aJG {g:List (List Int)}{Hw:aE}{mb ab:Nat}{q':Nat}(hrd:Na g Hw mb ab wv m q')(hinn:Inn g)(hne:mb≠ab)(hab:Hw.length<=ab){C:List Int}{i:Nat}{r:List Int}{rv:Value}(hr:g[i]? =some r)(hrl:r.length<=100)(hrv:Is Hw rv r)(hgr: ∀u:Nat,C[u]? =some 1->Rch g u i)(hci:C[i]? =some 0){L:List Nat}(hL:L.length=q'):
  ∀(q j k:Nat)(H:aE)(D:List Int),r.length-j=q->j<=r.length->q<k->Srch g Hw mb ab wv H D->D[i]? =some 1->Dn g D->(∀u:Nat,D[u]? =some 1↔(u=i∨C[u]? =some 1))->(∀u:Nat,C[u]? =some 2->D[u]? =some 2)->(∀z∈r.take j,D[z.toNat]? =some 2)->(∀u:Nat,D[u]? =some 0->u∈L)-> ∀(x2 x3 x4 x5 x6 x7 x8 x9 bQ cG aS aP aQ aO bB bI aR bN bP aU aV aW aX aY aZ bA bH bO bV cH cJ bX cC bY b9 cA cD cF cM cN cO cQ cW cX cY cS cT cZ dA:Value),
  ∃H' b C',aK k (aM prog (lvl prog cR m) (aK m) Gf) (Cl (lvl prog cR m) (aK m)) [(.Q mb 0),(.I (i:Nat)),x2,x3,x4,x5,x6,x7,x8,x9,bQ,cG,aS,aP,aQ,aO,bB,bI,aR,rv,(.I r.length),(.I (j:Nat)),bN,bP,aU,aV,aW,aX,aY,aZ,bA,bH,bO,bV,cH,cJ,bX,cC,bY,b9,cA,cD,cF,cM,cN,cO,cQ,cW,cX,cY,cS,cT,cZ,dA] H=some (.bool b,H')/\Srch g Hw mb ab wv H' C'/\(b=true->Cyc g)/\(b=false->Dne g C C' i):=by
 intro q;have hil:=(aRa.mp hr).1;induction q with
 |zero=>
  intro j k H D hq hj hk hs hi1 hdn hgray hbl htake hwh;intros;obtain⟨k,rfl⟩:=aB k U
  obtain rfl:r.length=j:=U
  have e:decide ((r.length:Int)<(r.length:Int))=false:=by simp
  rw[List.take_of_length_le (aRf _)] at htake;have l0:=Cr hs.mrk;have a0:=Gn (ab:=ab) hil;obtain⟨H',st,hs'⟩:=hs.st hne hab hil 2 (.inr (.inr rfl));have fin:=hdn.aJo hi1 hr (λk hk=>by have:=htake k hk;simpa using this)
  refine⟨H',false,D.set i 2,?_,hs',λh=>(by cases h),λ_=>⟨?_,fin,λu=> ?_,λu hu=> ?_⟩⟩
  ·rw[dG,Ya]
   simp only[gsR,e];rw[aIZ];simp only[gsR,l0,a0,st]
  ·exact aRg (by have:=hs.len;omega)
  ·by_cases hui:u=i
   ·subst hui
    rw[aRg (by have:=hs.len;omega),hci]
    simp
   ·rw[aRb (Ne.symm hui),hgray u]
    simp[hui]
  ·have:=hbl u hu
   by_cases hui:u=i
   ·subst hui
    rw[hi1] at this;cases this
   ·rw[aRb (Ne.symm hui)]
    exact this
 |succ q ih=>
  intro j k H D hq hj hk hs hi1 hdn hgray hbl htake hwh;intros;obtain⟨k,rfl⟩:=aB k U
  have e:decide ((j:Int)<(r.length:Int))=true:=aRU U
  have e3:=aA (i:=j) U
  obtain⟨z,hz⟩: ∃z,r[j]? =some z:=⟨_,aRc U⟩
  have hzin:=hinn r (aRk hr) z (aRk hz);obtain⟨b,o,g1,_,g3⟩:=(hrv.ext hs.ext).fV gW hz .i64;have g4:ld1 (.Q b o) H=some (.I z,H):=(g3 H rfl).2.1 0 _ rfl;obtain⟨t,rfl⟩: ∃t:Nat,z=t:=⟨z.toNat,by omega⟩
  have htl:t<g.length:=U
  have edge:Eg g i t:=⟨r,hr,aRk hz⟩;have l0:=Cr hs.mrk;have a0:=Gn (ab:=ab) htl;obtain⟨x,hx⟩: ∃x,D[t]? =some x:=⟨_,aRc (by have:=hs.len;omega)⟩
  have lx:=zW hs.row hx;have grs: ∀u:Nat,D[u]? =some 1->Rch g u t:=λu hu=>by
   rcases(hgray u).mp hu with h|h
   ·rw[h];exact .one edge
   ·exact .step (hgr u h) edge
  have htk:r.take (j+1)=r.take j++[(t:Int)]:=by rw[List.take_add_one,hz];rfl
  have next: ∀(H2:aE)(D2:List Int),Srch g Hw mb ab wv H2 D2->D2[i]? =some 1->Dn g D2->(∀u:Nat,D2[u]? =some 1↔(u=i∨C[u]? =some 1))->(∀u:Nat,C[u]? =some 2->D2[u]? =some 2)->(∀z∈r.take j,D2[z.toNat]? =some 2)->D2[t]? =some 2->(∀u:Nat,D2[u]? =some 0->u∈L)-> ∀(x2 x3 x4 x5 x6 x7 x8 x9 bQ cG aS aP aQ aO bB bI aR bN bP aU aV aW aX aY aZ bA bH bO bV cH cJ bX cC bY b9 cA cD cF cM cN cO cQ cW cX cY cS cT cZ dA:Value),
    ∃H' b C',aK k (aM prog (lvl prog cR m) (aK m) Gf) (Cl (lvl prog cR m) (aK m)) [(.Q mb 0),(.I (i:Nat)),x2,x3,x4,x5,x6,x7,x8,x9,bQ,cG,aS,aP,aQ,aO,bB,bI,aR,rv,(.I r.length),(.I (j+1:Nat)),bN,bP,aU,aV,aW,aX,aY,aZ,bA,bH,bO,bV,cH,cJ,bX,cC,bY,b9,cA,cD,cF,cM,cN,cO,cQ,cW,cX,cY,cS,cT,cZ,dA] H2=some (.bool b,H')/\Srch g Hw mb ab wv H' C'/\(b=true->Cyc g)/\(b=false->Dne g C C' i):=by
   intro H2 D2 h1 h2 h3 h4 h5 h6 h7 h8;refine ih (j+1) k H2 D2 U U U h1 h2 h3 h4 h5 (λz hz=> ?_) h8
   rw[htk,List.mem_append] at hz;rcases hz with hz|hz
   ·exact h6 z hz
   ·have:z=(t:Int):=by simpa using hz
    rw[this];simpa using h7
  rw[dG,Ya];rcases hs.col x (aRk hx) with rfl|rfl|rfl
  ·have d1:((0:Int)==1)=false:=rfl
   have d2:((0:Int)==2)=false:=rfl;obtain⟨H2,bb,D2,c1,hs2,hcyc,hdne⟩:=hrd H D t hs hx hdn grs ⟨L,hL,hwh⟩;cases bb with
   |true=>
    refine⟨H2,true,D2,?_,hs2,λ_=>hcyc rfl,λh=>(by cases h)⟩
    simp only[gsR,e,g1,g4,l0,a0,lx,d1,d2,c1];rw[Yb];rfl
   |false=>
    have hd:=hdne rfl;simp only[gsR,e,g1,g4,l0,a0,lx,d1,d2,c1,cU,e3];refine next H2 D2 hs2 ((hd.gr i).mpr hi1) hd.dn (λu=>by rw[hd.gr u];exact hgray u) (λu hu=>hd.bl u (hbl u hu)) (λz hz=>hd.bl _ (htake z hz)) hd.i2 (λu hu=>hwh u ?_) ..
    have hul:u<g.length:=by have:=(aRa.mp hu).1;have:=hs2.len;omega
    obtain⟨y,hy⟩: ∃y,D[u]? =some y:=⟨_,aRc (by have:=hs.len;omega)⟩
    rcases hs.col y (aRk hy) with rfl|rfl|rfl
    ·exact hy
    ·have:=(hd.gr u).mpr hy
     rw[hu] at this;cases this
    ·have:=hd.bl u hy
     rw[hu] at this;cases this
  ·have d1:((1:Int)==1)=true:=rfl
   refine⟨H,true,D,?_,hs,λ_=>⟨t,grs t hx⟩,λh=>(by cases h)⟩
   simp only[gsR,e,g1,g4,l0,a0,lx,d1];rw[Yb];rfl
  ·have d1:((2:Int)==1)=false:=rfl
   have d2:((2:Int)==2)=true:=rfl;simp only[gsR,e,g1,g4,l0,a0,lx,d1,d2,cU,e3];exact next H D hs hi1 hdn hgray hbl htake hx hwh ..
theorem aJF {g:List (List Int)}{Hw:aE}{mb ab:Nat}(hg:Rows Hw wv g)(hinn:Inn g)(hrl: ∀r∈g,r.length<=100)(hne:mb≠ab)(hab:Hw.length<=ab): ∀(q m:Nat),200+q<m->Na g Hw mb ab wv m q:=by
 intro q;induction q with
 |zero=>
  intro m hm H C i hs hi hdn hgr ⟨L,hL,hw⟩;have:=hw i hi;rw[aRs.mp hL] at this;cases this
 |succ q ih=>
  intro m hm H C i hs hi hdn hgr ⟨L,hL,hw⟩;have hil:i<g.length:=by have:=(aRa.mp hi).1;have:=hs.len;omega
  have l0:=Cr hs.mrk;have a0:=Gn (ab:=ab) hil;obtain⟨H1,st,hs1⟩:=hs.st hne hab hil 1 (.inr (.inl rfl));have l1:=aJE hs1.mrk;obtain⟨r,hr⟩: ∃r,g[i]? =some r:=⟨_,aRc hil⟩;obtain⟨a1,rv,g1,g2,g3⟩:=hg.Fo hr .i64;have g2':=aIC hs1.ext g2;have hlen:=g3.jX;have hr100:=hrl r (aRk hr);have hcl:C.length=g.length:=hs.len;have other: ∀u:Nat,u≠i->(C.set i 1)[u]? =C[u]? :=λu hu=>aRb (Ne.symm hu)
  have self:(C.set i 1)[i]? =some 1:=aRg U
  obtain⟨m,rfl⟩:=aB m U
  rw[T1 (gN rfl rfl),aI0];simp only[gsR,l0,a0,st,l1,g1,g2',hlen];have hiL:=hw i hi;refine aJG (ih m U) hinn hne hab hr hr100 g3 hgr hi (L:=L.erase i) (by rw[List.length_erase_of_mem hiL];omega) r.length 0 m H1 (C.set i 1) U U U hs1 self ?_ (λu=> ?_) (λu hu=> ?_) (λz hz=>by simp at hz) (λu hu=> ?_) ..
  ·intro u hu
   have hui:u≠i:=λhh=>by rw[hh,self] at hu;cases hu
   rw[other u hui] at hu;refine⟨λk hk=> ?_,(hdn u hu).2⟩
   have:=(hdn u hu).1 k hk;have hki:k≠i:=λhh=>by rw[hh,hi] at this;cases this
   rw[other k hki];exact this
  ·by_cases hui:u=i
   ·rw[hui,self];simp
   ·rw[other u hui];simp[hui]
  ·have hui:u≠i:=λhh=>by rw[hh,hi] at hu;cases hu
   rw[other u hui];exact hu
  ·have hui:u≠i:=λhh=>by rw[hh,self] at hu;cases hu
   rw[other u hui] at hu
   exact(List.mem_erase_of_ne hui).mpr (hw u hu)
def uF (p:PlanD)(n:Nat):Bool:=(List.range n).all λv=>(List.range n).all λw=>(pO p v w).isSome
def Nb (p:PlanD):Bool:=gS p&&(uF p p.nodes.toNat&& !uD (mO p))
def nO (p:PlanD):Int:=if gS p=true then(if Nb p=true then 0 else 140) else 120
theorem aJB {g:List (List Int)}{Hw:aE}{mb ab:Nat}(hrd:Na g Hw mb ab wv m g.length)(hgl:g.length<=100)(hinn:Inn g):
  ∀(q i k:Nat)(H:aE)(C:List Int),g.length-i=q->i<=g.length->q<k->Srch g Hw mb ab wv H C->Dn g C->(∀u:Nat,C[u]? ≠some 1)->(∀u:Nat,u<i->C[u]? =some 2)-> ∀(x0 x1 x2 x3 x4 x5 x6 x7 x9 bQ cG aS aP aQ aO bB bI aR bJ bM bT bN bP aU aV aW aX aY aZ bA bH bO bV cH cJ bX cC bY b9 cA cD cF cM cN cO cQ cW cX cY cS cT cZ dB dC dF dL dM dN dQ dZ eA eE eF eG eH eK eN eO:Value),
  ∃H',aK k (aM prog (lvl prog cR m) (aK m) Mm) (Gc (lvl prog cR m) (aK m)) [x0,x1,x2,x3,x4,x5,x6,x7,(.Q mb 0),x9,bQ,cG,aS,aP,aQ,aO,bB,bI,aR,bJ,bM,bT,bN,bP,aU,aV,aW,aX,aY,aZ,bA,bH,bO,bV,cH,cJ,bX,cC,bY,b9,cA,cD,cF,cM,cN,cO,cQ,cW,cX,cY,cS,cT,cZ,(.I g.length),(.I (i:Nat)),dB,dC,dF,dL,dM,dN,dQ,dZ,eA,eE,eF,eG,eH,eK,eN,eO] H=some (.int .u16 (if uD g=true then 140 else 0),H')/\Ext Hw H':=by
 intro q;induction q with
 |zero=>
  intro i k H C hq hi hk hs hdn hgr hbl;intros;obtain⟨k,rfl⟩:=aB k U
  obtain rfl:g.length=i:=U
  have e:decide ((g.length:Int)<(g.length:Int))=false:=by simp
  have hno: ¬uD g=true:=by
   rw[Yp hinn];rintro ⟨i,hc⟩
   have hil:i<g.length:=by
    cases hc with
    |one e=>obtain⟨r,h1,_⟩:=e;exact(aRa.mp h1).1
    |step h1 e=>
     obtain⟨r,h2,h3⟩:=e;have:=(hinn r (aRk h2) i h3).2;omega
   exact(hdn i (hbl i hil)).2 hc
  rw[if_neg hno,dG,X3];simp only[gsR,e];rw[aIK]
  exact⟨H,rfl,hs.ext⟩
 |succ q ih=>
  intro i k H C hq hi hk hs hdn hgr hbl;intros;obtain⟨k,rfl⟩:=aB k U
  have hil:i<g.length:=U
  have e:decide ((i:Int)<(g.length:Int))=true:=aRU U
  have e3:=aA (i:=i) U
  have l0:=Cr hs.mrk;have a0:=Gn (ab:=ab) hil;obtain⟨x,hx⟩: ∃x,C[i]? =some x:=⟨_,aRc (by have:=hs.len;omega)⟩
  have lx:=zW hs.row hx;rw[dG,X3];rcases hs.col x (aRk hx) with rfl|rfl|rfl
  ·have d1:((0:Int)==0)=true:=rfl
   obtain⟨H2,bb,D2,c1,hs2,hcyc,hdne⟩:=hrd H C i hs hx hdn (λu hu=>absurd hu (hgr u)) ⟨List.range g.length,by simp,λu hu=>aRO.mpr (by have:=(aRa.mp hu).1;have:=hs.len;omega)⟩
   cases bb with
   |true=>
    have hyes:uD g=true:=(Yp hinn).mpr (hcyc rfl);rw[if_pos hyes];simp only[gsR,e,l0,a0,lx,d1,c1];rw[aIO]
    exact⟨H2,rfl,hs2.ext⟩
   |false=>
    have hd:=hdne rfl;simp only[gsR,e,l0,a0,lx,d1,c1,cU,e3];refine ih (i+1) k H2 D2 U U U hs2 hd.dn (λu hu=>hgr u ((hd.gr u).mp hu)) (λu hu=> ?_) ..
    by_cases hui:u=i
    ·rw[hui];exact hd.i2
    ·exact hd.bl u (hbl u U)
  ·exact absurd hx (hgr i)
  ·have d1:((2:Int)==0)=false:=rfl
   simp only[gsR,e,l0,a0,lx,d1,cU,e3];refine ih (i+1) k H C U U U hs hdn hgr (λu hu=> ?_) ..
   by_cases hui:u=i
   ·rw[hui];exact hx
   ·exact hbl u U
theorem aJA {n:Nat}(hk:OkP p n){H0:aE}{a v:Nat}(hv:v<n){K:Ex->K (Value×aE)}{Q:aE->Value->Prop}(hp:PV H0 p ev wv nv)(hb:H0[a]? =some (plB p ev wv nv))(hm:400<m)(hm2:m<=72057594037927936):
  ∀(q i k:Nat)(H1:aE),n-i=q->i<=n->q<k->Ext H0 H1->
  (∀H',Ext H0 H'->((List.range' i q).all λw=>(pO p v w).isSome)=true-> ∀(x0 x2 x3 x4 x5 x6 x7 x8 x9 bQ cG aS aP aQ aO aR bJ bM bT bN bP aU aV aW aX aY aZ bA bH bO bV cH cJ bX cC bY b9 cA cD cF cM cN cO cQ cW cX cY cS cT cZ dA dE dB dC dF dL dM dN dQ dZ eA eE eF eG eH eK eN eO:Value),∃H2 r,K .normal [x0,(.Q a 0),x2,x3,x4,x5,x6,x7,x8,x9,bQ,cG,aS,aP,aQ,aO,(.I n),(.I (v+1:Nat)),aR,bJ,bM,bT,bN,bP,aU,aV,aW,aX,aY,aZ,bA,bH,bO,bV,cH,cJ,bX,cC,bY,b9,cA,cD,cF,cM,cN,cO,cQ,cW,cX,cY,cS,cT,cZ,dA,dE,dB,dC,dF,dL,dM,dN,dQ,dZ,eA,eE,eF,eG,eH,eK,eN,eO] H'=some (r,H2)/\Q H2 r)->
  (∀H',Ext H0 H'->((List.range' i q).all λw=>(pO p v w).isSome)=false-> ∀(x0 x1 x3 x4 x5 x6 x7 x8 x9 bQ cG aS aP aQ aO bB bI aR bJ bM bT bN bP aU aV aW aX aY aZ bA bH bO bV cH cJ bX cC bY b9 cA cD cF cM cN cO cQ cW cX cY cS cT cZ dA dE dB dC dF dL dM dN dQ dZ eA eE eF eG eH eK eN eO:Value),∃H2 r,K .ret [x0,x1,(.int .u16 140),x3,x4,x5,x6,x7,x8,x9,bQ,cG,aS,aP,aQ,aO,bB,bI,aR,bJ,bM,bT,bN,bP,aU,aV,aW,aX,aY,aZ,bA,bH,bO,bV,cH,cJ,bX,cC,bY,b9,cA,cD,cF,cM,cN,cO,cQ,cW,cX,cY,cS,cT,cZ,dA,dE,dB,dC,dF,dL,dM,dN,dQ,dZ,eA,eE,eF,eG,eH,eK,eN,eO] H'=some (r,H2)/\Q H2 r)-> ∀(x0 x2 x3 x5 x6 x7 x8 x9 bQ cG aS aP aQ aO aR bJ bM bP aU aV aW aX aY aZ bA bH bO bV cH cJ bX cC bY b9 cA cD cF cM cN cO cQ cW cX cY cS cT cZ dA dE dB dC dF dL dM dN dQ dZ eA eE eF eG eH eK eN eO:Value),
  ∃H' r,aK k (aM prog (lvl prog cR m) (aK m) Ml) (Gb (lvl prog cR m) (aK m) K) [x0,(.Q a 0),x2,x3,(.I (v:Nat)),x5,x6,x7,x8,x9,bQ,cG,aS,aP,aQ,aO,(.I n),(.I (v:Nat)),aR,bJ,bM,(.I n),(.I (i:Nat)),bP,aU,aV,aW,aX,aY,aZ,bA,bH,bO,bV,cH,cJ,bX,cC,bY,b9,cA,cD,cF,cM,cN,cO,cQ,cW,cX,cY,cS,cT,cZ,dA,dE,dB,dC,dF,dL,dM,dN,dQ,dZ,eA,eE,eF,eG,eH,eK,eN,eO] H1=some (r,H')/\Q H' r:=by
 intro q;have h6:=hk.h6;induction q with
 |zero=>
  intro i k H1 hr hi hk2 he hK hR;intros;obtain⟨k,rfl⟩:=aB k U
  have e:decide ((i:Int)<(n:Int))=false:=aRV U
  have e3:=aA (i:=v) U
  rw[dG,X2];simp only[gsR,e];rw[aIJ];simp only[gsR,cU,e3];exact hK H1 he rfl ..
 |succ q ih=>
  intro i k H1 hr hi hk2 he hK hR;intros;obtain⟨k,rfl⟩:=aB k U
  have e:decide ((i:Int)<(n:Int))=true:=aRU U
  have e3:=aA (i:=i) U
  have l11:=kE (eU hb he);obtain⟨H2,r,g1,x2,lv,rfl,_,_⟩:=aI8 hk (hp.ext he) (v:=v) (w:=i) U U (m:=m) U U
  rw[dG,X2];rw[List.range'_succ,List.all_cons] at hK hR;cases c:(pO p v i).isSome with
  |true=>
   rw[c] at g1 hK hR;simp only[gsR,e,l11,g1,cU,e3];exact ih (i+1) k H2 U U U (he.tr x2) (λH' h1 h2=>hK H' h1 (by simpa using h2)) (λH' h1 h2=>hR H' h1 (by simpa using h2)) ..
  |false=>
   rw[c] at g1 hR;simp only[gsR,e,l11,g1];rw[aIN];exact hR H2 (he.tr x2) rfl ..
theorem aJH (n:Nat):Blk.cells (List.replicate n [Value.int .i64 0]).flatten 3 .row=o8 (List.replicate n 0) []:=by
 unfold o8
 congr 1
 rw[List.append_nil,List.map_replicate];induction n with
 |zero=>rfl
 |succ n ih=>rw[List.replicate_succ,List.replicate_succ,aRK,ih];rfl
theorem aJD {v:Value}{us:List Value}(h:Rs vC 27 H v us):bld prog 96 [(1,v)]=some (.agg #[.slice none 0 0,v])/\Blk.cells (Value.agg #[.slice none 0 0,v]).cells.toList 96 .fix= .cells [.slice none 0 0,v] 96 .fix:=by
 rcases h with⟨rfl,_⟩|⟨b,o,cap,rfl,_⟩
 ·exact⟨by kernel_rfl,rfl⟩
 ·have: ∀b o n c:Nat,bld prog 96 [(1,.slice (some ⟨b,o,none⟩) n c)]=some (.agg #[.slice none 0 0,.slice (some ⟨b,o,none⟩) n c]):=λb o n c=>by kernel_rfl
  exact⟨this _ _ _ _,rfl⟩
theorem aJy {n:Nat}(hk:OkP p n){H0:aE}{a:Nat}(hp:PV H0 p ev wv nv)(hb:H0[a]? =some (plB p ev wv nv))(hm:17592186045300<m)(hm2:m<=72057594037927936)(x0 x2 x3 x4 x5 x6 x7 x8 x9 bQ cG aS aP aQ aO bB bI aR bJ bM bT bN bP aU aV aW aX aY aZ bA bH bO bV cH cJ bX cC bY b9 cA cD cF cM cN cO cQ cW cX cY cS cT cZ dA dE dB dC dF dL dM dN dQ dZ eA eE eF eG eH eK eN eO:Value):
  ∃H',Mn (lvl prog cR m) (aK m) x0 (.Q a 0) x2 x3 x4 x5 x6 x7 x8 x9 bQ cG aS aP aQ aO bB bI aR bJ bM bT bN bP aU aV aW aX aY aZ bA bH bO bV cH cJ bX cC bY b9 cA cD cF cM cN cO cQ cW cX cY cS cT cZ dA dE dB dC dF dL dM dN dQ dZ eA eE eF eG eH eK eN eO H0=some (.int .u16 (if uD (mO p)=true then 140 else 0),H')/\Ext H0 H':=by
 have l11:=kE hb;obtain⟨H1,wvv,g1,x1,hg⟩:=aJa hp (m:=m) U U
 have hgl:=aJw p;obtain⟨us,hus,hul,_⟩:=id hg;obtain⟨bm,bc⟩:=aJD hus;obtain⟨g,hgg⟩:=aD (mO p);have hinn:=aJv p;have hrow:=aJx p;rw[<-hgg] at hg hgl hinn hrow⊢;obtain⟨H2,hH2⟩:=aD (H1++[Blk.cells [.slice none 0 0,wvv] 96 .fix]);have x2:Ext H1 H2:=by rw[hH2];exact Fr.app _ _ _
 have b2:H2[H1.length]? =some (.cells [.slice none 0 0,wvv] 96 .fix):=by rw[hH2];exact eY _ _
 have l2:ld1 (.Q H1.length 1) H2=some (wvv,H2):=Bk b2 rfl;have hlen:=hg.Wy;have mk:=vY (H:=H2) 3 1 8 [.I 0] .i64 .i64 (g.length:Int) U U U rfl
 simp only[aRC] at mk;rw[aJH] at mk;obtain⟨H3,hH3⟩:=aD (H2++[o8 (List.replicate g.length 0) []]);rw[<-hH3] at mk;have x3:Ext H2 H3:=by rw[hH3];exact Fr.app _ _ _
 have b3:=eU b2 x3;have st:stN 1 (.Q H1.length 0) (.slice (some ⟨H2.length,0,none⟩) g.length g.length) H3=some (undef,H3.set H1.length (mkB H2.length g.length wvv)):=by
  rw[mE 1 _ _ _ rfl,b3,nX _ _ _ _ _ _ aC (by show 0+1<=2;omega) rfl]
  rfl
 obtain⟨H4,hH4⟩:=aD (H3.set H1.length (mkB H2.length g.length wvv));rw[<-hH4] at st;have h12:H2.length=H1.length+1:=by rw[hH2];simp
 have hs:Srch g H1 H1.length H2.length wvv H4 (List.replicate g.length 0):=by
  refine⟨?_,?_,?_,by simp,λx hx=> .inl (by simp at hx;exact hx.2)⟩
  ·rw[hH4];exact nM (x2.tr x3) (aRf _)
  ·rw[hH4];exact aRg (aRa.mp b3).1
  ·rw[hH4,aRb U,hH3];exact eY _ _
 have l4:=Cr hs.mrk;have hlen4:cK (atV H2.length g.length)=some (.I g.length):=rfl;have hrd:=aJF hg hinn (λr hr=>by have:=hrow r hr;omega) (show H1.length≠H2.length by omega) (show H1.length<=H2.length by omega) g.length m U
 unfold Mn;simp only[gsR,l11,g1,bm,bc,<-hH2,l2,hlen,mk,st,l4,hlen4];exact Exists.imp (λH' h=>⟨h.1,x1.tr h.2⟩) (aJB hrd U hinn g.length 0 m H4 (List.replicate g.length 0) U U U hs (λu hu=>by simp[aRR] at hu) (λu hu=>by simp[aRR] at hu) (λu hu=>absurd hu U) ..)
theorem aJz {n:Nat}(hk:OkP p n){H0:aE}{a:Nat}{Q:aE->Value->Prop}(hp:PV H0 p ev wv nv)(hb:H0[a]? =some (plB p ev wv nv))(hm:17592186045300<m)(hm2:m<=72057594037927936)(hQ: ∀H',Ext H0 H'->Q H' (.int .u16 (if uF p n=true/\uD (mO p)=false then 0 else 140))):
  ∀(q i k:Nat)(H1:aE),n-i=q->i<=n->q<k->Ext H0 H1->(∀v,v<i->((List.range n).all λw=>(pO p v w).isSome)=true)-> ∀(x0 x2 x3 x4 x5 x6 x7 x8 x9 bQ cG aS aP aQ aO aR bJ bM bT bN bP aU aV aW aX aY aZ bA bH bO bV cH cJ bX cC bY b9 cA cD cF cM cN cO cQ cW cX cY cS cT cZ dA dE dB dC dF dL dM dN dQ dZ eA eE eF eG eH eK eN eO:Value),
  ∃H' r,aK k (aM prog (lvl prog cR m) (aK m) Mk) (Ga (lvl prog cR m) (aK m)) [x0,(.Q a 0),x2,x3,x4,x5,x6,x7,x8,x9,bQ,cG,aS,aP,aQ,aO,(.I n),(.I (i:Nat)),aR,bJ,bM,bT,bN,bP,aU,aV,aW,aX,aY,aZ,bA,bH,bO,bV,cH,cJ,bX,cC,bY,b9,cA,cD,cF,cM,cN,cO,cQ,cW,cX,cY,cS,cT,cZ,dA,dE,dB,dC,dF,dL,dM,dN,dQ,dZ,eA,eE,eF,eG,eH,eK,eN,eO] H1=some (r,H')/\Q H' r:=by
 intro q;have h6:=hk.h6;induction q with
 |zero=>
  intro i k H1 hr hi hk2 he hpre;intros;obtain⟨k,rfl⟩:=aB k U
  have e:decide ((i:Int)<(n:Int))=false:=aRV U
  have hall:uF p n=true:=by
   unfold uF;rw[aRP];intro v hv;exact hpre v (by have:=aRO.mp hv;omega)
  rw[dG,X1];simp only[gsR,e];rw[aII];refine Exists.imp (λH' h=>⟨_,h.1,?_⟩) (aJy hk (hp.ext he) (eU hb he) hm hm2 ..)
  have:=hQ H' (he.tr h.2);rw[hall] at this;cases hc:uD (mO p) with
  |true=>rw[hc] at this;simpa using this
  |false=>rw[hc] at this;simpa using this
 |succ q ih=>
  intro i k H1 hr hi hk2 he hpre;intros;obtain⟨k,rfl⟩:=aB k U
  have e:decide ((i:Int)<(n:Int))=true:=aRU U
  have b1:=eU hb he;have l0:=eP b1 0 _ rfl;rw[hk.hn] at l0;have hrr: ∀v:Nat,((List.range' 0 n).all λw=>(pO p v w).isSome)=((List.range n).all λw=>(pO p v w).isSome):=λv=>by rw[List.range_eq_range']
  rw[dG,X1];simp only[gsR,e,l0];refine aJA hk (v:=i) U (hp.ext he) b1 (Q:=Q) U hm2 n 0 m H1 U U U (Fr.gR _ _) (λH' hx hall=> ?_) (λH' hx hall=> ?_) ..
  ·rw[hrr] at hall
   intros;simp only[gsR];refine ih (i+1) k H' U U U (he.tr hx) (λv hv=> ?_) ..
   by_cases hvi:v=i
   ·rw[hvi];exact hall
   ·exact hpre v U
  ·rw[hrr] at hall
   intros;simp only[gsR];rw[aIM];refine⟨H',_,rfl,?_⟩;have hno:uF p n=false:=by
    rw[<-Bool.not_eq_true];unfold uF;rw[aRP];intro hh;rw[hh i (aRO.mpr U)] at hall
    cases hall
   have:=hQ H' (he.tr hx);rw[hno] at this;simpa using this
theorem Yy (hp:PV H p ev wv nv)(hm:17592186045400<m)(hm2:m<=72057594037927936):
  ∃H',lvl prog cR m (.func 16) [plV p ev wv nv] H=some (.int .u16 (nO p),H')/\Ext H H':=by
 obtain⟨H0,hH0⟩:=aD (H++[plB p ev wv nv]);have x0:Ext H H0:=by rw[hH0];exact Fr.app _ _ _
 have b0:H0[H.length]? =some (plB p ev wv nv):=by rw[hH0];exact eY _ _
 have p0:=hp.ext x0;have l11:=kE b0;obtain⟨H1,g1,x1⟩:=W5 p0 (m:=m-1) U U
 have b1:=eU b0 x1;have p1:=p0.ext x1;have main: ∃H' r,lvl prog cR m (.func 16) [plV p ev wv nv] H=some (r,H')/\(r= .int .u16 (nO p)/\Ext H H'):=by
  refine iB (Q:=λH' r=>r= .int .u16 (nO p)/\Ext H H') (gN rfl rfl) U ?_
  rw[aIL];cases hc:gS p with
  |false=>
   rw[hc] at g1;have en:(wH false !=0)=true:=rfl;have e:nO p=wH false:=by unfold nO;rw[if_neg (by simp[hc])];rfl
   simp only[gsR,k9,<-hH0,l11,g1,en]
   exact⟨H1,_,rfl,by rw[e],x0.tr x1⟩
  |true=>
   rw[hc] at g1;have en:(wH true !=0)=false:=rfl;obtain⟨n,hk⟩:=tB hc;have h6:=hk.h6;have l0:=eP b1 0 _ rfl;rw[hk.hn] at l0;simp only[gsR,k9,<-hH0,l11,g1,en,l0];refine aJz hk (Q:=λH' r=>r= .int .u16 (nO p)/\Ext H H') p1 b1 (m:=m-1) U U (λH' hx=>⟨?_,(x0.tr x1).tr hx⟩) n 0 (m-1) H1 U U U (Fr.gR _ _) (λv hv=>absurd hv U) ..
   congr 1
   unfold nO Nb;have hq:p.nodes.toNat=n:=by rw[hk.hn];rfl
   rw[if_pos hc,hc,hq];cases uD (mO p)<;>cases uF p n<;>simp
 obtain⟨H',r,h1,rfl,h2⟩:=main
 exact⟨H',h1,h2⟩
end
theorem aJK {a:Int}(h:(Lit.int .u16 a).wf=true):0<=a/\a<65536:=by
 have e: ∀z:Int,(Lit.int .u16 z).wf=(decide (0<=z)&&decide (z<=65535)):=λz=>rfl
 rw[e] at h;simp only[aRi,decide_eq_true_eq] at h
 exact⟨h.1,by omega⟩
theorem Nc {a:Int}(h:(Lit.int .u8 a).wf=true): ∃n:Nat,a=n/\n<256:=by
 have:=aER h
 exact⟨a.toNat,by omega,by omega⟩
theorem aJJ {a:Int}(h:(Lit.int .u16 a).wf=true): ∃n:Nat,a=n/\n<65536:=by
 have:=aJK h
 exact⟨a.toNat,by omega,by omega⟩
def Cs (r:List Value):Nat:=match r with
 |[.int _ i]=>i.toNat
 |_=>0
theorem Us.aJI {G:aE}{n:Nat}{u:Value}(h:Rp prog G n 22 [u]): ∃next,Us G u next/\(∀x∈next,x<256)/\next.length<=72057594037927936:=by
 obtain⟨m,u',b,rows,h1,h2,h3,h4,h5⟩:=h.Uk (e:=5) (by kernel_rfl)
 cases h1;have hc:prog.cellsOf 5=1:=by kernel_rfl
 have hb:prog.bytesOf 5=1:=by kernel_rfl
 rw[hc] at h2;rw[hb] at h3;have hr: ∀r∈rows,u8C (Cs r)=r/\Cs r<256:=λr hr=>by
  obtain⟨i,hi,hw⟩:=(h5 r hr).2.Bm (k:= .u8) (by kernel_rfl)
  obtain⟨k,rfl,hk⟩:=Nc hw;subst hi
  exact⟨rfl,by simpa[Cs] using hk⟩
 have hm:(rows.map Cs).map u8C=rows:=by
  rw[List.map_map]
  conv=>rhs;rw[<-List.map_id rows]
  exact List.map_congr_left λr hr'=>(hr r hr').1
 refine⟨rows.map Cs,?_,λx hx=> ?_,?_⟩
 ·rw[<-hm] at h2
  rcases h4 with rfl|⟨c,rfl⟩
  ·have h0:rows=[]:=by
    have:=h2.len;have hl:cK (Value.slice none 0 0)=some (.I 0):=rfl;rw[hl,hm] at this;simp at this;exact aRs.mp U
   subst h0;exact .inl ⟨rfl,rfl⟩
  ·exact h2.rs L4 (c:=c) (.inr (by rw[aRo]))
 ·obtain⟨r,hr1,rfl⟩:=aRN.mp hx
  exact(hr r hr1).2
 ·have:reachBytes=140737488351232:=rfl
  rw[aRo];omega
section
variable {H H0 : aE} {m : Nat} {p : PlanD} {ev wv nv : Value}
def tab (n:Nat)(F:Nat->Nat->Int):List (List Int):=(List.range n).map λv=>(List.range n).map (F v)
theorem aJL (n:Nat)(F:Nat->Nat->Int):(tab n F).length=n:=by simp[tab]
variable {a : Nat}
end
def cpP (n:Nat)(E:List Ed)(N:List (List Int)):PlanD:=⟨n,E,1,1,1,1,1,1,[1],0,N⟩
theorem Yz {p:PlanD}{n:Nat}{E:List Ed}{N:List (List Int)}(h1:p.nodes=(n:Int))(h2:p.edges=E)(h3:p.next=N)(w:Int): ∀(q:Nat)(l:List Int)(v:Int),yF p w q l v=yF (cpP n E N) w q l v
 |0,_,_=>rfl
 |q+1,l,v=>by
  have e:nx p v w=nx (cpP n E N) v w:=by unfold nx cpP;rw[h3]
  unfold yF;rw[e,h1,h2,Yz h1 h2 h3 w q];rfl
theorem aJM {p:PlanD}{n:Nat}{E:List Ed}{N:List (List Int)}(h:gS p=true)(hc:gS (cpP n E N)=true)(h1:p.nodes=(n:Int))(h2:p.edges=E)(h3:p.next=N):
  (∀v w,pO p v w=pO (cpP n E N) v w)/\(∀v w,wK p v w=wK (cpP n E N) v w)/\mO p=mO (cpP n E N)/\nO p=nO (cpP n E N):=by
 have a1: ∀v w,pO p v w=pO (cpP n E N) v w:=λv w=>by
  unfold pO;rw[Yz h1 h2 h3,h1];rfl
 have a2: ∀v w,wK p v w=wK (cpP n E N) v w:=λv w=>by
  unfold wK;rw[a1,h,hc,h1];rfl
 have e: ∀v w,nx p v w=nx (cpP n E N) v w:=λv w=>by unfold nx cpP;rw[h3]
 have e2: ∀a b,wt p n a b=wt (cpP n E N) n a b:=λa b=>by
  unfold wt
  congr 1
  funext w
  unfold Gj;rw[e,e]
 have e3:dK p=dK (cpP n E N):=by
  unfold dK mY;rw[h1,h2];rfl
 have a3:mO p=mO (cpP n E N):=by
  unfold mO;rw[h,hc,e3,h1];simp only[if_true];refine List.map_congr_left λa _=> ?_
  show oG p n _ a=oG (cpP n E N) n _ a
  unfold oG;simp only[e2]
 refine⟨a1,a2,a3,?_⟩;unfold nO Nb;rw[a3,h,hc,h1];have: ∀m,uF p m=uF (cpP n E N) m:=λm=>by
  unfold uF;simp only[a1]
 rw[this];rfl
section
variable {H : aE} {m : Nat} {p : PlanD} {ev wv nv : Value}
end
def ofL (c:List Nat)(n:Nat):List Int:=(List.range n).map λj=>((c.getD j 0%(j+1):Nat):Int)
def ofT (c:List Nat):List Int:=if min c.length 5=0 then [0] else ofL c (min c.length 5)
def jY (t:List Int):Bool:=(List.range t.length).all (λi=>decide (0<=t.getD i 0)&&decide (t.getD i 0<=i))&&decide ((t.length:Int)<=5)
def upL (t:List Int):Nat->Int->List Int
 |0,v=>[v]
 |q+1,v=>if 0<v then v::upL t q (t.getD (v-1).toNat 0) else [v]
def upT (t:List Int)(v:Int):List Int:=upL t v.toNat v
def Ct:Nat->List Int->List Int->List Int×List Int
 |0,a,b=>(a,b)
 |q+1,a,b=>if 1<a.length/\1<b.length/\a.getD (a.length-2) 0=b.getD (b.length-2) 0 then Ct q (a.take (a.length-1)) (b.take (b.length-1)) else(a,b)
def Gp (s:List Int×List Int):List Int:=s.1++(s.2.take (s.2.length-1)).reverse
def o9 (t:List Int)(v w:Int):List Int:=if jY t=true/\0<=v/\v<=t.length/\0<=w/\w<=t.length then Gp (Ct (upT t v).length (upT t v) (upT t w)) else []
def Ab (t:List Int):List Ed:=(List.range t.length).map λi=>(t.getD i 0,((i+1:Nat):Int))
def nZ (t:List Int):List (List Int):=tab (t.length+1) λv w=>if v=w then(v:Int) else(o9 t v w).getD 1 0
def rY (p:PlanD)(t:List Int):PlanD:={p with nodes:=((t.length+1:Nat):Int),edges:=Ab t,next:=nZ t}
theorem Y0 {t:List Int}(h:jY t=true){i:Nat}{x:Int}(hx:t[i]? =some x):0<=x/\x<=i/\t.length<=5:=by
 unfold jY at h;rw[aRi,aRP] at h;have:=h.1 i (aRO.mpr (aRa.mp hx).1);rw[aRe,hx] at this;simp at this;have h2:=of_decide_eq_true h.2;omega
theorem Nd (t:List Int): ∀(q:Nat)(v:Int),0<(upL t q v).length/\(upL t q v).length<=q+1
 |0,v=>by simp[upL]
 |q+1,v=>by
  unfold upL;split
  ·have:=Nd t q (t.getD (v-1).toNat 0)
   simp only[aRw];omega
  ·simp
section
variable {H : aE} {m : Nat} {p : PlanD} {ev wv nv : Value}
theorem wN {l:List Int}{i:Nat}{x:Int}(h:l[i]? =some x):l.getD i 0=x:=by rw[aRe,h];rfl
theorem aJO {H0:aE}{cv:Value}{c:List Nat}(hc:Us H0 cv c)(hu8: ∀x∈c,x<256)(hl:c.length<=72057594037927936): ∀(q i k:Nat)(H1:aE)(acc:Value),min c.length 5-i=q->i<=min c.length 5->q<k->Ext H0 H1->Iw H1 acc (ofL c i)->New H0 acc-> ∀(x1 x2 x5 x6 x7 x8 x9 bQ cG aS aP aQ aO bB bI aR bJ bM bT bN bP aU aV aW aX aY aZ bA bH bO:Value),
  ∃H' u,aK k (aM prog (lvl prog cR m) (aK m) Mh) (Mj (lvl prog cR m) (aK m)) [cv,x1,x2,acc,(.I (i:Nat)),x5,x6,x7,x8,x9,bQ,cG,aS,aP,aQ,aO,bB,bI,aR,bJ,bM,bT,bN,bP,aU,aV,aW,aX,aY,aZ,bA,bH,bO] H1=some (u,H')/\Ext H0 H'/\Iw H' u (ofT c)/\New H0 u:=by
 intro q;induction q with
 |zero=>
  intro i k H1 acc hq hi hk he ha hnew;intros;obtain⟨k,rfl⟩:=aB k U
  have hlen:=(hc.ext he).jX;have hal:=ha.qT;have hal2:(ofL c i).length=i:=by simp[ofL]
  rw[hal2] at hal;have tail: ∀(x1 x2 x5 x6 x7 x8 x9 bQ cG aS aP aQ aO bB bI aR bJ bM bT bN bP aU aV aW aX aY aZ bA bH bO:Value),∃H' u,Mi (lvl prog cR m) (aK m) cv x1 x2 acc (.I (i:Nat)) x5 x6 x7 x8 x9 bQ cG aS aP aQ aO bB bI aR bJ bM bT bN bP aU aV aW aX aY aZ bA bH bO H1=some (u,H')/\Ext H0 H'/\Iw H' u (ofT c)/\New H0 u:=by
   intros;unfold Mi;by_cases h0:i=0
   ·have e0:((i:Int)==0)=true:=by simp[h0]
    subst h0;have ha':Iw H1 acc []:=ha;obtain⟨acc2,H2,t1,t2,t3,t4⟩:=ha'.rU (by':=8) gW o5 aC 0 hnew he aC
    simp only[gsR,hal,e0,o7,t1];have:ofT c=[0]:=by unfold ofT;rw[if_pos U]
    rw[this]
    exact⟨_,_,rfl,t4,t2,t3⟩
   ·have e0:((i:Int)==0)=false:=by simp;omega
    simp only[gsR,hal,e0];have:ofT c=ofL c i:=by unfold ofT;rw[if_neg U];congr 1;omega
    rw[this]
    exact⟨_,_,rfl,he,ha,hnew⟩
  rw[dG,Xz];by_cases hcl:i<c.length
  ·have e1:decide ((i:Int)<(c.length:Int))=true:=aRU U
   have e2:decide ((i:Int)<5)=false:=aRV U
   simp only[gsR,hlen,e1,e2];rw[X0];exact tail ..
  ·have e1:decide ((i:Int)<(c.length:Int))=false:=aRV U
   simp only[gsR,hlen,e1];rw[X0];exact tail ..
 |succ q ih=>
  intro i k H1 acc hq hi hk he ha hnew;intros;obtain⟨k,rfl⟩:=aB k U
  have hlen:=(hc.ext he).jX;have e1:decide ((i:Int)<(c.length:Int))=true:=aRU U
  have e2:decide ((i:Int)<5)=true:=aRU U
  have e3:=aA (i:=i) U
  obtain⟨x,hx⟩: ∃x,c[i]? =some x:=⟨_,aRc U⟩
  have hx8:=hu8 x (aRk hx);obtain⟨b,o,g1,_,g3⟩:=(hc.ext he).fV L4 hx .i64;have g4:ld1 (.pointer (some ⟨b,o,none⟩)) H1=some (.int .u8 x,H1):=(g3 H1 rfl).2.1 0 _ rfl;have c1:=λH=>cvU H x hx8
  have c2:=yC x (i+1) (i+1:Nat) rfl U
  have hal2:(ofL c i).length=i:=by simp[ofL]
  obtain⟨acc2,H2,t1,t2,t3,t4⟩:=ha.rU (by':=8) gW o5 aC ((x%(i+1):Nat):Int) hnew he (gX (n:=1000) aC U)
  have hn:ofL c (i+1)=ofL c i++[((x%(i+1):Nat):Int)]:=by
   unfold ofL;rw[aRJ,List.map_append];simp only[aRF,List.map_nil];rw[aRe,hx];rfl
  rw[dG,Xz];simp only[gsR,hlen,e1,e2,g1,g4,c1,cU,e3,c2,o7,t1];exact ih (i+1) k H2 acc2 U U U t4 (by rw[hn];exact t2) t3 ..
theorem aJN {cv:Value}{c:List Nat}(hc:Us H cv c)(hu8: ∀x∈c,x<256)(hl:c.length<=72057594037927936)(hm:100<m): ∃H' u,lvl prog cR m (.func 15) [cv] H=some (u,H')/\Ext H H'/\Iw H' u (ofT c)/\New H u:=by
 refine iB (gN rfl rfl) U ?_
 rw[aIH];exact aJO hc hu8 hl (min c.length 5) 0 (m-1) H (.slice none 0 0) U U U (Fr.gR _ _) Rw.kL (New.mN _) ..
theorem aJP {tv:Value}{t:List Int}(ht:Is H tv t)(hl:t.length<=72057594037927936): ∀(q i k:Nat),t.length-i=q->i<=t.length->q<k->(∀j,j<i->(decide (0<=t.getD j 0)&&decide (t.getD j 0<=j))=true)-> ∀(x1 x2 x4 x5 x6 x7 x8 x9 bQ cG aS aP aQ aO bB bI aR bJ bM bT bN bP aU aV:Value),
  aK k (aM prog (lvl prog cR m) (aK m) Mo) (Gd (lvl prog cR m) (aK m)) [tv,x1,x2,(.I (i:Nat)),x4,x5,x6,x7,x8,x9,bQ,cG,aS,aP,aQ,aO,bB,bI,aR,bJ,bM,bT,bN,bP,aU,aV] H=some (.bool (jY t),H):=by
 intro q;have hlen:=ht.jX;induction q with
 |zero=>
  intro i k hq hi hk hpre;intros;obtain⟨k,rfl⟩:=aB k U
  have e:decide ((i:Int)<(t.length:Int))=false:=aRV U
  have hr:jY t=decide ((t.length:Int)<=5):=by
   unfold jY;rw[aRP.mpr (λj hj=>hpre j (by have:=aRO.mp hj;omega)),aRx]
  rw[hr,dG,X4];simp only[gsR,hlen,e];rw[aIP];simp only[gsR,hlen]
 |succ q ih=>
  intro i k hq hi hk hpre;intros;obtain⟨k,rfl⟩:=aB k U
  have e:decide ((i:Int)<(t.length:Int))=true:=aRU U
  have e3:=aA (i:=i) U
  obtain⟨x,hx⟩: ∃x,t[i]? =some x:=⟨_,aRc U⟩
  obtain⟨b,o,g1,_,g3⟩:=ht.fV gW hx .i64;have g4:ld1 (.pointer (some ⟨b,o,none⟩)) H=some (.int .i64 x,H):=(g3 H rfl).2.1 0 _ rfl;have hd:=wN hx;have bad:(decide (0<=x)&&decide (x<=i))=false->jY t=false:=λh=>by
   rw[<-Bool.not_eq_true];unfold jY;rw[aRi,aRP];rintro ⟨hh,_⟩
   have:=hh i (aRO.mpr U)
   rw[hd,h] at this;cases this
  rw[dG,X4];by_cases c1:x<0
  ·have d1:decide (x<0)=true:=aRU c1
   rw[bad (by rw[aRV U];rfl)]
   simp only[gsR,hlen,e,g1,g4,d1];rw[X5];rfl
  ·have d1:decide (x<0)=false:=aRV c1
   by_cases c2:(i:Int)<x
   ·have d2:decide ((i:Int)<x)=true:=aRU c2
    rw[bad (by rw[aRV (show¬x<=i by omega),Bool.and_false])]
    simp only[gsR,hlen,e,g1,g4,d1,d2];rw[X5];rfl
   ·have d2:decide ((i:Int)<x)=false:=aRV c2
    simp only[gsR,hlen,e,g1,g4,d1,d2,cU,e3];refine ih (i+1) k U U U (λj hj=> ?_) ..
    by_cases hji:j=i
    ·rw[hji,hd,aRU U,aRU U];rfl
    ·exact hpre j U
theorem Y1 {tv:Value}{t:List Int}(ht:Is H tv t)(hm:t.length+10<m)(hm2:m<=72057594037927936):lvl prog cR m (.func 39) [tv] H=some (.bool (jY t),H):=by
 refine dH (gN rfl rfl) U ?_
 rw[aIQ];exact aJP ht U t.length 0 (m-1) U U U (λj hj=>absurd hj U) ..
theorem aJT {H0:aE}{tv:Value}{t:List Int}(ht:Is H0 tv t)(hr:jY t=true): ∀(q k:Nat)(v:Int)(H1:aE)(acc:Value)(pre:List Int),v.toNat<=q->0<=v/\v<=t.length->q<k->pre.length+q<=20->Ext H0 H1->Iw H1 acc (pre++[v])->New H0 acc-> ∀(x2 x3 x4 x6 x7 x8 x9 bQ cG aS aP aQ aO bB bI aR bJ:Value),
  ∃H' u,aK k (aM prog (lvl prog cR m) (aK m) Mz) (M0 (lvl prog cR m) (aK m)) [tv,(.I v),x2,x3,x4,acc,x6,x7,x8,x9,bQ,cG,aS,aP,aQ,aO,bB,bI,aR,bJ] H1=some (u,H')/\Ext H0 H'/\Iw H' u (pre++upL t q v)/\New H0 u:=by
 intro q;induction q with
 |zero=>
  intro k v H1 acc pre hv hvr hk hpl he ha hnew;intros;obtain⟨k,rfl⟩:=aB k U
  have e:decide (0<v)=false:=aRV U
  rw[dG,Yc];simp only[gsR,e];rw[Yd]
  exact⟨H1,acc,rfl,he,ha,hnew⟩
 |succ q ih=>
  intro k v H1 acc pre hv hvr hk hpl he ha hnew;intros;obtain⟨k,rfl⟩:=aB k U
  rw[dG,Yc];unfold upL;by_cases h0:0<v
  ·have e:decide (0<v)=true:=aRU h0
   rw[if_pos h0];have hev:v-1=(((v-1).toNat:Nat):Int):=U
   obtain⟨x,hx⟩: ∃x,t[(v-1).toNat]? =some x:=⟨_,aRc U⟩
   have hxr:=Y0 hr hx;obtain⟨b,o,g1,_,g3⟩:=(ht.ext he).fV gW hx .i64;rw[<-hev] at g1;have g4:ld1 (.Q b o) H1=some (.I x,H1):=(g3 H1 rfl).2.1 0 _ rfl;have e4:IntKind.i64.wrap (v-1)=v-1:=dJ U U
   obtain⟨acc2,H2,t1,t2,t3,t4⟩:=ha.rU (by':=8) gW o5 aC x hnew he (gX (n:=1000) aC (by simp;omega))
   simp only[gsR,e,j8,e4,g1,g4,o7,t1];have:=ih k x H2 acc2 (pre++[v]) U U U (by simp;omega) t4 t2 t3
   rw[wN hx];simp only[aRh,List.singleton_append] at this;exact this ..
  ·have e:decide (0<v)=false:=aRV h0
   rw[if_neg h0];simp only[gsR,e];rw[Yd]
   exact⟨H1,acc,rfl,he,ha,hnew⟩
theorem Y2 {tv:Value}{t:List Int}(ht:Is H tv t)(hr:jY t=true){v:Int}(hv:0<=v/\v<=t.length)(hm:100<m): ∃H' u,lvl prog cR m (.func 76) [tv,.I v] H=some (u,H')/\Ext H H'/\Iw H' u (upT t v)/\New H u:=by
 have h5:t.length<=5:=by
  unfold jY at hr;rw[aRi] at hr;have:=of_decide_eq_true hr.2;omega
 have one:Iw (H++[.cells (inC v) 3 .row]) (.slice (some ⟨H.length,0,none⟩) 1 1) ([]++[v]):=⟨rfl,.inr ⟨_,1,[],rfl,by simp,rfl,by simp⟩⟩
 have hnew:New H (.slice (some ⟨H.length,0,none⟩) 1 1):=λb ⟨_,_,_,hh⟩=>by cases hh;exact aRf _
 refine iB (gN rfl rfl) U ?_
 rw[aI2];simp only[gsR,o7];exact aJT ht hr v.toNat (m-1) v _ _ [] (aRf _) hv U (by simp;omega) (Fr.app _ _ _) one hnew ..
theorem aJS {H0:aE}{bv:Value}{b:List Int}(hb:Is H0 bv b)(hbl:b.length<=10): ∀(q k:Nat)(H1:aE)(acc:Value)(pre:List Int),q<=b.length->q<k->pre.length+q<=40->Ext H0 H1->Iw H1 acc pre->New H0 acc-> ∀(x0 x1 x2 x3 x4 x5 x6 x7 cG aS aP aQ aO bB bI aR bJ bM bT bN bP aU aV aW aX aY aZ bA bH bO bV cH cJ bX cC bY b9 cA cD cF cM cN cO cQ cW cX cY cS cT cZ dA dE dB dC dF dL dM dN dQ dZ eA eE eF eG eH eK eN eO eZ fA fB fC fD fE fI fJ fK fL fM fN fX fY fZ gC gF gG gH gI:Value),
  ∃H' u,aK k (aM prog (lvl prog cR m) (aK m) Mq) (Mu (lvl prog cR m) (aK m)) [x0,x1,x2,x3,x4,x5,x6,x7,bv,acc,(.I ((q:Int)-1)),cG,aS,aP,aQ,aO,bB,bI,aR,bJ,bM,bT,bN,bP,aU,aV,aW,aX,aY,aZ,bA,bH,bO,bV,cH,cJ,bX,cC,bY,b9,cA,cD,cF,cM,cN,cO,cQ,cW,cX,cY,cS,cT,cZ,dA,dE,dB,dC,dF,dL,dM,dN,dQ,dZ,eA,eE,eF,eG,eH,eK,eN,eO,eZ,fA,fB,fC,fD,fE,fI,fJ,fK,fL,fM,fN,fX,fY,fZ,gC,gF,gG,gH,gI] H1=some (u,H')/\Ext H0 H'/\Iw H' u (pre++(b.take q).reverse)/\New H0 u:=by
 intro q;induction q with
 |zero=>
  intro k H1 acc pre hq hk hpl he ha hnew;intros;obtain⟨k,rfl⟩:=aB k U
  have e:decide (0<=((0:Nat):Int)-1)=false:=by decide
  rw[dG,X6];simp only[gsR,e];rw[aIS]
  exact⟨H1,acc,rfl,he,by simpa using ha,hnew⟩
 |succ q ih=>
  intro k H1 acc pre hq hk hpl he ha hnew;intros;obtain⟨k,rfl⟩:=aB k U
  have e:decide (0<=((q+1:Nat):Int)-1)=true:=aRU U
  have eq:(((q+1:Nat):Int)-1)=((q:Nat):Int):=U
  have e3:IntKind.i64.wrap (((q:Nat):Int)-1)=((q:Nat):Int)-1:=dJ U U
  obtain⟨x,hx⟩: ∃x,b[q]? =some x:=⟨_,aRc U⟩
  obtain⟨c,o,g1,_,g3⟩:=(hb.ext he).fV gW hx .i64;have g4:ld1 (.Q c o) H1=some (.I x,H1):=(g3 H1 rfl).2.1 0 _ rfl;obtain⟨acc2,H2,t1,t2,t3,t4⟩:=ha.rU (by':=8) gW o5 aC x hnew he (gX (n:=1000) aC U)
  rw[dG,X6];simp only[gsR,e,eq,g1,g4,o7,t1,j8,e3];have:=ih k H2 acc2 (pre++[x]) U U (by simp;omega) t4 t2 t3
  have hr:(b.take (q+1)).reverse=x::(b.take q).reverse:=by rw[List.take_add_one,hx];simp
  rw[hr];simp only[aRh,List.singleton_append] at this;exact this ..
theorem aJR {H0:aE}(hm:100<m): ∀(q k:Nat)(a b:List Int)(av bv:Value),a.length<=q->q<k->0<a.length->0<b.length->a.length<=10->b.length<=10->Is H0 av a->Is H0 bv b-> ∀(x0 x1 x2 x3 x4 x5 x6 x9 bQ cG aS aP aQ aO bB bI aR bJ bM bT bN bP aU aV aW aX aY aZ bA bH bO bV cH cJ bX cC bY b9 cA cD cF cM cN cO cQ cW cX cY cS cT cZ dA dE dB dC dF dL dM dN dQ dZ eA eE eF eG eH eK eN eO eZ fA fB fC fD fE fI fJ fK fL fM fN fX fY fZ gC gF gG gH gI:Value),
  ∃H' u,aK k (aM prog (lvl prog cR m) (aK m) Mp) (Mt (lvl prog cR m) (aK m)) [x0,x1,x2,x3,x4,x5,x6,av,bv,x9,bQ,cG,aS,aP,aQ,aO,bB,bI,aR,bJ,bM,bT,bN,bP,aU,aV,aW,aX,aY,aZ,bA,bH,bO,bV,cH,cJ,bX,cC,bY,b9,cA,cD,cF,cM,cN,cO,cQ,cW,cX,cY,cS,cT,cZ,dA,dE,dB,dC,dF,dL,dM,dN,dQ,dZ,eA,eE,eF,eG,eH,eK,eN,eO,eZ,fA,fB,fC,fD,fE,fI,fJ,fK,fL,fM,fN,fX,fY,fZ,gC,gF,gG,gH,gI] H0=some (u,H')/\Ext H0 H'/\Iw H' u (Gp (Ct q a b))/\New H0 u:=by
 intro q;have fin: ∀(a b:List Int)(av bv:Value),0<b.length->a.length<=10->b.length<=10->Is H0 av a->Is H0 bv b-> ∀(x0 x1 x2 x3 x4 x5 x6 x9 bQ cG aS aP aQ aO bB bI aR bJ bM bT bN bP aU aV aW aX aY aZ bA bH bO bV cH cJ bX cC bY b9 cA cD cF cM cN cO cQ cW cX cY cS cT cZ dA dE dB dC dF dL dM dN dQ dZ eA eE eF eG eH eK eN eO eZ fA fB fC fD fE fI fJ fK fL fM fN fX fY fZ gC gF gG gH gI:Value),∃H' u,Mr (lvl prog cR m) (aK m) x0 x1 x2 x3 x4 x5 x6 av bv x9 bQ cG aS aP aQ aO bB bI aR bJ bM bT bN bP aU aV aW aX aY aZ bA bH bO bV cH cJ bX cC bY b9 cA cD cF cM cN cO cQ cW cX cY cS cT cZ dA dE dB dC dF dL dM dN dQ dZ eA eE eF eG eH eK eN eO eZ fA fB fC fD fE fI fJ fK fL fM fN fX fY fZ gC gF gG gH gI H0=some (u,H')/\Ext H0 H'/\Iw H' u (Gp (a,b))/\New H0 u:=by
  intro a b av bv hb0 ha hb hav hbv;intros;obtain⟨v',H',t1,t2,t3,t4⟩:=(Rw.kL (el:=inC) (e:=3) (sz:=1) (H:=H0)).zT gW o5 aC (by':=8) hav (New.mN H0) (Fr.gR _ H0) (gX (n:=1000) aC (by simp;omega))
  rw[List.nil_append] at t2;have hlen:=(hbv.ext t4).jX;have e3:IntKind.i64.wrap ((b.length:Int)-2)=((b.length-1:Nat):Int)-1:=by rw[dJ U U];omega
  unfold Mr;simp only[gsR,t1,hlen,j8,e3];exact Exists.imp (λH2 h=>Exists.imp (λu h=>⟨h.1,h.2.1,h.2.2⟩) h) (aJS (m:=m) hbv hb (b.length-1) m H' v' a U U U t4 t2 t3 ..)
 induction q with
 |zero=>intro k a b av bv h1 _ h2;omega
 |succ q ih=>
  intro k a b av bv haq hk ha0 hb0 ha10 hb10 hav hbv;intros;obtain⟨k,rfl⟩:=aB k U
  have la:=hav.jX;have lb:=hbv.jX;rw[dG,aIR];unfold Ct;by_cases c1:1<a.length
  ·have d1:decide ((1:Int)<(a.length:Int))=true:=aRU U
   by_cases c2:1<b.length
   ·have d2:decide ((1:Int)<(b.length:Int))=true:=aRU U
    obtain⟨x,hx⟩: ∃x,a[a.length-2]? =some x:=⟨_,aRc U⟩
    obtain⟨y,hy⟩: ∃y,b[b.length-2]? =some y:=⟨_,aRc U⟩
    have ea:IntKind.i64.wrap ((a.length:Int)-2)=((a.length-2:Nat):Int):=by rw[dJ U U];omega
    have eb:IntKind.i64.wrap ((b.length:Int)-2)=((b.length-2:Nat):Int):=by rw[dJ U U];omega
    have ea1:IntKind.i64.wrap ((a.length:Int)-1)=((a.length-1:Nat):Int):=by rw[dJ U U];omega
    have eb1:IntKind.i64.wrap ((b.length:Int)-1)=((b.length-1:Nat):Int):=by rw[dJ U U];omega
    obtain⟨c,o,g1,_,g3⟩:=hav.fV gW hx .i64;have g4:ld1 (.Q c o) H0=some (.I x,H0):=(g3 H0 rfl).2.1 0 _ rfl;obtain⟨c',o',k1,_,k3⟩:=hbv.fV gW hy .i64;have k4:ld1 (.Q c' o') H0=some (.I y,H0):=(k3 H0 rfl).2.1 0 _ rfl;by_cases c3:x=y
    ·have d3:(x==y)=true:=by simp[c3]
     rw[if_pos ⟨c1,c2,by rw[wN hx,wN hy,c3]⟩]
     have na:a≠[]:=λh=>by rw[h] at ha0;simp at ha0
     have nb:b≠[]:=λh=>by rw[h] at hb0;simp at hb0
     obtain⟨a',s1,s2,_⟩:=hav.E5 (P:=prog) gW szI na (lo:=none) rfl (oE a.length .i64 (a.length-1)) (Nat.zero_le _) U
     obtain⟨b',s3,s4,_⟩:=hbv.E5 (P:=prog) gW szI nb (lo:=none) rfl (oE b.length .i64 (b.length-1)) (Nat.zero_le _) U
     rw[List.drop_zero] at s2 s4;simp only[gsR,la,d1,lb,d2,j8,ea,eb,g1,g4,k1,k4,d3,ea1,eb1,s1,s3];exact ih k _ _ a' b' (by simp;omega) U (by simp;omega) (by simp;omega) (by simp;omega) (by simp;omega) s2 s4 ..
    ·have d3:(x==y)=false:=by simp[c3]
     rw[if_neg (by rw[wN hx,wN hy];rintro ⟨_,_,h⟩;exact c3 h)]
     simp only[gsR,la,d1,lb,d2,j8,ea,eb,g1,g4,k1,k4,d3];rw[Ms];exact fin a b av bv hb0 ha10 hb10 hav hbv ..
   ·have d2:decide ((1:Int)<(b.length:Int))=false:=aRV U
    rw[if_neg U]
    simp only[gsR,la,d1,lb,d2];rw[Ms];exact fin a b av bv hb0 ha10 hb10 hav hbv ..
  ·have d1:decide ((1:Int)<(a.length:Int))=false:=aRV U
   rw[if_neg U]
   simp only[gsR,la,d1];rw[Ms];exact fin a b av bv hb0 ha10 hb10 hav hbv ..
theorem aJQ {tv:Value}{t:List Int}(ht:Is H tv t)(hr:jY t=true){v w:Int}(hv:0<=v/\v<=t.length)(hw:0<=w/\w<=t.length)(hm:200<m)(hm2:m<=72057594037927936):
  ∃H' u,lvl prog cR m (.func 40) [tv,.I v,.I w] H=some (u,H')/\Ext H H'/\Iw H' u (o9 t v w)/\New H u:=by
 have h5:t.length<=5:=by
  unfold jY at hr;rw[aRi] at hr;have:=of_decide_eq_true hr.2;omega
 have g1:=Y1 ht (m:=m-1) U U
 rw[hr] at g1;have hlen:=ht.jX;have d1:decide (v<0)=false:=aRV U
 have d2:decide ((t.length:Int)<v)=false:=aRV U
 have d3:decide (w<0)=false:=aRV U
 have d4:decide ((t.length:Int)<w)=false:=aRV U
 obtain⟨H1,a,g2,x1,qa,_⟩:=Y2 ht hr hv (m:=m-1) U
 obtain⟨H2,b,g3,x2,qb,_⟩:=Y2 (ht.ext x1) hr hw (m:=m-1) U
 have la:=Nd t v.toNat v;have lb:=Nd t w.toNat w;have e:o9 t v w=Gp (Ct (upT t v).length (upT t v) (upT t w)):=by unfold o9;rw[if_pos ⟨hr,hv.1,hv.2,hw.1,hw.2⟩]
 refine iB (gN rfl rfl) U ?_
 rw[aIT];simp only[gsR,g1,hlen,d1,d2,d3,d4,g2,g3];rw[e];have hla:(upT t v).length=(upL t v.toNat v).length:=rfl;have hlb:(upT t w).length=(upL t w.toNat w).length:=rfl;exact Exists.imp (λH' h=>Exists.imp (λu h=>⟨h.1,(x1.tr x2).tr h.2.1,h.2.2.1,λc hc=>aRq (x1.tr x2).1 (h.2.2.2 c hc)⟩) h) (aJR (m:=m-1) U (upT t v).length (m-1) _ _ a b (aRf _) U U U U U (qa.rs.ext x2) qb.rs ..)
end
end Go.Proofs.YtndnnndnhnlkdaaGreatDoor
