/-
  PART OF THIS CLAIM'S PROOF.
-/
import Derived.Test.YtciiopkbmjppfaaGreatDoorRows
import Derived.Test.YtciiopkbmjppfaaGreatDoorTie
import Derived.ProofKit
import Derived.LaidMore
import Derived.OpenShut
import Derived.Stop.Joined
import Derived.Test.YtciiopkbmjppfaaGreatDoorAbsM1
import Derived.Calls
import Derived.LoopN
import Derived.Orders
import Derived.Laws.Sem
import Derived.Laws.Tables
set_option linter.unusedVariables false
set_option linter.unusedSimpArgs false
set_option linter.unusedSectionVars false
namespace Go.Proofs.YtciiopkbmjppfaaGreatDoor
open Go.Proofs.Tryz
open Go Go.Abs Go.ChangeShapes Go.WideShapes Go.ChangeAt Go.RowKit
abbrev Bg:List (String×DataW Unit):=[("math/bits.deBruijn32tab",Rows.laid_math_bits_deBruijn32tab)]
theorem aHd:ownKnob prog.godebug=none:=by kernel_rfl
theorem K1:prog.globalNamed "math/bits.deBruijn32tab"=some 0:=by kernel_rfl
theorem aHm:(prog.globals[0]?).map (λg=>(prog.underlying g.type,prog.cellsOf g.type))=some (some (.array 32 5),32):=by kernel_rfl
theorem aHc (os:Os)(args:Array Value):laidMetH prog Bg ((World.doorLaid prog 400 os).forCall (λ_ _=>0) ⟨#[],args,[]⟩).memory:=
 laidMetH_of_parts3 (fuel:=8) (laidMet_of_run' 8 (by kernel_rfl) (by kernel_rfl)) (by kernel_rfl) (by kernel_rfl)
theorem aHn {W:World}(h:laidMetH prog Bg W):A0 prog W:=by
 rw[MakeChecks.laidMetH_plain _ _ _ (by kernel_rfl)] at h
 obtain⟨ps,⟨g0,t0,cs0,f0,p0,q0,hg0,ht0,hv0,hd0,_⟩,_,_⟩:=h;intro g hg
 obtain rfl:=Option.some.inj (K1.symm.trans hg0)
 have hg':g=0:=by
  have:=Option.some.inj (K1.symm.trans hg);exact this.symm
 subst hg';have hu:prog.underlying t0=some (.array 32 5)/\prog.cellsOf t0=32:=by
  have:=aHm;cases hx:prog.globals[0]? with
  |none=>rw[hx] at this;cases this
  |some gg=>
   rw[hx] at this ht0;simp only[Option.map_some,Option.some.injEq,Prod.mk.injEq] at this ht0;rw[<-ht0];exact this
 obtain⟨hu,hc32⟩:=hu;obtain⟨xs,m1,rfl,hx1,hlen,hn3,hel⟩:=DataW.trod_array hu hd0;have c8:prog.cellsOf 5=1:=by kernel_rfl
 have u8:prog.underlying 5=some (.int .u8):=by kernel_rfl
 simp only[Prod.mk.injEq] at hx1;have hxs:xs.map (·.1)=vW.map λz=>DataW.lit (.int .u8 z):=by
  have:=hx1.1;simp only[Rows.laid_math_bits_deBruijn32tab,DataW.agg.injEq] at this;rw[<-this];rfl
 have hl0:cs0.toList.length=32:=by
  rw[hlen,hc32]
 have hat: ∀i,i<32->cs0.toList[i]? =(vW.map (Value.int .u8))[i]? :=by
  intro i hi;have h0:=hel i hi;rw[c8,Nat.mul_one,List.getElem?_eq_getElem (by omega)] at h0
  obtain⟨k,e1,e2,_⟩:=DataW.trod_int u8 h0;have e3:(xs.map (·.1))[i]? =some (DataW.lit (.int .u8 k)):=by
   rw[List.getElem?_map,List.getElem?_eq_getElem (by omega),e2]
   rfl
  rw[hxs,List.getElem?_map] at e3;have hl:vW.length=32:=rfl;rw[List.getElem?_eq_getElem (by omega)] at e3
  simp only[Option.map_some,Option.some.injEq,DataW.lit.injEq,Lit.int.injEq,true_and] at e3;have:=congrArg (·[0]?) e1
  simp only[List.getElem?_take,List.getElem?_drop,Nat.add_zero,List.getElem?_cons_zero] at this;simp only[Nat.zero_lt_one,if_true] at this;rw[this,<-e3,List.getElem?_map,List.getElem?_eq_getElem (show i<vW.length by omega)]
  rfl
 have hcs:cs0.toList=vW.map (Value.int .u8):=by
  apply List.ext_getElem?;intro i;by_cases hi:i<32
  ·exact hat i hi
  ·rw[List.getElem?_eq_none (by omega),List.getElem?_eq_none (by rw[List.length_map];show 32<=i;omega)]
 unfold World.var? at hv0;rw[K1,Option.bind_some] at hv0
 split at hv0
 ·rename_i cs e r h1
  cases hv0
  exact⟨cs0,e,r,h1,hcs⟩
 ·cases hv0
theorem aHh:laidOutB prog=true:=by kernel_rfl
theorem aHk:mapsRowed prog=true:=by kernel_rfl
theorem aHl:(prog.stops==[])=true:=by kernel_rfl
theorem aHg:(prog.stopKnobs==[])=true:=by kernel_rfl
theorem aT5:(false==prog.plainKeys)=true:=by kernel_rfl
theorem aHf:prog.stopsHeard=true:=by kernel_rfl
theorem aHe:prog.mayEnter=true:=by kernel_rfl
theorem aHi:false=prog.looks []:=by kernel_rfl
theorem aHj:(Rows.topRoomRow.plainKeys==prog.plainKeys)=true:=by kernel_rfl
end Go.Proofs.YtciiopkbmjppfaaGreatDoor
