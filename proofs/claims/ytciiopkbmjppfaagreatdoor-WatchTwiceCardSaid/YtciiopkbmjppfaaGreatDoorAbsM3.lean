/-
  PARTS OF THIS CLAIM'S PROOF, laid together by a program of mine.
-/
import Derived.Test.YtciiopkbmjppfaaGreatDoorAbsM2
import Derived.KernelRfl
set_option linter.unusedVariables false
set_option linter.unusedSimpArgs false
set_option linter.unusedSectionVars false
set_option maxRecDepth 100000
noncomputable section
namespace Go.Proofs.YtciiopkbmjppfaaGreatDoor
open Go.Proofs.Tryz
open Go.Abs Go.Abs.M
abbrev LV:=aI (Value × aG)
abbrev KV:=Ex → K (Value × aG)
abbrev OV:=Option (Value × aG)
abbrev aE:Value:=undef
variable (O:aH)(L:LV)(k:KV)(N P Q R S T U V W X Y Z a b c d e f g i j l m n o p q r s t u v w x y z A B C D E F G H I J zz zy zx zw zv zu zt zs zr zq zp zo zn zm zl zk zj zi zh zg zf ze zd zc zb za yz:Value)(rr:List Value)(h:aG)
def Lm:CC:=cc prog 1047580 42 [1,1,1,1,1,1,0,1,0,0,1,0,0,1,0,1,0,0]
def Lt:KV:=(bY 8 (cJ prog O L (cc prog 1047580 42 [1,1,1,1,1,1,0,1,0,0,1,0,0,1,1]) (bY 7 (cJ prog O L (cc prog 1047580 42 [1,1,1,1,1,1,0,1,0,0,1,1]) (jL 1047580 k)))))
def Lo (O:aH)(L:LV) (k:KV) (c d e m n o p q r s t u v:Value):MV:=bFL 10 n λaa=>bM (bV 37 1 1 [(.N)] [(0,u)]) λab=>bM (app 37 1 24 aa ab) λac=>bF 10 n λad=>bT ad ac λae=>bB prog .add 3 t (.I 1) λaf=>k .normal (aF 2 (c::d::e::aF 5 (m::n::o::p::q::r::s::af::u::v::aF 119 [])))
theorem aIM:Lt O L k (.exit 8) (aF 2 (c::d::e::aF 5 (m::n::o::p::q::r::s::t::u::v::aF 119 [])))=Lo O L k c d e m n o p q r s t u v:=by kernel_rfl
theorem X3:aO prog O L Lm k (aF 2 (c::d::e::aF 5 (m::n::o::p::q::r::s::t::u::v::aF 119 [])))=bFL 0 n λaa=>bB prog .lss 3 v aa λab=>aN ab (bN e λac=>bB prog .lss 3 s ac λad=>bG ad true (aU e) λae=>bG ad true (aU s) λaf=>bG ad true (aP (cQ 1 ae af)) λag=>bG ad true (ld1 ag) λah=>bG ad true (aP (bin prog .rem 5 ah (.int .u8 4))) λai=>bG ad true (aP (bin prog .eql 5 ai (.int .u8 0))) λaj=>bP ad aj (.bool false) λak=>aN ak (bIL 1 e s λal=>bB prog .quo 5 al (.int .u8 4) λam=>bM (cH prog 5 3 am) λan=>bFL 0 n λao=>bB prog .rem 3 an ao λap=>bM (bV 3 1 1 [(.I 0)] [(0,ap)]) λaq=>bM (app 3 1 8 u aq) λar=>bB prog .add 3 s (.I 1) λau=>bB prog .add 3 v (.I 1) λav=>k .normal (aF 2 (c::d::e::aF 5 (m::n::o::p::q::r::au::t::ar::av::aF 119 [])))) (bM (bV 3 1 1 [(.I 0)] [(0,v)]) λaw=>bM (app 3 1 8 u aw) λax=>bB prog .add 3 s (.I 1) λay=>bB prog .add 3 v (.I 1) λaz=>k .normal (aF 2 (c::d::e::aF 5 (m::n::o::p::q::r::ay::t::ax::az::aF 119 []))))) (k (.exit 8) (aF 2 (c::d::e::aF 5 (m::n::o::p::q::r::s::t::u::v::aF 119 [])))):=by kernel_rfl
def Ll:CC:=cc prog 1047580 42 [1,1,1,1,1,1,0,1,0,0]
def Ls:KV:=(bY 6 (cJ prog O L (cc prog 1047580 42 [1,1,1,1,1,1,1]) (cS prog Tryz.f42)))
def Ln (O:aH)(L:LV) (c d e m n o p q r s t u v:Value):MV:=bM (ldN 11 n) λaa=>bM (stN 11 m aa) λab=>bR (ldN 11 m) λw62=>aM (aK [w62])
theorem aIL:Ls O L (.exit 6) (aF 2 (c::d::e::aF 5 (m::n::o::p::q::r::s::t::u::v::aF 119 [])))=Ln O L c d e m n o p q r s t u v:=by kernel_rfl
theorem X2:aO prog O L Ll k (aF 2 (c::d::e::aF 5 (m::n::o::p::q::r::s::t::u::v::aF 119 [])))=bFL 0 n λaa=>bB prog .lss 3 t aa λab=>aN ab (L (aO prog O L Lm) (Lt O L k) (aF 2 (c::d::e::aF 5 (m::n::o::p::q::r::s::t::some (.N)::some (.I 0)::aF 119 [])))) (k (.exit 6) (aF 2 (c::d::e::aF 5 (m::n::o::p::q::r::s::t::u::v::aF 119 [])))):=by kernel_rfl
def Lj:CC:=cc prog 1047580 42 [1,1,1,1,0,1,0,0,1,0,0,1,0,0]
def Lr:KV:=(bY 4 (bY 3 (cJ prog O L (cc prog 1047580 42 [1,1,1,1,0,1,0,0,1,1]) (jL 1047580 k))))
theorem aIK:Lr O L k (.exit 4) (aF 2 (c::d::e::aF 5 (m::n::o::p::q::r::s::t::u::v::aF 119 [])))=bB prog .add 3 q (.I 1) λaa=>k .normal (aF 2 (c::d::e::aF 5 (m::n::o::p::aa::r::s::t::u::v::aF 119 []))):=by kernel_rfl
theorem X1:aO prog O L Lj k (aF 2 (c::d::e::aF 5 (m::n::o::p::q::r::s::t::u::v::aF 119 [])))=bB prog .lss 3 r q λaa=>aN aa (bB prog .rem 23 p (.int .u16 2) λab=>bB prog .eql 23 ab (.int .u16 1) λac=>aN ac (bFL 1 n λad=>bO (bld prog 128 [(0,r),(1,q)]) λae=>bM (bV 128 2 1 [(.I 0),(.I 0)] [(0,ae)]) λaf=>bM (app 128 2 16 ad af) λag=>bF 1 n λah=>bT ah ag λai=>bB prog .quo 23 p (.int .u16 2) λaj=>bB prog .add 3 r (.I 1) λak=>k .normal (aF 2 (c::d::e::aF 5 (m::n::o::aj::q::ak::s::t::u::v::aF 119 [])))) (bB prog .quo 23 p (.int .u16 2) λal=>bB prog .add 3 r (.I 1) λam=>k .normal (aF 2 (c::d::e::aF 5 (m::n::o::al::q::am::s::t::u::v::aF 119 []))))) (k (.exit 4) (aF 2 (c::d::e::aF 5 (m::n::o::p::q::r::s::t::u::v::aF 119 [])))):=by kernel_rfl
def Li:CC:=cc prog 1047580 42 [1,1,1,1,0,1,0,0]
def Lq:KV:=(bY 2 (cJ prog O L (cc prog 1047580 42 [1,1,1,1,1]) (cS prog Tryz.f42)))
theorem aIJ:Lq O L (.exit 2) (aF 2 (c::d::e::aF 5 (m::n::o::p::q::r::s::t::u::v::aF 119 [])))=L (aO prog O L Ll) (Ls O L) (aF 2 (c::d::e::aF 5 (m::n::o::p::q::r::some (.I 0)::some (.I 0)::u::v::aF 119 []))):=by kernel_rfl
theorem X0:aO prog O L Li k (aF 2 (c::d::e::aF 5 (m::n::o::p::q::r::s::t::u::v::aF 119 [])))=bFL 0 n λaa=>bB prog .lss 3 q aa λab=>aN ab (L (aO prog O L Lj) (Lr O L k) (aF 2 (c::d::e::aF 5 (m::n::o::p::q::some (.I 0)::s::t::u::v::aF 119 [])))) (k (.exit 2) (aF 2 (c::d::e::aF 5 (m::n::o::p::q::r::s::t::u::v::aF 119 [])))):=by kernel_rfl
def Lh:CC:=cc prog 1047580 42 [1,1,0,1,0,0]
def Lp:KV:=(bY 0 (cJ prog O L (cc prog 1047580 42 [1,1,1]) (cS prog Tryz.f42)))
theorem aII:Lp O L (.exit 0) (aF 2 (c::d::e::aF 5 (m::n::o::p::q::r::s::t::u::v::aF 119 [])))=L (aO prog O L Li) (Lq O L) (aF 2 (c::d::e::aF 5 (m::n::o::d::some (.I 1)::r::s::t::u::v::aF 119 []))):=by kernel_rfl
theorem Xz:aO prog O L Lh k (aF 2 (c::d::e::aF 5 (m::n::o::p::q::r::s::t::u::v::aF 119 [])))=bFL 2 n λaa=>bB prog .lss 3 o aa λab=>aN ab (bFL 8 n λac=>bM (cH prog 5 3 c) λad=>bB prog .add 3 o ad λae=>bB prog .rem 3 ae (.I 5) λaf=>bB prog .add 3 (.I 1) af λag=>bM (bV 3 1 1 [(.I 0)] [(0,ag)]) λah=>bM (app 3 1 8 ac ah) λai=>bF 8 n λaj=>bT aj ai λak=>bB prog .add 3 o (.I 1) λal=>k .normal (aF 2 (c::d::e::aF 5 (m::n::al::p::q::r::s::t::u::v::aF 119 [])))) (k (.exit 0) (aF 2 (c::d::e::aF 5 (m::n::o::p::q::r::s::t::u::v::aF 119 [])))):=by kernel_rfl
theorem aIN:aR prog O L 42 [N,P,Q,R,S]=bM (aX 40 [(.I 0),(.N),(.I 0),(.I 0),(.I 0),(.I 0),(.I 0),(.I 0),(.N),(.int .u16 0),(.N)] .fix) λaa=>bB prog .rem 5 N (.int .u8 5) λab=>bM (cH prog 5 3 ab) λac=>bB prog .add 3 (.I 2) ac λad=>bB prog .rem 5 Q (.int .u8 3) λae=>bM (cH prog 5 3 ae) λaf=>bB prog .add 3 (.I 1) af λag=>bB prog .rem 5 P (.int .u8 8) λah=>bM (cH prog 5 3 ah) λai=>bB prog .add 3 (.I 1) ai λaj=>bB prog .quo 5 P (.int .u8 8) λak=>bB prog .rem 5 ak (.int .u8 8) λal=>bM (cH prog 5 3 al) λam=>bB prog .add 3 (.I 1) am λan=>bB prog .quo 5 Q (.int .u8 3) λao=>bB prog .rem 5 ao (.int .u8 4) λap=>bM (cH prog 5 3 ap) λaq=>bB prog .add 3 (.I 1) aq λar=>bB prog .quo 5 Q (.int .u8 12) λau=>bB prog .rem 5 au (.int .u8 8) λav=>bM (cH prog 5 3 av) λaw=>bB prog .add 3 (.I 1) aw λax=>bO (bld prog 40 [(0,ad),(2,ag),(3,aj),(4,an),(5,ar),(6,ax),(7,(.I 64)),(9,R)]) λay=>bM (aX 40 [(.I 0),(.N),(.I 0),(.I 0),(.I 0),(.I 0),(.I 0),(.I 0),(.N),(.int .u16 0),(.N)] .fix) λaz=>bM (stN 11 az ay) λba=>L (aO prog O L Lh) (Lp O L) (aF 2 (Q::R::S::aF 5 (aa::az::some (.I 0)::some aE::some aE::some aE::some aE::some aE::some aE::some aE::aF 119 []))):=by kernel_rfl
theorem Bb:aR prog O L 82 [N]=bN N λaa=>bB prog .eql 3 aa (.I 0) λab=>bG ab false (aU N) λac=>bG ab false (aP (cY ac)) λad=>bG ab false (aP (bin prog .gtr 3 ad (.I 3))) λae=>bP ab (.bool true) ae λaf=>bG af false (aU N) λag=>bG af false (aU (.func (.func 116) #[] #[])) λah=>gO af false O 117 [ag,ah] λai=>bP af (.bool true) ai λaj=>aN aj (aM (aK [(.pointer none)])) (bC O 78 [N] λak=>bC O 78 [N] λal=>bO (bld prog 197 [(0,ak),(1,al)]) λam=>bM (aX 197 (Value.cells am).toList .fix) λan=>aM (aK [an])):=by kernel_rfl
def Ly:CC:=cc prog 3634 67 [1,1,0,1,0,0]
def Lz:KV:=(bY 0 (cJ prog O L (cc prog 3634 67 [1,1,1]) (cS prog Tryz.f67)))
theorem aIS:Lz O L (.exit 0) (aF 1 (b::aF 2 (e::f::aF 3 (l::m::n::aF 34 []))))=bC O 106 [f] λaa=>bC O 107 [f] λab=>aM (aK [ab]):=by kernel_rfl
theorem X6:aO prog O L Ly k (aF 1 (b::aF 2 (e::f::aF 3 (l::m::n::aF 34 []))))=bB prog .lss 3 n m λaa=>aN aa (bI 2 l n λab=>bM (ldN 2 ab) λac=>bM (aX 128 [(.I 0),(.I 0)] .fix) λad=>bM (stN 2 ad ac) λae=>bFL 0 ad λaf=>bFL 1 ad λag=>bB prog .eql 3 af ag λah=>aN ah (bB prog .add 3 n (.I 1) λai=>k .normal (aF 1 (b::aF 2 (e::f::aF 3 (l::m::ai::aF 34 []))))) (bFL 0 ad λaj=>bB prog .eql 3 aj b λak=>aN ak (bFL 1 ad λal=>bM (bV 3 1 1 [(.I 0)] [(0,al)]) λam=>bM (app 3 1 8 f am) λan=>bB prog .add 3 n (.I 1) λao=>k .normal (aF 1 (b::aF 2 (e::an::aF 3 (l::m::ao::aF 34 []))))) (bFL 1 ad λap=>bB prog .eql 3 ap b λaq=>aN aq (bFL 0 ad λar=>bM (bV 3 1 1 [(.I 0)] [(0,ar)]) λau=>bM (app 3 1 8 f au) λav=>bB prog .add 3 n (.I 1) λaw=>k .normal (aF 1 (b::aF 2 (e::av::aF 3 (l::m::aw::aF 34 []))))) (bB prog .add 3 n (.I 1) λax=>k .normal (aF 1 (b::aF 2 (e::f::aF 3 (l::m::ax::aF 34 [])))))))) (k (.exit 0) (aF 1 (b::aF 2 (e::f::aF 3 (l::m::n::aF 34 []))))):=by kernel_rfl
theorem aIT:aR prog O L 67 [N,P]=bM (aX 40 (Value.cells N).toList .fix) λaa=>bFL 1 aa λab=>bN ab λac=>L (aO prog O L Ly) (Lz O L) (aF 1 (P::aF 2 (some (.N)::some (.N)::aF 3 (ab::ac::some (.I 0)::aF 34 [])))):=by kernel_rfl
theorem aIt:aR prog O L 116 [N]=bB prog .lss 3 N (.I 1) λaa=>bG aa false (aU N) λab=>bG aa false (aP (bin prog .gtr 3 ab (.I 5))) λac=>bP aa (.bool true) ac λad=>aM (aK [ad]):=by kernel_rfl
theorem aIu:aR prog O L 117 [N,P]=bC O 145 [N,P] λaa=>bB prog .geq 3 aa (.I 0) λab=>aM (aK [ab]):=by kernel_rfl
def Lv:CC:=cc prog 461854 46 [1,1,0,1,0,0,1,1,0,0,1,1,0,0]
def Lx:KV:=(bY 2 (bY 1 (cJ prog O L (cc prog 461854 46 [1,1,0,1,0,0,1,1,1]) (jL 461854 k))))
theorem aIP:Lx O L k (.exit 2) (aF 1 (b::c::d::e::aF 5 (m::n::aF 4 (s::t::u::aF 14 []))))=bB prog .add 3 n (.I 1) λaa=>k .normal (aF 1 (b::c::d::e::aF 5 (m::aa::aF 4 (s::t::u::aF 14 [])))):=by kernel_rfl
theorem X5:aO prog O L Lv k (aF 1 (b::c::d::e::aF 5 (m::n::aF 4 (s::t::u::aF 14 []))))=bB prog .lss 3 u t λaa=>aN aa (bIL 1 s u λab=>bC O 80 [ab,(.I 0),(.I 5)] λac=>aN ac (bO (bld prog 83 [(0,e),(1,ab)]) λad=>bM (bV 83 2 1 [(.I 0),(.I 0)] [(0,ad)]) λae=>bM (app 83 2 16 d ae) λaf=>bB prog .add 3 u (.I 1) λag=>k .normal (aF 1 (b::c::af::e::aF 5 (m::n::aF 4 (s::t::ag::aF 14 []))))) (bB prog .add 3 u (.I 1) λah=>k .normal (aF 1 (b::c::d::e::aF 5 (m::n::aF 4 (s::t::ah::aF 14 [])))))) (k (.exit 2) (aF 1 (b::c::d::e::aF 5 (m::n::aF 4 (s::t::u::aF 14 []))))):=by kernel_rfl
def Lu:CC:=cc prog 461854 46 [1,1,0,1,0,0]
def Lw:KV:=(bY 0 (cJ prog O L (cc prog 461854 46 [1,1,1]) (cS prog Tryz.f46)))
theorem aIO:Lw O L (.exit 0) (aF 1 (b::c::d::e::aF 5 (m::n::aF 4 (s::t::u::aF 14 []))))=aM (aK [d]):=by kernel_rfl
theorem X4:aO prog O L Lu k (aF 1 (b::c::d::e::aF 5 (m::n::aF 4 (s::t::u::aF 14 []))))=bB prog .lss 3 n m λaa=>aN aa (bM (ldN 11 b) λab=>bC O 67 [ab,n] λac=>bN ac λad=>L (aO prog O L Lv) (Lx O L k) (aF 1 (b::c::d::n::aF 5 (m::n::aF 4 (ac::ad::some (.I 0)::aF 14 []))))) (k (.exit 0) (aF 1 (b::c::d::e::aF 5 (m::n::aF 4 (s::t::u::aF 14 []))))):=by kernel_rfl
theorem aIQ:aR prog O L 46 [N]=bM (aX 40 (Value.cells N).toList .fix) λaa=>bFL 0 aa λab=>bO (iX prog true [ab,(.I 0)]) λac=>bO (iX prog false [ac,(.I 6)]) λad=>L (aO prog O L Lu) (Lw O L) (aF 1 (aa::some (.N)::some (.N)::some aE::aF 5 (ad::some (.I 0)::aF 4 (some aE::some aE::some aE::aF 14 [])))):=by kernel_rfl
theorem aIR:aR prog O L 56 [N,P,Q]=bM (aX 40 (Value.cells N).toList .fix) λaa=>bM (ldN 11 aa) λab=>bC O 67 [ab,P] λac=>bC O 97 [ac,Q] λad=>bB prog .lss 3 ad (.I 0) λae=>aN ae (aM (aK [ad])) (bB prog .add 3 ad (.I 1) λaf=>aM (aK [af])):=by kernel_rfl
theorem aIU:aR prog O L 73 [N]=bM (aX 40 (Value.cells N).toList .fix) λaa=>bM (ldN 11 aa) λab=>bC O 111 [ab] λac=>bO (un prog .not ac) λad=>aN ad (aN ad (aM (aK [(.int .u16 120)])) (bFL 8 aa λae=>bN ae λaf=>bFL 2 aa λag=>bB prog .neq 3 af ag λah=>aN ah (aN ah (aM (aK [(.int .u16 120)])) (bFL 10 aa λai=>bN ai λaj=>bFL 0 aa λak=>bB prog .neq 3 aj ak λal=>aN al (aN al (aM (aK [(.int .u16 120)])) (aM (aK [(.int .u16 0)]))) (bFL 10 aa λam=>bC O 113 [am,(.func (.func 110) #[] #[aa])] λan=>aN an (aM (aK [(.int .u16 120)])) (aM (aK [(.int .u16 0)]))))) (bFL 8 aa λao=>bC O 82 [ao] λap=>bB prog .eql 141 ap (.pointer none) λaq=>aN aq (aM (aK [(.int .u16 120)])) (bFL 10 aa λar=>bN ar λau=>bFL 0 aa λav=>bB prog .neq 3 au av λaw=>aN aw (aN aw (aM (aK [(.int .u16 120)])) (aM (aK [(.int .u16 0)]))) (bFL 10 aa λax=>bC O 113 [ax,(.func (.func 110) #[] #[aa])] λay=>aN ay (aM (aK [(.int .u16 120)])) (aM (aK [(.int .u16 0)]))))))) (bM (ldN 11 aa) λaz=>bC O 112 [az] λba=>bO (un prog .not ba) λbb=>aN bb (aM (aK [(.int .u16 120)])) (bFL 8 aa λbc=>bN bc λbd=>bFL 2 aa λbe=>bB prog .neq 3 bd be λbf=>aN bf (aN bf (aM (aK [(.int .u16 120)])) (bFL 10 aa λbg=>bN bg λbh=>bFL 0 aa λbi=>bB prog .neq 3 bh bi λbj=>aN bj (aN bj (aM (aK [(.int .u16 120)])) (aM (aK [(.int .u16 0)]))) (bFL 10 aa λbk=>bC O 113 [bk,(.func (.func 110) #[] #[aa])] λbl=>aN bl (aM (aK [(.int .u16 120)])) (aM (aK [(.int .u16 0)]))))) (bFL 8 aa λbm=>bC O 82 [bm] λbn=>bB prog .eql 141 bn (.pointer none) λbo=>aN bo (aM (aK [(.int .u16 120)])) (bFL 10 aa λbp=>bN bp λbq=>bFL 0 aa λbr=>bB prog .neq 3 bq br λbs=>aN bs (aN bs (aM (aK [(.int .u16 120)])) (aM (aK [(.int .u16 0)]))) (bFL 10 aa λbt=>bC O 113 [bt,(.func (.func 110) #[] #[aa])] λbu=>aN bu (aM (aK [(.int .u16 120)])) (aM (aK [(.int .u16 0)]))))))):=by kernel_rfl
theorem L0:aR prog O L 78 [N]=bB prog .eql 37 N (.N) λaa=>aN aa (aM (aK [(.N)])) (bM (bV 3 1 0 [(.I 0)] []) λab=>bM (app 3 1 8 ab N) λac=>aM (aK [ac])):=by kernel_rfl
def K9:CC:=cc prog 61 107 [1,1,0,1,0,0,1,0,0,1,0,1,0,1,0,0]
def La:KV:=(bY 2 (cJ prog O L (cc prog 61 107 [1,1,0,1,0,0,1,0,0,1,0,1,1]) (bY 1 (cJ prog O L (cc prog 61 107 [1,1,0,1,0,0,1,1]) (jL 61 k)))))
theorem aIk:La O L k (.exit 2) (a::aF 1 (c::d::e::f::aF 55 []))=bM (slc prog 1 a (some d) none none) λaa=>bM (clr 1 [(.I 0)] aa) λab=>bM (slc prog 1 a none (some d) none) λac=>k .ret (a::aF 1 (ac::d::e::f::aF 55 [])):=by kernel_rfl
theorem Xt:aO prog O L K9 k (a::aF 1 (c::d::e::f::aF 55 []))=bN e λaa=>bB prog .lss 3 f aa λab=>aN ab (bIL 1 e f λac=>bB prog .sub 3 f (.I 1) λad=>bIL 1 e ad λae=>bB prog .neq 3 ac ae λaf=>aN af (bIL 1 e f λag=>bI 1 a d λah=>bT ah ag λai=>bB prog .add 3 d (.I 1) λaj=>bB prog .add 3 f (.I 1) λak=>k .normal (a::aF 1 (c::aj::e::ak::aF 55 []))) (bB prog .add 3 f (.I 1) λal=>k .normal (a::aF 1 (c::d::e::al::aF 55 [])))) (k (.exit 2) (a::aF 1 (c::d::e::f::aF 55 []))):=by kernel_rfl
def Em:CC:=cc prog 61 107 [1,1,0,1,0,0]
def Ba:KV:=(bY 0 (cJ prog O L (cc prog 61 107 [1,1,1]) (cS prog Tryz.f107)))
theorem aIj:Ba O L (.exit 0) (a::aF 1 (c::d::e::f::aF 55 []))=aM (aK [a]):=by kernel_rfl
theorem aIm:Ba O L .ret (a::aF 1 (c::d::e::f::aF 55 []))=aM (aK [c]):=by kernel_rfl
theorem Xs:aO prog O L Em k (a::aF 1 (c::d::e::f::aF 55 []))=bN a λaa=>bB prog .lss 3 d aa λab=>aN ab (bIL 1 a d λac=>bB prog .sub 3 d (.I 1) λad=>bIL 1 a ad λae=>bB prog .eql 3 ac ae λaf=>aN af (bM (slc prog 1 a (some d) none none) λag=>L (aO prog O L K9) (La O L k) (a::aF 1 (c::d::ag::some (.I 1)::aF 55 []))) (bB prog .add 3 d (.I 1) λah=>k .normal (a::aF 1 (c::ah::e::f::aF 55 [])))) (k (.exit 0) (a::aF 1 (c::d::e::f::aF 55 []))):=by kernel_rfl
theorem aIl:aR prog O L 107 [N]=bN N λaa=>bB prog .lss 3 aa (.I 2) λab=>aN ab (aM (aK [N])) (L (aO prog O L Em) (Ba O L) (N::aF 1 (some (.N)::some (.I 1)::some aE::some aE::aF 55 []))):=by kernel_rfl
theorem aIV:aR prog O L 80 [N,P,Q]=bB prog .geq 3 N P λaa=>bG aa true (aU N) λab=>bG aa true (aU Q) λac=>bG aa true (aP (bin prog .leq 3 ab ac)) λad=>bP aa ad (.bool false) λae=>aM (aK [ae]):=by kernel_rfl
def L1:CC:=cc prog 403 97 [1,0,1,0,0]
def Ey:KV:=(bY 0 (cJ prog O L (cc prog 403 97 [1,1]) (cS prog Tryz.f97)))
theorem aIW:Ey O L (.exit 0) (a::b::aF 2 (e::aF 2 (i::j::aF 10 [])))=aM (aK [(.I (-1))]):=by kernel_rfl
theorem aIY:Ey O L .ret (a::b::aF 2 (e::aF 2 (i::j::aF 10 [])))=aM (aK [e]):=by kernel_rfl
theorem X7:aO prog O L L1 k (a::b::aF 2 (e::aF 2 (i::j::aF 10 [])))=bB prog .lss 3 j i λaa=>aN aa (bIL 1 a j λab=>bB prog .eql 3 b ab λac=>aN ac (k .ret (a::b::aF 2 (j::aF 2 (i::j::aF 10 [])))) (bB prog .add 3 j (.I 1) λad=>k .normal (a::b::aF 2 (e::aF 2 (i::ad::aF 10 []))))) (k (.exit 0) (a::b::aF 2 (e::aF 2 (i::j::aF 10 [])))):=by kernel_rfl
theorem aIX:aR prog O L 97 [N,P]=bN N λaa=>L (aO prog O L L1) (Ey O L) (N::P::aF 2 (some (.I 0)::aF 2 (aa::some (.I 0)::aF 10 []))):=by kernel_rfl
theorem aIn:aR prog O L 110 [N,P]=bN N λaa=>bFL 0 P λab=>bB prog .neq 3 aa ab λac=>aM (aK [ac]):=by kernel_rfl
theorem aIo:aR prog O L 111 [N]=bM (aX 40 (Value.cells N).toList .fix) λaa=>bFL 0 aa λab=>bC O 80 [ab,(.I 2),(.I 6)] λac=>gFL ac true 2 aa λad=>gO ac true O 80 [ad,(.I 1),(.I 3)] λae=>bP ac ae (.bool false) λaf=>gFL af true 3 aa λag=>gO af true O 80 [ag,(.I 1),(.I 8)] λah=>bP af ah (.bool false) λai=>gFL ai true 4 aa λaj=>gO ai true O 80 [aj,(.I 1),(.I 8)] λak=>bP ai ak (.bool false) λal=>gFL al true 5 aa λam=>gO al true O 80 [am,(.I 1),(.I 4)] λan=>bP al an (.bool false) λao=>gFL ao true 6 aa λap=>gO ao true O 80 [ap,(.I 1),(.I 8)] λaq=>bP ao aq (.bool false) λar=>gFL ar true 7 aa λau=>gO ar true O 80 [au,(.I 1),(.I 64)] λav=>bP ar av (.bool false) λaw=>aM (aK [aw]):=by kernel_rfl
def Lb:CC:=cc prog 454 112 [1,0,1,0,0]
def Eo:KV:=(bY 0 (cJ prog O L (cc prog 454 112 [1,1]) (cS prog Tryz.f112)))
theorem aIp:Eo O L (.exit 0) (aF 1 (b::c::aF 3 (g::i::j::aF 34 [])))=bFL 1 b λaa=>bN aa λab=>bB prog .leq 3 ab (.I 15) λac=>aM (aK [ac]):=by kernel_rfl
theorem Ep:Eo O L .ret (aF 1 (b::c::aF 3 (g::i::j::aF 34 [])))=aM (aK [c]):=by kernel_rfl
theorem Xu:aO prog O L Lb k (aF 1 (b::c::aF 3 (g::i::j::aF 34 [])))=bB prog .lss 3 j i λaa=>aN aa (bI 2 g j λab=>bM (ldN 2 ab) λac=>bM (aX 128 [(.I 0),(.I 0)] .fix) λad=>bM (stN 2 ad ac) λae=>bFL 0 ad λaf=>bB prog .lss 3 af (.I 0) λag=>gFL ag false 0 ad λah=>gFL ag false 1 ad λai=>bG ag false (aP (bin prog .geq 3 ah ai)) λaj=>bP ag (.bool true) aj λak=>gFL ak false 1 ad λal=>gFL ak false 0 b λam=>bG ak false (aP (bin prog .geq 3 al am)) λan=>bP ak (.bool true) an λao=>gFL ao false 1 b λap=>bG ao false (aU j) λaq=>bG ao false (slc prog 2 ap none (some aq) none) λar=>bG ao false (ldN 2 ad) λau=>gO ao false O 142 [ar,au] λav=>bP ao (.bool true) av λaw=>aN aw (k .ret (aF 1 (b::some (.bool false)::aF 3 (g::i::j::aF 34 [])))) (bB prog .add 3 j (.I 1) λax=>k .normal (aF 1 (b::c::aF 3 (g::i::ax::aF 34 []))))) (k (.exit 0) (aF 1 (b::c::aF 3 (g::i::j::aF 34 [])))):=by kernel_rfl
theorem aIq:aR prog O L 112 [N]=bM (aX 40 (Value.cells N).toList .fix) λaa=>bFL 1 aa λab=>bN ab λac=>L (aO prog O L Lb) (Eo O L) (aF 1 (aa::some (.bool false)::aF 3 (ab::ac::some (.I 0)::aF 34 []))):=by kernel_rfl
theorem aIr:aR prog O L 113 [N,P]=bC O 143 [N,P] λaa=>bB prog .geq 3 aa (.I 0) λab=>aM (aK [ab]):=by kernel_rfl
theorem aIs:aR prog O L 114 [N,P]=bC O 97 [N,P] λaa=>bB prog .geq 3 aa (.I 0) λab=>aM (aK [ab]):=by kernel_rfl
def Lf:CC:=cc prog 403 145 [1,0,1,0,0]
def Eu:KV:=(bY 0 (cJ prog O L (cc prog 403 145 [1,1]) (cS prog Tryz.f145)))
theorem aIC:Eu O L (.exit 0) (a::b::aF 2 (e::aF 2 (i::j::aF 10 [])))=aM (aK [(.I (-1))]):=by kernel_rfl
theorem aIE:Eu O L .ret (a::b::aF 2 (e::aF 2 (i::j::aF 10 [])))=aM (aK [e]):=by kernel_rfl
theorem Xx:aO prog O L Lf k (a::b::aF 2 (e::aF 2 (i::j::aF 10 [])))=bB prog .lss 3 j i λaa=>aN aa (bIL 1 a j λab=>bM (kQ O b [ab]) λac=>aN ac (k .ret (a::b::aF 2 (j::aF 2 (i::j::aF 10 [])))) (bB prog .add 3 j (.I 1) λad=>k .normal (a::b::aF 2 (e::aF 2 (i::ad::aF 10 []))))) (k (.exit 0) (a::b::aF 2 (e::aF 2 (i::j::aF 10 [])))):=by kernel_rfl
theorem aID:aR prog O L 145 [N,P]=bN N λaa=>L (aO prog O L Lf) (Eu O L) (N::P::aF 2 (some (.I 0)::aF 2 (aa::some (.I 0)::aF 10 []))):=by kernel_rfl
theorem aIv:aR prog O L 142 [N,P]=bM (aX 128 (Value.cells P).toList .fix) λaa=>bM (ldN 2 aa) λab=>bC O 168 [N,ab] λac=>bB prog .geq 3 ac (.I 0) λad=>aM (aK [ad]):=by kernel_rfl
def Lc:CC:=cc prog 403 143 [1,0,1,0,0]
def Er:KV:=(bY 0 (cJ prog O L (cc prog 403 143 [1,1]) (cS prog Tryz.f143)))
theorem aIw:Er O L (.exit 0) (a::b::aF 2 (e::aF 2 (i::j::aF 10 [])))=aM (aK [(.I (-1))]):=by kernel_rfl
theorem aIy:Er O L .ret (a::b::aF 2 (e::aF 2 (i::j::aF 10 [])))=aM (aK [e]):=by kernel_rfl
theorem Xv:aO prog O L Lc k (a::b::aF 2 (e::aF 2 (i::j::aF 10 [])))=bB prog .lss 3 j i λaa=>aN aa (bIL 1 a j λab=>bM (kQ O b [ab]) λac=>aN ac (k .ret (a::b::aF 2 (j::aF 2 (i::j::aF 10 [])))) (bB prog .add 3 j (.I 1) λad=>k .normal (a::b::aF 2 (e::aF 2 (i::ad::aF 10 []))))) (k (.exit 0) (a::b::aF 2 (e::aF 2 (i::j::aF 10 [])))):=by kernel_rfl
theorem aIx:aR prog O L 143 [N,P]=bN N λaa=>L (aO prog O L Lc) (Er O L) (N::P::aF 2 (some (.I 0)::aF 2 (aa::some (.I 0)::aF 10 []))):=by kernel_rfl
def Ld:CC:=cc prog 409 144 [1,0,1,0,0]
def Et:KV:=(bY 0 (cJ prog O L (cc prog 409 144 [1,1]) (cS prog Tryz.f144)))
theorem aIz:Et O L (.exit 0) (a::aF 2 (d::e::aF 2 (i::j::aF 10 [])))=aM (aK [(.I (-1))]):=by kernel_rfl
theorem aIB:Et O L .ret (a::aF 2 (d::e::aF 2 (i::j::aF 10 [])))=aM (aK [e]):=by kernel_rfl
theorem Xw:aO prog O L Ld k (a::aF 2 (d::e::aF 2 (i::j::aF 10 [])))=bB prog .lss 3 j i λaa=>aN aa (bM (ldN 2 d) λab=>bI 2 a j λac=>bM (ldN 2 ac) λad=>bB prog .eql 83 ab ad λae=>aN ae (k .ret (a::aF 2 (d::j::aF 2 (i::j::aF 10 [])))) (bB prog .add 3 j (.I 1) λaf=>k .normal (a::aF 2 (d::e::aF 2 (i::af::aF 10 []))))) (k (.exit 0) (a::aF 2 (d::e::aF 2 (i::j::aF 10 [])))):=by kernel_rfl
theorem aIA:aR prog O L 144 [N,P]=bM (aX 83 (Value.cells P).toList .fix) λaa=>bN N λab=>L (aO prog O L Ld) (Et O L) (N::aF 2 (aa::some (.I 0)::aF 2 (ab::some (.I 0)::aF 10 []))):=by kernel_rfl
def Lg:CC:=cc prog 409 168 [1,0,1,0,0]
def Ev:KV:=(bY 0 (cJ prog O L (cc prog 409 168 [1,1]) (cS prog Tryz.f168)))
theorem aIF:Ev O L (.exit 0) (a::aF 2 (d::e::aF 2 (i::j::aF 10 [])))=aM (aK [(.I (-1))]):=by kernel_rfl
theorem aIH:Ev O L .ret (a::aF 2 (d::e::aF 2 (i::j::aF 10 [])))=aM (aK [e]):=by kernel_rfl
theorem Xy:aO prog O L Lg k (a::aF 2 (d::e::aF 2 (i::j::aF 10 [])))=bB prog .lss 3 j i λaa=>aN aa (bM (ldN 2 d) λab=>bI 2 a j λac=>bM (ldN 2 ac) λad=>bB prog .eql 128 ab ad λae=>aN ae (k .ret (a::aF 2 (d::j::aF 2 (i::j::aF 10 [])))) (bB prog .add 3 j (.I 1) λaf=>k .normal (a::aF 2 (d::e::aF 2 (i::af::aF 10 []))))) (k (.exit 0) (a::aF 2 (d::e::aF 2 (i::j::aF 10 [])))):=by kernel_rfl
theorem aIG:aR prog O L 168 [N,P]=bM (aX 128 (Value.cells P).toList .fix) λaa=>bN N λab=>L (aO prog O L Lg) (Ev O L) (N::aF 2 (aa::some (.I 0)::aF 2 (ab::some (.I 0)::aF 10 []))):=by kernel_rfl
end Go.Proofs.YtciiopkbmjppfaaGreatDoor
end
