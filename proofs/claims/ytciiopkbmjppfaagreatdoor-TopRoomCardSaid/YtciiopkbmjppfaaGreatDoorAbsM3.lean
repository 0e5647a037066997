/-
  PARTS OF THIS CLAIM'S PROOF, laid together by a program of mine.
-/
import Derived.Test.YtciiopkbmjppfaaGreatDoorAbsM2
import Derived.KernelRfl
set_option linter.unusedVariables false
set_option linter.unusedSimpArgs false
set_option linter.unusedSectionVars false
set_option maxRecDepth 100000
noncomputable section
namespace Go.Proofs.YtciiopkbmjppfaaGreatDoor
open Go.Proofs.Tryz
open Go.Abs Go.Abs.M
abbrev LV:=aI (Value × aF)
abbrev KV:=Ex → K (Value × aF)
abbrev OV:=Option (Value × aF)
abbrev aE:Value:=undef
variable (O:aH)(L:LV)(k:KV)(N P Q R S T U V W X Y Z a b c d e f g i j l m n o p q r s t u v w x y z A B C D E F G H I J zz zy zx zw zv zu zt zs zr zq zp zo zn zm zl zk zj zi zh zg zf ze zd zc zb za yz:Value)(rr:List Value)(h:aF)
def L7:CC:=cc prog 1047580 42 [1,1,1,1,1,1,0,1,0,0,1,0,0,1,0,1,0,0]
def Me:KV:=(bV 8 (cJ prog O L (cc prog 1047580 42 [1,1,1,1,1,1,0,1,0,0,1,0,0,1,1]) (bV 7 (cJ prog O L (cc prog 1047580 42 [1,1,1,1,1,1,0,1,0,0,1,1]) (iO 1047580 k)))))
def L9 (O:aH)(L:LV) (k:KV) (c d e m n o p q r s t u v:Value):MV:=bFL 10 n λaa=>bM (b9 37 1 1 [(.N)] [(0,u)]) λab=>bM (app 37 1 24 aa ab) λac=>bF 10 n λad=>bT ad ac λae=>bB prog .add 3 t (.I 1) λaf=>k .normal (aG 2 (c::d::e::aG 5 (m::n::o::p::q::r::s::af::u::v::aG 119 [])))
theorem aJE:Me O L k (.exit 8) (aG 2 (c::d::e::aG 5 (m::n::o::p::q::r::s::t::u::v::aG 119 [])))=L9 O L k c d e m n o p q r s t u v:=by kernel_rfl
theorem Y1:aO prog O L L7 k (aG 2 (c::d::e::aG 5 (m::n::o::p::q::r::s::t::u::v::aG 119 [])))=bFL 0 n λaa=>bB prog .lss 3 v aa λab=>aN ab (bN e λac=>bB prog .lss 3 s ac λad=>bG ad true (aX e) λae=>bG ad true (aX s) λaf=>bG ad true (aP (cN 1 ae af)) λag=>bG ad true (ld1 ag) λah=>bG ad true (aP (bin prog .rem 5 ah (.int .u8 4))) λai=>bG ad true (aP (bin prog .eql 5 ai (.int .u8 0))) λaj=>bP ad aj (.bool false) λak=>aN ak (bIL 1 e s λal=>bB prog .quo 5 al (.int .u8 4) λam=>bM (cK prog 5 3 am) λan=>bFL 0 n λao=>bB prog .rem 3 an ao λap=>bM (b9 3 1 1 [(.I 0)] [(0,ap)]) λaq=>bM (app 3 1 8 u aq) λar=>bB prog .add 3 s (.I 1) λau=>bB prog .add 3 v (.I 1) λav=>k .normal (aG 2 (c::d::e::aG 5 (m::n::o::p::q::r::au::t::ar::av::aG 119 [])))) (bM (b9 3 1 1 [(.I 0)] [(0,v)]) λaw=>bM (app 3 1 8 u aw) λax=>bB prog .add 3 s (.I 1) λay=>bB prog .add 3 v (.I 1) λaz=>k .normal (aG 2 (c::d::e::aG 5 (m::n::o::p::q::r::ay::t::ax::az::aG 119 []))))) (k (.exit 8) (aG 2 (c::d::e::aG 5 (m::n::o::p::q::r::s::t::u::v::aG 119 [])))):=by kernel_rfl
def L6:CC:=cc prog 1047580 42 [1,1,1,1,1,1,0,1,0,0]
def Md:KV:=(bV 6 (cJ prog O L (cc prog 1047580 42 [1,1,1,1,1,1,1]) (cS prog Tryz.f42)))
def L8 (O:aH)(L:LV) (c d e m n o p q r s t u v:Value):MV:=bM (ldN 11 n) λaa=>bM (stN 11 m aa) λab=>bR (ldN 11 m) λw62=>aM (aK [w62])
theorem aJD:Md O L (.exit 6) (aG 2 (c::d::e::aG 5 (m::n::o::p::q::r::s::t::u::v::aG 119 [])))=L8 O L c d e m n o p q r s t u v:=by kernel_rfl
theorem Y0:aO prog O L L6 k (aG 2 (c::d::e::aG 5 (m::n::o::p::q::r::s::t::u::v::aG 119 [])))=bFL 0 n λaa=>bB prog .lss 3 t aa λab=>aN ab (L (aO prog O L L7) (Me O L k) (aG 2 (c::d::e::aG 5 (m::n::o::p::q::r::s::t::some (.N)::some (.I 0)::aG 119 [])))) (k (.exit 6) (aG 2 (c::d::e::aG 5 (m::n::o::p::q::r::s::t::u::v::aG 119 [])))):=by kernel_rfl
def L5:CC:=cc prog 1047580 42 [1,1,1,1,0,1,0,0,1,0,0,1,0,0]
def Mc:KV:=(bV 4 (bV 3 (cJ prog O L (cc prog 1047580 42 [1,1,1,1,0,1,0,0,1,1]) (iO 1047580 k))))
theorem aJC:Mc O L k (.exit 4) (aG 2 (c::d::e::aG 5 (m::n::o::p::q::r::s::t::u::v::aG 119 [])))=bB prog .add 3 q (.I 1) λaa=>k .normal (aG 2 (c::d::e::aG 5 (m::n::o::p::aa::r::s::t::u::v::aG 119 []))):=by kernel_rfl
theorem Yz:aO prog O L L5 k (aG 2 (c::d::e::aG 5 (m::n::o::p::q::r::s::t::u::v::aG 119 [])))=bB prog .lss 3 r q λaa=>aN aa (bB prog .rem 23 p (.int .u16 2) λab=>bB prog .eql 23 ab (.int .u16 1) λac=>aN ac (bFL 1 n λad=>bO (bld prog 128 [(0,r),(1,q)]) λae=>bM (b9 128 2 1 [(.I 0),(.I 0)] [(0,ae)]) λaf=>bM (app 128 2 16 ad af) λag=>bF 1 n λah=>bT ah ag λai=>bB prog .quo 23 p (.int .u16 2) λaj=>bB prog .add 3 r (.I 1) λak=>k .normal (aG 2 (c::d::e::aG 5 (m::n::o::aj::q::ak::s::t::u::v::aG 119 [])))) (bB prog .quo 23 p (.int .u16 2) λal=>bB prog .add 3 r (.I 1) λam=>k .normal (aG 2 (c::d::e::aG 5 (m::n::o::al::q::am::s::t::u::v::aG 119 []))))) (k (.exit 4) (aG 2 (c::d::e::aG 5 (m::n::o::p::q::r::s::t::u::v::aG 119 [])))):=by kernel_rfl
def L4:CC:=cc prog 1047580 42 [1,1,1,1,0,1,0,0]
def Mb:KV:=(bV 2 (cJ prog O L (cc prog 1047580 42 [1,1,1,1,1]) (cS prog Tryz.f42)))
theorem aJB:Mb O L (.exit 2) (aG 2 (c::d::e::aG 5 (m::n::o::p::q::r::s::t::u::v::aG 119 [])))=L (aO prog O L L6) (Md O L) (aG 2 (c::d::e::aG 5 (m::n::o::p::q::r::some (.I 0)::some (.I 0)::u::v::aG 119 []))):=by kernel_rfl
theorem Yy:aO prog O L L4 k (aG 2 (c::d::e::aG 5 (m::n::o::p::q::r::s::t::u::v::aG 119 [])))=bFL 0 n λaa=>bB prog .lss 3 q aa λab=>aN ab (L (aO prog O L L5) (Mc O L k) (aG 2 (c::d::e::aG 5 (m::n::o::p::q::some (.I 0)::s::t::u::v::aG 119 [])))) (k (.exit 2) (aG 2 (c::d::e::aG 5 (m::n::o::p::q::r::s::t::u::v::aG 119 [])))):=by kernel_rfl
def L3:CC:=cc prog 1047580 42 [1,1,0,1,0,0]
def Ma:KV:=(bV 0 (cJ prog O L (cc prog 1047580 42 [1,1,1]) (cS prog Tryz.f42)))
theorem aJA:Ma O L (.exit 0) (aG 2 (c::d::e::aG 5 (m::n::o::p::q::r::s::t::u::v::aG 119 [])))=L (aO prog O L L4) (Mb O L) (aG 2 (c::d::e::aG 5 (m::n::o::d::some (.I 1)::r::s::t::u::v::aG 119 []))):=by kernel_rfl
theorem Yx:aO prog O L L3 k (aG 2 (c::d::e::aG 5 (m::n::o::p::q::r::s::t::u::v::aG 119 [])))=bFL 2 n λaa=>bB prog .lss 3 o aa λab=>aN ab (bFL 8 n λac=>bM (cK prog 5 3 c) λad=>bB prog .add 3 o ad λae=>bB prog .rem 3 ae (.I 5) λaf=>bB prog .add 3 (.I 1) af λag=>bM (b9 3 1 1 [(.I 0)] [(0,ag)]) λah=>bM (app 3 1 8 ac ah) λai=>bF 8 n λaj=>bT aj ai λak=>bB prog .add 3 o (.I 1) λal=>k .normal (aG 2 (c::d::e::aG 5 (m::n::al::p::q::r::s::t::u::v::aG 119 [])))) (k (.exit 0) (aG 2 (c::d::e::aG 5 (m::n::o::p::q::r::s::t::u::v::aG 119 [])))):=by kernel_rfl
theorem aJF:aR prog O L 42 [N,P,Q,R,S]=bM (aZ 40 [(.I 0),(.N),(.I 0),(.I 0),(.I 0),(.I 0),(.I 0),(.I 0),(.N),(.int .u16 0),(.N)] .fix) λaa=>bB prog .rem 5 N (.int .u8 5) λab=>bM (cK prog 5 3 ab) λac=>bB prog .add 3 (.I 2) ac λad=>bB prog .rem 5 Q (.int .u8 3) λae=>bM (cK prog 5 3 ae) λaf=>bB prog .add 3 (.I 1) af λag=>bB prog .rem 5 P (.int .u8 8) λah=>bM (cK prog 5 3 ah) λai=>bB prog .add 3 (.I 1) ai λaj=>bB prog .quo 5 P (.int .u8 8) λak=>bB prog .rem 5 ak (.int .u8 8) λal=>bM (cK prog 5 3 al) λam=>bB prog .add 3 (.I 1) am λan=>bB prog .quo 5 Q (.int .u8 3) λao=>bB prog .rem 5 ao (.int .u8 4) λap=>bM (cK prog 5 3 ap) λaq=>bB prog .add 3 (.I 1) aq λar=>bB prog .quo 5 Q (.int .u8 12) λau=>bB prog .rem 5 au (.int .u8 8) λav=>bM (cK prog 5 3 av) λaw=>bB prog .add 3 (.I 1) aw λax=>bO (bld prog 40 [(0,ad),(2,ag),(3,aj),(4,an),(5,ar),(6,ax),(7,(.I 64)),(9,R)]) λay=>bM (aZ 40 [(.I 0),(.N),(.I 0),(.I 0),(.I 0),(.I 0),(.I 0),(.I 0),(.N),(.int .u16 0),(.N)] .fix) λaz=>bM (stN 11 az ay) λba=>L (aO prog O L L3) (Ma O L) (aG 2 (Q::R::S::aG 5 (aa::az::some (.I 0)::some aE::some aE::some aE::some aE::some aE::some aE::some aE::aG 119 []))):=by kernel_rfl
theorem B0:aR prog O L 82 [N]=bN N λaa=>bB prog .eql 3 aa (.I 0) λab=>bG ab false (aX N) λac=>bG ab false (aP (cX ac)) λad=>bG ab false (aP (bin prog .gtr 3 ad (.I 3))) λae=>bP ab (.bool true) ae λaf=>bG af false (aX N) λag=>bG af false (aX (.func (.func 116) #[] #[])) λah=>gO af false O 117 [ag,ah] λai=>bP af (.bool true) ai λaj=>aN aj (aM (aK [(.pointer none)])) (bC O 78 [N] λak=>bC O 78 [N] λal=>bO (bld prog 197 [(0,ak),(1,al)]) λam=>bM (aZ 197 (Value.cells am).toList .fix) λan=>aM (aK [an])):=by kernel_rfl
def Mj:CC:=cc prog 3634 67 [1,1,0,1,0,0]
def Mk:KV:=(bV 0 (cJ prog O L (cc prog 3634 67 [1,1,1]) (cS prog Tryz.f67)))
theorem aJK:Mk O L (.exit 0) (aG 1 (b::aG 2 (e::f::aG 3 (l::m::n::aG 34 []))))=bC O 106 [f] λaa=>bC O 107 [f] λab=>aM (aK [ab]):=by kernel_rfl
theorem Y4:aO prog O L Mj k (aG 1 (b::aG 2 (e::f::aG 3 (l::m::n::aG 34 []))))=bB prog .lss 3 n m λaa=>aN aa (bI 2 l n λab=>bM (ldN 2 ab) λac=>bM (aZ 128 [(.I 0),(.I 0)] .fix) λad=>bM (stN 2 ad ac) λae=>bFL 0 ad λaf=>bFL 1 ad λag=>bB prog .eql 3 af ag λah=>aN ah (bB prog .add 3 n (.I 1) λai=>k .normal (aG 1 (b::aG 2 (e::f::aG 3 (l::m::ai::aG 34 []))))) (bFL 0 ad λaj=>bB prog .eql 3 aj b λak=>aN ak (bFL 1 ad λal=>bM (b9 3 1 1 [(.I 0)] [(0,al)]) λam=>bM (app 3 1 8 f am) λan=>bB prog .add 3 n (.I 1) λao=>k .normal (aG 1 (b::aG 2 (e::an::aG 3 (l::m::ao::aG 34 []))))) (bFL 1 ad λap=>bB prog .eql 3 ap b λaq=>aN aq (bFL 0 ad λar=>bM (b9 3 1 1 [(.I 0)] [(0,ar)]) λau=>bM (app 3 1 8 f au) λav=>bB prog .add 3 n (.I 1) λaw=>k .normal (aG 1 (b::aG 2 (e::av::aG 3 (l::m::aw::aG 34 []))))) (bB prog .add 3 n (.I 1) λax=>k .normal (aG 1 (b::aG 2 (e::f::aG 3 (l::m::ax::aG 34 [])))))))) (k (.exit 0) (aG 1 (b::aG 2 (e::f::aG 3 (l::m::n::aG 34 []))))):=by kernel_rfl
theorem aJL:aR prog O L 67 [N,P]=bM (aZ 40 (Value.cells N).toList .fix) λaa=>bFL 1 aa λab=>bN ab λac=>L (aO prog O L Mj) (Mk O L) (aG 1 (P::aG 2 (some (.N)::some (.N)::aG 3 (ab::ac::some (.I 0)::aG 34 [])))):=by kernel_rfl
theorem aJl:aR prog O L 116 [N]=bB prog .lss 3 N (.I 1) λaa=>bG aa false (aX N) λab=>bG aa false (aP (bin prog .gtr 3 ab (.I 5))) λac=>bP aa (.bool true) ac λad=>aM (aK [ad]):=by kernel_rfl
theorem aJm:aR prog O L 117 [N,P]=bC O 145 [N,P] λaa=>bB prog .geq 3 aa (.I 0) λab=>aM (aK [ab]):=by kernel_rfl
def Mg:CC:=cc prog 461854 46 [1,1,0,1,0,0,1,1,0,0,1,1,0,0]
def Mi:KV:=(bV 2 (bV 1 (cJ prog O L (cc prog 461854 46 [1,1,0,1,0,0,1,1,1]) (iO 461854 k))))
theorem aJH:Mi O L k (.exit 2) (aG 1 (b::c::d::e::aG 5 (m::n::aG 4 (s::t::u::aG 14 []))))=bB prog .add 3 n (.I 1) λaa=>k .normal (aG 1 (b::c::d::e::aG 5 (m::aa::aG 4 (s::t::u::aG 14 [])))):=by kernel_rfl
theorem Y3:aO prog O L Mg k (aG 1 (b::c::d::e::aG 5 (m::n::aG 4 (s::t::u::aG 14 []))))=bB prog .lss 3 u t λaa=>aN aa (bIL 1 s u λab=>bC O 80 [ab,(.I 0),(.I 5)] λac=>aN ac (bO (bld prog 83 [(0,e),(1,ab)]) λad=>bM (b9 83 2 1 [(.I 0),(.I 0)] [(0,ad)]) λae=>bM (app 83 2 16 d ae) λaf=>bB prog .add 3 u (.I 1) λag=>k .normal (aG 1 (b::c::af::e::aG 5 (m::n::aG 4 (s::t::ag::aG 14 []))))) (bB prog .add 3 u (.I 1) λah=>k .normal (aG 1 (b::c::d::e::aG 5 (m::n::aG 4 (s::t::ah::aG 14 [])))))) (k (.exit 2) (aG 1 (b::c::d::e::aG 5 (m::n::aG 4 (s::t::u::aG 14 []))))):=by kernel_rfl
def Mf:CC:=cc prog 461854 46 [1,1,0,1,0,0]
def Mh:KV:=(bV 0 (cJ prog O L (cc prog 461854 46 [1,1,1]) (cS prog Tryz.f46)))
theorem aJG:Mh O L (.exit 0) (aG 1 (b::c::d::e::aG 5 (m::n::aG 4 (s::t::u::aG 14 []))))=aM (aK [d]):=by kernel_rfl
theorem Y2:aO prog O L Mf k (aG 1 (b::c::d::e::aG 5 (m::n::aG 4 (s::t::u::aG 14 []))))=bB prog .lss 3 n m λaa=>aN aa (bM (ldN 11 b) λab=>bC O 67 [ab,n] λac=>bN ac λad=>L (aO prog O L Mg) (Mi O L k) (aG 1 (b::c::d::n::aG 5 (m::n::aG 4 (ac::ad::some (.I 0)::aG 14 []))))) (k (.exit 0) (aG 1 (b::c::d::e::aG 5 (m::n::aG 4 (s::t::u::aG 14 []))))):=by kernel_rfl
theorem aJI:aR prog O L 46 [N]=bM (aZ 40 (Value.cells N).toList .fix) λaa=>bFL 0 aa λab=>bO (gJ prog true [ab,(.I 0)]) λac=>bO (gJ prog false [ac,(.I 6)]) λad=>L (aO prog O L Mf) (Mh O L) (aG 1 (aa::some (.N)::some (.N)::some aE::aG 5 (ad::some (.I 0)::aG 4 (some aE::some aE::some aE::aG 14 [])))):=by kernel_rfl
theorem aJJ:aR prog O L 56 [N,P,Q]=bM (aZ 40 (Value.cells N).toList .fix) λaa=>bM (ldN 11 aa) λab=>bC O 67 [ab,P] λac=>bC O 97 [ac,Q] λad=>bB prog .lss 3 ad (.I 0) λae=>aN ae (aM (aK [ad])) (bB prog .add 3 ad (.I 1) λaf=>aM (aK [af])):=by kernel_rfl
theorem aJM:aR prog O L 73 [N]=bM (aZ 40 (Value.cells N).toList .fix) λaa=>bM (ldN 11 aa) λab=>bC O 111 [ab] λac=>bO (un prog .not ac) λad=>aN ad (aN ad (aM (aK [(.int .u16 120)])) (bFL 8 aa λae=>bN ae λaf=>bFL 2 aa λag=>bB prog .neq 3 af ag λah=>aN ah (aN ah (aM (aK [(.int .u16 120)])) (bFL 10 aa λai=>bN ai λaj=>bFL 0 aa λak=>bB prog .neq 3 aj ak λal=>aN al (aN al (aM (aK [(.int .u16 120)])) (aM (aK [(.int .u16 0)]))) (bFL 10 aa λam=>bC O 113 [am,(.func (.func 110) #[] #[aa])] λan=>aN an (aM (aK [(.int .u16 120)])) (aM (aK [(.int .u16 0)]))))) (bFL 8 aa λao=>bC O 82 [ao] λap=>bB prog .eql 141 ap (.pointer none) λaq=>aN aq (aM (aK [(.int .u16 120)])) (bFL 10 aa λar=>bN ar λau=>bFL 0 aa λav=>bB prog .neq 3 au av λaw=>aN aw (aN aw (aM (aK [(.int .u16 120)])) (aM (aK [(.int .u16 0)]))) (bFL 10 aa λax=>bC O 113 [ax,(.func (.func 110) #[] #[aa])] λay=>aN ay (aM (aK [(.int .u16 120)])) (aM (aK [(.int .u16 0)]))))))) (bM (ldN 11 aa) λaz=>bC O 112 [az] λba=>bO (un prog .not ba) λbb=>aN bb (aM (aK [(.int .u16 120)])) (bFL 8 aa λbc=>bN bc λbd=>bFL 2 aa λbe=>bB prog .neq 3 bd be λbf=>aN bf (aN bf (aM (aK [(.int .u16 120)])) (bFL 10 aa λbg=>bN bg λbh=>bFL 0 aa λbi=>bB prog .neq 3 bh bi λbj=>aN bj (aN bj (aM (aK [(.int .u16 120)])) (aM (aK [(.int .u16 0)]))) (bFL 10 aa λbk=>bC O 113 [bk,(.func (.func 110) #[] #[aa])] λbl=>aN bl (aM (aK [(.int .u16 120)])) (aM (aK [(.int .u16 0)]))))) (bFL 8 aa λbm=>bC O 82 [bm] λbn=>bB prog .eql 141 bn (.pointer none) λbo=>aN bo (aM (aK [(.int .u16 120)])) (bFL 10 aa λbp=>bN bp λbq=>bFL 0 aa λbr=>bB prog .neq 3 bq br λbs=>aN bs (aN bs (aM (aK [(.int .u16 120)])) (aM (aK [(.int .u16 0)]))) (bFL 10 aa λbt=>bC O 113 [bt,(.func (.func 110) #[] #[aa])] λbu=>aN bu (aM (aK [(.int .u16 120)])) (aM (aK [(.int .u16 0)]))))))):=by kernel_rfl
theorem Ml:aR prog O L 78 [N]=bB prog .eql 37 N (.N) λaa=>aN aa (aM (aK [(.N)])) (bM (b9 3 1 0 [(.I 0)] []) λab=>bM (app 3 1 8 ab N) λac=>aM (aK [ac])):=by kernel_rfl
def Lw:CC:=cc prog 61 107 [1,1,0,1,0,0,1,0,0,1,0,1,0,1,0,0]
def Lx:KV:=(bV 2 (cJ prog O L (cc prog 61 107 [1,1,0,1,0,0,1,0,0,1,0,1,1]) (bV 1 (cJ prog O L (cc prog 61 107 [1,1,0,1,0,0,1,1]) (iO 61 k)))))
theorem aJc:Lx O L k (.exit 2) (a::aG 1 (c::d::e::f::aG 55 []))=bM (slc prog 1 a (some d) none none) λaa=>bM (clr 1 [(.I 0)] aa) λab=>bM (slc prog 1 a none (some d) none) λac=>k .ret (a::aG 1 (ac::d::e::f::aG 55 [])):=by kernel_rfl
theorem Yr:aO prog O L Lw k (a::aG 1 (c::d::e::f::aG 55 []))=bN e λaa=>bB prog .lss 3 f aa λab=>aN ab (bIL 1 e f λac=>bB prog .sub 3 f (.I 1) λad=>bIL 1 e ad λae=>bB prog .neq 3 ac ae λaf=>aN af (bIL 1 e f λag=>bI 1 a d λah=>bT ah ag λai=>bB prog .add 3 d (.I 1) λaj=>bB prog .add 3 f (.I 1) λak=>k .normal (a::aG 1 (c::aj::e::ak::aG 55 []))) (bB prog .add 3 f (.I 1) λal=>k .normal (a::aG 1 (c::d::e::al::aG 55 [])))) (k (.exit 2) (a::aG 1 (c::d::e::f::aG 55 []))):=by kernel_rfl
def Fg:CC:=cc prog 61 107 [1,1,0,1,0,0]
def Bz:KV:=(bV 0 (cJ prog O L (cc prog 61 107 [1,1,1]) (cS prog Tryz.f107)))
theorem aJb:Bz O L (.exit 0) (a::aG 1 (c::d::e::f::aG 55 []))=aM (aK [a]):=by kernel_rfl
theorem aJe:Bz O L .ret (a::aG 1 (c::d::e::f::aG 55 []))=aM (aK [c]):=by kernel_rfl
theorem Yq:aO prog O L Fg k (a::aG 1 (c::d::e::f::aG 55 []))=bN a λaa=>bB prog .lss 3 d aa λab=>aN ab (bIL 1 a d λac=>bB prog .sub 3 d (.I 1) λad=>bIL 1 a ad λae=>bB prog .eql 3 ac ae λaf=>aN af (bM (slc prog 1 a (some d) none none) λag=>L (aO prog O L Lw) (Lx O L k) (a::aG 1 (c::d::ag::some (.I 1)::aG 55 []))) (bB prog .add 3 d (.I 1) λah=>k .normal (a::aG 1 (c::ah::e::f::aG 55 [])))) (k (.exit 0) (a::aG 1 (c::d::e::f::aG 55 []))):=by kernel_rfl
theorem aJd:aR prog O L 107 [N]=bN N λaa=>bB prog .lss 3 aa (.I 2) λab=>aN ab (aM (aK [N])) (L (aO prog O L Fg) (Bz O L) (N::aG 1 (some (.N)::some (.I 1)::some aE::some aE::aG 55 []))):=by kernel_rfl
theorem aJN:aR prog O L 80 [N,P,Q]=bB prog .geq 3 N P λaa=>bG aa true (aX N) λab=>bG aa true (aX Q) λac=>bG aa true (aP (bin prog .leq 3 ab ac)) λad=>bP aa ad (.bool false) λae=>aM (aK [ae]):=by kernel_rfl
def Mm:CC:=cc prog 403 97 [1,0,1,0,0]
def Fo:KV:=(bV 0 (cJ prog O L (cc prog 403 97 [1,1]) (cS prog Tryz.f97)))
theorem aJO:Fo O L (.exit 0) (a::b::aG 2 (e::aG 2 (i::j::aG 10 [])))=aM (aK [(.I (-1))]):=by kernel_rfl
theorem aJQ:Fo O L .ret (a::b::aG 2 (e::aG 2 (i::j::aG 10 [])))=aM (aK [e]):=by kernel_rfl
theorem Y5:aO prog O L Mm k (a::b::aG 2 (e::aG 2 (i::j::aG 10 [])))=bB prog .lss 3 j i λaa=>aN aa (bIL 1 a j λab=>bB prog .eql 3 b ab λac=>aN ac (k .ret (a::b::aG 2 (j::aG 2 (i::j::aG 10 [])))) (bB prog .add 3 j (.I 1) λad=>k .normal (a::b::aG 2 (e::aG 2 (i::ad::aG 10 []))))) (k (.exit 0) (a::b::aG 2 (e::aG 2 (i::j::aG 10 [])))):=by kernel_rfl
theorem aJP:aR prog O L 97 [N,P]=bN N λaa=>L (aO prog O L Mm) (Fo O L) (N::P::aG 2 (some (.I 0)::aG 2 (aa::some (.I 0)::aG 10 []))):=by kernel_rfl
theorem aJf:aR prog O L 110 [N,P]=bN N λaa=>bFL 0 P λab=>bB prog .neq 3 aa ab λac=>aM (aK [ac]):=by kernel_rfl
theorem aJg:aR prog O L 111 [N]=bM (aZ 40 (Value.cells N).toList .fix) λaa=>bFL 0 aa λab=>bC O 80 [ab,(.I 2),(.I 6)] λac=>gFL ac true 2 aa λad=>gO ac true O 80 [ad,(.I 1),(.I 3)] λae=>bP ac ae (.bool false) λaf=>gFL af true 3 aa λag=>gO af true O 80 [ag,(.I 1),(.I 8)] λah=>bP af ah (.bool false) λai=>gFL ai true 4 aa λaj=>gO ai true O 80 [aj,(.I 1),(.I 8)] λak=>bP ai ak (.bool false) λal=>gFL al true 5 aa λam=>gO al true O 80 [am,(.I 1),(.I 4)] λan=>bP al an (.bool false) λao=>gFL ao true 6 aa λap=>gO ao true O 80 [ap,(.I 1),(.I 8)] λaq=>bP ao aq (.bool false) λar=>gFL ar true 7 aa λau=>gO ar true O 80 [au,(.I 1),(.I 64)] λav=>bP ar av (.bool false) λaw=>aM (aK [aw]):=by kernel_rfl
def Ly:CC:=cc prog 454 112 [1,0,1,0,0]
def Fh:KV:=(bV 0 (cJ prog O L (cc prog 454 112 [1,1]) (cS prog Tryz.f112)))
theorem aJh:Fh O L (.exit 0) (aG 1 (b::c::aG 3 (g::i::j::aG 34 [])))=bFL 1 b λaa=>bN aa λab=>bB prog .leq 3 ab (.I 15) λac=>aM (aK [ac]):=by kernel_rfl
theorem Fi:Fh O L .ret (aG 1 (b::c::aG 3 (g::i::j::aG 34 [])))=aM (aK [c]):=by kernel_rfl
theorem Ys:aO prog O L Ly k (aG 1 (b::c::aG 3 (g::i::j::aG 34 [])))=bB prog .lss 3 j i λaa=>aN aa (bI 2 g j λab=>bM (ldN 2 ab) λac=>bM (aZ 128 [(.I 0),(.I 0)] .fix) λad=>bM (stN 2 ad ac) λae=>bFL 0 ad λaf=>bB prog .lss 3 af (.I 0) λag=>gFL ag false 0 ad λah=>gFL ag false 1 ad λai=>bG ag false (aP (bin prog .geq 3 ah ai)) λaj=>bP ag (.bool true) aj λak=>gFL ak false 1 ad λal=>gFL ak false 0 b λam=>bG ak false (aP (bin prog .geq 3 al am)) λan=>bP ak (.bool true) an λao=>gFL ao false 1 b λap=>bG ao false (aX j) λaq=>bG ao false (slc prog 2 ap none (some aq) none) λar=>bG ao false (ldN 2 ad) λau=>gO ao false O 142 [ar,au] λav=>bP ao (.bool true) av λaw=>aN aw (k .ret (aG 1 (b::some (.bool false)::aG 3 (g::i::j::aG 34 [])))) (bB prog .add 3 j (.I 1) λax=>k .normal (aG 1 (b::c::aG 3 (g::i::ax::aG 34 []))))) (k (.exit 0) (aG 1 (b::c::aG 3 (g::i::j::aG 34 [])))):=by kernel_rfl
theorem aJi:aR prog O L 112 [N]=bM (aZ 40 (Value.cells N).toList .fix) λaa=>bFL 1 aa λab=>bN ab λac=>L (aO prog O L Ly) (Fh O L) (aG 1 (aa::some (.bool false)::aG 3 (ab::ac::some (.I 0)::aG 34 []))):=by kernel_rfl
theorem aJj:aR prog O L 113 [N,P]=bC O 143 [N,P] λaa=>bB prog .geq 3 aa (.I 0) λab=>aM (aK [ab]):=by kernel_rfl
theorem aJk:aR prog O L 114 [N,P]=bC O 97 [N,P] λaa=>bB prog .geq 3 aa (.I 0) λab=>aM (aK [ab]):=by kernel_rfl
def L1:CC:=cc prog 403 145 [1,0,1,0,0]
def Fl:KV:=(bV 0 (cJ prog O L (cc prog 403 145 [1,1]) (cS prog Tryz.f145)))
theorem aJu:Fl O L (.exit 0) (a::b::aG 2 (e::aG 2 (i::j::aG 10 [])))=aM (aK [(.I (-1))]):=by kernel_rfl
theorem aJw:Fl O L .ret (a::b::aG 2 (e::aG 2 (i::j::aG 10 [])))=aM (aK [e]):=by kernel_rfl
theorem Yv:aO prog O L L1 k (a::b::aG 2 (e::aG 2 (i::j::aG 10 [])))=bB prog .lss 3 j i λaa=>aN aa (bIL 1 a j λab=>bM (kQ O b [ab]) λac=>aN ac (k .ret (a::b::aG 2 (j::aG 2 (i::j::aG 10 [])))) (bB prog .add 3 j (.I 1) λad=>k .normal (a::b::aG 2 (e::aG 2 (i::ad::aG 10 []))))) (k (.exit 0) (a::b::aG 2 (e::aG 2 (i::j::aG 10 [])))):=by kernel_rfl
theorem aJv:aR prog O L 145 [N,P]=bN N λaa=>L (aO prog O L L1) (Fl O L) (N::P::aG 2 (some (.I 0)::aG 2 (aa::some (.I 0)::aG 10 []))):=by kernel_rfl
theorem aJn:aR prog O L 142 [N,P]=bM (aZ 128 (Value.cells P).toList .fix) λaa=>bM (ldN 2 aa) λab=>bC O 168 [N,ab] λac=>bB prog .geq 3 ac (.I 0) λad=>aM (aK [ad]):=by kernel_rfl
def Lz:CC:=cc prog 403 143 [1,0,1,0,0]
def Fj:KV:=(bV 0 (cJ prog O L (cc prog 403 143 [1,1]) (cS prog Tryz.f143)))
theorem aJo:Fj O L (.exit 0) (a::b::aG 2 (e::aG 2 (i::j::aG 10 [])))=aM (aK [(.I (-1))]):=by kernel_rfl
theorem aJq:Fj O L .ret (a::b::aG 2 (e::aG 2 (i::j::aG 10 [])))=aM (aK [e]):=by kernel_rfl
theorem Yt:aO prog O L Lz k (a::b::aG 2 (e::aG 2 (i::j::aG 10 [])))=bB prog .lss 3 j i λaa=>aN aa (bIL 1 a j λab=>bM (kQ O b [ab]) λac=>aN ac (k .ret (a::b::aG 2 (j::aG 2 (i::j::aG 10 [])))) (bB prog .add 3 j (.I 1) λad=>k .normal (a::b::aG 2 (e::aG 2 (i::ad::aG 10 []))))) (k (.exit 0) (a::b::aG 2 (e::aG 2 (i::j::aG 10 [])))):=by kernel_rfl
theorem aJp:aR prog O L 143 [N,P]=bN N λaa=>L (aO prog O L Lz) (Fj O L) (N::P::aG 2 (some (.I 0)::aG 2 (aa::some (.I 0)::aG 10 []))):=by kernel_rfl
def L0:CC:=cc prog 409 144 [1,0,1,0,0]
def Fk:KV:=(bV 0 (cJ prog O L (cc prog 409 144 [1,1]) (cS prog Tryz.f144)))
theorem aJr:Fk O L (.exit 0) (a::aG 2 (d::e::aG 2 (i::j::aG 10 [])))=aM (aK [(.I (-1))]):=by kernel_rfl
theorem aJt:Fk O L .ret (a::aG 2 (d::e::aG 2 (i::j::aG 10 [])))=aM (aK [e]):=by kernel_rfl
theorem Yu:aO prog O L L0 k (a::aG 2 (d::e::aG 2 (i::j::aG 10 [])))=bB prog .lss 3 j i λaa=>aN aa (bM (ldN 2 d) λab=>bI 2 a j λac=>bM (ldN 2 ac) λad=>bB prog .eql 83 ab ad λae=>aN ae (k .ret (a::aG 2 (d::j::aG 2 (i::j::aG 10 [])))) (bB prog .add 3 j (.I 1) λaf=>k .normal (a::aG 2 (d::e::aG 2 (i::af::aG 10 []))))) (k (.exit 0) (a::aG 2 (d::e::aG 2 (i::j::aG 10 [])))):=by kernel_rfl
theorem aJs:aR prog O L 144 [N,P]=bM (aZ 83 (Value.cells P).toList .fix) λaa=>bN N λab=>L (aO prog O L L0) (Fk O L) (N::aG 2 (aa::some (.I 0)::aG 2 (ab::some (.I 0)::aG 10 []))):=by kernel_rfl
def L2:CC:=cc prog 409 168 [1,0,1,0,0]
def Fm:KV:=(bV 0 (cJ prog O L (cc prog 409 168 [1,1]) (cS prog Tryz.f168)))
theorem aJx:Fm O L (.exit 0) (a::aG 2 (d::e::aG 2 (i::j::aG 10 [])))=aM (aK [(.I (-1))]):=by kernel_rfl
theorem aJz:Fm O L .ret (a::aG 2 (d::e::aG 2 (i::j::aG 10 [])))=aM (aK [e]):=by kernel_rfl
theorem Yw:aO prog O L L2 k (a::aG 2 (d::e::aG 2 (i::j::aG 10 [])))=bB prog .lss 3 j i λaa=>aN aa (bM (ldN 2 d) λab=>bI 2 a j λac=>bM (ldN 2 ac) λad=>bB prog .eql 128 ab ad λae=>aN ae (k .ret (a::aG 2 (d::j::aG 2 (i::j::aG 10 [])))) (bB prog .add 3 j (.I 1) λaf=>k .normal (a::aG 2 (d::e::aG 2 (i::af::aG 10 []))))) (k (.exit 0) (a::aG 2 (d::e::aG 2 (i::j::aG 10 [])))):=by kernel_rfl
theorem aJy:aR prog O L 168 [N,P]=bM (aZ 128 (Value.cells P).toList .fix) λaa=>bN N λab=>L (aO prog O L L2) (Fm O L) (N::aG 2 (aa::some (.I 0)::aG 2 (ab::some (.I 0)::aG 10 []))):=by kernel_rfl
end Go.Proofs.YtciiopkbmjppfaaGreatDoor
end
