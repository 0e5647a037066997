/-
  PARTS OF THIS CLAIM'S PROOF, laid together by a program of mine.
-/
import Derived.Test.YtkeilicinggjmaaGreatDoorAbsM2
import Derived.Test.YtkeilicinggjmaaGreatDoorAbsM1
import Derived.Calls
import Derived.LoopN
import Derived.Orders
import Derived.Laws.Sem
import Derived.Laws.Tables
import Derived.Laws.Cells
import Derived.Laws.StructEq
import Derived.Laws.Append
import Derived.Laws.MakeOwn
import Derived.Laws.Slices
import Derived.Lib.UnsafeStr
import Derived.Laws.BytesString
import Derived.Laws.BytesArg
import Derived.Laws.Pointers
import Derived.Lib.SliceRun
import Derived.Laws.Cover3
import Derived.MapKept
import Derived.WideKeyRuns
import Derived.Scope
import Derived.Test.YtkeilicinggjmaaGreatDoorProg
import Derived.KernelRfl
import Derived.Test.YtkeilicinggjmaaGreatDoorAbsM5
import Derived.ProofKit
import Derived.RowKit
import Derived.RowKit3
import Derived.ChangeSame
import Derived.OpenShut
import Derived.Deep.Slices
import Derived.SizedLaws
import Derived.Test.YtkeilicinggjmaaGreatDoorAbsM4
import Derived.Test.YtkeilicinggjmaaGreatDoorAbsM3
import Derived.Sort.Grow
import Derived.Ground.NamesProg
import Derived.Shelf.Sort.Plain
import Derived.Shelf.Slices.In.SortNone
set_option linter.unusedVariables false
set_option linter.unusedSimpArgs false
set_option linter.unusedSectionVars false
set_option maxRecDepth 100000
noncomputable section
namespace Go.Proofs.YtkeilicinggjmaaGreatDoor
open Go.Proofs.Tryz
open Go.Abs
variable (O:aE)(L:LV)(k:KV)(N P Q R S T U V W X Y Z a b c d e f g i j l m n o p q r s t u v w x y z A B C D E F G H I J zz zy zx zw zv zu zt zs zr zq zp zo zn zm zl zk zj zi zh zg zf ze zd zc zb za yz yy yx yw yv yu yt ys yr yq yp yo yn ym yl yk yj yi yh yg yf ye yd yc yb ya xz xy xx xw xv xu xt xs xr xq xp xo xn xm xl xk xj xi xh xg xf xe xd xc xb xa wz wy wx ww wv wu wt ws wr wq wp wo wn wm wl wk wj wi wh wg wf we wd wc wb wa vz vy vx vw vv vu vt vs vr vq vp vo vn vm vl vk vj vi vh vg vf ve vd vc vb va:Value)(h:aC)
theorem aKV:cE prog O L 41 [N,P,Q] h=ob (O (.func 84) [Q] h) λaa h=>ob (M.aD (bin prog .eql 177 aa (.pointer none)) h) λab h=>ob (gd ab false (M.cA N) h) λac h=>ob (gd ab false (M.aD (bin prog .lss 3 ac (.int .i64 1))) h) λad h=>ob (M.aD (cJ ab (.bool true) ad) h) λae h=>ob (gd ae false (M.cA N) h) λaf h=>ob (gd ae false (M.aD (bin prog .gtr 3 af (.int .i64 16))) h) λag h=>ob (M.aD (cJ ae (.bool true) ag) h) λah h=>ob (gd ah false (M.cA P) h) λai h=>ob (gd ah false (M.aD (bin prog .lss 3 ai (.int .i64 1))) h) λaj h=>ob (M.aD (cJ ah (.bool true) aj) h) λak h=>ob (gd ak false (M.cA P) h) λal h=>ob (gd ak false (M.aD (bin prog .gtr 3 al (.int .i64 3))) h) λam h=>ob (M.aD (cJ ak (.bool true) am) h) λan h=>aL an (some (aJ [(.pointer none)],h)) (ob (pZ h) λao h=>ob (M.aD (bld prog 181 [(0,aa),(1,ao),(2,N),(3,P)]) h) λap h=>ob (cX 181 (Value.cells ap).toList .fix h) λaq h=>some (aJ [aq],h)):=by kernel_rfl
theorem aKY:cE prog O L 96 [N,P,Q,R] h=ob (M.aD (aQ N) h) λaa h=>ob (M.aD (aG 1 aa) h) λab h=>ob (ld1 ab h) λac h=>ob (M.aD (bld prog 256 [(0,P),(1,Q),(2,R)]) h) λad h=>ob (nM (.str [true,true,true]) (.slice none 0 0) false ac ad h) λae h=>ob (M.aD (bM ae) h) λaf h=>some (aJ [af],h):=by kernel_rfl
def Oj:Code:=b9 [1,1,1,0,1,0,0] (cB prog 84)
def Ol:KV:=(dQ 0 (eD prog O L (b9 [1,1,1,1] (cB prog 84)) (fG prog Tryz.f84)))
theorem aKW:Ol O L (.exit 0) [a,b,c,d,e,f,g,i,j,l,m,n,o,p,q,r,s,t,u,v,w,x,y,z,A,B,C,D,E,F,G,H,I,J,zz,zy,zx,zw,zv,zu,zt,zs,zr] h=ob (M.aD (aQ d) h) λaa h=>ob (M.aD (aG 0 aa) h) λab h=>ob (ld1 ab h) λac h=>ob (M.aD (bin prog .sub 3 a (.int .i64 1)) h) λad h=>ob (M.aD (aR 2 ac ad) h) λae h=>ob (M.aD (aG 1 ae) h) λaf h=>ob (stN 1 af (.int .i64 (-1)) h) λag h=>some (aJ [d],h):=by kernel_rfl
theorem Zw:aK prog O L Oj k [a,b,c,d,e,f,g,i,j,l,m,n,o,p,q,r,s,t,u,v,w,x,y,z,A,B,C,D,E,F,G,H,I,J,zz,zy,zx,zw,zv,zu,zt,zs,zr] h=ob (M.aD (bin prog .lss 3 x w) h) λaa h=>aL aa (ob (M.aD (aQ d) h) λab h=>ob (M.aD (aG 0 ab) h) λac h=>ob (ld1 ac h) λad h=>ob (M.aD (bin prog .add 3 x (.int .i64 1)) h) λae h=>ob (M.aD (aR 2 ad x) h) λaf h=>ob (M.aD (aG 1 af) h) λag h=>ob (stN 1 ag ae h) λah h=>ob (M.aD (bin prog .add 3 x (.int .i64 1)) h) λai h=>k .normal [a,b,c,d,x,f,g,i,j,l,m,n,o,p,q,r,s,t,u,v,w,ai,aa,x,d,ab,ac,ad,x,x,ae,af,ag,ai,zz,zy,zx,zw,zv,zu,zt,zs,zr] h) (k (.exit 0) [a,b,c,d,e,f,g,i,j,l,m,n,o,p,q,r,s,t,u,v,w,x,aa,z,A,B,C,D,E,F,G,H,I,J,zz,zy,zx,zw,zv,zu,zt,zs,zr] h):=by kernel_rfl
theorem aKX:cE prog O L 84 [N] h=ob (M.aD (bin prog .lss 3 N (.int .i64 1)) h) λaa h=>ob (gd aa false (M.cA N) h) λab h=>ob (gd aa false (M.aD (bin prog .gtr 3 ab (.int .i64 200))) h) λac h=>ob (M.aD (cJ aa (.bool true) ac) h) λad h=>aL ad (some (aJ [(.pointer none)],h)) (ob (lO 247 2 16 [(.pointer none),(.int .i64 0)] N N h) λae h=>ob (M.aD (bld prog 244 [(0,ae),(2,N)]) h) λaf h=>ob (cX 244 (Value.cells af).toList .fix h) λag h=>ob (M.aD (aQ ag) h) λah h=>ob (M.aD (aG 0 ah) h) λai h=>ob (ld1 ai h) λaj h=>ob (M.aD (bM aj) h) λak h=>L (aK prog O L Oj) (Ol O L) [N,undef,(.pointer none),ag,undef,N,aa,aa,ab,ac,ad,N,ae,N,af,ag,ag,ah,ai,aj,ak,(.int .i64 0),undef,undef,undef,undef,undef,undef,undef,undef,undef,undef,undef,undef,undef,undef,undef,undef,undef,undef,undef,undef,undef] h):=by kernel_rfl
theorem Om:cE prog O L 98 [N,P,Q,R,S] h=ob (cX 54 (Value.cells S).toList .fix h) λaa h=>ob (M.aD (bld prog 256 [(0,P),(1,Q),(2,R)]) h) λab h=>ob (cX 256 [(.int .i64 0),(.int .i64 0),(.int .i64 0)] .fix h) λac h=>ob (stN 3 ac ab h) λad h=>ob (ldN 3 ac h) λae h=>ob (O (.func 142) [N,ae] h) λaf h=>ob (M.aD (un prog .not af) h) λag h=>aL ag (some (aJ [(.bool false)],h)) (ob (M.aD (aQ N) h) λah h=>ob (M.aD (aG 0 ah) h) λai h=>ob (ld1 ai h) λaj h=>ifB (true) (ob (ldN 4 aa h) λak h=>ifB (true) (ob (O (.func 143) [aj,ak] h) λal h=>ifB (true) (ob (M.aD (ext 0 al) h) λam h=>ob (M.aD (ext 1 al) h) λan h=>aL an (ob (M.aD (aQ N) h) λao h=>ob (M.aD (aG 1 ao) h) λap h=>ob (ld1 ap h) λaq h=>ifB (true) (ob (ldN 3 ac h) λar h=>ifB (true) (ob (dL 3 1 1 [(.int .i64 0)] [(0,am)] h) λau h=>ob (rR (.str [true,true,true]) (.slice none 0 0) aq ar h) λav h=>ifB (true) (ob (M.aD (ext 0 av) h) λaw h=>ob (app 3 1 8 aw au h) λax h=>ifB (true) (ob (M.aD (ext 1 av) h) λay h=>ob (rP aq ay ax h) λaz h=>ifB (true) (some (aJ [an],h))))))) (some (aJ [an],h)))))):=by kernel_rfl
theorem Oi:cE prog O L 106 [N,P,Q,R] h=ob (cX 54 [(.int .i64 0),(.int .i64 0),(.int .i64 0),(.int .u32 0)] .fix h) λaa h=>ob (O (.func 151) [N,P,Q,R] h) λab h=>ob (M.aD (ext 0 ab) h) λac h=>ob (M.aD (ext 1 ab) h) λad h=>ob (cX 54 [(.int .i64 0),(.int .i64 0),(.int .i64 0),(.int .u32 0)] .fix h) λae h=>ob (stN 4 ae ac h) λaf h=>aL ad (ob (M.aD (bld prog 256 [(0,P),(1,Q),(2,R)]) h) λag h=>ob (cX 256 [(.int .i64 0),(.int .i64 0),(.int .i64 0)] .fix h) λah h=>ob (stN 3 ah ag h) λai h=>ob (M.aD (aQ N) h) λaj h=>ob (M.aD (aG 0 aj) h) λak h=>ob (ld1 ak h) λal h=>ifB (true) (ob (M.aD (aQ N) h) λam h=>ob (M.aD (aG 1 am) h) λan h=>ob (ld1 an h) λao h=>ifB (true) (ob (ldN 3 ah h) λap h=>ifB (true) (ob (nM (.str [true,true,true]) (.slice none 0 0) false ao ap h) λaq h=>ifB (true) (ob (M.aD (aR 1 aq (.int .i64 0)) h) λar h=>ob (ld1 ar h) λau h=>ifB (true) (ob (O (.func 152) [al,au] h) λav h=>ifB (true) (ob (M.aD (aQ N) h) λaw h=>ob (M.aD (aG 1 aw) h) λax h=>ob (ld1 ax h) λay h=>ifB (true) (ob (ldN 3 ah h) λaz h=>ifB (true) (ob (M.aD (aQ N) h) λba h=>ob (M.aD (aG 1 ba) h) λbb h=>ob (ld1 bb h) λbc h=>ifB (true) (ob (ldN 3 ah h) λbd h=>ifB (true) (ob (nM (.str [true,true,true]) (.slice none 0 0) false bc bd h) λbe h=>ifB (true) (ob (slc prog 1 be (some (.int .i64 1)) none none h) λbf h=>ifB (true) (ob (sH (.str [true,true,true]) ay az bf h) λbg h=>ifB (true) (ob (M.aD (aQ N) h) λbh h=>ob (M.aD (aG 1 bh) h) λbi h=>ob (ld1 bi h) λbj h=>ifB (true) (ob (ldN 3 ah h) λbk h=>ifB (true) (ob (nM (.str [true,true,true]) (.slice none 0 0) false bj bk h) λbl h=>ifB (true) (ob (M.aD (bM bl) h) λbm h=>ob (M.aD (bin prog .eql 3 bm (.int .i64 0)) h) λbn h=>aL bn (ob (M.aD (aQ N) h) λbo h=>ob (M.aD (aG 1 bo) h) λbp h=>ob (ld1 bp h) λbq h=>ifB (true) (ob (ldN 3 ah h) λbr h=>ifB (true) (ob (sG (.str [true,true,true]) bq br h) λbs h=>ifB (true) (ob (ldN 4 ae h) λbt h=>ob (stN 4 aa bt h) λbu h=>ob (ldN 4 aa h) λw45 _=>some (aJ [w45,ad],h))))) (ob (ldN 4 ae h) λbv h=>ob (stN 4 aa bv h) λbw h=>ob (ldN 4 aa h) λw48 _=>some (aJ [w48,ad],h))))))))))))))))))) (ob (ldN 4 ae h) λbx h=>ob (stN 4 aa bx h) λbz h=>ob (ldN 4 aa h) λw51 _=>some (aJ [w51,ad],h)):=by kernel_rfl
theorem Zu:cE prog O L 180 [N,P] h=ob (cX 54 [(.int .i64 0),(.int .i64 0),(.int .i64 0),(.int .u32 0)] .fix h) λaa h=>ob (O (.func 181) [N,P] h) λab h=>ob (M.aD (bin prog .neq 286 ab (.pointer none)) h) λac h=>aL ac (ob (M.aD (aQ ab) h) λad h=>ob (M.aD (aG 0 ad) h) λae h=>ob (ld1 ae h) λaf h=>ob (M.aD (aQ af) h) λag h=>ob (ldN 4 ag h) λah h=>ob (stN 4 aa ah h) λai h=>ob (ldN 4 aa h) λw9 _=>some (aJ [w9,(.bool true)],h)) (ob (M.aD (bld prog 54 []) h) λaj h=>ob (stN 4 aa aj h) λak h=>ob (ldN 4 aa h) λw12 _=>some (aJ [w12,(.bool false)],h)):=by kernel_rfl
theorem aKT:cE prog O L 142 [N,P] h=ob (cX 256 (Value.cells P).toList .fix h) λaa h=>ob (M.aD (aG 0 aa) h) λab h=>ob (ld1 ab h) λac h=>ifB (true) (ob (M.aD (aG 1 aa) h) λad h=>ob (ld1 ad h) λae h=>ifB (true) (ob (M.aD (aG 2 aa) h) λaf h=>ob (ld1 af h) λag h=>ifB (true) (ob (M.aD (lN prog false [ac,ae,ag]) h) λah h=>ob (M.aD (bin prog .geq 3 ah (.int .i64 0)) h) λai h=>ob (gd ai true (M.aD (aG 0 aa)) h) λaj h=>ob (gd ai true (ld1 aj) h) λak h=>ifB (true) (ob (gd ai true (M.aD (aG 1 aa)) h) λal h=>ob (gd ai true (ld1 al) h) λam h=>ifB (true) (ob (gd ai true (M.aD (lN prog true [ak,am])) h) λan h=>ob (gd ai true (M.cA N) h) λao h=>ob (gd ai true (M.aD (aQ ao)) h) λap h=>ob (gd ai true (M.aD (aG 2 ap)) h) λaq h=>ob (gd ai true (ld1 aq) h) λar h=>ifB (true) (ob (gd ai true (M.aD (bin prog .lss 3 an ar)) h) λau h=>ob (M.aD (cJ ai au (.bool false)) h) λav h=>ob (gd av true (M.aD (aG 2 aa)) h) λaw h=>ob (gd av true (ld1 aw) h) λax h=>ifB (true) (ob (gd av true (M.cA N) h) λay h=>ob (gd av true (M.aD (aQ ay)) h) λaz h=>ob (gd av true (M.aD (aG 3 az)) h) λba h=>ob (gd av true (ld1 ba) h) λbb h=>ifB (true) (ob (gd av true (M.aD (bin prog .lss 3 ax bb)) h) λbc h=>ob (M.aD (cJ av bc (.bool false)) h) λbd h=>some (aJ [bd],h))))))))):=by kernel_rfl
theorem Zs:cE prog O L 143 [N,P] h=ob (cX 54 (Value.cells P).toList .fix h) λaa h=>ob (M.aD (aQ N) h) λab h=>ob (M.aD (aG 1 ab) h) λac h=>ob (ld1 ac h) λad h=>ob (M.aD (bin prog .eql 3 ad (.int .i64 (-1))) h) λae h=>aL ae (some (aJ [(.int .i64 0),(.bool false)],h)) (ob (M.aD (aQ N) h) λaf h=>ob (M.aD (aG 0 af) h) λag h=>ob (ld1 ag h) λah h=>ob (M.aD (aR 2 ah ad) h) λai h=>ob (M.aD (aQ ai) h) λaj h=>ob (M.aD (aG 1 aj) h) λak h=>ob (ld1 ak h) λal h=>ob (M.aD (aQ ai) h) λam h=>ob (M.aD (aG 0 am) h) λan h=>ob (stN 1 an aa h) λao h=>ob (M.aD (aQ N) h) λap h=>ob (M.aD (aG 1 ap) h) λaq h=>ob (stN 1 aq al h) λar h=>ob (M.aD (aQ N) h) λau h=>ob (M.aD (aG 2 au) h) λav h=>ob (ld1 av h) λaw h=>ob (M.aD (bin prog .sub 3 aw (.int .i64 1)) h) λax h=>ob (M.aD (aQ N) h) λay h=>ob (M.aD (aG 2 ay) h) λaz h=>ob (stN 1 az ax h) λba h=>some (aJ [ad,(.bool true)],h)):=by kernel_rfl
theorem Zt:cE prog O L 151 [N,P,Q,R] h=ob (cX 54 [(.int .i64 0),(.int .i64 0),(.int .i64 0),(.int .u32 0)] .fix h) λaa h=>ob (M.aD (aQ N) h) λab h=>ob (M.aD (aG 1 ab) h) λac h=>ob (ld1 ac h) λad h=>ob (M.aD (bld prog 256 [(0,P),(1,Q),(2,R)]) h) λae h=>ob (nM (.str [true,true,true]) (.slice none 0 0) false ad ae h) λaf h=>ob (M.aD (bM af) h) λag h=>ob (M.aD (bin prog .eql 3 ag (.int .i64 0)) h) λah h=>aL ah (ob (M.aD (bld prog 54 []) h) λai h=>ob (stN 4 aa ai h) λaj h=>ob (ldN 4 aa h) λw10 _=>some (aJ [w10,(.bool false)],h)) (ob (M.aD (aQ N) h) λak h=>ob (M.aD (aG 0 ak) h) λal h=>ob (ld1 al h) λam h=>ifB (true) (ob (M.aD (aR 1 af (.int .i64 0)) h) λan h=>ob (ld1 an h) λao h=>ifB (true) (ob (O (.func 180) [am,ao] h) λap h=>ifB (true) (ob (M.aD (ext 0 ap) h) λaq h=>ob (M.aD (ext 1 ap) h) λar h=>ob (stN 4 aa aq h) λau h=>ifB (true) (ob (ldN 4 aa h) λw20 _=>some (aJ [w20,ar],h)))))):=by kernel_rfl
theorem aKU:cE prog O L 152 [N,P] h=ob (O (.func 181) [N,P] h) λaa h=>ob (M.aD (bin prog .eql 286 aa (.pointer none)) h) λab h=>aL ab (some (aJ [(.bool false)],h)) (ob (M.aD (aQ N) h) λac h=>ob (M.aD (aG 1 ac) h) λad h=>ob (ld1 ad h) λae h=>ob (M.aD (aQ aa) h) λaf h=>ob (M.aD (aG 0 af) h) λag h=>ob (stN 1 ag (.pointer none) h) λah h=>ob (M.aD (aQ aa) h) λai h=>ob (M.aD (aG 1 ai) h) λaj h=>ob (stN 1 aj ae h) λak h=>ob (M.aD (aQ N) h) λal h=>ob (M.aD (aG 1 al) h) λam h=>ob (stN 1 am P h) λan h=>ob (M.aD (aQ N) h) λao h=>ob (M.aD (aG 2 ao) h) λap h=>ob (ld1 ap h) λaq h=>ob (M.aD (bin prog .add 3 aq (.int .i64 1)) h) λar h=>ob (M.aD (aQ N) h) λau h=>ob (M.aD (aG 2 au) h) λav h=>ob (stN 1 av ar h) λaw h=>some (aJ [(.bool true)],h)):=by kernel_rfl
theorem Zv:cE prog O L 181 [N,P] h=ob (M.aD (bin prog .lss 3 P (.int .i64 0)) h) λaa h=>ob (gd aa false (M.cA P) h) λab h=>ob (gd aa false (M.cA N) h) λac h=>ob (gd aa false (M.aD (aQ ac)) h) λad h=>ob (gd aa false (M.aD (aG 0 ad)) h) λae h=>ob (gd aa false (ld1 ae) h) λaf h=>ob (gd aa false (M.aD (bM af)) h) λag h=>ob (gd aa false (M.aD (bin prog .geq 3 ab ag)) h) λah h=>ob (M.aD (cJ aa (.bool true) ah) h) λai h=>ob (gd ai false (M.cA N) h) λaj h=>ob (gd ai false (M.aD (aQ aj)) h) λak h=>ob (gd ai false (M.aD (aG 0 ak)) h) λal h=>ob (gd ai false (ld1 al) h) λam h=>ob (gd ai false (M.cA P) h) λan h=>ob (gd ai false (M.aD (aR 2 am an)) h) λao h=>ob (gd ai false (M.aD (aG 0 ao)) h) λap h=>ob (gd ai false (ld1 ap) h) λaq h=>ob (gd ai false (M.aD (bin prog .eql 245 aq (.pointer none))) h) λar h=>ob (M.aD (cJ ai (.bool true) ar) h) λau h=>aL au (some (aJ [(.pointer none)],h)) (ob (M.aD (aQ N) h) λav h=>ob (M.aD (aG 0 av) h) λaw h=>ob (ld1 aw h) λax h=>ob (M.aD (aR 2 ax P) h) λay h=>some (aJ [ay],h)):=by kernel_rfl
end Go.Proofs.YtkeilicinggjmaaGreatDoor
end
namespace Go.Proofs.YtkeilicinggjmaaGreatDoor.Rg
open Go.Proofs.Tryz
open Go.Abs
theorem n73 (a:Addr):bin prog .neq 286 (.pointer (some a)) (.pointer none)=some (.bool true):=aDH 286 247 (by kernel_rfl) a
theorem aK8:bin prog .neq 286 (.pointer none) (.pointer none)=some (.bool false):=aDI 286 247 (by kernel_rfl)
theorem e73 (a:Addr):bin prog .eql 286 (.pointer (some a)) (.pointer none)=some (.bool false):=Dp 286 247 (by kernel_rfl) a
theorem e70 (a:Addr):bin prog .eql 245 (.pointer (some a)) (.pointer none)=some (.bool false):=Dp 245 54 (by kernel_rfl) a
theorem aK1:bin prog .eql 245 (.pointer none) (.pointer none)=some (.bool true):=Sh 245 54 (by kernel_rfl)
theorem e22 (a:Addr):bin prog .eql 177 (.pointer (some a)) (.pointer none)=some (.bool false):=Dp 177 244 (by kernel_rfl) a
def pkB (x:Pkt):Blk:= .cells x.oZ 54 .fix
abbrev kC:=Option (Nat×Pkt)×Int
def yI (x:Option (Nat×Pkt)):Value:= .pointer (x.map λb=>⟨b.1,0,none⟩)
def r8 (x:kC):List Value:=[yI x.1,.int .i64 x.2]
def nK (l:List kC):Blk:= .cells (l.map r8).flatten 247 .row
def o8 (s n:Nat)(top free:Int):Blk:= .cells [.slice (some ⟨s,0,none⟩) n n,.int .i64 top,.int .i64 free] 244 .fix
structure IsPool (H:aC)(p s:Nat)(l:List kC)(top free:Int):Prop where
 hp:H[p]? =some (o8 s l.length top free)
 hs:H[s]? =some (nK l)
 hq: ∀(i q:Nat)(x:Pkt)(d:Int),l[i]? =some (some (q,x),d)->H[q]? =some (pkB x)
theorem Gf (l:List kC): ∀r∈l.map r8,r.length=2:=by
 intro r hr;simp only[aPx] at hr;obtain⟨x,_,rfl⟩:=hr;rfl
theorem Z3 (l:List kC):(l.map r8).flatten.length=l.length*2:=by
 rw[sP _ (Gf l)];simp
theorem Z4 (l:List kC)(i j:Nat)(v:Value)(x y:kC)(hi:l[i]? =some x)(hj:j<2)(hv:(r8 x).set j v=r8 y):(l.map r8).flatten.set (i*2+j) v=((l.set i y).map r8).flatten:=by
 have:=Jg (l.map r8) (Gf l) i j [v] (r8 x) (by simp[hi]) (by simp;omega)
 simp only[eT] at this;rw[this,hv,List.map_set]
variable {pr : jH} {H : aC} {p s : Nat} {l : List kC} {top free : Int}
@[simp] theorem aOT (i:Nat):ldC (some (nK l)) (i*2) H=zC ((l[i]?).map λx=>yI x.1) H:=by
 have:=Dq _ (Gf l) i 0 (by decide)
 simp only[Nat.add_zero] at this;unfold nK;rw[uO,this,aO7];cases l[i]? <;>rfl
@[simp] theorem aK6 (i:Nat):ldC (some (nK l)) (i*2+1) H=zC ((l[i]?).map λx=> .int .i64 x.2) H:=by
 have:=Dq _ (Gf l) i 1 (by decide)
 unfold nK;rw[uO,this,aO7];cases l[i]? <;>rfl
theorem Z8 (b i:Nat)(a:Option Addr)(x:kC)(q:Option (Nat×Pkt))(hi:l[i]? =some x)(hq: .pointer a=yI q):stC (some (nK l)) b (i*2) [.pointer a] H=some (undef,H.set b (nK (l.set i (q,x.2)))):=by
 have hl:i<l.length:=(aOU.mp hi).1;unfold nK;rw[Jh _ _ _ _ _ rfl (by rw[Z3];simp;omega)]
 have:=Z4 l i 0 (.pointer a) x (q,x.2) hi (by decide) (by rw[hq];rfl)
 simp only[eT];rw[<-this,Nat.add_zero]
theorem Ou (b i:Nat)(d:Int)(x:kC)(hi:l[i]? =some x):stC (some (nK l)) b (i*2+1) [.int .i64 d] H=some (undef,H.set b (nK (l.set i (x.1,d)))):=by
 have hl:i<l.length:=(aOU.mp hi).1;unfold nK;rw[Jh _ _ _ _ _ rfl (by rw[Z3];simp;omega)]
 have:=Z4 l i 1 (.int .i64 d) x (x.1,d) hi (by decide) (by rfl)
 simp only[eT];rw[<-this]
@[simp] theorem Gd (n:Nat):ldC (some (o8 s n top free)) 0 H=some (.slice (some ⟨s,0,none⟩) n n,H):=rfl
@[simp] theorem Z0 (n:Nat):ldC (some (o8 s n top free)) 1 H=some (.int .i64 top,H):=rfl
@[simp] theorem Z1 (n:Nat):ldC (some (o8 s n top free)) 2 H=some (.int .i64 free,H):=rfl
@[simp] theorem Z6 (b n:Nat)(d:Int):stC (some (o8 s n top free)) b 1 [.int .i64 d] H=some (undef,H.set b (o8 s n d free)):=rfl
@[simp] theorem Z7 (b n:Nat)(d:Int):stC (some (o8 s n top free)) b 2 [.int .i64 d] H=some (undef,H.set b (o8 s n top d)):=rfl
@[simp] theorem aK5 (x:Pkt):Do (some (pkB x)) 4 0 H=some (x.dM,H):=rfl
theorem Gg (b:Nat)(y:Pkt):stN 4 (.pointer (some ⟨b,0,none⟩)) y.dM H=stC H[b]? b 0 y.oZ H:=mS 4 b 0 _ rfl
@[simp] theorem Z5 (b:Nat)(x y:Pkt):stC (some (pkB x)) b 0 y.oZ H=some (undef,H.set b (pkB y)):=rfl
theorem yH:Blk.cells [.int .i64 0,.int .i64 0,.int .i64 0,.int .u32 0] 54 .fix=pkB pk0:=rfl
theorem Z2:bld prog 54 []=some pk0.dM:=by kernel_rfl
theorem Ot (H:aC)(a b:Blk):(H++[a]).set H.length b=H++[b]:=by simp
theorem aKZ (hn:pr (.func 181)=none)(h:IsPool H p s l top free){m:Nat}(hm:0<m)(i:Int)(hi:i<0∨(l.length:Int)<=i∨ ∃d,l[i.toNat]? =some (none,d)):
  lvl prog pr m (.func 181) [.pointer (some ⟨p,0,none⟩),.int .i64 i] H=some (.pointer none,H):=by
 have hp:=h.hp;have hs:=h.hs;refine dF hn hm ?_;rw[Zv];by_cases h0:i<0
 ·simp -implicitDefEqProofs [h0]
 ·by_cases h1:(l.length:Int)<=i
  ·simp -implicitDefEqProofs [h0,h1,hp,hs]
  ·obtain⟨d,hd⟩: ∃d,l[i.toNat]? =some (none,d):=by
    rcases hi with hi|hi|hi
    ·exact absurd hi h0
    ·exact absurd hi h1
    ·exact hi
   simp -implicitDefEqProofs (disch:=first|omega|simp) [-getElem?_pos,h0,h1,hp,hs,hd,yI,aK1]
theorem Zy (hn:pr (.func 181)=none)(h:IsPool H p s l top free){m:Nat}(hm:0<m)(i:Nat)(q:Nat×Pkt)(d:Int)(hi:l[i]? =some (some q,d)):
  lvl prog pr m (.func 181) [.pointer (some ⟨p,0,none⟩),.int .i64 i] H=some (.pointer (some ⟨s,i*2,none⟩),H):=by
 have hp:=h.hp;have hs:=h.hs;have hl:i<l.length:=(aOU.mp hi).1;refine dF hn hm ?_;rw[Zv];have h0: ¬(i:Int)<0:=by omega
 have h1: ¬(l.length:Int)<=i:=by omega
 simp -implicitDefEqProofs (disch:=first|omega|simp) [-getElem?_pos,h0,h1,hp,hs,hi,yI,e70]
theorem IsPool.app (h:IsPool H p s l top free)(G:aC):IsPool (H++G) p s l top free:=by
 have up: ∀(b:Nat)(x:Blk),H[b]? =some x->(H++G)[b]? =some x:=λb x hb=>by
  rw[aOX (aOU.mp hb).1,hb]
 exact⟨up _ _ h.hp,up _ _ h.hs,λi q x d hi=>up _ _ (h.hq i q x d hi)⟩
theorem aOS (hn:pr (.func 181)=none)(hn':pr (.func 180)=none)(h:IsPool H p s l top free){m:Nat}(hm:1<m)(i:Int)(hi:i<0∨(l.length:Int)<=i∨ ∃d,l[i.toNat]? =some (none,d)):
  lvl prog pr m (.func 180) [.pointer (some ⟨p,0,none⟩),.int .i64 i] H=some (.tuple #[pk0.dM,.bool false],H++[pkB pk0]):=by
 refine dF hn' (by omega) ?_
 rw[Zu];have hc:=aKZ hn (h.app [pkB pk0]) (m:=m-1) (by omega) i hi
 simp -implicitDefEqProofs [yH,hc,aK8,Z2,Gg,Ot]
theorem aK4 (hn:pr (.func 181)=none)(hn':pr (.func 180)=none)(h:IsPool H p s l top free){m:Nat}(hm:1<m)(i q:Nat)(x:Pkt)(d:Int)(hi:l[i]? =some (some (q,x),d)):
  lvl prog pr m (.func 180) [.pointer (some ⟨p,0,none⟩),.int .i64 i] H=some (.tuple #[x.dM,.bool true],H++[pkB x]):=by
 refine dF hn' (by omega) ?_
 rw[Zu];have h':=h.app [pkB pk0];have hc:=Zy hn h' (m:=m-1) (by omega) i _ d hi
 have hs:=h'.hs;have hq:=h'.hq i q x d hi;simp -implicitDefEqProofs [yH,hc,n73,hs,hq,hi,yI,Gg,Ot]
theorem IsPool.ps (h:IsPool H p s l top free):p≠s:=by
 intro e;have h1:=h.hp;have h2:=h.hs;rw[e,h2] at h1;simp[nK,o8] at h1
theorem IsPool.On (h:IsPool H p s l top free):p<H.length:=(aOU.mp h.hp).1
theorem IsPool.sl (h:IsPool H p s l top free):s<H.length:=(aOU.mp h.hs).1
theorem IsPool.qs (h:IsPool H p s l top free){q:Nat}{x:Pkt}(hq:H[q]? =some (pkB x)):q≠p/\q≠s:=by
 constructor
 ·intro e
  have h1:=h.hp;rw[<-e,hq] at h1;simp[pkB,o8] at h1
 ·intro e
  have h1:=h.hs;rw[<-e,hq] at h1;simp[pkB,nK] at h1
theorem IsPool.Zx (h:IsPool H p s l top free)(l':List kC)(hl:l'.length=l.length)(top' free':Int)
  (hq: ∀(i q:Nat)(x:Pkt)(d:Int),l'[i]? =some (some (q,x),d)->H[q]? =some (pkB x)):IsPool ((H.set s (nK l')).set p (o8 s l.length top' free')) p s l' top' free':=by
 have h1:=h.ps;have h2:=h.On;have h3:=h.sl;refine⟨?_,?_,?_⟩
 ·rw[hl,aO0 (by simpa using h2)]
 ·rw[aOV (by omega),aO0 (by omega)]
 ·intro i q x d hi
  have hb:=hq i q x d hi;obtain⟨h4,h5⟩:=h.qs hb;rw[aOV (by omega),aOV (by omega),hb]
theorem aK0 (hn:pr (.func 181)=none)(hn':pr (.func 152)=none)(h:IsPool H p s l top free){m:Nat}(hm:1<m)(i:Nat)(q:Nat×Pkt)(d:Int)(hi:l[i]? =some (some q,d))(hf0:0<=free)(hf1:free<1000):
  lvl prog pr m (.func 152) [.pointer (some ⟨p,0,none⟩),.int .i64 i] H=some (.bool true,(H.set s (nK (l.set i (none,top)))).set p (o8 s l.length i (free+1))):=by
 refine dF hn' (by omega) ?_
 rw[aKU];have hc:=Zy hn h (m:=m-1) (by omega) i q d hi
 have hp:=h.hp;have hs:=h.hs;have h1:=h.ps;have h2:=h.On;have h3:=h.sl;have hl:i<l.length:=(aOU.mp hi).1;have w:IntKind.i64.wrap (free+1)=free+1:=dG (by omega) (by omega)
 have s0:=λH=>Z8 (H:=H) (l:=l) s i none (some q,d) none hi rfl
 have s1:=λH=>Ou (H:=H) (l:=l.set i (none,d)) s i top (none,d) (by simp[hl])
 simp -implicitDefEqProofs (disch:=first|omega|(simp;omega)) only[hc,e73,hp,hs,s0,s1,w,cC,List.set_set,ob_some,iteV_false,iteV_true,r_opt,r_nil,r_fAddr,kV,Z0,Z1,Dt,Sr,aPf,Nat.add_zero,aO0,aOV,ne_eq,Z6,Z7,oneOf_one]
theorem aLb (hn:pr (.func 143)=none)(h:IsPool H p s l (-1) free){m:Nat}(hm:0<m)(x:Pkt):
  lvl prog pr m (.func 143) [.pointer (some ⟨p,0,none⟩),x.dM] H=some (.tuple #[.int .i64 0,.bool false],H++[pkB x]):=by
 refine dF hn (by omega) ?_
 rw[Zs];have hp:=(h.app [pkB x]).hp;have e:Blk.cells (Value.cells x.dM).toList 54 .fix=pkB x:=rfl;simp -implicitDefEqProofs [e,hp]
theorem aLc (hn:pr (.func 143)=none)(k:Nat)(h:IsPool H p s l k free){m:Nat}(hm:0<m)(x:Pkt)(q:Option (Nat×Pkt))(d:Int)(hk:l[k]? =some (q,d))(hf0: -10<=free)(hf1:free<1000):
  lvl prog pr m (.func 143) [.pointer (some ⟨p,0,none⟩),x.dM] H=
   some (.tuple #[.int .i64 k,.bool true],((H++[pkB x]).set s (nK (l.set k (some (H.length,x),d)))).set p (o8 s l.length d (free-1))):=by
 refine dF hn (by omega) ?_
 rw[Zs];have h':=h.app [pkB x];have hp:=h'.hp;have hs:=h'.hs;have h1:=h'.ps;have h2:=h'.On;have h3:=h'.sl;have h4:p<H.length+1:=by simpa using h2
 have h5:s<H.length+1:=by simpa using h3
 have hl:k<l.length:=(aOU.mp hk).1;have w:IntKind.i64.wrap (free-1)=free-1:=dG (by omega) (by omega)
 have e:Blk.cells (Value.cells x.dM).toList 54 .fix=pkB x:=rfl;have e2:((k:Int)== -1)=false:=by simp
 have e3:((l[k]?).map λx=>Value.int .i64 x.2)=some (.int .i64 d):=by rw[hk];rfl
 have s0:=λH'=>Z8 (H:=H') (l:=l) s k (some ⟨H.length,0,none⟩) (q,d) (some (H.length,x)) hk rfl
 simp -implicitDefEqProofs (disch:=first|omega|(simp;omega)) only[e,e2,e3,hp,hs,s0,w,b_eql,iM,x_newB,List.set_set,ob_some,iteV_false,iteV_true,r_opt,r_nil,r_fAddr,qD,kV,Gd,Z0,Z1,aK6,xM,Dt,Sr,aPf,Nat.add_zero,aO0,aOV,ne_eq,Z6,Z7,oneOf_two,aPm]
def kD (n i:Nat):List kC:=(List.range n).map λj=>(none,if j<i then(j:Int)+1 else 0)
def lM (n:Nat):List kC:=(List.range n).map λj=>(none,if j+1<n then(j:Int)+1 else -1)
theorem Af (n i j:Nat)(h:j<n):(kD n i)[j]? =some (none,if j<i then(j:Int)+1 else 0):=by simp[kD,h]
theorem aK3 (n i:Nat):(kD n i).set i (none,(i:Int)+1)=kD n (i+1):=by
 apply aPv;intro j;by_cases hj:j<n
 ·by_cases e:i=j
  ·subst e
   rw[aO0 (by simpa[kD] using hj),Af _ _ _ hj,if_pos (by omega)]
  ·rw[aOV e,Af _ _ _ hj,Af _ _ _ hj]
   by_cases h:j<i
   ·rw[if_pos h,if_pos (by omega)]
   ·rw[if_neg h,if_neg (by omega)]
 ·rw[aO5 (by simp[kD];omega),aO5 (by simp[kD];omega)]
theorem aK2 (n:Nat)(h:0<n):(kD n n).set (n-1) (none, -1)=lM n:=by
 apply aPv;intro j;by_cases hj:j<n
 ·have e2:(lM n)[j]? =some (none,if j+1<n then(j:Int)+1 else -1):=by simp[lM,hj]
  by_cases e:n-1=j
  ·subst e
   rw[aO0 (by simpa[kD] using hj),e2,if_neg (by omega)]
  ·rw[aOV e,Af _ _ _ hj,e2,if_pos hj,if_pos (by omega)]
 ·rw[aO5 (by simp[kD];omega),aO5 (by simp[lM];omega)]
def mE (H:aC)(l:List kC):aC:=H++[nK l,o8 H.length l.length 0 l.length]
theorem Gc (l:List kC):(mE H l)[H.length+1]? =some (o8 H.length l.length 0 l.length):=by simp[mE]
theorem Oo (l:List kC):(mE H l)[H.length]? =some (nK l):=by simp[mE]
theorem Zz (l l':List kC)(h:l'.length=l.length):(mE H l).set H.length (nK l')=mE H l':=by simp[mE,h]
theorem aK9 (n:Nat)(h200:n<=200)(h1:0<n)(O:aE)(L:aF (Value×aC)): ∀(r i m:Nat),n-i=r->i<=n->r<m-> ∀(x1 x2 x4 x5 x6 x7 x8 x9 bK bN bC aO aP aM aS bI aN bG bH bE aT aU aV aW aX aY aZ bA bB bO bP bQ bR bS bT bU bV bX bY:Value),
  aI m (aK prog O L Oj) (Ol O L) [.int .i64 n,x1,x2,.pointer (some ⟨H.length+1,0,none⟩),x4,x5,x6,x7,x8,x9,bK,bN,bC,aO,aP,aM,aS,bI,aN,bG,.int .i64 n,.int .i64 i,bH,bE,aT,aU,aV,aW,aX,aY,aZ,bA,bB,bO,bP,bQ,bR,bS,bT,bU,bV,bX,bY] (mE H (kD n i))=some (.pointer (some ⟨H.length+1,0,none⟩),mE H (lM n)):=by
 intro r;induction r with
 |zero=>
  intro i m hr hi hm x1 x2 x4 x5 x6 x7 x8 x9 bK bN bC aO aP aM aS bI aN bG bH bE aT aU aV aW aX aY aZ bA bB bO bP bQ bR bS bT bU bV bX bY;obtain⟨m,rfl⟩: ∃k,m=k+1:=⟨m-1,by omega⟩
  obtain rfl:i=n:=by omega
  rw[dY,Zw];have e:decide ((i:Int)<i)=false:=by simp
  have s1:=λH'=>Ou (H:=H') (l:=kD i i) H.length (i-1) (-1) (none,((i-1:Nat):Int)+1) (by rw[Af _ _ _ (by omega),if_pos (by omega)])
  have w:IntKind.i64.wrap ((i:Int)-1)=((i-1:Nat):Int):=by rw[dG (by omega) (by omega)];omega
  have hl:(kD i i).length=i:=by simp[kD]
  simp -implicitDefEqProofs only[b_lss,e,r_opt,ob_some,iteV_false,again_exit];rw[aKW];simp -implicitDefEqProofs (disch:=first|omega|(simp[kD];omega)|simp[kD,lM]) only[r_opt,ob_some,r_nil,r_fAddr,kV,Gc,Gd,iM,w,qD,aPf,Nat.add_zero,Dt,Oo,s1,aPm,aK2,hl,Zz,oneOf_one]
 |succ r ih=>
  intro i m hr hi hm x1 x2 x4 x5 x6 x7 x8 x9 bK bN bC aO aP aM aS bI aN bG bH bE aT aU aV aW aX aY aZ bA bB bO bP bQ bR bS bT bU bV bX bY;obtain⟨m,rfl⟩: ∃k,m=k+1:=⟨m-1,by omega⟩
  rw[dY,Zw];have e:decide ((i:Int)<n)=true:=by simp;omega
  have s1:=λH'=>Ou (H:=H') (l:=kD n i) H.length i ((i:Int)+1) (none,0) (by rw[Af _ _ _ (by omega),if_neg (by omega)])
  have w:=aA (i:=i) (by omega)
  have w':((i+1:Nat):Int)=(i:Int)+1:=by omega
  have hl:(kD n i).length=n:=by simp[kD]
  simp -implicitDefEqProofs (disch:=first|omega|(simp[kD];omega)|simp[kD]) only[b_lss,e,r_opt,ob_some,iteV_true,again_normal,r_nil,r_fAddr,kV,Gc,Gd,cC,w,qD,aPf,Nat.add_zero,Dt,Oo,w',s1,aPm,aK3,hl,Zz,oneOf_one]
  rw[<-w'];exact ih (i+1) m (by omega) (by omega) (by omega) _ _ _ _ _ _ _ _ _ _ _ _ _ _ _ _ _ _ _ _ _ _ _ _ _ _ _ _ _ _ _ _ _ _ _ _ _ _ _
theorem Ge (n:Nat):(lM n).length=n:=by simp[lM]
theorem Oq (n j:Nat)(h:j<n):(lM n)[j]? =some (none,if j+1<n then(j:Int)+1 else -1):=by simp[lM,h]
theorem aLa (hn:pr (.func 84)=none)(n:Nat)(h1:0<n)(h200:n<=200){m:Nat}(hm:210<m):
  lvl prog pr m (.func 84) [.int .i64 n] H=some (.pointer (some ⟨H.length+1,0,none⟩),mE H (lM n)):=by
 refine dF hn (by omega) ?_
 rw[aKX];have e1:decide ((n:Int)<1)=false:=by simp;omega
 have e2:decide ((200:Int)<n)=false:=by simp;omega
 have e3:bld prog 244 [(0,.slice (some ⟨H.length,0,none⟩) n n),(2,.int .i64 n)]=some (.agg #[.slice (some ⟨H.length,0,none⟩) n n,.int .i64 0,.int .i64 n]):=by kernel_rfl
 have e4:H++[Blk.cells (List.replicate n [.pointer none,.int .i64 0]).flatten 247 .row]++[Blk.cells [.slice (some ⟨H.length,0,none⟩) n n,.int .i64 0,.int .i64 n] 244 .fix]=mE H (kD n 0):=by
  have:(kD n 0).map r8=List.replicate n [.pointer none,.int .i64 0]:=by
   apply aPv;intro j;by_cases hj:j<n
   ·simp[kD,hj,r8,yI]
   ·rw[aO5 (by simp[kD];omega),aO5 (by simp;omega)]
  have hl:(kD n 0).length=n:=by simp[kD]
  simp[mE,nK,this,o8,hl]
 have e5:(Value.agg #[Value.slice (some ⟨H.length,0,none⟩) n n,.int .i64 0,.int .i64 n]).cells.toList=[Value.slice (some ⟨H.length,0,none⟩) n n,.int .i64 0,.int .i64 n]:=rfl;have e6: ∀b c:Blk,(H++[b]++[c])[H.length+1]? =some c:=λb c=>by simp
 have hl:(kD n 0).length=n:=by simp[kD]
 have ms:=xN (H:=H) 247 2 16 [.pointer none,.int .i64 0] .i64 .i64 n (by omega) (by omega) (by omega) rfl
 rw[aPm] at ms;simp -implicitDefEqProofs (disch:=first|omega|rfl) only[b_lss,b_gtr,e1,e2,r_opt,ob_some,r_gdff,r_ret,pick_f,iteV_false,ms,aPm,e3,e5,x_newB,aO6,aPg,List.length_nil,aPf,r_nil,r_fAddr,kV,e4,Gc,Gd,hl,vT]
 exact aK9 n h200 h1 _ _ n 0 (m-1) (by omega) (by omega) (by omega) ..
theorem aK7 (n:Nat):IsPool (mE H (lM n)) (H.length+1) H.length (lM n) 0 n:=by
 refine⟨?_,Oo _,λi q x d hi=> ?_⟩
 ·rw[Gc,Ge]
 ·by_cases hl:i<n
  ·rw[Oq n i hl] at hi
   simp at hi
  ·rw[aO5 (by simp[lM];omega)] at hi
   cases hi
structure More (p s:Nat)(H H':aC):Prop where
 len:H.length<=H'.length
 same: ∀b,b<H.length->b≠p->b≠s->H'[b]? =H[b]?
theorem aLg {pr:jH}{H:aC}{p s:Nat}{l:List kC}{top free:Int}(hn:pr (.func 181)=none)(hn':pr (.func 152)=none)(h:IsPool H p s l top free){m:Nat}(hm:1<m)(i:Nat)(q:Nat×Pkt)(d:Int)(hi:l[i]? =some (some q,d))(hf0:0<=free)(hf1:free<1000):
  ∃H',lvl prog pr m (.func 152) [.pointer (some ⟨p,0,none⟩),.int .i64 i] H=some (.bool true,H')/\IsPool H' p s (l.set i (none,top)) i (free+1)/\More p s H H':=by
 refine⟨_,aK0 hn hn' h hm i q d hi hf0 hf1,?_,by simp,?_⟩
 ·refine h.Zx _ (by simp) _ _ λj q y d hj=> ?_
  by_cases ej:i=j
  ·subst ej
   have hl:i<l.length:=(aOU.mp hi).1;rw[aO0 hl] at hj;simp at hj
  ·rw[aOV ej] at hj
   exact h.hq j q y d hj
 ·intro b hb h1 h2
  rw[aOV (by omega),aOV (by omega)]
theorem aAb: ∀(n:Nat)(l:List Nat),l.Nodup->(∀x∈l,x<n)->l.length<=n
 |0,l,_,h=>by
  cases l with
  |nil=>exact aOZ _
  |cons a _=>exact absurd (h a (by simp)) (by omega)
 |n+1,l,hd,h=>by
  have:=aAb n (l.erase n) (hd.erase n) λx hx=>by
   rw[hd.mem_erase_iff] at hx;have:=h x hx.2;have:=hx.1;omega
  rw[List.length_erase] at this
  split at this<;>omega
def FreeL (l:List kC):Int->List Nat->Prop
 |top,[]=>top= -1
 |top,k::ks=>top=(k:Int)/\ ∃d,l[k]? =some (none,d)/\FreeL l d ks
theorem FreeL.Ov {l:List kC}{i:Nat}{x:kC}: ∀(fl:List Nat)(top:Int),FreeL l top fl->i∉fl->FreeL (l.set i x) top fl
 |[],_,h,_=>h
 |k::ks,top,⟨h1,d,h2,h3⟩,hi=>by
  simp only[aPd,not_or] at hi
  exact⟨h1,d,by rw[aOV hi.1];exact h2,FreeL.Ov ks d h3 hi.2⟩
structure Model (H:aC)(p s:Nat)(l:List kC)(top free:Int)(fl:List Nat):Prop where
 pool:IsPool H p s l top free
 chain:FreeL l top fl
 nodup:fl.Nodup
 full: ∀i,i∈fl↔ ∃d,l[i]? =some (none,d)
 cnt:free=fl.length
 len:l.length<=200
section
variable {pr : jH} {H : aC} {p s : Nat} {l : List kC} {top free : Int} {fl : List Nat}
theorem Model.Z9 (h:Model H p s l top free fl):fl.length<=200:=by
 refine aPa (aAb l.length fl h.nodup λx hx=> ?_) h.len
 obtain⟨d,hd⟩:=(h.full x).mp hx
 exact(aOU.mp hd).1
theorem Model.app (h:Model H p s l top free fl)(G:aC):Model (H++G) p s l top free fl:=⟨h.pool.app G,h.chain,h.nodup,h.full,h.cnt,h.len⟩
theorem Model.aLd (hn:pr (.func 181)=none)(hn':pr (.func 152)=none)(h:Model H p s l top free fl){m:Nat}(hm:1<m)(i:Nat)(q:Nat×Pkt)(d:Int)(hi:l[i]? =some (some q,d)):
  ∃H',lvl prog pr m (.func 152) [.pointer (some ⟨p,0,none⟩),.int .i64 i] H=some (.bool true,H')/\Model H' p s (l.set i (none,top)) i (free+1) (i::fl)/\More p s H H':=by
 have hl:=h.Z9;have hc:=h.cnt;obtain⟨H',e,hp,hm'⟩:=aLg hn hn' h.pool hm i q d hi (by omega) (by omega)
 have hlt:i<l.length:=(aOU.mp hi).1;have hni:i∉fl:=λhh=>by
  obtain⟨d',hd⟩:=(h.full i).mp hh;rw[hi] at hd;simp at hd
 refine⟨H',e,⟨hp,⟨rfl,top,aO0 hlt,h.chain.Ov _ _ hni⟩,List.nodup_cons.mpr ⟨hni,h.nodup⟩,λj=> ?_,by rw[hc];simp,by simpa using h.len⟩,hm'⟩
 by_cases ej:i=j
 ·subst ej
  rw[aO0 hlt];simp
 ·rw[aOV ej,aPd,<-h.full j]
  constructor
  ·rintro (h1|h1)
   ·exact absurd h1.symm ej
   ·exact h1
  ·exact .inr
theorem Model.aLe (hn:pr (.func 143)=none){k:Nat}{ks:List Nat}(h:Model H p s l top free (k::ks)){m:Nat}(hm:0<m)(x:Pkt):
  ∃H' q d,lvl prog pr m (.func 143) [.pointer (some ⟨p,0,none⟩),x.dM] H=some (.tuple #[.int .i64 k,.bool true],H')/\Model H' p s (l.set k (some (q,x),d)) d (free-1) ks/\k<l.length/\
   H.length<=H'.length/\ ∀b,b<H.length->b≠p->b≠s->H'[b]? =H[b]? :=by
 obtain⟨ht,d,hk,hc⟩:=h.chain;have hp:=h.pool;have hcnt:=h.cnt;have hfl:=h.Z9;simp only[aPg] at hcnt hfl;rw[ht] at hp;have hlt:k<l.length:=(aOU.mp hk).1;have hnd:=List.nodup_cons.mp h.nodup;have e:=aLc hn k hp hm x none d hk (by omega) (by omega)
 refine⟨_,H.length,d,e,⟨?_,hc.Ov _ _ hnd.1,hnd.2,λj=> ?_,by omega,by simpa using h.len⟩,hlt,by simp,?_⟩
 ·have h':=hp.app [pkB x]
  refine h'.Zx _ (by simp) _ _ λj q y d' hj=> ?_
  by_cases ej:k=j
  ·subst ej
   rw[aO0 hlt] at hj;simp only[aPl,Prod.mk.injEq] at hj;obtain⟨⟨rfl,rfl⟩,_⟩:=hj;simp
  ·rw[aOV ej] at hj
   exact h'.hq j q y d' hj
 ·by_cases ej:k=j
  ·subst ej
   rw[aO0 hlt];simp[hnd.1]
  ·rw[aOV ej,<-h.full j,aPd]
   constructor
   ·exact .inr
   ·rintro (h1|h1)
    ·exact absurd h1.symm ej
    ·exact h1
 ·intro b hb h1 h2
  rw[aOV (by omega),aOV (by omega),aOX hb]
theorem Model.aLf (hn:pr (.func 143)=none)(h:Model H p s l top free []){m:Nat}(hm:0<m)(x:Pkt):
  lvl prog pr m (.func 143) [.pointer (some ⟨p,0,none⟩),x.dM] H=some (.tuple #[.int .i64 0,.bool false],H++[pkB x]):=by
 have ht:top= -1:=h.chain;have hp:=h.pool;rw[ht] at hp;exact aLb hn hp hm x
end
theorem aAa (n:Nat): ∀(r k:Nat),k+r=n->FreeL (lM n) (if k<n then(k:Int) else -1) (List.range' k r)
 |0,k,h=>by
  rw[if_neg (by omega)]
  rfl
 |r+1,k,h=>by
  rw[if_pos (by omega),List.range'_succ]
  refine⟨rfl,_,Oq n k (by omega),?_⟩
  exact aAa n r (k+1) (by omega)
theorem aLh {H:aC}(n:Nat)(h0:0<n)(hn:n<=200):Model (mE H (lM n)) (H.length+1) H.length (lM n) 0 n (List.range n):=by
 refine⟨aK7 n,?_,List.nodup_range,λi=> ?_,by simp,by rw[Ge];exact hn⟩
 ·have:=aAa n n 0 (by omega)
  rw[<-List.range_eq_range'] at this;rw[if_pos h0] at this;exact this
 ·rw[aPy]
  constructor
  ·intro h
   exact⟨_,Oq n i h⟩
  ·rintro ⟨d,hd⟩
   have:=(aOU.mp hd).1;rw[Ge] at this;exact this
end Go.Proofs.YtkeilicinggjmaaGreatDoor.Rg
namespace Go.Abs
section
variable {κ : Type} [DecidableEq κ]
theorem aAe {α β:Type}(g:α->β): ∀(l:List α)(i:Nat),(l.map g).eraseIdx i=(l.eraseIdx i).map g
 |[],_=>rfl
 |a::l,0=>rfl
 |a::l,i+1=>by simp[aAe g l i]
structure KeyC (kt:KeyT)(enc:κ->Value):Prop where
 eq: ∀a b:κ,lI kt (enc a) (enc b)=some (decide (a=b))
def mF (enc:κ->Value)(e:κ×Value×Nat):Ent:=⟨enc e.1,e.2.1,e.2.2⟩
def upd (f:κ->Option Value)(k:κ)(v:Option Value):κ->Option Value:=λk'=>if k'=k then v else f k'
structure MapI (enc:κ->Value)(es:List (κ×Value×Nat))(clock:Nat)(f:κ->Option Value):Prop where
 keys:(es.map (·.1)).Nodup
 born:(es.map (·.2.2)).Nodup
 lt: ∀e∈es,e.2.2<clock
 no: ∀k,f k=none↔ ∀e∈es,e.1≠k
 yes: ∀(e:κ×Value×Nat),e∈es->f e.1=some e.2.1
def IsMap (enc:κ->Value)(H:aC)(mb:Nat)(f:κ->Option Value):Prop:= ∃es clock,H[mb]? =some (.map (es.map (mF enc)) clock)/\MapI enc es clock f
variable {kt : KeyT} {enc : κ → Value} {H : aC} {mb : Nat} {f : κ → Option Value}
theorem MapI.Gh {es:List (κ×Value×Nat)}{clock:Nat}(h:MapI enc es clock f){k:κ}{v:Value}(hf:f k=some v): ∃(i:Nat)(b:Nat),es[i]? =some (k,v,b):=by
 by_cases hx: ∀e∈es,e.1≠k
 ·rw[(h.no k).mpr hx] at hf
  cases hf
 ·simp only[Classical.not_forall] at hx
  obtain⟨e,he,hk⟩:=hx;have hk:e.1=k:=Classical.not_not.mp hk;have:=h.yes e he;rw[hk,hf] at this;cases this;obtain⟨i,hi⟩:=List.getElem?_of_mem he
  exact⟨i,e.2.2,by rw[hi,<-hk]⟩
theorem Ox (hk:KeyC kt enc)(k:κ): ∀(es:List (κ×Value×Nat))(j:Nat),(∀e∈es,e.1≠k)->mO kt (enc k) (es.map (mF enc)) j=some none
 |[],j,_=>rfl
 |e::es,j,h=>by
  have h1:lI kt (enc k) (mF enc e).key=some false:=by
   show lI kt (enc k) (enc e.1)=some false
   rw[hk.eq,aPE (λhh=>h e (by simp) hh.symm)]
  simp only[aPp,mO,h1];exact Ox hk k es (j+1) λe' he'=>h e' (by simp[he'])
theorem Ce (hk:KeyC kt enc): ∀(es:List (κ×Value×Nat))(i j:Nat)(e:κ×Value×Nat),(es.map (·.1)).Nodup->es[i]? =some e->mO kt (enc e.1) (es.map (mF enc)) j=some (some (j+i,mF enc e))
 |[],i,j,e,_,h=>by simp at h
 |x::es,i,j,e,hn,h=>by
  simp only[aPp,List.nodup_cons] at hn;cases i with
  |zero=>
   simp only[List.getElem?_cons_zero,aPl] at h;subst h;have h1:lI kt (enc x.1) (mF enc x).key=some true:=by
    show lI kt (enc x.1) (enc x.1)=some true
    rw[hk.eq,aPD rfl]
   simp only[aPp,mO,h1,Nat.add_zero]
  |succ i=>
   simp only[List.getElem?_cons_succ] at h;have hne:e.1≠x.1:=λhh=>hn.1 (by rw[<-hh];exact List.mem_map_of_mem (aO4 h))
   have h1:lI kt (enc e.1) (mF enc x).key=some false:=by
    show lI kt (enc e.1) (enc x.1)=some false
    rw[hk.eq,aPE hne]
   simp only[aPp,mO,h1];rw[Ce hk es i (j+1) e hn.2 h]
   congr 3
   omega
theorem Cf (hk:KeyC kt enc)(k:κ):lI kt (enc k) (enc k)=some true:=by rw[hk.eq,aPD rfl]
theorem IsMap.aAc {H':aC}(h:IsMap enc H mb f)(hk:H'[mb]? =H[mb]?):IsMap enc H' mb f:=by
 obtain⟨es,c,h1,h2⟩:=h
 exact⟨es,c,by rw[hk,h1],h2⟩
theorem IsMap.Cd (hk:KeyC kt enc)(h:IsMap enc H mb f)(k:κ)(z:Value):nM kt z false (.map (some mb)) (enc k) H=some ((f k).getD z,H):=by
 obtain⟨es,c,h1,h2⟩:=h;unfold nM;rw[if_pos (Cf hk k)];simp only;rw[h1];simp only;cases hf:f k with
 |none=>
  rw[Ox hk k es 0 ((h2.no k).mp hf)];rfl
 |some v=>
  obtain⟨i,b,hi⟩:=h2.Gh hf;rw[Ce hk es i 0 _ h2.keys hi];rfl
theorem MapI.Ow {es:List (κ×Value×Nat)}{clock:Nat}(h:MapI enc es clock f){k:κ}{v0 v:Value}{i b:Nat}(hi:es[i]? =some (k,v0,b)):MapI enc (es.set i (k,v,b)) clock (upd f k (some v)):=by
 have hlt:=(aOU.mp hi).1;have hmap1:(es.set i (k,v,b)).map (·.1)=es.map (·.1):=by
  rw[List.map_set];apply aPv;intro j;by_cases hj:i=j
  ·subst hj
   rw[aO0 (by simpa using hlt),aO7,hi]
   rfl
  ·rw[aOV hj]
 have hmap2:(es.set i (k,v,b)).map (·.2.2)=es.map (·.2.2):=by
  rw[List.map_set];apply aPv;intro j;by_cases hj:i=j
  ·subst hj
   rw[aO0 (by simpa using hlt),aO7,hi]
   rfl
  ·rw[aOV hj]
 refine⟨by rw[hmap1];exact h.keys,by rw[hmap2];exact h.born,λe he=> ?_,λk'=> ?_,λe he=> ?_⟩
 ·rcases List.mem_or_eq_of_mem_set he with he|rfl
  ·exact h.lt e he
  ·have:=h.lt _ (aO4 hi)
   exact this
 ·unfold upd
  by_cases hk:k'=k
  ·rw[if_pos hk]
   constructor
   ·intro hh;cases hh
   ·intro hh
    exact absurd hk.symm (hh (k,v,b) (aO4 (aO0 hlt)))
  ·rw[if_neg hk,h.no k']
   have key: ∀e,e∈es.map (·.1)↔e∈(es.set i (k,v,b)).map (·.1):=λe=>by rw[hmap1]
   constructor
   ·intro hh e he hek
    have:=(key e.1).mpr (List.mem_map_of_mem he);obtain⟨e',he',hee⟩:=aPx.mp this;exact hh e' he' (by rw[hee,hek])
   ·intro hh e he hek
    have:=(key e.1).mp (List.mem_map_of_mem he);obtain⟨e',he',hee⟩:=aPx.mp this;exact hh e' he' (by rw[hee,hek])
 ·unfold upd
  obtain⟨j,hj⟩:=List.getElem?_of_mem he;by_cases hij:i=j
  ·subst hij
   rw[aO0 hlt] at hj;cases hj;rw[if_pos rfl]
  ·rw[aOV hij] at hj
   have hne:e.1≠k:=λhh=>by
    have h1:(es.map (·.1))[i]? =some k:=by rw[aO7,hi];rfl
    have h2:(es.map (·.1))[j]? =some k:=by rw[aO7,hj,<-hh];rfl
    have l1:=(aOU.mp h1);have l2:=(aOU.mp h2);exact hij ((List.getElem_inj h.keys).mp (l1.2.trans l2.2.symm))
   rw[if_neg hne];exact h.yes e (aO4 hj)
theorem MapI.aLn {es:List (κ×Value×Nat)}{clock:Nat}(h:MapI enc es clock f){k:κ}(v:Value)(hf:f k=none):MapI enc (es++[(k,v,clock)]) (clock+1) (upd f k (some v)):=by
 have hno:=(h.no k).mp hf;refine⟨?_,?_,λe he=> ?_,λk'=> ?_,λe he=> ?_⟩
 ·rw[List.map_append,List.nodup_append]
  refine⟨h.keys,by simp,λa ha b hb hab=> ?_⟩
  obtain⟨e,he,rfl⟩:=aPx.mp ha;simp at hb;exact hno e he (hab.trans hb)
 ·rw[List.map_append,List.nodup_append]
  refine⟨h.born,by simp,λa ha b hb hab=> ?_⟩
  obtain⟨e,he,rfl⟩:=aPx.mp ha;have:=h.lt e he;simp at hb;omega
 ·rcases List.mem_append.mp he with he|he
  ·have:=h.lt e he
   omega
  ·rw[List.mem_singleton] at he
   subst he;simp
 ·unfold upd
  by_cases hk:k'=k
  ·rw[if_pos hk]
   constructor
   ·intro hh;cases hh
   ·intro hh
    exact absurd hk.symm (hh (k,v,clock) (by simp))
  ·rw[if_neg hk,h.no k']
   constructor
   ·intro hh e he hek
    rcases List.mem_append.mp he with he|he
    ·exact hh e he hek
    ·rw[List.mem_singleton] at he
     subst he;exact hk hek.symm
   ·intro hh e he
    exact hh e (by simp[he])
 ·unfold upd
  rcases List.mem_append.mp he with he|he
  ·rw[if_neg (hno e he)]
   exact h.yes e he
  ·rw[List.mem_singleton] at he
   subst he;rw[if_pos rfl]
theorem MapI.aLm {es:List (κ×Value×Nat)}{clock:Nat}(h:MapI enc es clock f){k:κ}{v0:Value}{i b:Nat}(hi:es[i]? =some (k,v0,b)):MapI enc (es.eraseIdx i) clock (upd f k none):=by
 have hsub:=List.eraseIdx_sublist es i;have hlt:=(aOU.mp hi).1;have hin: ∀e,e∈es.eraseIdx i↔e∈es/\e.1≠k:=by
  intro e;constructor
  ·intro he
   refine⟨hsub.subset he,λhek=> ?_⟩
   obtain⟨j,hj⟩:=List.getElem?_of_mem he;rw[List.getElem?_eraseIdx] at hj;obtain⟨j',hj',hne⟩: ∃j':Nat,es[j']? =some e/\j'≠i:=by
    by_cases hji:j<i
    ·rw[if_pos hji] at hj
     exact⟨j,hj,by omega⟩
    ·rw[if_neg hji] at hj
     exact⟨j+1,hj,by omega⟩
   have h1:(es.map (·.1))[i]? =some k:=by rw[aO7,hi];rfl
   have h2:(es.map (·.1))[j']? =some k:=by rw[aO7,hj',<-hek];rfl
   have l1:=(aOU.mp h1);have l2:=(aOU.mp h2);exact hne ((List.getElem_inj h.keys).mp (l2.2.trans l1.2.symm))
  ·rintro ⟨he,hek⟩
   obtain⟨j,hj⟩:=List.getElem?_of_mem he;have hne:j≠i:=by
    rintro rfl
    rw[hi] at hj;cases hj;exact hek rfl
   by_cases hji:j<i
   ·exact aO4 (i:=j) (by rw[List.getElem?_eraseIdx,if_pos hji,hj])
   ·refine aO4 (i:=j-1) ?_
    rw[List.getElem?_eraseIdx,if_neg (by omega),show j-1+1=j by omega,hj]
 refine⟨(hsub.map _).nodup h.keys,(hsub.map _).nodup h.born,λe he=>h.lt e ((hin e).mp he).1,λk'=> ?_,λe he=> ?_⟩
 ·unfold upd
  by_cases hk:k'=k
  ·rw[if_pos hk]
   exact⟨λ_ e he hek=>((hin e).mp he).2 (hek.trans hk),λ_=>rfl⟩
  ·rw[if_neg hk,h.no k']
   constructor
   ·intro hh e he
    exact hh e ((hin e).mp he).1
   ·intro hh e he hek
    exact hh e ((hin e).mpr ⟨he,by rw[hek];exact hk⟩) hek
 ·unfold upd
  rw[if_neg ((hin e).mp he).2];exact h.yes e ((hin e).mp he).1
theorem Gi (es:List (κ×Value×Nat))(i:Nat)(e:κ×Value×Nat):(es.map (mF enc)).set i (mF enc e)=(es.set i e).map (mF enc):=by rw[List.map_set]
theorem IsMap.aLl (hk:KeyC kt enc)(h:IsMap enc H mb f)(k:κ)(v:Value)(hf:f k≠none): ∃X,sH kt (.map (some mb)) (enc k) v H=some (undef,H.set mb X)/\IsMap enc (H.set mb X) mb (upd f k (some v))/\ ∃es c,X= .map es c:=by
 obtain⟨es,c,h1,h2⟩:=h;obtain⟨v0,hv0⟩:=Option.ne_none_iff_exists'.mp hf;obtain⟨i,b,hi⟩:=h2.Gh hv0;have hlt:=(aOU.mp h1).1;refine⟨.map ((es.set i (k,v,b)).map (mF enc)) c,?_,⟨_,c,by rw[aO0 hlt],h2.Ow hi⟩,_,_,rfl⟩
 unfold sH;rw[if_pos (Cf hk k)];simp only;rw[h1];simp only;have:=Ce hk es i 0 _ h2.keys hi;simp only at this;rw[this];simp only[aPf];rw[<-Gi];rfl
theorem IsMap.aLi (hk:KeyC kt enc)(h:IsMap enc H mb f)(k:κ)(hf:f k≠none): ∃X,sG kt (.map (some mb)) (enc k) H=some (.tuple #[],H.set mb X)/\IsMap enc (H.set mb X) mb (upd f k none)/\ ∃es c,X= .map es c:=by
 obtain⟨es,c,h1,h2⟩:=h;obtain⟨v0,hv0⟩:=Option.ne_none_iff_exists'.mp hf;obtain⟨i,b,hi⟩:=h2.Gh hv0;have hlt:=(aOU.mp h1).1;refine⟨.map ((es.eraseIdx i).map (mF enc)) c,?_,⟨_,c,by rw[aO0 hlt],h2.aLm hi⟩,_,_,rfl⟩
 unfold sG;rw[if_pos (Cf hk k)];simp only;rw[h1];simp only;have:=Ce hk es i 0 _ h2.keys hi;simp only at this;rw[this];simp only[aPf];rw[aAe]
theorem aAd (es:List (κ×Value×Nat))(hn:(es.map (·.2.2)).Nodup){i:Nat}{e:κ×Value×Nat}(hi:es[i]? =some e):(es.map (mF enc)).findIdx? (λx=>(x.born:Int)==(e.2.2:Int))=some i:=by
 have hlt:=(aOU.mp hi).1;have he:=(aOU.mp hi).2;rw[List.findIdx?_eq_some_iff_getElem];refine⟨by simpa using hlt,?_,λj hji=> ?_⟩
 ·simp[mF,he]
 ·have hne:es[j].2.2≠e.2.2:=λhh=>by
   have h1:(es.map (·.2.2))[i]'(by simpa using hlt)=e.2.2:=by simp[he]
   have h2:(es.map (·.2.2))[j]'(by simp;omega)=e.2.2:=by simp[hh]
   have:=(List.getElem_inj hn).mp (h1.trans h2.symm);omega
  simp[mF];omega
theorem IsMap.aLj (hk:KeyC kt enc)(h:IsMap enc H mb f)(k:κ)(z:Value): ∃(b:Nat)(X:Blk),rR kt z (.map (some mb)) (enc k) H=some (.tuple #[(f k).getD z,.int .i64 b],H.set mb X)/\(∃es c,X= .map es c)/\
  ∀(H2:aC)(v:Value),H2[mb]? =some X-> ∃X',rP (.map (some mb)) (.int .i64 b) v H2=some (undef,H2.set mb X')/\IsMap enc (H2.set mb X') mb (upd f k (some v))/\ ∃es c,X'= .map es c:=by
 obtain⟨es,c,h1,h2⟩:=h;cases hf:f k with
 |none=>
  refine⟨c,.map ((es++[(k,z,c)]).map (mF enc)) (c+1),?_,⟨_,_,rfl⟩,λH2 v hX=> ?_⟩
  ·unfold rR
   rw[if_pos (Cf hk k)];simp only;rw[h1];simp only;rw[Ox hk k es 0 ((h2.no k).mp hf)];simp[mF]
  ·have hp:=h2.aLn z hf
   have hi:(es++[(k,z,c)])[es.length]? =some (k,z,c):=by simp
   have hlt:=(aOU.mp hX).1;have hs:=hp.Ow (v:=v) hi;have hup:upd (upd f k (some z)) k (some v)=upd f k (some v):=by
    funext k'
    unfold upd
    split<;>rfl
   rw[hup] at hs;refine⟨.map (((es++[(k,z,c)]).set es.length (k,v,c)).map (mF enc)) (c+1),?_,⟨_,_,by rw[aO0 hlt],hs⟩,_,_,rfl⟩
   unfold rP;simp only;rw[hX];simp only;have:=aAd (enc:=enc) (es++[(k,z,c)]) hp.born hi;simp only at this;rw[this];simp only;rw[aO7,hi];simp only[Option.map_some];rw[<-Gi];rfl
 |some v0=>
  obtain⟨i,b,hi⟩:=h2.Gh hf;have hset:es.set i (k,v0,b)=es:=by
   apply aPv;intro j;by_cases hj:i=j
   ·subst hj
    rw[aO0 (aOU.mp hi).1,hi]
   ·rw[aOV hj]
  refine⟨b,.map (es.map (mF enc)) c,?_,⟨_,_,rfl⟩,λH2 v hX=> ?_⟩
  ·unfold rR
   rw[if_pos (Cf hk k)];simp only;rw[h1];simp only;have:=Ce hk es i 0 _ h2.keys hi;simp only at this;rw[this];simp only[aPf];have e1:(⟨enc k,(mF enc (k,v0,b)).val,(mF enc (k,v0,b)).born⟩:Ent)=mF enc (k,v0,b):=rfl;rw[e1,Gi,hset];rfl
  ·have hlt:=(aOU.mp hX).1
   refine⟨.map ((es.set i (k,v,b)).map (mF enc)) c,?_,⟨_,c,by rw[aO0 hlt],h2.Ow hi⟩,_,_,rfl⟩
   unfold rP;simp only;rw[hX];simp only;have:=aAd (enc:=enc) es h2.born hi;simp only at this;rw[this];simp only;rw[aO7,hi];simp only[Option.map_some];rw[<-Gi];rfl
theorem IsMap.aLk (H:aC):IsMap enc (H++[.map [] 0]) H.length (λ_=>none):=
 ⟨[],0,by simp,⟨by simp,by simp,by simp,λk=>by simp,λe he=>by simp at he⟩⟩
end
end Go.Abs
namespace Go.Proofs.YtkeilicinggjmaaGreatDoor.Rg
open Go.Proofs.Tryz
open Go.Abs
abbrev lC:=Int×Int×Int
def nL (w:lC):Value:= .agg #[.int .i64 w.1,.int .i64 w.2.1,.int .i64 w.2.2]
abbrev kW:KeyT:= .str [true,true,true]
theorem wS:KeyC kW nL:=⟨λa b=>by
 obtain⟨a1,a2,a3⟩:=a;obtain⟨b1,b2,b3⟩:=b;have h:((a1,a2,a3)=(b1,b2,b3))=(a1=b1/\a2=b2/\a3=b3):=by simp
 simp[lI,nL,eqT];by_cases h1:a1=b1<;>by_cases h2:a2=b2<;>by_cases h3:a3=b3<;>simp[h1,h2,h3]⟩
theorem bW (a b c:Int):bld prog 256 [(0,.int .i64 a),(1,.int .i64 b),(2,.int .i64 c)]=some (nL (a,b,c)):=rfl
theorem szI:prog.cellsOf 3=1:=by kernel_rfl
def AR (x:Blk):Prop:=match x with
 | .map _ _=>True
 | .dead=>True
 | .cells _ e k=>(e=244/\k= .fix)∨(e=247/\k= .row)∨(e=3/\k= .row)
def AS (x:Blk):Prop:=AR x∨match x with
 | .cells _ e k=>(e=54/\k= .fix)∨(e=181/\k= .fix)
 |_=>False
abbrev En:=lC×Nat×Pkt
def qOf (L:List En)(w:lC):List Nat:=(L.filter λe=>decide (e.1=w)).map (·.2.1)
def oF (L:List En)(w:lC):List Pkt:=(L.filter λe=>decide (e.1=w)).map (·.2.2)
def mX (k:Nat):Value:= .int .i64 k
theorem O1 (L:List En)(w:lC):(qOf L w).length=(oF L w).length:=by simp[qOf,oF]
structure RI (H:aC)(a:Nat)(L:List En)(n ports lanes:Nat)(p s mb:Nat)(l:List kC)(top free:Int)(fl:List Nat)(f:lC->Option Value):Prop where
 hd:H[a]? =some (.cells [.pointer (some ⟨p,0,none⟩),.map (some mb),.int .i64 ports,.int .i64 lanes] 181 .fix)
 pool:Model H p s l top free fl
 len:l.length=n
 cnt:L.length+fl.length=n
 nd:(L.map (·.2.1)).Nodup
 full: ∀e∈L,∃q d,l[e.2.1]? =some (some (q,e.2.2),d)
 mp:IsMap nL H mb f
 no: ∀w,f w=none->qOf L w=[]
 yes: ∀w v,f w=some v->RowO 3 H v ((qOf L w).map mX)/\qOf L w≠[]
 sep: ∀w w' v v' b,f w=some v->f w'=some v'->w≠w'->cR v b-> ¬cR v' b
 b1:1<=n/\n<=200
 b2:ports<=16/\lanes<=3
def IsRings (H:aC)(a:Nat)(L:List En)(n ports lanes:Nat):Prop:= ∃p s mb l top free fl f,RI H a L n ports lanes p s mb l top free fl f
section
variable {H H' : aC} {a n ports lanes p s mb : Nat} {L : List En} {l : List kC} {top free : Int} {fl : List Nat} {f : lC → Option Value}
theorem RI.Gj (h:RI H a L n ports lanes p s mb l top free fl f)(hk: ∀(b:Nat)(x:Blk),H[b]? =some x->AS x->H'[b]? =some x):RI H' a L n ports lanes p s mb l top free fl f:=by
 refine⟨hk _ _ h.hd (.inr (.inr ⟨rfl,rfl⟩)),⟨⟨hk _ _ h.pool.pool.hp (.inl (.inl ⟨rfl,rfl⟩)),hk _ _ h.pool.pool.hs (.inl (.inr (.inl ⟨rfl,rfl⟩))),λi q x d hi=>hk _ _ (h.pool.pool.hq i q x d hi) (.inr (.inl ⟨rfl,rfl⟩))⟩,h.pool.chain,h.pool.nodup,h.pool.full,h.pool.cnt,h.pool.len⟩,
  h.len,h.cnt,h.nd,h.full,?_,h.no,λw v hv=>⟨?_,(h.yes w v hv).2⟩,h.sep,h.b1,h.b2⟩
 ·obtain⟨es,c,h1,h2⟩:=h.mp
  exact⟨es,c,hk _ _ h1 (.inl trivial),h2⟩
 ·refine(h.yes w v hv).1.sT λb hb=> ?_
  obtain⟨xs,hx⟩:=(h.yes w v hv).1.blk hb;rw[hx];exact hk _ _ hx (.inl (.inr (.inr ⟨rfl,rfl⟩)))
theorem RI.app (h:RI H a L n ports lanes p s mb l top free fl f)(G:aC):RI (H++G) a L n ports lanes p s mb l top free fl f:=h.Gj λb x hx _=>(Ch.app (λ_=>False) H G).2 b x hx id
theorem IsRings.app (h:IsRings H a L n ports lanes)(G:aC):IsRings (H++G) a L n ports lanes:=by
 obtain⟨p,s,mb,l,top,free,fl,f,hi⟩:=h
 exact⟨p,s,mb,l,top,free,fl,f,hi.app G⟩
theorem RI.ld0 (h:RI H a L n ports lanes p s mb l top free fl f):ld1 (.pointer (some ⟨a,0,none⟩)) H=some (.pointer (some ⟨p,0,none⟩),H):=by rw[kV,h.hd];rfl
theorem RI.ld1 (h:RI H a L n ports lanes p s mb l top free fl f):ld1 (.pointer (some ⟨a,1,none⟩)) H=some (.map (some mb),H):=by rw[kV,h.hd];rfl
theorem RI.ld2 (h:RI H a L n ports lanes p s mb l top free fl f):Go.Abs.ld1 (.pointer (some ⟨a,2,none⟩)) H=some (.int .i64 ports,H):=by rw[kV,h.hd];rfl
theorem RI.ld3 (h:RI H a L n ports lanes p s mb l top free fl f):Go.Abs.ld1 (.pointer (some ⟨a,3,none⟩)) H=some (.int .i64 lanes,H):=by rw[kV,h.hd];rfl
end
theorem O0 (L:List En)(e:En)(w:lC):qOf (e::L) w=if e.1=w then e.2.1::qOf L w else qOf L w:=by
 unfold qOf;by_cases h:e.1=w<;>simp[h]
theorem aAf (L:List En)(e:En)(w:lC):oF (e::L) w=if e.1=w then e.2.2::oF L w else oF L w:=by
 unfold oF;by_cases h:e.1=w<;>simp[h]
theorem Oz (L:List En)(e:En)(w:lC):qOf (L++[e]) w=if e.1=w then qOf L w++[e.2.1] else qOf L w:=by
 unfold qOf;by_cases h:e.1=w<;>simp[List.filter_append,h]
def nU (L:List En)(w:lC):List En:=L.eraseP λe=>decide (e.1=w)
theorem Cg (w w':lC): ∀L:List En,qOf (nU L w) w'=if w=w' then(qOf L w').tail else qOf L w'
 |[]=>by simp[nU,qOf]
 |e::L=>by
  have ih:=Cg w w' L;unfold nU at ih⊢;by_cases h:e.1=w
  ·simp only[List.eraseP_cons,h,decide_true,cond_true,O0]
   by_cases hw:w=w'
   ·simp[hw]
   ·simp[hw]
  ·simp only[List.eraseP_cons,h,decide_false,cond_false,O0,ih]
   by_cases hw:w=w'
   ·subst hw
    simp[h]
   ·simp[hw]
theorem Oy {w:lC}: ∀{L:List En}{k:Nat}{ks:List Nat},qOf L w=k::ks-> ∃x xs,oF L w=x::xs/\(w,k,x)∈L/\L.length=(nU L w).length+1/\ ∀e,e∈nU L w->e∈L/\((L.map (·.2.1)).Nodup->e.2.1≠k)
 |[],k,ks,h=>by simp[qOf] at h
 |e::L,k,ks,h=>by
  obtain⟨we,ke,xe⟩:=e;rw[O0] at h;by_cases hw:we=w
  ·subst hw
   simp only[if_pos] at h;cases h;refine⟨xe,oF L we,by rw[aAf];simp,by simp,by simp[nU],λe he=> ?_⟩
   have he':e∈L:=by simpa[nU] using he
   refine⟨by simp[he'],λhn=> ?_⟩
   simp only[aPp,List.nodup_cons] at hn;intro hh;exact hn.1 (by rw[<-hh];exact List.mem_map_of_mem he')
  ·simp only[hw,if_false] at h
   obtain⟨x,xs,h1,h2,h3,h4⟩:=Oy h;refine⟨x,xs,by rw[aAf];simp[hw,h1],by simp[h2],by simp[nU,hw] at h3 ⊢; omega,λe he=> ?_⟩
   have he':e=(we,ke,xe)∨e∈nU L w:=by
    simp only[nU,List.eraseP_cons,hw,decide_false,cond_false] at he;simpa[nU] using he
   rcases he' with rfl|he'
   ·refine⟨by simp,λhn=> ?_⟩
    simp only[aPp,List.nodup_cons] at hn;intro hh;exact hn.1 (by rw[show ke=k from hh];exact List.mem_map_of_mem h2)
   ·obtain⟨g1,g2⟩:=h4 e he'
    refine⟨by simp[g1],λhn=> ?_⟩
    simp only[aPp,List.nodup_cons] at hn;exact g2 hn.2
abbrev pk8:jH:=pkN
theorem bRg (p mb:Nat)(a b:Int):bld prog 181 [(0,.pointer (some ⟨p,0,none⟩)),(1,.map (some mb)),(2,.int .i64 a),(3,.int .i64 b)]=some (.agg #[.pointer (some ⟨p,0,none⟩),.map (some mb),.int .i64 a,.int .i64 b]):=rfl
theorem aLp (H:aC):pZ H=some (.map (some H.length),H++[.map [] 0]):=rfl
theorem aLo (H:aC)(k:Int):dL 3 1 1 [.int .i64 0] [(0,.int .i64 k)] H=some (.slice (some ⟨H.length,0,none⟩) 1 1,H++[.cells [.int .i64 k] 3 .row]):=rfl
theorem O3 (a b c:Int):lN prog false [.int .i64 a,.int .i64 b,.int .i64 c]=some (.int .i64 (min (min a b) c)):=by
 simp[lN,eC,iZ,pur,Builtin.min_,Builtin.min2,pure,bind,Sem.bind]
 split<;>split<;>omega
theorem O2 (a b:Int):lN prog true [.int .i64 a,.int .i64 b]=some (.int .i64 (max a b)):=by
 simp[lN,eC,iZ,pur,Builtin.max_,Builtin.max2,pure,bind,Sem.bind]
 split<;>omega
def rH (w:lC)(ports lanes:Nat):Bool:=decide (0<=min (min w.1 w.2.1) w.2.2)&&decide (max w.1 w.2.1<(ports:Int))&&decide (w.2.2<(lanes:Int))
theorem Model.aAg {H H':aC}{p s:Nat}{l:List kC}{top free:Int}{fl:List Nat}(h:Model H p s l top free fl)
  (hk: ∀(b:Nat)(cs:List Value)(e:TypeId)(k:Kind),H[b]? =some (.cells cs e k)->(e=244/\k= .fix)∨(e=247/\k= .row)∨(e=54/\k= .fix)->H'[b]? =some (.cells cs e k)):Model H' p s l top free fl:=
 ⟨⟨hk _ _ _ _ h.pool.hp (.inl ⟨rfl,rfl⟩),hk _ _ _ _ h.pool.hs (.inr (.inl ⟨rfl,rfl⟩)),λi q x d hi=>hk _ _ _ _ (h.pool.hq i q x d hi) (.inr (.inr ⟨rfl,rfl⟩))⟩,h.chain,h.nodup,h.full,h.cnt,h.len⟩
section
variable {H : aC} {a n ports lanes m : Nat} {L : List En}
theorem aLr (hm:300<m)(po la sl:Nat)(h:1<=po/\po<=16/\1<=la/\la<=3/\1<=sl/\sl<=200): ∃a H',lvl prog pk8 m (.func 41) [.int .i64 po,.int .i64 la,.int .i64 sl] H=some (.pointer (some ⟨a,0,none⟩),H')/\Ext H H'/\IsRings H' a [] sl po la/\H.length<=a:=by
 have g:=aLa (H:=H) (pr:=pk8) (cL rfl) sl (by omega) (by omega) (m:=m-1) (by omega)
 have hM:=((aLh (H:=H) sl (by omega) (by omega)).app [Blk.map [] 0]).app [.cells [.pointer (some ⟨H.length+1,0,none⟩),.map (some (mE H (lM sl)).length),.int .i64 po,.int .i64 la] 181 .fix]
 have e1:decide ((po:Int)<1)=false:=aPE (by omega)
 have e2:decide (16<(po:Int))=false:=aPE (by omega)
 have e3:decide ((la:Int)<1)=false:=aPE (by omega)
 have e4:decide (3<(la:Int))=false:=aPE (by omega)
 have hl:(mE H (lM sl)).length=H.length+2:=by simp[mE]
 refine⟨(mE H (lM sl)++[Blk.map [] 0]).length,mE H (lM sl)++[Blk.map [] 0]++[Blk.cells [.pointer (some ⟨H.length+1,0,none⟩),.map (some (mE H (lM sl)).length),.int .i64 po,.int .i64 la] 181 .fix],dF (cL rfl) (by omega) ?_,?_,
  ⟨H.length+1,H.length,(mE H (lM sl)).length,lM sl,0,sl,List.range sl,λ_=>none,by simp,hM,Ge sl,by simp,by simp,by simp,?_,λw _=>rfl,by simp,by simp,by omega,by omega⟩,by simp[hl];omega⟩
 ·rw[aKV]
  simp -implicitDefEqProofs only[g,e22,b_lss,b_gtr,e1,e2,e3,e4,r_opt,r_ret,ob_some,r_gdff,r_gdff2,pick_f,iteV_false,aLp,bRg,x_newB,oneOf_one];rfl
 ·unfold mE
  rw[aO1,aO1];exact Fr.app _ _ _
 ·have h0:=IsMap.aLk (enc:=nL) (mE H (lM sl))
  refine h0.aAc ?_;rw[aOX (by simp)]
theorem aAi (h:IsRings H a L n ports lanes)(hm:0<m)(w:lC):lvl prog pk8 m (.func 142) [.pointer (some ⟨a,0,none⟩),nL w] H=some (.bool (rH w ports lanes),H++[.cells [.int .i64 w.1,.int .i64 w.2.1,.int .i64 w.2.2] 256 .fix]):=by
 obtain⟨p,s,mb,l,top,free,fl,f,hi⟩:=h;have hi':=hi.app [.cells [.int .i64 w.1,.int .i64 w.2.1,.int .i64 w.2.2] 256 .fix];have l2:=hi'.ld2;have l3:=hi'.ld3;have x0:ld1 (.pointer (some ⟨H.length,0,none⟩)) (H++[.cells [.int .i64 w.1,.int .i64 w.2.1,.int .i64 w.2.2] 256 .fix])=some (.int .i64 w.1,H++[.cells [.int .i64 w.1,.int .i64 w.2.1,.int .i64 w.2.2] 256 .fix]):=by rw[kV,vU];rfl
 have x1:ld1 (.pointer (some ⟨H.length,1,none⟩)) (H++[.cells [.int .i64 w.1,.int .i64 w.2.1,.int .i64 w.2.2] 256 .fix])=some (.int .i64 w.2.1,H++[.cells [.int .i64 w.1,.int .i64 w.2.1,.int .i64 w.2.2] 256 .fix]):=by rw[kV,vU];rfl
 have x2:ld1 (.pointer (some ⟨H.length,2,none⟩)) (H++[.cells [.int .i64 w.1,.int .i64 w.2.1,.int .i64 w.2.2] 256 .fix])=some (.int .i64 w.2.2,H++[.cells [.int .i64 w.1,.int .i64 w.2.1,.int .i64 w.2.2] 256 .fix]):=by rw[kV,vU];rfl
 have hc:(Value.cells (nL w)).toList=[.int .i64 w.1,.int .i64 w.2.1,.int .i64 w.2.2]:=rfl;refine dF (cL rfl) (by omega) ?_
 rw[aKT];unfold rH;rw[hc];by_cases h1:0<=min (min w.1 w.2.1) w.2.2
 ·have e1:decide (0<=min (min w.1 w.2.1) w.2.2)=true:=aPD h1
  by_cases h2:max w.1 w.2.1<(ports:Int)
  ·have e2:decide (max w.1 w.2.1<(ports:Int))=true:=aPD h2
   simp -implicitDefEqProofs only[x_newB,r_fAddr,r_nil,aPf,Nat.add_zero,x0,x1,x2,l2,l3,O3,O2,b_geq,b_lss,e1,e2,r_opt,r_ret,ob_some,ifB_true,r_gdt,r_gdt2,pick_t,oneOf_one,aPh]
  ·have e2:decide (max w.1 w.2.1<(ports:Int))=false:=aPE h2
   simp -implicitDefEqProofs only[x_newB,r_fAddr,r_nil,aPf,Nat.add_zero,x0,x1,x2,l2,l3,O3,O2,b_geq,b_lss,e1,e2,r_opt,r_ret,ob_some,ifB_true,r_gdt,r_gdt2,r_gdft,r_gdft2,r_gdu,r_gdu2,pick_t,pick_f,oneOf_one,aPh,Bool.false_and]
 ·have e1:decide (0<=min (min w.1 w.2.1) w.2.2)=false:=aPE h1
  simp -implicitDefEqProofs only[x_newB,r_fAddr,r_nil,aPf,Nat.add_zero,x0,x1,x2,l2,l3,O3,O2,b_geq,b_lss,e1,r_opt,r_ret,ob_some,ifB_true,r_gdft,r_gdft2,r_gdu,r_gdu2,pick_f,oneOf_one,Bool.false_and]
theorem aLq (h:IsRings H a L n ports lanes)(hm:0<m)(i o k:Int):lvl prog pk8 m (.func 96) [.pointer (some ⟨a,0,none⟩),.int .i64 i,.int .i64 o,.int .i64 k] H=some (.int .i64 (qOf L (i,o,k)).length,H):=by
 obtain⟨p,s,mb,l,top,free,fl,f,hi⟩:=h;have l1:=hi.ld1;have g:=hi.mp.Cd wS (i,o,k) (.slice none 0 0);refine dF (cL rfl) (by omega) ?_
 rw[aKY];cases hf:f (i,o,k) with
 |none=>
  rw[hf] at g;simp only[Option.getD_none] at g;rw[hi.no _ hf];simp -implicitDefEqProofs only[r_nil,r_fAddr,aPf,l1,bW,g,Je,r_opt,ob_some,oneOf_one];rfl
 |some v=>
  rw[hf] at g;simp only[aPn] at g;have hl:=(hi.yes _ v hf).1.Jy;rw[aO8] at hl;simp -implicitDefEqProofs only[r_nil,r_fAddr,aPf,l1,bW,g,hl,r_opt,ob_some,oneOf_one]
theorem O4 (H:aC)(x:Pkt):stN 4 (.pointer (some ⟨H.length,0,none⟩)) x.dM (H++[pkB pk0])=some (undef,H++[pkB x]):=by
 rw[Gg,vU,Z5,Ot]
theorem wT {H:aC}{b:Nat}{x:Pkt}(h:H[b]? =some (pkB x)):ldN 4 (.pointer (some ⟨b,0,none⟩)) H=some (x.dM,H):=by
 rw[rV,h,aK5]
theorem O5 {H:aC}{b:Nat}{y x:Pkt}(h:H[b]? =some (pkB y)):stN 4 (.pointer (some ⟨b,0,none⟩)) x.dM H=some (undef,H.set b (pkB x)):=by
 rw[Gg,h,Z5]
def u6 (ps:List Pkt):Value:= .tuple #[(ps.headD pk0).dM,.bool (!ps.isEmpty)]
theorem aAh (h:IsRings H a L n ports lanes)(hm:10<m)(i o k:Int): ∃H',lvl prog pk8 m (.func 151) [.pointer (some ⟨a,0,none⟩),.int .i64 i,.int .i64 o,.int .i64 k] H=some (u6 (oF L (i,o,k)),H')/\Ext H H':=by
 obtain⟨p,s,mb,l,top,free,fl,f,hi⟩:=h;have hi1:=hi.app [pkB pk0];have l1:=hi1.ld1;have l0:=hi1.ld0;have g:=hi1.mp.Cd wS (i,o,k) (.slice none 0 0);cases hf:f (i,o,k) with
 |none=>
  rw[hf] at g;simp only[Option.getD_none] at g;have hq:=hi.no _ hf;have hp:oF L (i,o,k)=[]:=aPc.mp (by rw[<-O1,hq];rfl)
  rw[hp];refine⟨H++[pkB pk0],dF (cL rfl) (by omega) ?_,Fr.app _ _ _⟩
  rw[Zt];have e1:((0:Int)==0)=true:=rfl;have hl:ldN 4 (.pointer (some ⟨H.length,0,none⟩)) (H++[pkB pk0])=some (pk0.dM,H++[pkB pk0]):=wT (by simp)
  simp -implicitDefEqProofs only[yH,x_newB,r_nil,r_fAddr,aPf,l1,bW,g,Je,b_eql,e1,Z2,O4,hl,r_opt,ob_some,iteV_true,oneOf_two];rfl
 |some v=>
  rw[hf] at g;simp only[aPn] at g;obtain⟨hr,hne⟩:=hi1.yes _ v hf;obtain⟨k0,ks,hq⟩: ∃k0 ks,qOf L (i,o,k)=k0::ks:=by
   cases hx:qOf L (i,o,k) with
   |nil=>exact absurd hx hne
   |cons a b=>exact⟨a,b,rfl⟩
  obtain⟨x,xs,hp,hin,hlen,hrest⟩:=Oy hq;rw[hq] at hr;rw[hp];have hl:=hr.Jy;obtain⟨bb,oo,g1,g2,g3⟩:=hr.T8 (i:=0) (x:=mX k0) rfl .i64;obtain⟨q,d,hslot⟩:=hi.full _ hin;have hg:=aK4 (pr:=pk8) (cL rfl) (cL rfl) hi1.pool.pool (m:=m-1) (by omega) k0 q x d hslot
  have e1:((((k0::ks).map mX).length:Int)==0)=false:=by simp;omega
  have hst:stN 4 (.pointer (some ⟨H.length,0,none⟩)) x.dM (H++[pkB pk0]++[pkB x])=some (undef,H++[pkB x]++[pkB x]):=by
   rw[O5 (y:=pk0) (by rw[aOX (by simp)];simp)]
   simp
  have hld:ldN 4 (.pointer (some ⟨H.length,0,none⟩)) (H++[pkB x]++[pkB x])=some (x.dM,H++[pkB x]++[pkB x]):=wT (by rw[aOX (by simp)];simp)
  refine⟨H++[pkB x]++[pkB x],dF (cL rfl) (by omega) ?_,by rw[aO1];exact Fr.app _ _ _⟩
  rw[Zt];have g1':aR 1 v (.int .i64 0)=some (.pointer (some ⟨bb,oo,none⟩)):=g1;have hk0:mX k0= .int .i64 k0:=rfl;simp -implicitDefEqProofs only[yH,x_newB,r_nil,r_fAddr,aPf,Nat.add_zero,l0,l1,bW,g,hl,b_eql,e1,g1',g3 _ rfl,hk0,hg,ext_0,ext_1,hst,hld,r_opt,ob_some,ifB_true,iteV_false,oneOf_two];rfl
end
theorem O6 (w:lC)(H:aC):stN 3 (.pointer (some ⟨H.length,0,none⟩)) (nL w) (H++[.cells [.int .i64 0,.int .i64 0,.int .i64 0] 256 .fix])=some (undef,H++[.cells [.int .i64 w.1,.int .i64 w.2.1,.int .i64 w.2.2] 256 .fix]):=by
 have hc:(Value.cells (nL w)).toList=[.int .i64 w.1,.int .i64 w.2.1,.int .i64 w.2.2]:=rfl;rw[mS 3 _ _ _ rfl,vU,hc,n9 _ _ _ _ _ _ (by decide) (by simp) rfl]
 simp[eT]
theorem Ag {H:aC}{b:Nat}{w:lC}(h:H[b]? =some (.cells [.int .i64 w.1,.int .i64 w.2.1,.int .i64 w.2.2] 256 .fix)):ldN 3 (.pointer (some ⟨b,0,none⟩)) H=some (nL w,H):=by
 rw[rV,h,sO _ _ _ _ _ (by simp)]
 rfl
section
variable {H : aC} {a n ports lanes m : Nat} {L : List En}
theorem RI.aAj {H1:aC}{p s mb:Nat}{l:List kC}{top free:Int}{fl:List Nat}{f:lC->Option Value}(hi:RI H a L n ports lanes p s mb l top free fl f)(hs: ∀b,b<H.length->b≠p->b≠s->H1[b]? =H[b]?):
  (∀(b:Nat)(x:Blk),H[b]? =some x->(∀cs,x≠ .cells cs 244 .fix)->(∀cs,x≠ .cells cs 247 .row)->H1[b]? =some x):=by
 intro b x hx h1 h2;have hlt:=(aOU.mp hx).1;have hp:b≠p:=λhh=>by
  subst hh;rw[hi.pool.pool.hp] at hx;cases hx;exact h1 _ rfl
 have hss:b≠s:=λhh=>by
  subst hh;rw[hi.pool.pool.hs] at hx;cases hx;exact h2 _ rfl
 rw[hs b hlt hp hss,hx]
theorem aLs (h:IsRings H a L n ports lanes)(hm:100<m)(w:lC)(x:Pkt)(hno:rH w ports lanes=false∨n<=L.length):
  ∃H',lvl prog pk8 m (.func 98) [.pointer (some ⟨a,0,none⟩),.int .i64 w.1,.int .i64 w.2.1,.int .i64 w.2.2,x.dM] H=some (.bool false,H')/\Ext H H':=by
 obtain⟨hw,hH⟩: ∃WB:Blk,WB= .cells [.int .i64 w.1,.int .i64 w.2.1,.int .i64 w.2.2] 256 .fix:=⟨_,rfl⟩;have h2:=(h.app [pkB x]).app [hw];have hr:=aAi h2 (m:=m-1) (by omega) w
 have hx:Blk.cells (Value.cells x.dM).toList 54 .fix=pkB x:=rfl;have hb:=bW w.1 w.2.1 w.2.2;have hst:=O6 w (H++[pkB x]);rw[<-hH] at hst hr;have hld:ldN 3 (.pointer (some ⟨(H++[pkB x]).length,0,none⟩)) (H++[pkB x]++[hw])=some (nL w,H++[pkB x]++[hw]):=Ag (by rw[vU,hH])
 cases hv:rH w ports lanes with
 |false=>
  rw[hv] at hr;refine⟨H++[pkB x]++[hw]++[hw],dF (cL rfl) (by omega) ?_,by rw[aO1,aO1];exact Fr.app _ _ _⟩
  rw[Om];simp -implicitDefEqProofs only[x_newB,hx,hb,hst,hld,hr,u_not,Bool.not_false,r_opt,ob_some,iteV_true,oneOf_one]
 |true=>
  have hcnt:n<=L.length:=by
   rcases hno with hno|hno
   ·rw[hv] at hno;cases hno
   ·exact hno
  rw[hv] at hr;obtain⟨p,s,mb,l,top,free,fl,f,hi⟩:=h2.app [hw];have hfl:fl=[]:=by
   have:=hi.cnt;exact aPc.mp (by omega)
  subst hfl;have hp:=hi.pool.aLf (pr:=pk8) (cL rfl) (m:=m-1) (by omega) x
  have l0:=hi.ld0;have hldx:ldN 4 (.pointer (some ⟨H.length,0,none⟩)) (H++[pkB x]++[hw]++[hw])=some (x.dM,H++[pkB x]++[hw]++[hw]):=wT (by rw[aO1,aO1,aPe (aOZ _)];simp)
  refine⟨H++[pkB x]++[hw]++[hw]++[pkB x],dF (cL rfl) (by omega) ?_,by rw[aO1,aO1,aO1];exact Fr.app _ _ _⟩
  rw[Om];simp -implicitDefEqProofs only[x_newB,hx,hb,hst,hld,hr,u_not,Bool.not_true,r_opt,ob_some,ifB_true,iteV_false,r_nil,r_fAddr,aPf,l0,hldx,hp,ext_0,ext_1,oneOf_one]
theorem aLt (h:IsRings H a L n ports lanes)(hm:100<m)(w:lC)(x:Pkt)(hv:rH w ports lanes=true)(hn:L.length<n):
    ∃H' k,lvl prog pk8 m (.func 98) [.pointer (some ⟨a,0,none⟩),.int .i64 w.1,.int .i64 w.2.1,.int .i64 w.2.2,x.dM] H=some (.bool true,H')/\Ch AR H H'/\IsRings H' a (L++[(w,k,x)]) n ports lanes:=by
  obtain⟨hw,hH⟩: ∃WB:Blk,WB= .cells [.int .i64 w.1,.int .i64 w.2.1,.int .i64 w.2.2] 256 .fix:=⟨_,rfl⟩;have h2:=(h.app [pkB x]).app [hw];have hr:=aAi h2 (m:=m-1) (by omega) w
  have hx:Blk.cells (Value.cells x.dM).toList 54 .fix=pkB x:=rfl;have hb:=bW w.1 w.2.1 w.2.2;have hst:=O6 w (H++[pkB x]);rw[<-hH] at hst hr;have hld:ldN 3 (.pointer (some ⟨(H++[pkB x]).length,0,none⟩)) (H++[pkB x]++[hw])=some (nL w,H++[pkB x]++[hw]):=Ag (by rw[vU,hH])
  rw[hv] at hr;obtain⟨H0,hH0⟩: ∃H0,H0=H++[pkB x]++[hw]++[hw]:=⟨_,rfl⟩;have hc0:Ch AR H H0:=by rw[hH0,aO1,aO1];exact Ch.app _ _ _
  have h3:=h2.app [hw];rw[<-hH0] at h3 hr;obtain⟨p,s,mb,l,top,free,fl,f,hi⟩:=h3;have hWat:H0[(H++[pkB x]).length]? =some hw:=by rw[hH0,aOX (by simp),aPe (aOZ _)];simp
  obtain⟨k,ks,rfl⟩: ∃k ks,fl=k::ks:=by
    cases fl with
    |nil=>have:=hi.cnt;simp at this;omega
    |cons k ks=>exact⟨k,ks,rfl⟩
  obtain⟨H1,q,d,hp,hM1,hkl,hlen1,hsame⟩:=hi.pool.aLe (pr:=pk8) (cL rfl) (m:=m-1) (by omega) x
  have keep1:=hi.aAj hsame;have l0:=hi.ld0;have hldx:ldN 4 (.pointer (some ⟨H.length,0,none⟩)) H0=some (x.dM,H0):=wT (by rw[hH0,aO1,aO1,aPe (aOZ _)];simp)
  have hd1:=keep1 _ _ hi.hd (λcs hh=>by cases hh) (λcs hh=>by cases hh)
  have l1:ld1 (.pointer (some ⟨a,1,none⟩)) H1=some (.map (some mb),H1):=by rw[kV,hd1];rfl
  have hW1:H1[(H++[pkB x]).length]? =some hw:=keep1 _ _ hWat (λcs hh=>by rw[hH] at hh;cases hh) (λcs hh=>by rw[hH] at hh;cases hh)
  have hld1:ldN 3 (.pointer (some ⟨(H++[pkB x]).length,0,none⟩)) H1=some (nL w,H1):=Ag (by rw[hW1,hH])
  have hm1:IsMap nL H1 mb f:=by
    obtain⟨es,c,e1,e2⟩:=hi.mp
    exact⟨es,c,keep1 _ _ e1 (λcs hh=>by cases hh) (λcs hh=>by cases hh),e2⟩
  have hq1: ∀w' v,f w'=some v->RowO 3 H1 v ((qOf L w').map mX):=λw' v hf=>by
    have:=(hi.yes w' v hf).1;refine this.sT λb hb=> ?_
    obtain⟨xs,hxs⟩:=this.blk hb;rw[hxs,keep1 _ _ hxs (λcs hh=>by cases hh) (λcs hh=>by cases hh)]
  have hc1:Ch AR H0 H1:=⟨hlen1,λb y hy hn'=>keep1 b y hy (λcs hh=>hn' (by rw[hh];exact .inl ⟨rfl,rfl⟩)) (λcs hh=>hn' (by rw[hh];exact .inr (.inl ⟨rfl,rfl⟩)))⟩
  -- the slot's number, in a row of its own
  obtain⟨H2,hH2⟩: ∃H2,H2=H1++[Blk.cells [mX k] 3 .row]:=⟨_,rfl⟩;have hbi:dL 3 1 1 [.int .i64 0] [(0,.int .i64 (k:Nat))] H1=some (.slice (some ⟨H1.length,0,none⟩) 1 1,H2):=by rw[hH2];exact aLo H1 k
  have hm2:IsMap nL H2 mb f:=hm1.aAc (by
    obtain⟨es,c,e1,e2⟩:=hm1;rw[hH2,aOX (aOU.mp e1).1])
  obtain⟨born,X,hent,⟨xe,xc,hX⟩,hstore⟩:=hm2.aLj wS w (.slice none 0 0);obtain⟨H3,hH3⟩: ∃H3,H3=H2.set mb X:=⟨_,rfl⟩;rw[<-hH3] at hent;have hmblk: ∃es c,H2[mb]? =some (.map es c):=by
    obtain⟨es,c,e1,e2⟩:=hm2
    exact⟨_,_,e1⟩
  have hmlt:mb<H2.length:=by
    obtain⟨es,c,e1⟩:=hmblk
    exact(aOU.mp e1).1
  have hlen2:H2.length=H1.length+1:=by rw[hH2];simp
  have hlen3:H3.length=H1.length+1:=by rw[hH3];simp[hlen2]
  -- cells of H1 in H3
  have k13: ∀(b:Nat)(cs:List Value)(e:TypeId)(kk:Kind),H1[b]? =some (.cells cs e kk)->H3[b]? =some (.cells cs e kk):=by
    intro b cs e kk hb;have hlt:=(aOU.mp hb).1;have hb2:H2[b]? =some (.cells cs e kk):=by rw[hH2,aOX hlt,hb]
    have hne:b≠mb:=λhh=>by
      subst hh;obtain⟨es,c,e1⟩:=hmblk;rw[hb2] at e1;cases e1
    rw[hH3,pO hne,hb2]
  have hX3:H3[mb]? =some X:=by rw[hH3,aO0 hmlt]
  have hsrcb:H3[H1.length]? =some (.cells [mX k] 3 .row):=by
    have hb2:H2[H1.length]? =some (.cells [mX k] 3 .row):=by rw[hH2];simp
    have hne:H1.length≠mb:=λhh=>by
      obtain⟨es,c,e1⟩:=hmblk;rw[<-hh,hb2] at e1;cases e1
    rw[hH3,pO hne,hb2]
  have hsl:mP (.slice (some ⟨H1.length,0,none⟩) 1 1)=some 1:=rfl;have hsc:jE 1 (.slice (some ⟨H1.length,0,none⟩) 1 1) 1 H3=some [mX k]:=by simp[jE,hsrcb]
  have hall:dZ [mX k]=true:=rfl;have hqlen:(qOf L w).length<=200:=by
    have h1:(qOf L w).length<=L.length:=by simp[qOf,List.length_filter_le]
    have:=hi.cnt;have:=hi.b1;omega
  -- the queue grows
  obtain⟨v',H4,happ,hrow,hl4,hsame4,hhome,hnew⟩: ∃v' H4,app 3 1 8 ((f w).getD (.slice none 0 0)) (.slice (some ⟨H1.length,0,none⟩) 1 1) H3=some (v',H4)/\RowO 3 H4 v' ((qOf L w).map mX++[mX k])/\H3.length<=H4.length/\
      (∀b,b<H3.length-> ¬(∃v,f w=some v/\cR v b)->H4[b]? =H3[b]?)/\(∀b,cR v' b->(∃v,f w=some v/\cR v b)∨(H3.length<=b/\b<H4.length))/\True:=by
    cases hf:f w with
    |none=>
      obtain⟨g1,g2⟩:=aEI (e:=3) (H:=H3) (by':=8) hsl hsc (by decide)
      refine⟨_,_,g1,by rw[hi.no w hf];exact g2,by simp,λb hb _=>aOX hb,?_,trivial⟩
      rintro b ⟨oo,nn,cc,hh⟩
      cases hh;exact .inr ⟨aOZ _,by simp⟩
    |some v=>
      have hr3:RowO 3 H3 v ((qOf L w).map mX):=(hq1 w v hf).sT λb hb=>by
        obtain⟨xs,hxs⟩:=(hq1 w v hf).blk hb;rw[hxs,k13 _ _ _ _ hxs]
      obtain⟨v',H4,g1,g2,g3,g4,g5,g6⟩:=hr3.aEG (by':=8) hsl hsc (by simp[j7];omega) hall
      exact⟨v',H4,g1,g2,g3,λb hb hn=>g4 b hb λhh=>hn ⟨v,rfl,hh⟩,λb hb=>(g5 b hb).imp (λhh=>⟨v,rfl,hh⟩) id,trivial⟩
  have hnomb: ¬ ∃v,f w=some v/\cR v mb:=by
    rintro ⟨v,hf,hh⟩
    obtain⟨xs,hxs⟩:=(hq1 w v hf).blk hh;obtain⟨es,c,e1,e2⟩:=hm1;rw[hxs] at e1;cases e1
  have hX4:H4[mb]? =some X:=by rw[hsame4 mb (by omega) hnomb,hX3]
  obtain⟨X',hset,hm5,⟨ye,yc,hX'⟩⟩:=hstore H4 v' hX4
  -- what is not a map nor a row of ints stays from H1 on
  have k15: ∀(b:Nat)(cs:List Value)(e:TypeId)(kk:Kind),H1[b]? =some (.cells cs e kk)->(∀v,f w=some v-> ¬cR v b)->(H4.set mb X')[b]? =some (.cells cs e kk):=by
    intro b cs e kk hb hh;have hlt:=(aOU.mp hb).1;have h3:=k13 b cs e kk hb;have hne:b≠mb:=λhx=>by
      subst hx;rw[hX3,hX] at h3;cases h3
    rw[pO hne,hsame4 b (by omega) (λ⟨v,hf,hv⟩=>hh v hf hv),h3]
  have k15': ∀(b:Nat)(cs:List Value)(e:TypeId)(kk:Kind),H1[b]? =some (.cells cs e kk)-> ¬(e=3/\kk= .row)->(H4.set mb X')[b]? =some (.cells cs e kk):=λb cs e kk hb hne=>k15 b cs e kk hb λv hf hh=>by
    obtain⟨xs,hxs⟩:=(hq1 w v hf).blk hh;rw[hb] at hxs;cases hxs;exact hne ⟨rfl,rfl⟩
  refine⟨H4.set mb X',k,dF (cL rfl) (by omega) ?_,?_,⟨p,s,mb,l.set k (some (q,x),d),d,free-1,ks,upd f w (some v'),?_⟩⟩
  · rw[Om]
    simp -implicitDefEqProofs only[x_newB,hx,hb,hst,hld,hr,u_not,Bool.not_true,r_opt,ob_some,ifB_true,iteV_false,iteV_true,r_nil,r_fAddr,aPf,l0,hldx,hp,ext_0,ext_1,l1,hld1,hbi,hent,happ,hset,oneOf_one]
  · refine(hc0.xQ hc1).xQ ⟨by simp;omega,λb y hy hn'=> ?_⟩
    cases y with
    |map es c=>exact absurd trivial hn'
    |dead=>exact absurd trivial hn'
    |cells cs e kk=>exact k15' b cs e kk hy λhh=>hn' (.inr (.inr hh))
  · refine⟨k15' _ _ _ _ hd1 (by rintro ⟨hh,_⟩;revert hh;decide),hM1.aAg λb cs e kk hb hh=>k15' b cs e kk hb (by
      rintro ⟨h1,h2⟩
      subst h1 h2;rcases hh with⟨h1,_⟩|⟨h1,_⟩|⟨h1,_⟩<;>revert h1<;>decide),by simp[hi.len],by have:=hi.cnt;simp at this ⊢; omega,?_,?_,hm5,?_,?_,?_,hi.b1,hi.b2⟩
    · rw[List.map_append,List.nodup_append]
      refine⟨hi.nd,by simp,λy hy z hz hyz=> ?_⟩
      simp at hz;obtain⟨e,he,rfl⟩:=aPx.mp hy;obtain⟨q',d',hs⟩:=hi.full e he;obtain⟨d'',hf⟩:=(hi.pool.full k).mp (by simp)
      rw[hyz,hz,hf] at hs;cases hs
    · intro e he
      rcases List.mem_append.mp he with he|he
      · obtain⟨q',d',hs⟩:=hi.full e he
        have hne:k≠e.2.1:=λhh=>by
          obtain⟨d'',hf⟩:=(hi.pool.full k).mp (by simp)
          rw[hh,hs] at hf;cases hf
        exact⟨q',d',by rw[aOV hne,hs]⟩
      · rw[List.mem_singleton] at he
        subst he
        exact⟨q,d,aO0 hkl⟩
    · intro w' hw'
      unfold upd at hw';by_cases hww:w'=w
      · rw[if_pos hww] at hw'
        cases hw'
      · rw[if_neg hww] at hw'
        rw[Oz,if_neg (λhh=>hww hh.symm)]
        exact hi.no w' hw'
    · intro w' v hw'
      unfold upd at hw';by_cases hww:w'=w
      · rw[if_pos hww] at hw'
        cases hw';subst hww;rw[Oz,if_pos rfl];refine⟨?_,by simp⟩
        rw[List.map_append];refine hrow.sT λb hb=>pO λhh=> ?_
        subst hh;obtain⟨xs,hxs⟩:=hrow.blk hb;rw[hX4,hX] at hxs;cases hxs
      · rw[if_neg hww] at hw'
        rw[Oz,if_neg (λhh=>hww hh.symm)]
        refine⟨(hq1 w' v hw').sT λb hb=> ?_,(hi.yes w' v hw').2⟩
        obtain⟨xs,hxs⟩:=(hq1 w' v hw').blk hb;rw[hxs,k15 b _ _ _ hxs λv2 hf2 hh=>hi.sep w' w v v2 b hw' hf2 hww hb hh]
    · intro w1 w2 v1 v2 b hf1 hf2 hne hh1 hh2
      have old: ∀w' v,f w'=some v->cR v b->b<H1.length:=λw' v hf hh=>by
        obtain⟨xs,hxs⟩:=(hq1 w' v hf).blk hh
        exact(aOU.mp hxs).1
      unfold upd at hf1 hf2;by_cases e1:w1=w
      · rw[if_pos e1] at hf1
        cases hf1;rw[if_neg (λhh=>hne (e1.trans hh.symm))] at hf2
        rcases hhome b hh1 with⟨v,hf,hh⟩|hh
        · exact hi.sep w w2 v v2 b hf hf2 (by rw[<-e1];exact hne) hh hh2
        · have:=old w2 v2 hf2 hh2
          omega
      · rw[if_neg e1] at hf1
        by_cases e2:w2=w
        · rw[if_pos e2] at hf2
          cases hf2;rcases hhome b hh2 with⟨v,hf,hh⟩|hh
          · exact hi.sep w1 w v1 v b hf1 hf e1 hh1 hh
          · have:=old w1 v1 hf1 hh1
            omega
        · rw[if_neg e2] at hf2
          exact hi.sep w1 w2 v1 v2 b hf1 hf2 hne hh1 hh2
end
section
variable {H : aC} {a n ports lanes m : Nat} {L : List En}
theorem RI.aLu {p s mb:Nat}{l:List kC}{top free:Int}{fl:List Nat}{f:lC->Option Value}(hi:RI H a L n ports lanes p s mb l top free fl f){b:Nat}{y x:Pkt}(hb:H[b]? =some (pkB y))(hq: ∀(i q:Nat)(z:Pkt)(d:Int),l[i]? =some (some (q,z),d)->q≠b):
  RI (H.set b (pkB x)) a L n ports lanes p s mb l top free fl f:=by
 have keep: ∀(c:Nat)(z:Blk),H[c]? =some z->(∀cs,z≠ .cells cs 54 .fix)->(H.set b (pkB x))[c]? =some z:=λc z hc hz=>by
  rw[pO (λhh=>by subst hh;rw[hb] at hc;cases hc;exact hz _ rfl),hc]
 refine⟨keep _ _ hi.hd (λcs hh=>by cases hh),⟨⟨keep _ _ hi.pool.pool.hp (λcs hh=>by cases hh),keep _ _ hi.pool.pool.hs (λcs hh=>by cases hh),λi q z d hl=>by
  rw[pO (hq i q z d hl),hi.pool.pool.hq i q z d hl]⟩,hi.pool.chain,hi.pool.nodup,hi.pool.full,hi.pool.cnt,hi.pool.len⟩,hi.len,hi.cnt,hi.nd,hi.full,?_,hi.no,λw v hv=>⟨?_,(hi.yes w v hv).2⟩,hi.sep,hi.b1,hi.b2⟩
 ·obtain⟨es,c,h1,h2⟩:=hi.mp
  exact⟨es,c,keep _ _ h1 (λcs hh=>by cases hh),h2⟩
 ·refine(hi.yes w v hv).1.sT λc hc=> ?_
  obtain⟨xs,hx⟩:=(hi.yes w v hv).1.blk hc;rw[hx];exact keep _ _ hx (λcs hh=>by cases hh)
theorem aLv (h:IsRings H a L n ports lanes)(hm:100<m)(i o k:Int)(hp:oF L (i,o,k)=[]):
  ∃H',lvl prog pk8 m (.func 106) [.pointer (some ⟨a,0,none⟩),.int .i64 i,.int .i64 o,.int .i64 k] H=some (u6 [],H')/\Ext H H':=by
 obtain⟨H1,g1,g2⟩:=aAh (h.app [pkB pk0]) (m:=m-1) (by omega) i o k
 rw[hp] at g1;have hv:u6 []= .tuple #[pk0.dM,.bool false]:=rfl;rw[hv] at g1;have hb0:H1[H.length]? =some (pkB pk0):=by rw[g2.2 H.length (by simp) id];simp
 have hl1:H.length<H1.length:=by have:=g2.1;simp at this;omega
 have hst:stN 4 (.pointer (some ⟨H1.length,0,none⟩)) pk0.dM (H1++[pkB pk0])=some (undef,H1++[pkB pk0]):=O4 H1 pk0;have hld:ldN 4 (.pointer (some ⟨H1.length,0,none⟩)) (H1++[pkB pk0])=some (pk0.dM,H1++[pkB pk0]):=wT (by simp)
 have hb1:(H1++[pkB pk0])[H.length]? =some (pkB pk0):=by rw[aOX hl1,hb0]
 have hst2:stN 4 (.pointer (some ⟨H.length,0,none⟩)) pk0.dM (H1++[pkB pk0])=some (undef,H1++[pkB pk0]):=by
  rw[O5 (y:=pk0) hb1,Ig hb1]
 have hld2:ldN 4 (.pointer (some ⟨H.length,0,none⟩)) (H1++[pkB pk0])=some (pk0.dM,H1++[pkB pk0]):=wT hb1;refine⟨H1++[pkB pk0],dF (cL rfl) (by omega) ?_,⟨by simp;omega,λb hb _=> ?_⟩⟩
 ·rw[Oi]
  simp -implicitDefEqProofs only[yH,x_newB,g1,ext_0,ext_1,hst,hld,hst2,hld2,r_opt,ob_some,iteV_false,oneOf_two];rfl
 ·rw[aOX (by omega),g2.2 b (by simp;omega) id,aOX hb]
theorem aLw (h:IsRings H a L n ports lanes)(hm:100<m)(i o k:Int){x:Pkt}{xs:List Pkt}(hp:oF L (i,o,k)=x::xs):
    ∃H',lvl prog pk8 m (.func 106) [.pointer (some ⟨a,0,none⟩),.int .i64 i,.int .i64 o,.int .i64 k] H=some (.tuple #[x.dM,.bool true],H')/\Ch AR H H'/\IsRings H' a (nU L (i,o,k)) n ports lanes:=by
  obtain⟨H1,g1,g2⟩:=aAh (h.app [pkB pk0]) (m:=m-1) (by omega) i o k
  rw[hp] at g1;have hv:u6 (x::xs)= .tuple #[x.dM,.bool true]:=rfl;rw[hv] at g1;obtain⟨w,hw⟩: ∃w:lC,w=(i,o,k):=⟨_,rfl⟩;obtain⟨p,s,mb,l,top,free,fl,f,hi0⟩:=h;have hqlt: ∀(j q:Nat)(z:Pkt)(d:Int),l[j]? =some (some (q,z),d)->q<H.length:=λj q z d hl=>(aOU.mp (hi0.pool.pool.hq j q z d hl)).1
  have hl1:H.length<H1.length:=by have:=g2.1;simp at this;omega
  have hi1:RI H1 a L n ports lanes p s mb l top free fl f:=hi0.Gj λb y hb _=>by
    have hlt:=(aOU.mp hb).1;rw[g2.2 b (by simp;omega) id,aOX hlt,hb]
  have hb0:H1[H.length]? =some (pkB pk0):=by rw[g2.2 H.length (by simp) id];simp
  obtain⟨WB,hWB⟩: ∃WB:Blk,WB= .cells [.int .i64 i,.int .i64 o,.int .i64 k] 256 .fix:=⟨_,rfl⟩;obtain⟨H5,hH5⟩: ∃H5,H5=H1++[pkB x]++[WB]:=⟨_,rfl⟩;have hst1:stN 4 (.pointer (some ⟨H1.length,0,none⟩)) x.dM (H1++[pkB pk0])=some (undef,H1++[pkB x]):=O4 H1 x;have hst2:=O6 (i,o,k) (H1++[pkB x]);simp only at hst2;rw[<-hWB,<-hH5] at hst2;have hi:RI H5 a L n ports lanes p s mb l top free fl f:=by rw[hH5];exact(hi1.app _).app _
  have hc5:Ch AR H H5:=by
    refine(Ch.app AR H [pkB pk0]).xQ ((Ch.ext g2).xQ ?_);rw[hH5,aO1];exact Ch.app _ _ _
  have at0:H5[H.length]? =some (pkB pk0):=by rw[hH5,aO1,aOX hl1,hb0]
  have at4:H5[H1.length]? =some (pkB x):=by rw[hH5,aO1,aPe (aOZ _)];simp
  have atW:H5[(H1++[pkB x]).length]? =some WB:=by rw[hH5,vU]
  have l0:=hi.ld0;have l1:=hi.ld1;have hldw:ldN 3 (.pointer (some ⟨(H1++[pkB x]).length,0,none⟩)) H5=some (nL (i,o,k),H5):=Ag (by rw[atW,hWB])
  -- the queue
  obtain⟨v,hf⟩: ∃v,f w=some v:=by
    cases hf:f w with
    |some v=>exact⟨v,rfl⟩
    |none=>
      have:=hi.no w hf;have h2:=O1 L w;rw[this,hw,hp] at h2;simp at h2
  have hg:=hi.mp.Cd wS w (.slice none 0 0);rw[hf] at hg;simp only[aPn] at hg;obtain⟨hr,hne⟩:=hi.yes w v hf;obtain⟨k0,ks,hq⟩: ∃k0 ks,qOf L w=k0::ks:=by
    cases hx:qOf L w with
    |nil=>exact absurd hx hne
    |cons a b=>exact⟨a,b,rfl⟩
  obtain⟨x',xs',hp',hin,hlen,hrest⟩:=Oy hq;rw[hw,hp] at hp';cases hp';rw[hq] at hr;obtain⟨bb,oo,a1,a2,a3⟩:=hr.T8 (i:=0) (x:=mX k0) rfl .i64;have a1':aR 1 v (.int .i64 0)=some (.pointer (some ⟨bb,oo,none⟩)):=a1;have hk0:mX k0= .int .i64 k0:=rfl;obtain⟨q0,d0,hslot⟩:=hi.full _ hin;obtain⟨H6,hd,hM6,hmore⟩:=hi.pool.aLd (pr:=pk8) (cL rfl) (cL rfl) (m:=m-1) (by omega) k0 (q0,x) d0 hslot
  have keep6:=hi.aAj hmore.same;have c6:Ch AR H5 H6:=⟨hmore.len,λb y hy hn'=>keep6 b y hy (λcs hh=>hn' (by rw[hh];exact .inl ⟨rfl,rfl⟩)) (λcs hh=>hn' (by rw[hh];exact .inr (.inl ⟨rfl,rfl⟩)))⟩
  have hd6:=keep6 _ _ hi.hd (λcs hh=>by cases hh) (λcs hh=>by cases hh)
  have l16:ld1 (.pointer (some ⟨a,1,none⟩)) H6=some (.map (some mb),H6):=by rw[kV,hd6];rfl
  have at06:=keep6 _ _ at0 (λcs hh=>by cases hh) (λcs hh=>by cases hh)
  have at46:=keep6 _ _ at4 (λcs hh=>by cases hh) (λcs hh=>by cases hh)
  have atW6:H6[(H1++[pkB x]).length]? =some WB:=keep6 _ _ atW (λcs hh=>by rw[hWB] at hh;cases hh) (λcs hh=>by rw[hWB] at hh;cases hh)
  have hldw6:ldN 3 (.pointer (some ⟨(H1++[pkB x]).length,0,none⟩)) H6=some (nL (i,o,k),H6):=Ag (by rw[atW6,hWB])
  have hm6:IsMap nL H6 mb f:=by
    obtain⟨es,c,e1,e2⟩:=hi.mp
    exact⟨es,c,keep6 _ _ e1 (λcs hh=>by cases hh) (λcs hh=>by cases hh),e2⟩
  have hq6: ∀w' v',f w'=some v'->RowO 3 H6 v' ((qOf L w').map mX):=λw' v' hf'=>by
    have:=(hi.yes w' v' hf').1;refine this.sT λb hb=> ?_
    obtain⟨ys,hys⟩:=this.blk hb;rw[hys,keep6 _ _ hys (λcs hh=>by cases hh) (λcs hh=>by cases hh)]
  have hg6:=hm6.Cd wS w (.slice none 0 0);rw[hf] at hg6;simp only[aPn] at hg6;have hr6:=hq6 w v hf;rw[hq] at hr6;obtain⟨v',hcut,hrow',hhome⟩:=RowO.aEH (P:=prog) (x:=mX k0) (cs:=ks.map mX) hr6 szI;obtain⟨X,hset,hm7,⟨xe,xc,hX⟩⟩:=hm6.aLl wS w v' (by rw[hf];simp)
  obtain⟨H7,hH7⟩: ∃H7,H7=H6.set mb X:=⟨_,rfl⟩;rw[<-hH7] at hset hm7;have hmb6: ∃es c,H6[mb]? =some (.map es c):=by
    obtain⟨es,c,e1,e2⟩:=hm6
    exact⟨_,_,e1⟩
  have k67: ∀(b:Nat)(cs:List Value)(e:TypeId)(kk:Kind),H6[b]? =some (.cells cs e kk)->H7[b]? =some (.cells cs e kk):=λb cs e kk hb=>by
    have hne:b≠mb:=λhh=>by
      subst hh;obtain⟨es,c,e1⟩:=hmb6;rw[hb] at e1;cases e1
    rw[hH7,pO hne,hb]
  have len7:H7.length=H6.length:=by rw[hH7];simp
  have l17:ld1 (.pointer (some ⟨a,1,none⟩)) H7=some (.map (some mb),H7):=by rw[kV,k67 _ _ _ _ hd6];rfl
  have hldw7:ldN 3 (.pointer (some ⟨(H1++[pkB x]).length,0,none⟩)) H7=some (nL (i,o,k),H7):=Ag (by rw[hWB] at atW6;rw[k67 _ _ _ _ atW6])
  have hg7:=hm7.Cd wS w (.slice none 0 0);have hupd:upd f w (some v') w=some v':=by unfold upd;rw[if_pos rfl]
  rw[hupd] at hg7;simp only[aPn] at hg7;have hlen':=hrow'.Jy;have c7:Ch AR H6 H7:=by
    obtain⟨es,c,e1⟩:=hmb6;rw[hH7];exact Ch.T7 e1 trivial _
  -- the ending: from a heap H8 that is H7 but for the map
  have fin: ∀(H8:aC)(f8:lC->Option Value),Ch AR H7 H8->(∀(b:Nat)(cs:List Value)(e:TypeId)(kk:Kind),H6[b]? =some (.cells cs e kk)->H8[b]? =some (.cells cs e kk))->H6.length<=H8.length->IsMap nL H8 mb f8->
      (∀w',w'≠w->f8 w'=f w')->(f8 w=some v'/\ks≠[]∨f8 w=none/\ks=[])->
      ldN 4 (.pointer (some ⟨H1.length,0,none⟩)) H8=some (x.dM,H8)/\stN 4 (.pointer (some ⟨H.length,0,none⟩)) x.dM H8=some (undef,H8.set H.length (pkB x))/\ldN 4 (.pointer (some ⟨H.length,0,none⟩)) (H8.set H.length (pkB x))=some (x.dM,H8.set H.length (pkB x))/\Ch AR H (H8.set H.length (pkB x))/\IsRings (H8.set H.length (pkB x)) a (nU L w) n ports lanes:=by
    intro H8 f8 c8 k68 hl8 hm8 hoth hself;have at48:=k68 _ _ _ _ at46;have at08:=k68 _ _ _ _ at06;have at08':H8[H.length]? =some (pkB pk0):=at08;have hlt8:=(aOU.mp at08).1;refine⟨wT at48,O5 at08',wT (aO0 hlt8),?_,?_⟩
    · refine⟨by simp;omega,λb y hy hn'=> ?_⟩
      have hltb:=(aOU.mp hy).1;rw[pO (by omega)]
      exact(((hc5.xQ c6).xQ c7).xQ c8).2 b y hy hn'
    · have hRI:RI H8 a (nU L w) n ports lanes p s mb (l.set k0 (none,top)) k0 (free+1) (k0::fl) f8:=by
        refine⟨k68 _ _ _ _ hd6,hM6.aAg λb cs e kk hb _=>k68 b cs e kk hb,by simp[hi.len],by have:=hi.cnt;simp;omega,?_,?_,hm8,?_,?_,?_,hi.b1,hi.b2⟩
        · exact(List.Sublist.map _ (List.eraseP_sublist)).nodup hi.nd
        · intro e he
          obtain⟨h1,h2⟩:=hrest e he;obtain⟨q',d',hs⟩:=hi.full e h1
          exact⟨q',d',by rw[aOV (λhh=>h2 hi.nd hh.symm),hs]⟩
        · intro w' hw'
          by_cases hww:w'=w
          · subst hww
            rw[Cg,if_pos rfl,hq];rcases hself with⟨h1,_⟩|⟨_,h2⟩
            · rw[h1] at hw';cases hw'
            · exact h2
          · rw[hoth w' hww] at hw'
            rw[Cg,if_neg (λhh=>hww hh.symm)]
            exact hi.no w' hw'
        · intro w' u hw'
          by_cases hww:w'=w
          · subst hww
            rw[Cg,if_pos rfl,hq];rcases hself with⟨h1,h2⟩|⟨h1,_⟩
            · rw[h1] at hw'
              cases hw';refine⟨hrow'.sT λb hb=> ?_,h2⟩
              obtain⟨ys,hys⟩:=hrow'.blk hb;rw[hys,k68 _ _ _ _ hys]
            · rw[h1] at hw';cases hw'
          · rw[hoth w' hww] at hw'
            rw[Cg,if_neg (λhh=>hww hh.symm)]
            refine⟨(hq6 w' u hw').sT λb hb=> ?_,(hi.yes w' u hw').2⟩
            obtain⟨ys,hys⟩:=(hq6 w' u hw').blk hb;rw[hys,k68 _ _ _ _ hys]
        · intro w1 w2 v1 v2 b hf1 hf2 hne' hh1 hh2
          by_cases e1:w1=w
          · rw[hoth w2 (λhh=>hne' (e1.trans hh.symm))] at hf2
            rw[e1] at hf1;rcases hself with⟨h1,_⟩|⟨h1,_⟩
            · rw[h1] at hf1
              cases hf1;exact hi.sep w w2 v v2 b hf hf2 (by rw[<-e1];exact hne') (hhome b hh1) hh2
            · rw[h1] at hf1;cases hf1
          · rw[hoth w1 e1] at hf1
            by_cases e2:w2=w
            · rw[e2] at hf2
              rcases hself with⟨h1,_⟩|⟨h1,_⟩
              · rw[h1] at hf2
                cases hf2;exact hi.sep w1 w v1 v b hf1 hf e1 hh1 (hhome b hh2)
              · rw[h1] at hf2;cases hf2
            · rw[hoth w2 e2] at hf2
              exact hi.sep w1 w2 v1 v2 b hf1 hf2 hne' hh1 hh2
      refine⟨_,_,_,_,_,_,_,_,hRI.aLu at08' λj q z d hl=> ?_⟩
      by_cases hj:k0=j
      · subst hj
        have hlt:=(aOU.mp hslot).1;rw[aO0 hlt] at hl;cases hl
      · rw[aOV hj] at hl
        have:=hqlt j q z d hl;omega
  rw[hw] at hg hg6 hset hg7;cases hks:ks with
  |nil=>
    subst hks;have e1:((([]:List Nat).map mX).length:Int)=0:=rfl;have e2:((((([]:List Nat).map mX).length:Nat):Int)==0)=true:=rfl;obtain⟨X8,hdel,hm8,⟨ye,yc,hX8⟩⟩:=hm7.aLi wS w (by rw[hupd];simp)
    have hmb7: ∃es c,H7[mb]? =some (.map es c):=by
      obtain⟨es,c,e1,e2⟩:=hm7
      exact⟨_,_,e1⟩
    obtain⟨r1,r2,r3,r4,r5⟩:=fin (H7.set mb X8) _ (by
      obtain⟨es,c,e1⟩:=hmb7;exact Ch.T7 e1 trivial _) (λb cs e kk hb=>by
        have h7:=k67 b cs e kk hb;have hne:b≠mb:=λhh=>by
          subst hh;obtain⟨es,c,e1⟩:=hmb7;rw[h7] at e1;cases e1
        rw[pO hne,h7]) (by simp[len7]) hm8 (λw' hww=>by simp[upd,hww]) (.inr ⟨by simp[upd],rfl⟩)
    rw[hw] at hdel r5;refine⟨_,dF (cL rfl) (by omega) ?_,r4,r5⟩
    rw[Oi];simp -implicitDefEqProofs only[yH,x_newB,g1,ext_0,ext_1,hst1,bW,hst2,r_nil,r_fAddr,aPf,l0,l1,hldw,hg,a1',a3 H5 rfl,hk0,hd,l16,hldw6,hg6,hcut,hset,l17,hldw7,hg7,hlen',b_eql,e2,hdel,r1,r2,r3,r_opt,ob_some,ifB_true,iteV_true,oneOf_two]
  |cons k1 ks1=>
    subst hks;have e2:(((((k1::ks1).map mX).length:Nat):Int)==0)=false:=by simp;omega
    obtain⟨r1,r2,r3,r4,r5⟩:=fin H7 _ (Ch.aEF _ _) k67 (by omega) hm7 (λw' hww=>by simp[upd,hww]) (.inl ⟨hupd,by simp⟩)
    rw[hw] at r5;refine⟨_,dF (cL rfl) (by omega) ?_,r4,r5⟩
    rw[Oi];simp -implicitDefEqProofs only[yH,x_newB,g1,ext_0,ext_1,hst1,bW,hst2,r_nil,r_fAddr,aPf,l0,l1,hldw,hg,a1',a3 H5 rfl,hk0,hd,l16,hldw6,hg6,hcut,hset,l17,hldw7,hg7,hlen',b_eql,e2,r1,r2,r3,r_opt,ob_some,ifB_true,iteV_true,iteV_false,oneOf_two]
end
section
variable {H : aC} {a n ports lanes m : Nat} {L : List En}
theorem aLy (h:IsRings H a L n ports lanes)(hm:100<m)(w:lC)(x:Pkt): ∃H' L',lvl prog pk8 m (.func 98) [.pointer (some ⟨a,0,none⟩),.int .i64 w.1,.int .i64 w.2.1,.int .i64 w.2.2,x.dM] H=some (.bool (rH w ports lanes&&decide (L.length<n)),H')/\Ch AR H H'/\IsRings H' a L' n ports lanes/\
  ((rH w ports lanes&&decide (L.length<n))=true/\(∃k,L'=L++[(w,k,x)])∨(rH w ports lanes&&decide (L.length<n))=false/\L'=L):=by
 by_cases hv:(rH w ports lanes&&decide (L.length<n))=true
 ·rw[aO2,decide_eq_true_eq] at hv
  obtain⟨H',k,g1,g2,g3⟩:=aLt h hm w x hv.1 hv.2;rw[hv.1,aPD hv.2]
  exact⟨H',_,g1,g2,g3,.inl ⟨rfl,k,rfl⟩⟩
 ·have hf:(rH w ports lanes&&decide (L.length<n))=false:=by simpa using hv
  obtain⟨H',g1,g2⟩:=aLs h hm w x (by
   rw[Bool.and_eq_false_iff] at hf;exact hf.imp id λh=>by have:=of_decide_eq_false h;omega)
  rw[hf];have hc:Ch AR H H':=Ch.ext g2;obtain⟨p,s,mb,l,top,free,fl,f,hi⟩:=h
  exact⟨H',L,g1,hc,⟨p,s,mb,l,top,free,fl,f,hi.Gj λb x hx _=>by rw[g2.2 b (aOU.mp hx).1 id,hx]⟩,.inr ⟨rfl,rfl⟩⟩
theorem IsRings.ext {H':aC}(h:IsRings H a L n ports lanes)(he:Ext H H'):IsRings H' a L n ports lanes:=by
 obtain⟨p,s,mb,l,top,free,fl,f,hi⟩:=h
 exact⟨p,s,mb,l,top,free,fl,f,hi.Gj λb x hx _=>by rw[he.2 b (aOU.mp hx).1 id,hx]⟩
theorem aLx (h:IsRings H a L n ports lanes)(hm:100<m)(w:lC): ∃H',lvl prog pk8 m (.func 106) [.pointer (some ⟨a,0,none⟩),.int .i64 w.1,.int .i64 w.2.1,.int .i64 w.2.2] H=some (u6 (oF L w),H')/\Ch AR H H'/\IsRings H' a (nU L w) n ports lanes:=by
 cases hp:oF L w with
 |nil=>
  obtain⟨H',g1,g2⟩:=aLv h hm w.1 w.2.1 w.2.2 hp;have hL:nU L w=L:=by
   unfold nU;apply List.eraseP_of_forall_not;intro e he hd;have:e∈L.filter λe=>decide (e.1=w):=List.mem_filter.mpr ⟨he,hd⟩
   have hl:(oF L w).length=0:=by rw[hp];rfl
   unfold oF at hl;rw[aO8] at hl;rw[aPc.mp hl] at this;cases this
  rw[hL]
  exact⟨H',g1,Ch.ext g2,h.ext g2⟩
 |cons x xs=>
  obtain⟨H',g1,g2,g3⟩:=aLw h hm w.1 w.2.1 w.2.2 hp
  exact⟨H',g1,g2,g3⟩
end
end Go.Proofs.YtkeilicinggjmaaGreatDoor.Rg
namespace Go.Proofs.YtkeilicinggjmaaGreatDoor
open Go.Proofs.Tryz
open Go.Abs
def u7 (L:List Rg.En):List (Go.Abs.iA×Pkt):=L.map λe=>(e.1,e.2.2)
theorem aAk (L:List Rg.En)(w:Go.Abs.iA):Rg.oF L w=lU (u7 L) w:=by
 unfold Rg.oF lU u7;induction L with
 |nil=>rfl
 |cons e L ih=>
  rw[aPp,List.filter_cons,List.filter_cons];by_cases h:e.1=w
  ·simp only[h,decide_true,if_true,aPp]
   rw[ih]
  ·simp only[h,decide_false]
   exact ih
theorem aLz (L:List Rg.En)(w:Go.Abs.iA):u7 (Rg.nU L w)=oM (u7 L) w:=by
 unfold Rg.nU oM u7;induction L with
 |nil=>rfl
 |cons e L ih=>
  rw[aPp,List.eraseP_cons,List.eraseP_cons];by_cases h:e.1=w
  ·simp only[h,decide_true,if_true,cond_true]
  ·simp only[h,decide_false,cond_false,aPp]
   rw[ih]
def RingsN (D:aC)(a:Nat)(L:List (Go.Abs.iA×Pkt))(cap ports lanes:Nat):Prop:= ∃Le:List Rg.En,Rg.IsRings D a Le cap ports lanes/\u7 Le=L
theorem aLD (w:Go.Abs.iA)(ports lanes:Nat):Rg.rH w ports lanes=B7 w ports lanes:=by
 unfold Rg.rH B7;rw[Bool.eq_iff_iff];simp only[aO2,decide_eq_true_eq];omega
section
variable {D : aC} {m a cap ports lanes : Nat} {L : List (Go.Abs.iA × Pkt)}
theorem RingsN.ext {D':aC}(h:RingsN D a L cap ports lanes)(he:Ext D D'):RingsN D' a L cap ports lanes:=by
 obtain⟨Le,h1,h2⟩:=h
 exact⟨Le,h1.ext he,h2⟩
theorem aLB (hm:300<m)(po la sl:Nat)(h:1<=po/\po<=16/\1<=la/\la<=3/\1<=sl/\sl<=200): ∃a H',lvl prog pkN m (.func 41) [.int .i64 po,.int .i64 la,.int .i64 sl] D=some (.pointer (some ⟨a,0,none⟩),H')/\RingsN H' a [] sl po la/\Ext D H'/\D.length<=a:=by
 obtain⟨a,H',h1,h2,h3,h4⟩:=Rg.aLr (H:=D) hm po la sl h
 exact⟨a,H',h1,⟨[],h3,rfl⟩,h2,h4⟩
theorem aLA (h:RingsN D a L cap ports lanes)(hm:0<m)(i o k:Int):lvl prog pkN m (.func 96) [.pointer (some ⟨a,0,none⟩),.int .i64 i,.int .i64 o,.int .i64 k] D=some (.int .i64 (lU L (i,o,k)).length,D):=by
 obtain⟨Le,h1,rfl⟩:=h;rw[<-aAk,<-Rg.O1];exact Rg.aLq h1 hm i o k
theorem aAl (h:RingsN D a L cap ports lanes)(hm:100<m)(w:Go.Abs.iA)(x:Pkt): ∃r H',lvl prog pkN m (.func 98) [.pointer (some ⟨a,0,none⟩),.int .i64 w.1,.int .i64 w.2.1,.int .i64 w.2.2,x.dM] D=some (r,H')/\RingsN H' a (if B7 w ports lanes=true/\L.length<cap then L++[(w,x)] else L) cap ports lanes:=by
 obtain⟨Le,h1,rfl⟩:=h;have hl:(u7 Le).length=Le.length:=by simp[u7]
 obtain⟨H',L',g1,g2,g3,g4⟩:=Rg.aLy h1 hm w x;rw[aLD,aO2,decide_eq_true_eq] at g4;refine⟨_,H',g1,⟨L',g3,?_⟩⟩;rw[hl];rcases g4 with⟨hv,k,rfl⟩|⟨hv,rfl⟩
 ·rw[if_pos hv]
  simp[u7]
 ·rw[if_neg (by intro hh;rw[hh.1,aPD hh.2] at hv;cases hv)]
theorem aLC (h:RingsN D a L cap ports lanes)(hm:100<m)(i o k:Int): ∃H',lvl prog pkN m (.func 106) [.pointer (some ⟨a,0,none⟩),.int .i64 i,.int .i64 o,.int .i64 k] D=some (Rg.u6 (lU L (i,o,k)),H')/\RingsN H' a (oM L (i,o,k)) cap ports lanes:=by
 obtain⟨Le,h1,rfl⟩:=h;obtain⟨H',g1,g2,g3⟩:=Rg.aLx h1 hm (i,o,k);rw[<-aAk,<-aLz]
 exact⟨H',g1,_,g3,rfl⟩
end
section
variable {D : aC} {m a lanes queue : Nat} {L G : List Pkt} {w0 w1 w2 cv : Value}
theorem aLJ:bld prog 54 []=some pk0.dM:=rfl
theorem Gk {H:aC}{b:Nat}{y:Pkt}(x:Pkt)(hb:H[b]? =some (eF y)):stN 4 (.pointer (some ⟨b,0,none⟩)) x.dM H=some (undef,H.set b (eF x)):=zW hb (by decide) rfl rfl (aOZ 4) rfl
theorem aLE:prog.cellsOf 54=4:=by kernel_rfl
theorem aLH (h:HostI D a L G lanes queue w0 w1 w2 cv)(hm:3<m)(k:Nat)(hk:k<lanes)(hw:gP L k=[]): ∃H',lvl prog pkN m (.func 97) [.pointer (some ⟨a,0,none⟩),.int .i64 k] D=some (.tuple #[pk0.dM,.bool false],H')/\HostAt H' a L G lanes queue:=by
 refine lK (cL rfl) (by omega) ?_
 rw[Yu];obtain⟨u0,u1,u2,cu,h'⟩:HostAt (D++[eF pk0]) a L G lanes queue:=HostAt.ext ⟨w0,w1,w2,cv,h⟩ (Fr.app _ _ _);have e0: ∀H:aC,H++[Blk.cells [Value.int .i64 0,.int .i64 0,.int .i64 0,.int .u32 0] 54 .fix]=H++[eF pk0]:=λ_=>rfl
 have e1:=Zj h' (m:=m-1) (by omega) k hk
 rw[hw] at e1;have st:stN 4 (.pointer (some ⟨D.length,0,none⟩)) pk0.dM (D++[eF pk0])=some (undef,D++[eF pk0]):=by
  rw[Gk pk0 (dJ _ _),nG]
 have l4:=(pX (dJ D (eF pk0))).2;have c1:((([]:List Pkt).length:Int)==0)=true:=rfl;simp only[gsR,e0,e1,c1,aLJ,st,l4]
 exact⟨_,rfl,_,_,_,_,h'⟩
theorem HostI.ext {D':aC}(h:HostI D a L G lanes queue w0 w1 w2 cv)(he:Ext D D'):HostI D' a L G lanes queue w0 w1 w2 cv:=
 ⟨by rw[he.2 a (dE h.blk) id,h.blk],h.lanes,h.queue,λk hk=>(h.q k hk).ext he,h.came.ext he,h.apart,h.apartC⟩
theorem aLI (h:HostI D a L G lanes queue w0 w1 w2 cv)(hm:3<m)(k:Nat)(hk:k<lanes){x:Pkt}{xs:List Pkt}(hw:gP L k=x::xs): ∃H',lvl prog pkN m (.func 97) [.pointer (some ⟨a,0,none⟩),.int .i64 k] D=some (.tuple #[x.dM,.bool true],H')/\HostAt H' a (pT L k) G lanes queue:=by
 have h3:k<3:=aO9 hk h.lanes.2;refine lK (cL rfl) (by omega) ?_
 rw[Yu];have e0: ∀H:aC,H++[Blk.cells [Value.int .i64 0,.int .i64 0,.int .i64 0,.int .u32 0] 54 .fix]=H++[eF pk0]:=λ_=>rfl
 obtain⟨D1,hD1⟩: ∃D1,D1=D++[eF pk0]:=⟨_,rfl⟩;obtain⟨D3,hD3⟩: ∃D3,D3=D1++[eF x]:=⟨_,rfl⟩;have h1l:D1.length=D.length+1:=by rw[hD1];simp
 have i1:HostI D1 a L G lanes queue w0 w1 w2 cv:=h.ext (by rw[hD1];exact Fr.app _ _ _)
 have i3:HostI D3 a L G lanes queue w0 w1 w2 cv:=i1.ext (by rw[hD3];exact Fr.app _ _ _)
 have e1:=Zj i1 (m:=m-1) (by omega) k hk
 rw[hw] at e1;have c1:(((x::xs).length:Int)==0)=false:=by simp;omega
 have e2:=Ga 3 1 a 0 .i64 k h3;rw[Nat.mul_one,aPf] at e2;have q1:=i1.q k h3;rw[hw] at q1;obtain⟨b,o,a1,_,a3⟩:=q1.rs.iG Ad (i:=0) (x:=x) rfl .i64;have a1:aR 4 (w3 w0 w1 w2 k) (.int .i64 0)=some (.pointer (some ⟨b,o,none⟩)):=a1;have a3:=(a3 D1 rfl).1;have a3':ldN 4 (.pointer (some ⟨b,o,none⟩)) D1=some (x.dM,D1):=a3;have st0:stN 4 (.pointer (some ⟨D1.length,0,none⟩)) x.dM (D1++[eF pk0])=some (undef,D3):=by
  rw[Gk x (dJ _ _),nG,hD3]
 have q3:=i3.q k h3;rw[hw] at q3;obtain⟨v',g1,g2,g3⟩:=q3.aKs (P:=prog) Ad aLE;have g1:=g1 D3 q3;have st1:stN 1 (.pointer (some ⟨a,k,none⟩)) v' D3=some (undef,D3.set a (.cells (([w0,w1,w2,cv,.int .i64 lanes,.int .i64 queue]:List Value).set k v') 167 .fix)):=tC i3.blk (by decide) (by simp;omega) g2.Ac.1 g2.Ac.2
 obtain⟨Y,hY⟩: ∃Y,Y=Blk.cells (([w0,w1,w2,cv,.int .i64 lanes,.int .i64 queue]:List Value).set k v') 167 .fix:=⟨_,rfl⟩;rw[<-hY] at st1;have hal:a<D.length:=dE h.blk;have b12:(D3.set a Y)[D1.length]? =some (eF x):=by rw[aOV (by omega),hD3,dJ]
 have b00:(D3.set a Y)[D.length]? =some (eF pk0):=by rw[aOV (by omega),hD3,hD1,aOX (by simp),dJ]
 have l12:=(pX b12).2;have st2:stN 4 (.pointer (some ⟨D.length,0,none⟩)) x.dM (D3.set a Y)=some (undef,(D3.set a Y).set D.length (eF x)):=zW b00 (by decide) rfl rfl (aOZ 4) rfl
 have l00:=(pX (iE (y:=eF x) b00)).2;simp only[gsR,e0,<-hD1,e1,c1,e2,Cc i1 h3,a1,a3',st0,Cc i3 h3,g1,st1,l12,st2,l00];refine⟨_,rfl,?_⟩;have hE:(D3.set a Y).set D.length (eF x)=(D++[eF x]++[eF x]).set a Y:=by
  rw[List.set_comm _ _ (by omega),hD3,hD1]
  congr 1
  simp
 rw[hE,hY];have he1:Ext D (D++[eF x]):=Fr.app _ _ _;have he:Ext D (D++[eF x]++[eF x]):=he1.tr (Fr.app _ _ _);have q0:=h.q k h3;rw[hw] at q0;refine h.Zk h3 (he.Bb λ_ h=>h.elim) ?_ (λb hb=> .inl (g3 b hb)) λj hj hjk=> ?_
 ·rw[Gb,if_pos rfl,hw]
  refine g2.yG λb hb=> ?_
  have hb2:=(h.q k h3).wR (g3 b hb);rw[hD3,hD1,aO1,aOX hb2,aO1,aOX hb2]
 ·rw[Gb,if_neg (by omega)]
theorem aLL (b o n c:Nat):bin prog .eql 69 (.slice (some ⟨b,o,none⟩) n c) (.slice none 0 0)=some (.bool false):=by
 have h1:prog.underlying 69=some (.slice 54):=by kernel_rfl
 simp[bin,eC,o9,nY,eqV,h1]
theorem aLK:bin prog .eql 69 (.slice none 0 0) (.slice none 0 0)=some (.bool true):=by
 have h1:prog.underlying 69=some (.slice 54):=by kernel_rfl
 simp[bin,eC,o9,nY,eqV,h1]
theorem aLF {v:Value}{xs:List Pkt}(hx:Rs Pkt.oZ 54 D v xs)(hr:j7 xs.length 32=true)(hm:0<m): ∃H' u,lvl prog pkN m (.func 91) [v] D=some (u,H')/\Ext D H'/\Rw Pkt.oZ 54 4 H' u xs/\New D u:=by
 rcases hx with⟨rfl,rfl⟩|⟨b,o,c,hv,hlc,hx2⟩
 ·refine⟨D,.slice none 0 0,dF (cL rfl) hm ?_,Fr.nC _ _,Rw.lQ,New.nP _⟩
  rw[Ys];simp only[gsR,aLK]
 ·have b0:dL 54 4 0 [.int .i64 0,.int .i64 0,.int .i64 0,.int .u32 0] [] D=some (.slice (some ⟨D.length,0,none⟩) 0 0,D++[.cells [] 54 .row]):=rfl
  have h0:Rw Pkt.oZ 54 4 (D++[.cells [] 54 .row]) (.slice (some ⟨D.length,0,none⟩) 0 0) []:=⟨rfl,.inr ⟨D.length,0,[],rfl,aOZ _,rfl,by simp⟩⟩
  have hx:Rs Pkt.oZ 54 D v xs:= .inr ⟨b,o,c,hv,hlc,hx2⟩;obtain⟨u,H',g1,g2,g3,g4⟩:=h0.vY Ad Oe (by decide) (by':=32) (H0:=D) (hx.ext (Fr.app _ _ _)) (λb ⟨_,_,_,h⟩=>by cases h;exact aOZ _) (Fr.app _ _ _) (by simpa using hr)
  refine jJ (cL rfl) hm ⟨H',u,?_,g4,g2,g3⟩;subst hv;rw[Ys];simp only[gsR,aLL,b0,g1]
theorem aLG (h:HostI D a L G lanes queue w0 w1 w2 cv)(hm:1<m)(hr:j7 G.length 32=true): ∃H' v,lvl prog pkN m (.func 46) [.pointer (some ⟨a,0,none⟩)] D=some (v,H')/\Ext D H'/\Rw Pkt.oZ 54 4 H' v G/\New D v:=by
 obtain⟨H',u,g1,g2⟩:=aLF (D:=D) (m:=m-1) h.came.rs hr (by omega)
 refine jJ (cL rfl) (by omega) ⟨H',u,?_,g2⟩
 rw[aJx];have l3:ld1 (.pointer (some ⟨a,3,none⟩)) D=some (cv,D):=cZ h.blk rfl;simp only[gsR,l3,g1]
end
def eE (b n:Nat):Value:= .slice (some ⟨b,0,none⟩) n n
section
variable {H : aC} {m : Nat}
theorem aAn:prog.underlying 116=some (.int .u64):=by kernel_rfl
theorem aLM (hm:1<m)(n:Nat)(hn:n<=16):lvl prog pkN m (.func 145) [.int .u64 1,.int .u64 n] H=some (.tuple #[.int .u64 0,.int .u64 n],H):=by
 have main:lvl prog pkN (m-1) (.func 177) [.int .u64 1,.int .u64 n] H=some (.tuple #[.int .u64 0,.int .u64 n],H):=by
  refine dF (cL rfl) (by omega) ?_
  rw[aJo];have p1:bin prog .and 55 (.int .u64 1) (.int .u64 4294967295)=some (.int .u64 1):=by kernel_rfl
  have p2:bin prog .shr 55 (.int .u64 1) (.int .u64 32)=some (.int .u64 0):=by kernel_rfl
  have p3:bin prog .and 55 (.int .u64 n) (.int .u64 4294967295)=some (.int .u64 n):=by
   have:=xV (P:=prog) .u64 rfl 55 (a:=n) (b:=4294967295) (by show _<18446744073709551616;omega) (by show _<18446744073709551616;omega)
   rw[show n&&&4294967295=n by rw[show(4294967295:Nat)=2 ^ 32-1 from rfl,Nat.and_two_pow_sub_one_eq_mod];exact aPs (by omega)] at this
   exact this
  have p4:bin prog .shr 55 (.int .u64 n) (.int .u64 32)=some (.int .u64 0):=by
   have:=xX (P:=prog) .u64 .u64 55 n 32 (by decide)
   rw[Nat.shiftRight_eq_div_pow,Nat.div_eq_of_lt (by omega)] at this
   exact this
  have q1:IntKind.u64.wrap (1*(n:Int))=n:=by rw[Int.one_mul];exact zU n (by omega)
  have q2:IntKind.u64.wrap (0*(n:Int))=0:=by rw[Int.zero_mul];rfl
  have q3:IntKind.u64.wrap (0+0)=0:=rfl;have q4:IntKind.u64.wrap (1*0)=0:=rfl;have q5:IntKind.u64.wrap (0*0)=0:=rfl;have p5:bin prog .and 55 (.int .u64 0) (.int .u64 4294967295)=some (.int .u64 0):=by kernel_rfl
  have p6:bin prog .shr 55 (.int .u64 0) (.int .u64 32)=some (.int .u64 0):=by kernel_rfl
  simp only[gsR,p1,p2,p3,p4,qC,q1,q2,cC,q3,q4,q5,p5,p6]
 refine dF (cL rfl) (by omega) ?_
 rw[aJg];simp only[gsR,main]
def lW (n k:Nat):Blk:= .cells (List.replicate k (.int .i64 (-1))++List.replicate (n-k) (.int .i64 0)) 3 .row
theorem aLN (k:Nat):dZ (List.replicate k (Value.int .i64 (-1)))=true:=by
 unfold dZ;rw[List.all_replicate]
 split<;>rfl
theorem aAm {n k j:Nat}(hj:k+j<=n):eT (List.replicate k (Value.int .i64 (-1))++List.replicate (n-k) (.int .i64 0)) k (List.replicate j (.int .i64 (-1)))=List.replicate (k+j) (.int .i64 (-1))++List.replicate (n-(k+j)) (.int .i64 0):=by
 have:=vX (List.replicate j (Value.int .i64 (-1))) (List.replicate j (.int .i64 0)) (List.replicate k (Value.int .i64 (-1))) (List.replicate (n-(k+j)) (.int .i64 0)) (by simp)
 rw[List.length_replicate] at this;rw[show List.replicate (n-k) (Value.int .i64 0)=List.replicate j (.int .i64 0)++List.replicate (n-(k+j)) (.int .i64 0) by rw[List.replicate_append_replicate];congr 1;omega]
 rw[<-aO1,this,List.replicate_append_replicate]
theorem aLO {n k:Nat}(G:aC)(hk:k<=n)(h1:1<=k)(c:Nat):cpy 1 (.slice (some ⟨G.length,k,none⟩) (n-k) c) (.slice (some ⟨G.length,0,none⟩) k n) (G++[lW n k])=some (.int .i64 (min k (n-k):Nat),G++[lW n (k+min k (n-k))]):=by
 have hb:(G++[lW n k])[G.length]? =some (lW n k):=dJ _ _;have hs:jE 1 (.slice (some ⟨G.length,0,none⟩) k n) (min k (n-k)) (G++[lW n k])=some (List.replicate (min k (n-k)) (.int .i64 (-1))):=by
  unfold jE;by_cases h0:min k (n-k)=0
  ·simp[h0]
  ·simp only
   rw[if_neg h0,hb];unfold lW;simp only;rw[if_pos (by simp;omega)]
   congr 1
   rw[List.drop_zero,List.take_append_of_le_length (by simp;omega),List.take_replicate]
   congr 1
   omega
 unfold cpy;have h2:mP (.slice (some ⟨G.length,0,none⟩) k n)=some k:=rfl;rw[h2];simp only;rw[hs];simp only;rw[hb];unfold lW;simp only;rw[if_pos ⟨by decide,by simp;omega,aLN _⟩,aAm (by omega),nG]
theorem aLQ {n:Nat}(hn:n<=16){G:aC}: ∀(q k l:Nat),n-k=q->k<=n->1<=k->q<l-> ∀(x0 x1 x2 x3 x4 x5 x6 x9 bK bN bC aO aP aM aS bI aN bG bJ bL bH bE aT aU aV aW aX aY aZ bA bB bO bP bQ bR bS bT bU bV bX bY cD cG cH cK cQ:Value),
  aI l (aK prog (lvl prog pkN m) (aI m) Ml) (Mm (lvl prog pkN m) (aI m)) [x0,x1,x2,x3,x4,x5,x6,(eE G.length n),(.int .i64 (k:Nat)),x9,bK,bN,bC,aO,aP,aM,aS,bI,aN,bG,bJ,bL,bH,bE,aT,aU,aV,aW,aX,aY,aZ,bA,bB,bO,bP,bQ,bR,bS,bT,bU,bV,bX,bY,cD,cG,cH,cK,cQ] (G++[lW n k])=some (eE G.length n,G++[lW n n]):=by
 intro q;induction q using Nat.strongRecOn with
 |ind q ih=>
  intro k l hq hk h1 hl;intros;obtain⟨l,rfl⟩: ∃l',l=l'+1:=⟨l-1,by omega⟩
  have e1:bM (eE G.length n)=some (.int .i64 n):=rfl;rw[aI,aIK];by_cases hc:k=n
  ·subst hc
   have c1:decide ((k:Int)<(k:Int))=false:=by simp
   simp only[gsR,e1,c1];rw[aIO];simp only[gsR]
  ·have c1:decide ((k:Int)<(n:Int))=true:=by rw[decide_eq_true_eq];omega
   have hb:(G++[lW n k])[G.length]? =some (lW n k):=dJ _ _;have s1:slc prog 1 (eE G.length n) (some (.int .i64 (k:Nat))) none none (G++[lW n k])=some (.slice (some ⟨G.length,k,none⟩) (n-k) (n-k),G++[lW n k]):=by
    have:=uR (P:=prog) (sz:=1) (b:=G.length) (o:=0) (len:=n) (cap:=n) (lo:=some (.int .i64 (k:Nat))) (hi:=none) (mx:=none) hb (λ_=>by kernel_rfl) (oA 0 .i64 k) rfl rfl hk (aOZ _) (aOZ _)
    rw[aPf,Nat.mul_one] at this;exact this
   have s2:slc prog 1 (eE G.length n) none (some (.int .i64 (k:Nat))) none (G++[lW n k])=some (.slice (some ⟨G.length,0,none⟩) k n,G++[lW n k]):=by
    have:=uR (P:=prog) (sz:=1) (b:=G.length) (o:=0) (len:=n) (cap:=n) (lo:=none) (hi:=some (.int .i64 (k:Nat))) (mx:=none) hb (λ_=>by kernel_rfl) rfl (oA n .i64 k) rfl (Nat.zero_le _) hk (aOZ _)
    rw[Nat.zero_mul] at this;exact this
   have s3:=aLO G hk h1 (n-k);have e4:IntKind.i64.wrap ((k:Int)+((min k (n-k):Nat):Int))=((k+min k (n-k):Nat):Int):=by rw[dG (by omega) (by omega)];omega
   simp only[gsR,e1,c1,s1,s2,s3,cC,e4];exact ih (n-(k+min k (n-k))) (by omega) (k+min k (n-k)) l rfl (by omega) (by omega) (by omega) ..
theorem aLP (hm:40<m)(n:Nat)(h1:1<=n)(hn:n<=16){b c:Nat}{e:TypeId}{kk:Kind}(hb:H[b]? =some (.cells [.int .i64 (-1)] e kk)):lvl prog pkN m (.func 100) [.slice (some ⟨b,0,none⟩) 1 c,.int .i64 n] H=some (eE H.length n,H++[lW n n]):=by
 refine dF (cL rfl) (by omega) ?_
 rw[aIP];have c1:decide ((n:Int)<0)=false:=by rw[decide_eq_false_iff_not];omega
 have c2:decide ((0:Int)<0)=false:=rfl;have c3:decide ((9223372036854775807:Int)<(n:Int))=false:=by rw[decide_eq_false_iff_not];omega
 have e0:bM (.slice (some ⟨b,0,none⟩) 1 c)=some (.int .i64 1):=rfl;have e1:IntKind.u64.wrap (1:Int)=1:=rfl;have e2:IntKind.u64.wrap (n:Int)=n:=zU n (by omega)
 have e3:=aLM (H:=H) (m:=m-1) (by omega) n hn
 have x0:ext 0 (.tuple #[.int .u64 0,.int .u64 n])=some (.int .u64 0):=rfl;have x1:ext 1 (.tuple #[.int .u64 0,.int .u64 n])=some (.int .u64 n):=rfl;have e4:IntKind.i64.wrap (n:Int)=n:=zV n (by omega)
 have mk:=xN (H:=H) 3 1 8 [.int .i64 0] .i64 .i64 (n:Int) (by omega) (by omega) (by omega) rfl
 have hz:H++[Blk.cells (List.replicate (n:Int).toNat [Value.int .i64 0]).flatten 3 .row]=H++[lW n 0]:=by
  have: ∀n,(List.replicate n [Value.int .i64 0]).flatten=List.replicate n (.int .i64 0):=by
   intro n;induction n with
   |zero=>rfl
   |succ n ih=>rw[List.replicate_succ,aPu,ih];rfl
  rw[aPm,this];rfl
 rw[hz,aPm] at mk;have cp:cpy 1 (.slice (some ⟨H.length,0,none⟩) n n) (.slice (some ⟨b,0,none⟩) 1 c) (H++[lW n 0])=some (.int .i64 (1:Nat),H++[lW n 1]):=by
  have hs:jE 1 (.slice (some ⟨b,0,none⟩) 1 c) 1 (H++[lW n 0])=some [.int .i64 (-1)]:=by
   unfold jE;simp only;rw[if_neg (by decide),nF hb]
   rfl
  unfold cpy;have h2:mP (.slice (some ⟨b,0,none⟩) 1 c)=some 1:=rfl;rw[h2];simp only;rw[Nat.min_eq_left h1,hs];simp only;rw[dJ];unfold lW;simp only;rw[if_pos ⟨by decide,by simp;omega,rfl⟩]
  have:=aAm (n:=n) (k:=0) (j:=1) (by omega)
  rw[show List.replicate 1 (Value.int .i64 (-1))=[.int .i64 (-1)] from rfl] at this
  rw[this,nG];rfl
 simp only[gsR,c1,c2,c3,e0,fF _ _ iU aAn,e1,e2,e3,x0,x1,fF _ _ aAn iU,e4,mk,cp];exact aLQ hn (n-1) 1 (m-1) rfl h1 (aOZ _) (by omega) ..
end
end Go.Proofs.YtkeilicinggjmaaGreatDoor
namespace Go.Abs
open Classical
def Blks (l:List (Nat×Blk))(D:aC):Prop:= ∀p∈l,D[p.1]? =some p.2
def InB (l:List (Nat×Blk))(b:Nat):Prop:= ∃p∈l,p.1=b
def r9 (l:List (Nat×Blk)):Prop:= ∀p∈l,p.2≠Blk.dead
theorem Blks.dx (l:List (Nat×Blk)):DX (Blks l):=λD D' h he p hp=>by
 have h1:=h p hp;rw[he.2 p.1 (aOU.mp h1).1 id,h1]
theorem Blks.aLR {l:List (Nat×Blk)}(hl:r9 l):Pos (Blks l):=λD H hs h p hp=>hs.2 p.1 p.2 (h p hp) (hl p hp)
theorem Has.inB {l:List (Nat×Blk)}{F:Nat->Prop}{H:aC}(h:Has (Blks l) F H)(hl:r9 l){b:Nat}(hb:InB l b):F b:=by
 obtain⟨p,hp,rfl⟩:=hb;have h1:=h.at_ p hp;refine Classical.byContradiction λhF=> ?_
 have hlt:=(aOU.mp h1).1;rw[sV] at hlt;rw[vZ hF hlt] at h1;exact hl p hp (aPw h1).symm
theorem Has.Gl {l:List (Nat×Blk)}{F:Nat->Prop}{H:aC}(hb:Blks l H)(hF: ∀p∈l,F p.1)(hlt: ∀b,F b->b<H.length):Has (Blks l) F H:=
 ⟨λp hp=>by rw[Bc (hF p hp),hb p hp],hlt⟩
theorem Mv.aLS {F:Nat->Prop}{A:Nat->Prop}{H H':aC}(h:Fr A H H')(hA: ∀b,A b->F b):Mv F F H H':=⟨h.1,λ_ hb=> .inl hb,λb hb hF=>h.2 b hb λhh=>hF (hA b hh)⟩
theorem aLU {ι α:Type}(f:ι->α)(i:ι):updI f i (f i)=f:=by
 funext j
 unfold updI;split
 ·rename_i h
  rw[h]
 ·rfl
theorem Sep.aLT {ι:Type}{A:ι->aC->Prop}{F:ι->Nat->Prop}{H H':aC}(h:Sep A F H)(i:ι)(hA: ∀j,j≠i->DX (A j)){l l':List (Nat×Blk)}(hi:A i=Blks l)(hl:r9 l)(hsub: ∀p∈l',InB l p.1)(hf:Fr (InB l) H H')(hB:Blks l' H'):
  Sep (updI A i (Blks l')) F H'/\Mv (Un F) (Un F) H H':=by
 have h0:=h.own i;rw[hi] at h0;have hm:Mv (F i) (F i) H H':=Mv.aLS hf λb hb=>h0.inB hl hb
 have h1:Has (Blks l') (F i) H':=Has.Gl hB (λp hp=>h0.inB hl (hsub p hp)) λb hb=>aO9 (h0.lt b hb) hf.1
 have h2:=h.Jz i hA h1 hm;rw[aLU] at h2;exact h2
theorem Sep.see {ι:Type}{A:ι->aC->Prop}{F:ι->Nat->Prop}{H:aC}(h:Sep A F H)(i:ι){l:List (Nat×Blk)}(hi:A i=Blks l)(hl:r9 l):Blks l H:=by
 have h0:=h.own i;rw[hi] at h0;exact h0.aEP (Blks.aLR hl)
theorem Sep.yJ {ι:Type}{A:ι->aC->Prop}{F:ι->Nat->Prop}{H:aC}(h:Sep A F H)(i:ι){l:List (Nat×Blk)}(hi:A i=Blks l)(hl:r9 l){b:Nat}{x:Blk}(hm:(b,x)∈l):H[b]? =some x:=h.see i hi hl _ hm
theorem Sep.Gm {ι:Type}{A:ι->aC->Prop}{F:ι->Nat->Prop}{H H':aC}(h:Sep A F H)(i:ι)(hA: ∀j,DX (A j))(hi: ∀b,¬F i b){B:aC->Prop}{G:Nat->Prop}(hB:Has B G H')(he:Ext H H')(hn: ∀b,G b->H.length<=b):
  Sep (updI A i B) (updI F i G) H':=by
 have hm:Mv (F i) G H H':=⟨he.1,λb hb=> .inr (hn b hb),λb hb _=>he.2 b hb id⟩
 exact(h.Jz i (λj _=>hA j) hB hm).1
theorem Has.aAo {A:aC->Prop}{H:aC}{P:Program}{pr:jH}(hp:FrP pr){n:Nat}{fn:Fn}{args:List Value}{B:Value->aC->Prop}
  (hc: ∀D:aC,D.length=H.length->(∀(b:Nat)(x:Blk),D[b]? =some x->x=Blk.dead)-> ∃r D',lvl P pr n fn args D=some (r,D')/\B r D'):
  ∃r H' G,lvl P pr n fn args H=some (r,H')/\Has (B r) G H'/\Ext H H'/\ ∀b,G b->H.length<=b:=by
 obtain⟨r,D',h1,h2⟩:=hc (rst (λ_=>False) H) (sV _ _) λb x hb=>by
  have hlt:=(aOU.mp hb).1;rw[sV] at hlt;rw[vZ (λh=>h) hlt] at hb
  cases hb;rfl
 obtain⟨H',F',h3,rfl,h4,h5⟩:=Uh hp h1
 exact⟨r,H',F',h3,⟨h2,h5⟩,h4.Uf.2,h4.Uf.1⟩
end Go.Abs
namespace Go.Abs
theorem rI (p:Nat->Bool){n:Nat}(hn:n<=16):dH p n<65536:=aO9 (Bh p n) (show 2 ^ n<=2 ^ 16 from Nat.pow_le_pow_right (by omega) hn)
def fI (m:List Int)(n:Nat):Nat:=dH (λi=>decide (m.getD i 0= -1)) n
def kJ (m:List Int)(n:Nat):Nat:=dH (λk=>decide ((k:Int)∉m)) n
theorem O7 (n:Nat):dH (λ_=>true) n=2 ^ n-1:=by
 induction n with
 |zero=>rfl
 |succ n ih=>
  rw[dH,ih,if_pos rfl,Nat.pow_succ];have:0<2 ^ n:=Nat.pow_pos (by omega)
  omega
theorem aL3 (n:Nat):fI (List.replicate n (-1)) n=2 ^ n-1:=by
 rw[<-O7];refine D9 λi hi=> ?_
 rw[decide_eq_true_eq,aOY,List.getElem?_replicate_of_lt hi];rfl
theorem aL6 (n:Nat):kJ (List.replicate n (-1)) n=2 ^ n-1:=by
 rw[<-O7];refine D9 λi hi=> ?_
 rw[decide_eq_true_eq];intro h;have:=List.eq_of_mem_replicate h;omega
theorem aL2 {m:List Int}{n i k:Nat}(hi:i<n)(hl:m.length=n):fI (m.set i (k:Int)) n=lR (fI m n) (2 ^ i):=by
 apply Nat.eq_of_testBit_eq;intro j;rw[J0,fI,fI,lL,lL,Nat.testBit_two_pow];by_cases hj:i=j
 ·subst hj
  have:(m.set i (k:Int)).getD i 0=k:=by rw[aOY,aO0 (by omega),aPn]
  rw[this];simp
 ·rw[aOY,aOV hj,<-aOY]
  simp[hj]
theorem aL4 {m:List Int}{n i k:Nat}(hi:i<n)(hl:m.length=n)(hf:m.getD i 0= -1):kJ (m.set i (k:Int)) n=lR (kJ m n) (2 ^ k):=by
 apply Nat.eq_of_testBit_eq;intro j;rw[J0,kJ,kJ,lL,lL,Nat.testBit_two_pow];have hi':i<m.length:=by omega
 have key:((j:Int)∈m.set i (k:Int))↔((j:Int)∈m∨j=k):=by
  constructor
  ·intro h
   rcases List.mem_or_eq_of_mem_set h with h|h
   ·exact .inl h
   ·exact .inr (by omega)
  ·intro h
   rcases h with h|h
   ·obtain⟨l,hl,he⟩:=List.mem_iff_getElem.mp h
    have hne:l≠i:=by
     intro hh;subst hh;rw[aOY,aOW hl,aPn,he] at hf;omega
    refine List.mem_iff_getElem.mpr ⟨l,by simpa using hl,?_⟩
    rw[List.getElem_set_ne (λhh=>hne hh.symm),he]
   ·subst h
    exact List.mem_set hi' _
 rw[show(decide ((j:Int)∉m.set i (k:Int)))=(decide ((j:Int)∉m)&& !decide (k=j)) by
  rw[Bool.eq_iff_iff];simp only[decide_eq_true_eq,aO2,Bool.not_eq_true',decide_eq_false_iff_not];rw[key];constructor
  ·intro h
   exact⟨λhh=>h (.inl hh),λhh=>h (.inr hh.symm)⟩
  ·rintro ⟨h1,h2⟩ h
   rcases h with h|h
   ·exact h1 h
   ·exact h2 h.symm]
 rw[Bool.and_assoc]
def kR (rows:List Nat)(i k:Nat):Bool:=(rows.getD i 0).testBit k
def grM (gr:Nat->Option Nat)(kk i:Nat):Nat:=dH (λk=>gr k==some i) kk
def grL (gr:Nat->Option Nat)(n kk:Nat):List Nat:=(List.range n).map (grM gr kk)
theorem yK (gr:Nat->Option Nat)(n kk:Nat):(grL gr n kk).length=n:=by simp[grL]
theorem Ci {gr:Nat->Option Nat}{n kk i:Nat}(hi:i<n):(grL gr n kk)[i]? =some (grM gr kk i):=by simp[grL,hi]
theorem aLZ (gr:Nat->Option Nat)(n:Nat):grL gr n 0=List.replicate n 0:=by
 apply aPv;intro i;by_cases hi:i<n
 ·rw[Ci hi,List.getElem?_replicate_of_lt hi]
  rfl
 ·rw[aO5 (by rw[yK];omega),aO5 (by simp;omega)]
theorem aAt {gr:Nat->Option Nat}{kk i:Nat}(h:gr kk≠some i):grM gr (kk+1) i=grM gr kk i:=by
 unfold grM;rw[dH,if_neg (by simpa using h),Nat.add_zero]
theorem aL0 {gr:Nat->Option Nat}{kk i:Nat}(h:gr kk=some i):grM gr (kk+1) i=grM gr kk i|||2 ^ kk:=by
 apply Nat.eq_of_testBit_eq;intro j;rw[Uq,grM,grM,lL,lL];by_cases hj:j=kk
 ·subst hj
  simp[h]
 ·by_cases hlt:j<kk
  ·simp[hlt,show j<kk+1 by omega,show¬kk=j by omega]
  ·simp[hlt,show¬j<kk+1 by omega,show¬kk=j by omega]
theorem aAr {gr:Nat->Option Nat}{n kk:Nat}(h: ∀i,i<n->gr kk≠some i):grL gr n (kk+1)=grL gr n kk:=by
 unfold grL;refine List.map_congr_left λi hi=>aAt (h i (aPy.mp hi))
theorem aLY {gr:Nat->Option Nat}{n kk i:Nat}(hi:i<n)(h:gr kk=some i):grL gr n (kk+1)=(grL gr n kk).set i (grM gr kk i|||2 ^ kk):=by
 apply aPv;intro j;by_cases hj:j<n
 ·rw[Ci hj]
  by_cases hij:i=j
  ·subst hij
   rw[aO0 (by rw[yK];exact hi),aL0 h]
  ·rw[aOV hij,Ci hj,aAt (by rw[h];simp;exact hij)]
 ·rw[aO5 (by rw[yK];omega),aO5 (by rw[List.length_set,yK];omega)]
theorem aAs (gr:Nat->Option Nat){kk:Nat}(hk:kk<=16)(i:Nat):grM gr kk i<65536:=rI _ hk
theorem aL1 {rows:List Nat}{m:List Int}{G:List Nat}{n k:Nat}(hr:rows.length=n)(hk:k<n):
  mA (kR rows) m G n k=if(k:Int)∈m then none else jY (λi=>((j9 rows n).getD k 0&&&fI m n).testBit i) (G.getD k 0) n:=by
 unfold mA;split
 ·rfl
 ·refine D7 λi hi=> ?_
  have hc:(j9 rows n).getD k 0=dH (λi=>(rows.getD i 0).testBit k) rows.length:=by
   rw[aOY,j9,aO7,aPB hk];rfl
  rw[Nat.testBit_and,hc,fI,lL,lL,hr,aPD hi,aPh,aPh,kR,Bool.and_comm]
theorem aL5 {m:List Int}{n k:Nat}(hk:k<n):(kJ m n).testBit k=decide ((k:Int)∉m):=by rw[kJ,lL,aPD hk,aPh]
theorem aLX {rows:List Nat}{n k:Nat}(hr:rows.length<=16)(hk:k<n):(j9 rows n).getD k 0<65536:=by
 rw[aOY,j9,aO7,aPB hk];exact rI _ hr
theorem aAu {req:Nat->Nat->Bool}{m:List Int}{G:List Nat}{n k i:Nat}(h:mA req m G n k=some i):m.getD i 0= -1/\i<n:=by
 unfold mA at h
 split at h
 ·cases h
 ·have:=wB h
  rw[aO2,decide_eq_true_eq] at this
  exact⟨this.2.1,this.1⟩
theorem aLV {req:Nat->Nat->Bool}{n:Nat}{first:Bool}{m0:List Int}{g0:List Nat}{s:Mat}{i:Nat}(hm:s.m.getD i 0=m0.getD i 0):
  acc (mA req m0 g0 n) n first s i=match jY (λk=>(grM (mA req m0 g0 n) n i).testBit k) (s.a.getD i 0) n with
   |none=>s
   |some k=>⟨s.m.set i (k:Int),if first=true then s.g.set k ((i+1)%n) else s.g,if first=true then s.a.set i ((k+1)%n) else s.a⟩:=by
 have e:jY (λk=>(grM (mA req m0 g0 n) n i).testBit k) (s.a.getD i 0) n=jY (λk=>mA req m0 g0 n k==some i) (s.a.getD i 0) n:=D7 λk hk=>by
  rw[grM,lL,aPD hk,aPh]
 rw[e];unfold acc;split
 ·rfl
 ·rename_i hn
  have:jY (λk=>mA req m0 g0 n k==some i) (s.a.getD i 0) n=none:=by
   rw[D8];intro k hk;rw[beq_eq_false_iff_ne];intro hh;exact hn (hm.trans (aAu hh).1)
  rw[this]
theorem aAp {gr:Nat->Option Nat}{n:Nat}{first:Bool}: ∀(l:List Nat)(s:Mat),l.Nodup->(∀i∈l,i<s.m.length)->(∀i∈l,s.m.getD i 0= -1->(l.foldl (acc gr n first) s).m.getD i 0= -1)->l.foldl (acc gr n first) s=s
 |[],s,_,_,_=>rfl
 |i::l,s,hn,hl,h=>by
  rw[List.foldl_cons] at h⊢;have hi:=hl i (aO3 ..);rw[List.nodup_cons] at hn;rcases J2 (gr:=gr) (n:=n) (first:=first) (s:=s) hi with h1|⟨h1,h2⟩
  ·rw[h1] at h⊢
   exact aAp l s hn.2 (λj hj=>hl j (aPb _ hj)) λj hj=>h j (aPb _ hj)
  ·have h3:=Bg (gr:=gr) (n:=n) (first:=first) (j:=i) l (acc gr n first s i) hn.1
   exact absurd (h3.symm.trans (h i (aO3 ..) h2)) h1
theorem aL8 {req:Nat->Nat->Bool}{n:Nat}{first:Bool}{s:Mat}(hl:s.m.length=n)(h:fI (rnd req n first s).m n=fI s.m n):rnd req n first s=s:=by
 refine aAp _ _ List.nodup_range (λi hi=>by rw[aPy] at hi;omega) λi hi h0=> ?_
 rw[aPy] at hi;have h1:(fI (rnd req n first s).m n).testBit i=(fI s.m n).testBit i:=by rw[h]
 rw[fI,fI,lL,lL,aPD hi,aPh,aPh,aPD h0,decide_eq_true_eq] at h1;exact h1
theorem aLW (M n:Nat):M&&&(2 ^ n-1)=dH (λi=>M.testBit i) n:=by
 apply Nat.eq_of_testBit_eq;intro i;rw[Nat.testBit_and,lL,<-O7,lL,Bool.and_true,Bool.and_comm]
theorem aAq (p q:Nat->Bool)(n:Nat):dH p n&&&dH q n=dH (λi=>p i&&q i) n:=by
 apply Nat.eq_of_testBit_eq;intro i;rw[Nat.testBit_and,lL,lL,lL];cases decide (i<n)<;>simp
theorem Ah (p:Nat->Bool)(n:Nat):dH p n=0↔oB p n=false:=by
 rw[aE8];constructor
 ·intro h
  cases hw:oB p n with
  |false=>rfl
  |true=>
   obtain⟨i,h1,h2⟩:=xY.mp hw;rw[h i h1] at h2;cases h2
 ·intro h i hi
  cases hp:p i with
  |false=>rfl
  |true=>
   rw[xY.mpr ⟨i,hi,hp⟩] at h;cases h
theorem aL7 (p:Nat->Bool)(fr n:Nat):jY (λi=>(dH p n).testBit i) fr n=jY p fr n:=D7 λi hi=>by rw[lL,aPD hi,aPh]
theorem Gp {p:Nat->Bool}{k:Nat}(h:p k=true):dH p (k+1)=dH p k|||2 ^ k:=by
 apply Nat.eq_of_testBit_eq;intro j;rw[Uq,lL,lL];by_cases hj:j=k
 ·subst hj
  simp[h]
 ·by_cases hlt:j<k
  ·simp[hlt,show j<k+1 by omega,show¬k=j by omega]
  ·simp[hlt,show¬j<k+1 by omega,show¬k=j by omega]
theorem Gn {p:Nat->Bool}{k:Nat}(h:p k=false):dH p (k+1)=dH p k:=by rw[dH,h];simp
theorem aAv {p q:Nat->Bool}{n:Nat}(h: ∀i,i<n->p i=q i):oB p n=oB q n:=by
 rw[Bool.eq_iff_iff,xY,xY];constructor
 ·rintro ⟨i,h1,h2⟩
  exact⟨i,h1,by rw[<-h i h1];exact h2⟩
 ·rintro ⟨i,h1,h2⟩
  exact⟨i,h1,by rw[h i h1];exact h2⟩
theorem aL9 {W:List Int}{s:Whl}{p q:Nat->Bool}(h: ∀i,i<W.length->p i=q i):kN W s p=kN W s q:=by
 have h1:oB p W.length=oB q W.length:=aAv h;have h2: ∀l:List Int,∀i,i<W.length->nD l p i=nD l q i:=λl i hi=>by unfold nD;rw[h i hi]
 have h3:mB W s p=mB W s q:=by unfold mB;rw[aAv (h2 s.l)]
 unfold kN;rw[h1,h3,D7 (h2 _)]
end Go.Abs
namespace Go.Proofs.YtkeilicinggjmaaGreatDoor
open Go.Proofs.Tryz
open Go.Abs
def gI (zs:List Int)(rest:List Value):Blk:= .cells (zs.map (λz:Int=> .int .i64 z)++rest) 3 .row
def kK (b n c:Nat):Value:= .slice (some ⟨b,0,none⟩) n c
def rJ (ww wl wc lc n:Nat)(fr:Nat):Blk:= .cells [kK ww n wc,kK wl n lc,.int .i64 fr] 171 .fix
def lX (wh ww wl wc lc:Nat)(wr lr:List Value)(W:List Int)(x:Whl):List (Nat×Blk):=
 [(wh,rJ ww wl wc lc W.length x.fr),(ww,gI W wr),(wl,gI x.l lr)]
theorem aAw: ∀W:List Int,dZ (W.map λz:Int=>Value.int .i64 z)=true
 |[]=>rfl
 |_::W=>aAw W
theorem aAy {ww wl wc lc n fr:Nat}{zs:List Int}{lr:List Value}:rJ ww wl wc lc n fr≠gI zs lr:=λh=>by
 injection h with _ h2
 revert h2
 decide
section
variable {H : aC} {m : Nat}
theorem aMb (hm:0<m)(M i:Nat)(hM:M<65536)(hi:i<16):lvl prog pkN m (.func 148) [.int .u16 M,.int .i64 i] H=some (.bool (M.testBit i),H):=by
 refine dF (cL rfl) (by omega) ?_
 rw[aJh];have c1:decide ((0:Int)<=(i:Int))=true:=by rw[decide_eq_true_eq];omega
 have c2:decide ((i:Int)<16)=true:=by rw[decide_eq_true_eq];omega
 have e1:bin prog .shr 23 (.int .u16 (M:Int)) (.int .i64 (i:Int))=some (.int .u16 ((M>>>i:Nat):Int)):=xX .u16 .i64 23 M i (by show i<=16;omega)
 have hlt:M>>>i<65536:=Nat.lt_of_le_of_lt (Nat.shiftRight_le M i) hM;have e2:bin prog .and 23 (.int .u16 ((M>>>i:Nat):Int)) (.int .u16 ((1:Nat):Int))=some (.int .u16 (((M>>>i)&&&1:Nat):Int)):=xV .u16 rfl 23 (by show _<65536;exact hlt) (by show(1:Nat)<65536;omega)
 have e2':bin prog .and 23 (.int .u16 ((M>>>i:Nat):Int)) (.int .u16 1)=some (.int .u16 (((M>>>i)&&&1:Nat):Int)):=e2;have e3:((((M>>>i)&&&1:Nat):Int)==1)=M.testBit i:=by
  rw[Nat.testBit,Nat.and_comm 1];rw[Nat.and_one_is_mod];rcases Nat.mod_two_eq_zero_or_one (M>>>i) with h|h<;>rw[h]<;>rfl
 simp only[gsR,c1,c2,e1,e2',e3]
theorem wU {a i:Nat}(ha:a<65536)(hi:i<16):bin prog .shl 23 (.int .u16 1) (.int .i64 (i:Int))=some (.int .u16 ((2 ^ i:Nat):Int))/\bin prog .or 23 (.int .u16 (a:Int)) (.int .u16 ((2 ^ i:Nat):Int))=some (.int .u16 ((a|||2 ^ i:Nat):Int)):=by
 have hp:=Ea hi;constructor
 ·have:=xW (P:=prog) .u16 .i64 rfl 23 1 i (by show i<=16;omega)
  rw[Nat.one_mul] at this;rw[show(2:Nat) ^ i%2 ^ IntKind.u16.bits=2 ^ i from aPs hp] at this
  exact this
 ·exact J1 .u16 rfl _ (by show _<65536;exact ha) (by show _<65536;exact hp)
theorem Ai {wl n c:Nat}{zs:List Int}{lr:List Value}(hb:H[wl]? =some (gI zs lr))(hn:zs.length=n){i:Nat}(hi:i<n):aR 1 (kK wl n c) (.int .i64 (i:Int))=some (.pointer (some ⟨wl,i,none⟩))/\ld1 (.pointer (some ⟨wl,i,none⟩)) H=some (.int .i64 (zs.getD i 0),H):=by
 constructor
 ·have:=qD 1 wl 0 n c .i64 (i:Int) (by omega) (by omega)
  simpa[kK] using this
 ·refine cZ hb ?_
  rw[aOX (by simp;omega),aO7,aOY,aOW (by omega)]
  rfl
theorem aMc {wl lc:Nat}{zs:List Int}{lr:List Value}(hb:H[wl]? =some (gI zs lr))(h3:zs.length<=3): ∀(q i k:Nat),zs.length-i=q->i<=zs.length->q<k-> ∀(x0 x1 x2 x4 x5 x6 x7 x8 bC aO aP aM aS bI aN bG bJ bL bH bE:Value),
  aI k (aK prog (lvl prog pkN m) (aI m) M4) (M5 (lvl prog pkN m) (aI m)) [x0,x1,x2,(.int .u16 (dH (λj=>decide (0<zs.getD j 0)) i:Nat)),x4,x5,x6,x7,x8,(kK wl zs.length lc),(.int .i64 zs.length),(.int .i64 (i:Nat)),bC,aO,aP,aM,aS,bI,aN,bG,bJ,bL,bH,bE] H=some (.int .u16 (dH (λj=>decide (0<zs.getD j 0)) zs.length:Nat),H):=by
 intro q;induction q with
 |zero=>
  intro i k hq hi hk;intros;obtain⟨k,rfl⟩: ∃k',k=k'+1:=⟨k-1,by omega⟩
  have hie:i=zs.length:=by omega
  subst hie;have c1:decide ((zs.length:Int)<(zs.length:Int))=false:=by simp
  rw[aI,Yd];simp only[gsR,c1];rw[aJj];simp only[gsR]
 |succ q ih=>
  intro i k hq hi hk;intros;obtain⟨k,rfl⟩: ∃k',k=k'+1:=⟨k-1,by omega⟩
  have c1:decide ((i:Int)<(zs.length:Int))=true:=by rw[decide_eq_true_eq];omega
  obtain⟨a1,a2⟩:=Ai (c:=lc) hb rfl (i:=i) (by omega)
  have e4:=aA (i:=i) (by omega)
  rw[aI,Yd];by_cases hp:0<zs.getD i 0
  ·obtain⟨e1,e2⟩:=wU (a:=dH (λj=>decide (0<zs.getD j 0)) i) (i:=i) (rI _ (by omega)) (by omega)
   rw[<-Gp (p:=λj=>decide (0<zs.getD j 0)) (k:=i) (aPD hp)] at e2
   simp only[gsR,c1,a1,a2,aPD hp,e1,e2,cC,e4];exact ih (i+1) k (by omega) (by omega) (by omega) ..
  ·have e2:=Gn (p:=λj=>decide (0<zs.getD j 0)) (k:=i) (aPE hp)
   simp only[gsR,c1,a1,a2,aPE hp,cC,e4];rw[<-e2];exact ih (i+1) k (by omega) (by omega) (by omega) ..
theorem aAx (hm:10<m){wh ww wl wc lc n fr:Nat}{zs:List Int}{lr:List Value}(h0:H[wh]? =some (rJ ww wl wc lc n fr))(hb:H[wl]? =some (gI zs lr))(hn:zs.length=n)(h3:n<=3):
  lvl prog pkN m (.func 150) [.pointer (some ⟨wh,0,none⟩)] H=some (.int .u16 (dH (λj=>decide (0<zs.getD j 0)) n:Nat),H):=by
 subst hn;refine dF (cL rfl) (by omega) ?_
 rw[aJk];have l1:ld1 (.pointer (some ⟨wh,1,none⟩)) H=some (kK wl zs.length lc,H):=cZ h0 rfl;have l2:bM (kK wl zs.length lc)=some (.int .i64 zs.length):=rfl;simp only[gsR,l1,l2];exact aMc hb h3 zs.length 0 (m-1) (by omega) (by omega) (by omega) ..
theorem aMa {wl ww n lc wc:Nat}{l W:List Int}{lr wr:List Value}(hn:n=W.length)(b2:H[wl]? =some (gI l lr))(b1:H[ww]? =some (gI W wr))(hl:l.length=W.length):cpy 1 (kK wl n lc) (kK ww n wc) H=some (.int .i64 n,H.set wl (gI W lr)):=by
 subst hn;have hs:jE 1 (kK ww W.length wc) W.length H=some (W.map λz:Int=> .int .i64 z):=by
  unfold jE kK;simp only;split
  ·rename_i h0
   rw[aPc.mp h0];rfl
  ·rw[b1]
   unfold gI;simp only;rw[if_pos ⟨aOZ _,by simp⟩,List.drop_zero,List.take_append_of_le_length (by simp)]
   congr 1
   rw[List.take_of_length_le (by simp)]
 unfold cpy;have h2:mP (kK ww W.length wc)=some W.length:=rfl;rw[h2];simp only[kK];have hs':=hs;unfold kK at hs';rw[Nat.min_self,hs'];simp only;rw[b2];unfold gI;simp only;have:=vX (W.map λz:Int=>Value.int .i64 z) (l.map λz:Int=>Value.int .i64 z) [] lr (by simp[hl])
 rw[List.nil_append,List.nil_append,List.length_nil] at this;rw[if_pos ⟨by decide,by simp;omega,aAw W⟩,this]
def pI (o:Option Nat):Value:= .int .i64 (match o with|some k=>(k:Int)|none=> -1)
theorem Cj (k:IntKind)(n:Int)(H':aC):chk (some (Value.int k n,H')) (.int k n)=true:=by simp[chk,veq]
theorem aMd (hm:20<m){wh ww wl wc lc:Nat}{wr lr:List Value}{W:List Int}{x:Whl}(hB:Blks (lX wh ww wl wc lc wr lr W x) H)(hne:ww≠wl)(hx:WhlI W.length x)(hW: ∀y∈W,0<y/\y<=5)(h1:1<=W.length)(h3:W.length<=3)(M:Nat)(hM:M<65536):
  ∃H',lvl prog pkN m (.func 105) [.pointer (some ⟨wh,0,none⟩),.int .u16 M] H=some (pI (kN W x λi=>M.testBit i).1,H')/\Fr (λb=>b=wh∨b=wl) H H'/\Blks (lX wh ww wl wc lc wr lr W (kN W x λi=>M.testBit i).2) H':=by
 have b0:H[wh]? =some (rJ ww wl wc lc W.length x.fr):=hB _ (aO3 ..);have b1:H[ww]? =some (gI W wr):=hB (ww,gI W wr) (by simp[lX])
 have b2:H[wl]? =some (gI x.l lr):=hB (wl,gI x.l lr) (by simp[lX])
 have n01:wh≠ww:=λh=>by rw[h,b1] at b0;exact aAy (aPw b0).symm
 have n02:wh≠wl:=λh=>by rw[h,b2] at b0;exact aAy (aPw b0).symm
 obtain⟨n,hn⟩: ∃n,n=W.length:=⟨_,rfl⟩;have hxl:=hx.len;have hxf:=hx.fr;obtain⟨p,hp⟩: ∃p:Nat->Bool,p=λi=>M.testBit i:=⟨_,rfl⟩
 rw[<-hp];refine lK (cL rfl) (by omega) ?_
 rw[aIX];have l0:ld1 (.pointer (some ⟨wh,0,none⟩)) H=some (kK ww W.length wc,H):=cZ b0 rfl;have l0':bM (kK ww W.length wc)=some (.int .i64 W.length):=rfl;have hpow:2 ^ W.length<65536:=Ea (by omega)
 have hpos:0<2 ^ W.length:=Nat.pow_pos (by omega)
 have e1:=(wU (a:=0) (i:=W.length) (by omega) (by omega)).1
 have e2:IntKind.u16.wrap ((2 ^ W.length:Nat)-(1:Int))=((2 ^ W.length-1:Nat):Int):=by rw[Be];omega
 have e3:bin prog .and 23 (.int .u16 (M:Int)) (.int .u16 ((2 ^ W.length-1:Nat):Int))=some (.int .u16 ((dH p W.length:Nat):Int)):=by
  rw[xV .u16 rfl _ (by show _<65536;exact hM) (by show _<65536;omega),aLW,hp]
 have hml: ∀q:Nat->Bool,dH q W.length<65536:=λq=>rI q (by omega)
 by_cases ha:oB p W.length=true
 ·have c1:(((dH p W.length:Nat):Int)==0)=false:=by
   rw[beq_eq_false_iff_ne];intro h;have:=(Ah p W.length).mp (by omega)
   rw[ha] at this;cases this
  have s1:=aAx (m:=m-1) (by omega) b0 b2 hxl h3
  have a1:bin prog .and 23 (.int .u16 ((dH p W.length:Nat):Int)) (.int .u16 ((dH (λj=>decide (0<x.l.getD j 0)) W.length:Nat):Int))=some (.int .u16 ((dH (nD x.l p) W.length:Nat):Int)):=by
   rw[xV .u16 rfl _ (by show _<65536;exact hml _) (by show _<65536;exact hml _),aAq]
   rfl
  obtain⟨i,hi,hil,hip,hip2⟩:=Um (s:=x) (λy hy=>(hW y hy).1) ha
  have hres:kN W x p=(some i,⟨(mB W x p).set i ((mB W x p).getD i 0-1),(i+1)%W.length⟩):=by
   unfold kN;rw[if_pos ha,hi]
  have hpk: ∀G:aC,lvl prog pkN (m-1) (.func 103) [.int .u16 ((dH (nD (mB W x p) p) W.length:Nat):Int),.int .i64 x.fr,.int .i64 W.length] G=some (.int .i64 i,G):=λG=>by
   rw[Kw _ (by omega),J3 (hml _) (by omega) hxf,aL7,hi]
  have e5:=aA (i:=i) (by omega)
  have e6:bin prog .rem 3 (.int .i64 ((i+1:Nat):Int)) (.int .i64 W.length)=some (.int .i64 (((i+1)%W.length:Nat):Int)):=q9 (i+1) W.length _ rfl (by omega)
  rw[hres];by_cases hc:oB (nD x.l p) W.length=true
  ·have hf:mB W x p=x.l:=by unfold mB;rw[if_pos hc]
   rw[hf] at hpk hip2⊢;have c2:(((dH (nD x.l p) W.length:Nat):Int)==0)=false:=by
    rw[beq_eq_false_iff_ne];intro h;have:=(Ah (nD x.l p) W.length).mp (by omega)
    rw[hc] at this;cases this
   have l2:ld1 (.pointer (some ⟨wh,2,none⟩)) H=some (.int .i64 x.fr,H):=cZ b0 rfl;have l1:ld1 (.pointer (some ⟨wh,1,none⟩)) H=some (kK wl W.length lc,H):=cZ b0 rfl;obtain⟨g1,g2⟩:=Ai (c:=lc) b2 hxl hil;have hle:x.l.getD i 0<=5:=by
    have:i<x.l.length:=by omega
    rw[aOY,aOW this,aPn]
    exact(hx.wt _ (List.getElem_mem this)).2
   have e7:IntKind.i64.wrap (x.l.getD i 0-1)=x.l.getD i 0-1:=dG (by omega) (by omega)
   have st1:stN 1 (.pointer (some ⟨wl,i,none⟩)) (.int .i64 (x.l.getD i 0-1)) H=some (undef,H.set wl (gI (x.l.set i (x.l.getD i 0-1)) lr)):=by
    rw[kZ b2 (by decide) (by simp;omega),List.set_append_left _ _ (by simp;omega),<-List.map_set]
    rfl
   have b0':(H.set wl (gI (x.l.set i (x.l.getD i 0-1)) lr))[wh]? =some (rJ ww wl wc lc W.length x.fr):=by rw[aOV (λh=>n02 h.symm),b0]
   have st2:stN 1 (.pointer (some ⟨wh,2,none⟩)) (.int .i64 (((i+1)%W.length:Nat):Int)) (H.set wl (gI (x.l.set i (x.l.getD i 0-1)) lr))=some (undef,(H.set wl (gI (x.l.set i (x.l.getD i 0-1)) lr)).set wh (rJ ww wl wc lc W.length ((i+1)%W.length))):=kZ b0' (by decide) (by simp)
   simp only[gsR,l0,l0',e1,iM,e2,e3,c1,s1,a1,c2,l2,Cj,hpk,l1,g1,g2,e7,st1,cC,e5,e6,st2];refine⟨_,rfl,⟨by simp,λb hb hbn=> ?_⟩,λq hq=> ?_⟩
   ·rw[aOV (λh=>hbn (.inl h.symm)),aOV (λh=>hbn (.inr h.symm))]
   ·simp only[lX,aPd,aPk,or_false] at hq
    rcases hq with rfl|rfl|rfl
    ·exact iE b0'
    ·rw[aOV n01,aOV hne.symm,b1]
    ·rw[aOV n02]
     exact iE b2
  ·have hf:mB W x p=W:=by unfold mB;rw[if_neg hc]
   rw[hf] at hpk hip2⊢;have c2:(((dH (nD x.l p) W.length:Nat):Int)==0)=true:=by
    rw[beq_iff_eq];have:=(Ah (nD x.l p) W.length).mpr (by simpa using hc)
    omega
   have l1:ld1 (.pointer (some ⟨wh,1,none⟩)) H=some (kK wl W.length lc,H):=cZ b0 rfl;obtain⟨H1,hH1⟩: ∃H1,H1=H.set wl (gI W lr):=⟨_,rfl⟩;have cp:cpy 1 (kK wl W.length lc) (kK ww W.length wc) H=some (.int .i64 W.length,H1):=by rw[hH1];exact aMa rfl b2 b1 hxl
   have b01:H1[wh]? =some (rJ ww wl wc lc W.length x.fr):=by rw[hH1,aOV (λh=>n02 h.symm),b0]
   have b11:H1[ww]? =some (gI W wr):=by rw[hH1,aOV hne.symm,b1]
   have b21:H1[wl]? =some (gI W lr):=by rw[hH1];exact iE b2
   have s2:=aAx (m:=m-1) (by omega) b01 b21 rfl h3
   have a2:bin prog .and 23 (.int .u16 ((dH p W.length:Nat):Int)) (.int .u16 ((dH (λj=>decide (0<W.getD j 0)) W.length:Nat):Int))=some (.int .u16 ((dH (nD W p) W.length:Nat):Int)):=by
    rw[xV .u16 rfl _ (by show _<65536;exact hml _) (by show _<65536;exact hml _),aAq]
    rfl
   have l2:ld1 (.pointer (some ⟨wh,2,none⟩)) H1=some (.int .i64 x.fr,H1):=cZ b01 rfl;have l11:ld1 (.pointer (some ⟨wh,1,none⟩)) H1=some (kK wl W.length lc,H1):=cZ b01 rfl;obtain⟨g1,g2⟩:=Ai (c:=lc) b21 rfl hil;have hle:W.getD i 0<=5:=by
    rw[aOY,aOW hil,aPn]
    exact(hW _ (List.getElem_mem hil)).2
   have e7:IntKind.i64.wrap (W.getD i 0-1)=W.getD i 0-1:=dG (by omega) (by omega)
   have st1:stN 1 (.pointer (some ⟨wl,i,none⟩)) (.int .i64 (W.getD i 0-1)) H1=some (undef,H1.set wl (gI (W.set i (W.getD i 0-1)) lr)):=by
    rw[kZ b21 (by decide) (by simp;omega),List.set_append_left _ _ (by simp;omega),<-List.map_set]
    rfl
   have b0':(H1.set wl (gI (W.set i (W.getD i 0-1)) lr))[wh]? =some (rJ ww wl wc lc W.length x.fr):=by rw[aOV (λh=>n02 h.symm),b01]
   have st2:stN 1 (.pointer (some ⟨wh,2,none⟩)) (.int .i64 (((i+1)%W.length:Nat):Int)) (H1.set wl (gI (W.set i (W.getD i 0-1)) lr))=some (undef,(H1.set wl (gI (W.set i (W.getD i 0-1)) lr)).set wh (rJ ww wl wc lc W.length ((i+1)%W.length))):=kZ b0' (by decide) (by simp)
   simp only[gsR,l0,l0',e1,iM,e2,e3,c1,s1,a1,c2,l1,cp,s2,a2,l2,Cj,hpk,l11,g1,g2,e7,st1,cC,e5,e6,st2];refine⟨_,rfl,⟨by simp[hH1],λb hb hbn=> ?_⟩,λq hq=> ?_⟩
   ·rw[aOV (λh=>hbn (.inl h.symm)),aOV (λh=>hbn (.inr h.symm)),hH1,aOV (λh=>hbn (.inr h.symm))]
   ·simp only[lX,aPd,aPk,or_false] at hq
    rcases hq with rfl|rfl|rfl
    ·exact iE b0'
    ·rw[aOV n01,aOV hne.symm,b11]
    ·rw[aOV n02]
     exact iE b21
 ·have c1:(((dH p W.length:Nat):Int)==0)=true:=by
   rw[beq_iff_eq];have:=(Ah p W.length).mpr (by simpa using ha)
   omega
  have hres:kN W x p=(none,x):=by
   unfold kN;rw[if_neg ha]
  rw[hres];simp only[gsR,l0,l0',e1,iM,e2,e3,c1]
  exact⟨_,rfl,Fr.nC _ _,hB⟩
end
def u9 (zs:List Nat):List Int:=zs.map λz:Nat=>(z:Int)
def iB (zs:List Nat):Blk:=gI (u9 zs) []
def iC (zs:List Nat):Blk:= .cells (zs.map λz:Nat=> .int .u16 (z:Int)) 23 .row
def qM (ga aa n:Nat):Blk:= .cells [eE ga n,eE aa n] 176 .fix
def jX (ab ga aa:Nat)(g a:List Nat):List (Nat×Blk):=[(ab,qM ga aa g.length),(ga,iB g),(aa,iB a)]
def stB (mb n ins outs:Nat):Blk:= .cells [eE mb n,.int .u16 ins,.int .u16 outs] 201 .fix
theorem aAA (zs:List Nat):(u9 zs).length=zs.length:=by simp[u9]
theorem aMg (zs:List Nat)(i:Nat):(u9 zs).getD i 0=((zs.getD i 0:Nat):Int):=by
 unfold u9;rw[aOY,aOY,aO7];cases zs[i]? <;>rfl
theorem aMh (zs:List Nat)(i z:Nat):u9 (zs.set i z)=(u9 zs).set i (z:Int):=by simp[u9,List.map_set]
theorem aAz {zs:List Nat}{n i:Nat}(h: ∀z∈zs,z<n)(hi:i<zs.length):zs.getD i 0<n:=by
 rw[aOY,aOW hi];exact h _ (List.getElem_mem hi)
section
variable {H : aC} {m : Nat}
theorem Gq {b n:Nat}{zs:List Nat}(hb:H[b]? =some (iB zs))(hn:zs.length=n){i:Nat}(hi:i<n):aR 1 (eE b n) (.int .i64 (i:Int))=some (.pointer (some ⟨b,i,none⟩))/\ld1 (.pointer (some ⟨b,i,none⟩)) H=some (.int .i64 (zs.getD i 0:Nat),H):=by
 have:=Ai (c:=n) hb ((aAA zs).trans hn) hi;rw[aMg] at this;exact this
theorem Gr {b n c:Nat}{zs:List Nat}(hb:H[b]? =some (iC zs))(hn:zs.length=n){i:Nat}(hi:i<n):aR 1 (.slice (some ⟨b,0,none⟩) n c) (.int .i64 (i:Int))=some (.pointer (some ⟨b,i,none⟩))/\ld1 (.pointer (some ⟨b,i,none⟩)) H=some (.int .u16 (zs.getD i 0:Nat),H):=by
 constructor
 ·have:=qD 1 b 0 n c .i64 (i:Int) (by omega) (by omega)
  simpa using this
 ·refine cZ hb ?_
  rw[aO7,aOY,aOW (by omega)]
  rfl
theorem aAB {b i:Nat}{zs:List Int}{lr:List Value}(z:Int)(hb:H[b]? =some (gI zs lr))(hi:i<zs.length):stN 1 (.pointer (some ⟨b,i,none⟩)) (.int .i64 z) H=some (undef,H.set b (gI (zs.set i z) lr)):=by
 rw[kZ hb (by decide) (by simp;omega),List.set_append_left _ _ (by simp;omega),<-List.map_set]
 rfl
theorem aAC {b i:Nat}{zs:List Nat}(z:Nat)(hb:H[b]? =some (iB zs))(hi:i<zs.length):stN 1 (.pointer (some ⟨b,i,none⟩)) (.int .i64 z) H=some (undef,H.set b (iB (zs.set i z))):=by
 rw[aAB (z:Int) hb (by rw[aAA];exact hi),<-aMh]
 rfl
theorem aAD {b i:Nat}{zs:List Nat}(z:Nat)(hb:H[b]? =some (iC zs))(hi:i<zs.length):stN 1 (.pointer (some ⟨b,i,none⟩)) (.int .u16 z) H=some (undef,H.set b (iC (zs.set i z))):=by
 rw[kZ hb (by decide) (by simp;omega),<-List.map_set]
 rfl
theorem oO (i:Nat)(hi:i<1000):IntKind.i64.wrap ((i:Int)+1)=((i+1:Nat):Int):=by rw[dG (by omega) (by omega)];omega
section
variable {ab ga aa sb mb cb : Nat} {rows : List Nat} {M : List Int} {g a : List Nat} {n : Nat}
theorem aMf (hB:Blks (jX ab ga aa g a) H)(hs:H[sb]? =some (stB mb n (fI M n) (kJ M n)))(hc:H[cb]? =some (iC (j9 rows n)))(hg:g.length=n)(hgl: ∀z∈g,z<n)(hr:rows.length=n)(hM:M.length=n)(h1:1<=n)(h16:n<=16)(hm:2<m):
  ∀(q i k:Nat),n-i=q->i<=n->q<k-> ∀(x3 x4 x5 x6 x8 x9 bK bN bC aO bI aN bG bJ bL bH bE aT aU aV aW aX aY aZ bA bB bO bP bQ bR bS bT bU bV bX bY cD cG cH cK cQ cS cT cM cN cO cP cW cU cV:Value),
  aI k (aK prog (lvl prog pkN m) (aI m) Mn) (Mo (lvl prog pkN m) (aI m)) [(.pointer (some ⟨ab,0,none⟩)),(.pointer (some ⟨sb,0,none⟩)),(eE cb n),x3,x4,x5,x6,(eE H.length n),x8,x9,bK,bN,bC,aO,(eE cb n),(.int .i64 n),(.int .i64 (i:Nat)),bI,aN,bG,bJ,bL,bH,bE,aT,aU,aV,aW,aX,aY,aZ,bA,bB,bO,bP,bQ,bR,bS,bT,bU,bV,bX,bY,cD,cG,cH,cK,cQ,cS,cT,cM,cN,cO,cP,cW,cU,cV] (H++[iC (grL (mA (kR rows) M g n) n i)])=some (eE H.length n,H++[iC (grL (mA (kR rows) M g n) n n)]):=by
 obtain⟨gr,hgr⟩: ∃gr,gr=mA (kR rows) M g n:=⟨_,rfl⟩;rw[<-hgr];have b0:H[ab]? =some (qM ga aa n):=by rw[<-hg];exact hB _ (aO3 ..)
 have b1:H[ga]? =some (iB g):=hB (ga,iB g) (by simp[jX])
 intro q;induction q with
 |zero=>
  intro i k hq hi hk;intros;obtain⟨k,rfl⟩: ∃k',k=k'+1:=⟨k-1,by omega⟩
  have hie:i=n:=by omega
  subst hie;have c1:decide ((i:Int)<(i:Int))=false:=by simp
  rw[aI,X4];simp only[gsR,c1];rw[aIT];simp only[gsR]
 |succ q ih=>
  intro i k hq hi hk;intros;obtain⟨k,rfl⟩: ∃k',k=k'+1:=⟨k-1,by omega⟩
  have hin:i<n:=by omega
  have c1:decide ((i:Int)<(n:Int))=true:=by rw[decide_eq_true_eq];omega
  obtain⟨G,hG⟩: ∃G,G=H++[iC (grL gr n i)]:=⟨_,rfl⟩;have e0:G[ab]? =some (qM ga aa n):=by rw[hG];exact nF b0 _
  have e1:G[ga]? =some (iB g):=by rw[hG];exact nF b1 _
  have e2:G[sb]? =some (stB mb n (fI M n) (kJ M n)):=by rw[hG];exact nF hs _
  have e3:G[cb]? =some (iC (j9 rows n)):=by rw[hG];exact nF hc _
  have e4:G[H.length]? =some (iC (grL gr n i)):=by rw[hG];exact dJ _ _
  obtain⟨a1,a2⟩:=Gr (c:=n) e3 (aE5 _ _) hin;have a1:aR 1 (eE cb n) (.int .i64 (i:Int))=some (.pointer (some ⟨cb,i,none⟩)):=a1;have l1:ld1 (.pointer (some ⟨sb,1,none⟩)) G=some (.int .u16 (fI M n:Nat),G):=cZ e2 rfl;have l2:ld1 (.pointer (some ⟨sb,2,none⟩)) G=some (.int .u16 (kJ M n:Nat),G):=cZ e2 rfl;have l0:ld1 (.pointer (some ⟨ab,0,none⟩)) G=some (eE ga n,G):=cZ e0 rfl;obtain⟨a3,a4⟩:=Gq e1 hg hin;have hcl:(j9 rows n).getD i 0<65536:=aLX (by omega) hin
  have hil:fI M n<65536:=rI _ h16;have hol:kJ M n<65536:=rI _ h16;have a5:bin prog .and 23 (.int .u16 ((j9 rows n).getD i 0:Nat)) (.int .u16 (fI M n:Nat))=some (.int .u16 ((j9 rows n).getD i 0&&&fI M n:Nat)):=xV .u16 rfl _ (by show _<65536;exact hcl) (by show _<65536;exact hil)
  have hal:(j9 rows n).getD i 0&&&fI M n<65536:=Nat.lt_of_le_of_lt Nat.and_le_left hcl;have a6:bM (eE cb n)=some (.int .i64 n):=rfl;have hgi:g.getD i 0<n:=aAz hgl (by omega)
  have a7:lvl prog pkN m (.func 103) [.int .u16 ((j9 rows n).getD i 0&&&fI M n:Nat),.int .i64 (g.getD i 0:Nat),.int .i64 n] G=some (pI (jY (λj=>((j9 rows n).getD i 0&&&fI M n).testBit j) (g.getD i 0) n),G):=by
   rw[Kw _ (by omega),J3 hal h16 hgi]
   rfl
  have hgm:gr i=if(i:Int)∈M then none else jY (λj=>((j9 rows n).getD i 0&&&fI M n).testBit j) (g.getD i 0) n:=by rw[hgr];exact aL1 hr hin
  have e9:=oO i (by omega)
  rw[aI,X4];rw[<-hG];cases hp:jY (λj=>((j9 rows n).getD i 0&&&fI M n).testBit j) (g.getD i 0) n with
  |none=>
   rw[hp] at a7 hgm;have hno:gr i=none:=by rw[hgm];split<;>rfl
   have c2:((-1:Int)!= -1)=false:=rfl;have hL:=aAr (gr:=gr) (n:=n) (kk:=i) (λj _=>by rw[hno];simp)
   simp only[gsR,c1,a1,a2,l1,a5,l0,a3,a4,a6,a7,pI,c2,cC,e9];rw[hG,<-hL];exact ih (i+1) k (by omega) (by omega) (by omega) ..
  |some j=>
   rw[hp] at a7 hgm;have hjn:=(wB hp).1;have c2:(((j:Int))!= -1)=true:=by rw[bne_iff_ne];omega
   have c3:=aMb (H:=G) (m:=m) (by omega) (kJ M n) i hol (by omega)
   rw[aL5 hin] at c3;by_cases hmem:(i:Int)∈M
   ·have hno:gr i=none:=by rw[hgm,if_pos hmem]
    have hL:=aAr (gr:=gr) (n:=n) (kk:=i) (λj _=>by rw[hno];simp)
    rw[aPE (not_not_intro hmem)] at c3;simp only[gsR,c1,a1,a2,l1,a5,l0,a3,a4,a6,a7,pI,c2,l2,c3,cC,e9];rw[hG,<-hL];exact ih (i+1) k (by omega) (by omega) (by omega) ..
   ·have hyes:gr i=some j:=by rw[hgm,if_neg hmem]
    have hL:=aLY (n:=n) (kk:=i) hjn hyes;rw[aPD hmem] at c3;obtain⟨a8,a9⟩:=Gr (c:=n) e4 (yK _ _ _) hjn;have hv:(grL gr n i).getD j 0=grM gr i j:=by rw[aOY,Ci hjn];rfl
    rw[hv] at a9;obtain⟨s1,s2⟩:=wU (a:=grM gr i j) (i:=i) (aAs _ (by omega) _) (by omega)
    have st:=aAD (grM gr i j|||2 ^ i) e4 (i:=j) (by rw[yK];exact hjn)
    rw[<-hL] at st;have a8':aR 1 (eE H.length n) (.int .i64 (j:Int))=some (.pointer (some ⟨H.length,j,none⟩)):=a8;simp only[gsR,c1,a1,a2,l1,a5,l0,a3,a4,a6,a7,pI,c2,l2,c3,a8',a9,s1,s2,st,cC,e9];rw[hG,nG];exact ih (i+1) k (by omega) (by omega) (by omega) ..
theorem aMe (hB:Blks (jX ab ga aa g a) H)(hs:H[sb]? =some (stB mb n (fI M n) (kJ M n)))(hc:H[cb]? =some (iC (j9 rows n)))(hg:g.length=n)(hgl: ∀z∈g,z<n)(hr:rows.length=n)(hM:M.length=n)(h1:1<=n)(h16:n<=16)(hm:30<m):
  lvl prog pkN m (.func 102) [.pointer (some ⟨ab,0,none⟩),.pointer (some ⟨sb,0,none⟩),eE cb n] H=some (eE H.length n,H++[iC (grL (mA (kR rows) M g n) n n)]):=by
 refine dF (cL rfl) (by omega) ?_
 rw[aIU];have a6:bM (eE cb n)=some (.int .i64 n):=rfl;have mk:=xN (H:=H) 23 1 2 [.int .u16 0] .i64 .i64 (n:Int) (by omega) (by omega) (by omega) rfl
 have hz:H++[Blk.cells (List.replicate (n:Int).toNat [Value.int .u16 0]).flatten 23 .row]=H++[iC (grL (mA (kR rows) M g n) n 0)]:=by
  have: ∀n,(List.replicate n [Value.int .u16 0]).flatten=List.replicate n (.int .u16 0):=by
   intro n;induction n with
   |zero=>rfl
   |succ n ih=>rw[List.replicate_succ,aPu,ih];rfl
  rw[aPm,this,aLZ,iC,List.map_replicate];rfl
 rw[hz,aPm] at mk;simp only[gsR,a6,mk];exact aMf hB hs hc hg hgl hr hM h1 h16 (by omega) n 0 (m-1) rfl (by omega) (by omega) ..
end
end
structure RunS (H:aC)(ab ga aa sb mb cb:Nat)(rows:List Nat)(n:Nat)(s:Mat):Prop where
 arb:Blks (jX ab ga aa s.g s.a) H
 st:H[sb]? =some (stB mb n (fI s.m n) (kJ s.m n))
 mt:H[mb]? =some (gI s.m [])
 cols:H[cb]? =some (iC (j9 rows n))
section
variable {H : aC} {m : Nat} {ab ga aa sb mb cb : Nat} {rows : List Nat} {n : Nat} {s : Mat}
theorem RunS.ext {H':aC}(h:RunS H ab ga aa sb mb cb rows n s)(he:Ext H H'):RunS H' ab ga aa sb mb cb rows n s:=
 ⟨Blks.dx _ _ _ h.arb he,by rw[he.2 _ (dE h.st) id,h.st],by rw[he.2 _ (dE h.mt) id,h.mt],by rw[he.2 _ (dE h.cols) id,h.cols]⟩
theorem Aj {zs:List Nat}{ws:List Int}{lr:List Value}:iC zs≠gI ws lr:=λh=>by
 injection h with _ h2
 revert h2
 decide
theorem O9 {mb n i o:Nat}{ws:List Int}{lr:List Value}:stB mb n i o≠gI ws lr:=λh=>by
 injection h with _ h2
 revert h2
 decide
theorem aAF {mb n i o:Nat}{zs:List Nat}:stB mb n i o≠iC zs:=λh=>by
 injection h with _ h2
 revert h2
 decide
theorem O8 {ga aa n:Nat}{ws:List Int}{lr:List Value}:qM ga aa n≠gI ws lr:=λh=>by
 injection h with _ h2
 revert h2
 decide
theorem aMj {ga aa n mb k i o:Nat}:qM ga aa n≠stB mb k i o:=λh=>by
 injection h with _ h2
 revert h2
 decide
theorem aAE {a i:Nat}(ha:a<65536)(hi:i<16):bin prog .andNot 23 (.int .u16 (a:Int)) (.int .u16 ((2 ^ i:Nat):Int))=some (.int .u16 ((lR a (2 ^ i):Nat):Int)):=
 Uj .u16 rfl _ (by show _<65536;exact ha) (by show _<65536;exact Ea hi)
theorem RunS.aMi (h:RunS H ab ga aa sb mb cb rows n s)(hI:MatI n s)(hn:1<=n)(hne:ga≠aa)(hma:mb≠ga)(hmb:mb≠aa)(first:Bool){i k:Nat}(hi:i<n)(hk:k<n)(hf:s.m.getD i 0= -1):
  let H1:=H.set mb (gI (s.m.set i (k:Int)) [])
  let H2:=H1.set sb (stB mb n (lR (fI s.m n) (2 ^ i)) (kJ s.m n))
  let H3:=H2.set sb (stB mb n (lR (fI s.m n) (2 ^ i)) (lR (kJ s.m n) (2 ^ k)))
  let H4:=H3.set ga (iB (s.g.set k ((i+1)%n)))
  let H5:=H4.set aa (iB (s.a.set i ((k+1)%n)))
  H1[sb]? =some (stB mb n (fI s.m n) (kJ s.m n))/\H2[sb]? =some (stB mb n (lR (fI s.m n) (2 ^ i)) (kJ s.m n))/\
  RunS H3 ab ga aa sb mb cb rows n ⟨s.m.set i (k:Int),s.g,s.a⟩/\H4[aa]? =some (iB s.a)/\RunS H5 ab ga aa sb mb cb rows n ⟨s.m.set i (k:Int),s.g.set k ((i+1)%n),s.a.set i ((k+1)%n)⟩:=by
 intro H1 H2 H3 H4 H5;have b0:H[ab]? =some (qM ga aa s.g.length):=h.arb _ (aO3 ..);have b1:H[ga]? =some (iB s.g):=h.arb (ga,iB s.g) (by simp[jX])
 have b2:H[aa]? =some (iB s.a):=h.arb (aa,iB s.a) (by simp[jX])
 have nsm:sb≠mb:=λhh=>by have:=h.st;rw[hh,h.mt] at this;exact O9 (aPw this).symm
 have nsg:sb≠ga:=λhh=>by have:=h.st;rw[hh,b1] at this;exact O9 (aPw this).symm
 have nsa:sb≠aa:=λhh=>by have:=h.st;rw[hh,b2] at this;exact O9 (aPw this).symm
 have nsc:sb≠cb:=λhh=>by have:=h.st;rw[hh,h.cols] at this;exact aAF (aPw this).symm
 have ncm:cb≠mb:=λhh=>by have:=h.cols;rw[hh,h.mt] at this;exact Aj (aPw this).symm
 have ncg:cb≠ga:=λhh=>by have:=h.cols;rw[hh,b1] at this;exact Aj (aPw this).symm
 have nca:cb≠aa:=λhh=>by have:=h.cols;rw[hh,b2] at this;exact Aj (aPw this).symm
 have nam:ab≠mb:=λhh=>by have:=h.mt;rw[<-hh,b0] at this;exact O8 (aPw this)
 have nag:ab≠ga:=λhh=>by have:=b1;rw[<-hh,b0] at this;exact O8 (aPw this)
 have naa:ab≠aa:=λhh=>by have:=b2;rw[<-hh,b0] at this;exact O8 (aPw this)
 have nas:ab≠sb:=λhh=>by have:=h.st;rw[<-hh,b0] at this;exact aMj (aPw this)
 have s1:H1[sb]? =some (stB mb n (fI s.m n) (kJ s.m n)):=by rw[aOV nsm.symm,h.st]
 have s2:H2[sb]? =some (stB mb n (lR (fI s.m n) (2 ^ i)) (kJ s.m n)):=iE s1;have k3: ∀b,b≠sb->b≠mb->H3[b]? =H[b]? :=λb h1 h2=>by rw[aOV h1.symm,aOV h1.symm,aOV h2.symm]
 have hins:=aL2 (k:=k) hi hI.ml;have houts:=aL4 (k:=k) hi hI.ml hf;have m3:H3[mb]? =some (gI (s.m.set i (k:Int)) []):=by
  rw[aOV nsm,aOV nsm];exact iE h.mt
 have s3:H3[sb]? =some (stB mb n (fI (s.m.set i (k:Int)) n) (kJ (s.m.set i (k:Int)) n)):=by rw[hins,houts];exact iE s2
 have g3:H3[ga]? =some (iB s.g):=by rw[k3 ga nsg.symm hma.symm,b1]
 have a3:H3[aa]? =some (iB s.a):=by rw[k3 aa nsa.symm hmb.symm,b2]
 have r3:H3[ab]? =some (qM ga aa s.g.length):=by rw[k3 ab nas nam,b0]
 have c3:H3[cb]? =some (iC (j9 rows n)):=by rw[k3 cb nsc.symm ncm,h.cols]
 have a4:H4[aa]? =some (iB s.a):=by rw[aOV hne,a3]
 have k5: ∀b,b≠ga->b≠aa->H5[b]? =H3[b]? :=λb h1 h2=>by rw[aOV h2.symm,aOV h1.symm]
 refine⟨s1,s2,⟨λp hp=> ?_,s3,m3,c3⟩,a4,⟨λp hp=> ?_,by rw[k5 sb nsg nsa,s3],by rw[k5 mb hma hmb,m3],by rw[k5 cb ncg nca,c3]⟩⟩
 ·simp only[jX,aPd,aPk,or_false] at hp
  rcases hp with rfl|rfl|rfl
  ·exact r3
  ·exact g3
  ·exact a3
 ·simp only[jX,aPd,aPk,or_false] at hp
  rcases hp with rfl|rfl|rfl
  ·rw[k5 ab nag naa,r3,List.length_set]
  ·rw[aOV hne.symm]
   exact iE g3
  ·exact iE a4
end
section
variable {H : aC} {m : Nat} {ab ga aa sb mb cb : Nat} {rows : List Nat} {n : Nat} {s0 : Mat}
theorem aMk {H0:aC}{rounds rd was:Nat}(hI0:MatI n s0)(h1:1<=n)(h16:n<=16)(hne:ga≠aa)(hma:mb≠ga)(hmb:mb≠aa)(hsb:H0.length<=sb)(hmb0:H0.length<=mb)(hm:2<m){K:Ex->K (Value×aC)}{Q:aC->Value->Prop}
  (hK: ∀H',RunS H' ab ga aa sb mb cb rows n (rnd (kR rows) n (rd==0) s0)->Fr (λb=>b=ga∨b=aa) H0 H'-> ∀(x1 x2 x3 x4 x5 x6 x8 bN aO aP aM aS bI aN bG bJ bL bH bE aT aU aV aW aX aY aZ bA bB bO bP bQ bR bS bT bU bV bX bY cD cG cH cS cT cM cN cO cP cW cU cV cY dA dC dB dD dN dO dR dS dT dU dV dW dX eG eH eI eJ eK eL eM eN eO eP eQ eS eX eY eZ fA fB fC fD fE fJ fK fL fM fN fO fP fQ fR fS fT fU fV fW fX fY fZ gA gB gC gD gE gF gG gH gR gS gT gU gV gW gX gY iN iO iP iQ iR iS iT iV iW iX iY:Value),∃H2 r,Nd (lvl prog pkN m) (aI m) K (.pointer (some ⟨ab,0,none⟩)) x1 x2 x3 x4 x5 x6 (.int .i64 n) x8 (.pointer (some ⟨sb,0,none⟩)) (eE cb n) bN (.int .u16 was) aO aP aM aS bI aN bG bJ bL bH bE aT aU aV aW aX aY aZ bA bB bO bP bQ bR bS bT bU bV bX bY cD cG cH (.int .i64 rounds) (.int .i64 (rd:Nat)) cS cT cM cN cO cP cW cU cV cY dA dC dB dD dN dO dR dS dT dU dV dW dX eG eH eI eJ eK eL eM eN eO eP eQ eS eX eY eZ fA fB fC fD fE fJ fK fL fM fN fO fP fQ fR fS fT fU fV fW fX fY fZ gA gB gC gD gE gF gG gH gR gS gT gU gV gW gX gY iN iO iP iQ iR iS iT iV iW iX iY H'=some (r,H2)/\Q H2 r):
  ∀(q i k:Nat)(H:aC)(gb:Nat),n-i=q->i<=n->q<k->RunS H ab ga aa sb mb cb rows n ((List.range i).foldl (acc (mA (kR rows) s0.m s0.g n) n (rd==0)) s0)->Fr (λb=>b=ga∨b=aa) H0 H->H[gb]? =some (iC (grL (mA (kR rows) s0.m s0.g n) n n))->
  ∀(x1 x2 x3 x4 x5 x6 x8 aO aP aM aS bI aN bG bJ bL bH bE aT aU aV aW aX aY aZ bA bB bO bP bQ bR bS bT bU bV bX bY cD cG cH cS cT cM cN cO cP cW cU cV dB dD dN dO dR dS dT dU dV dW dX eG eH eI eJ eK eL eM eN eO eP eQ eS eX eY eZ fA fB fC fD fE fJ fK fL fM fN fO fP fQ fR fS fT fU fV fW fX fY fZ gA gB gC gD gE gF gG gH gR gS gT gU gV gW gX gY iN iO iP iQ iR iS iT iV iW iX iY:Value),∃H2 r,aI k (aK prog (lvl prog pkN m) (aI m) Nb) (Ng (lvl prog pkN m) (aI m) K) [(.pointer (some ⟨ab,0,none⟩)),x1,x2,x3,x4,x5,x6,(.int .i64 n),x8,(.pointer (some ⟨sb,0,none⟩)),(eE cb n),(.int .i64 (rd:Nat)),(.int .u16 was),aO,aP,aM,aS,bI,aN,bG,bJ,bL,bH,bE,aT,aU,aV,aW,aX,aY,aZ,bA,bB,bO,bP,bQ,bR,bS,bT,bU,bV,bX,bY,cD,cG,cH,(.int .i64 rounds),(.int .i64 (rd:Nat)),cS,cT,cM,cN,cO,cP,cW,cU,cV,(eE gb n),(.int .i64 n),(.int .i64 (i:Nat)),dB,dD,dN,dO,dR,dS,dT,dU,dV,dW,dX,eG,eH,eI,eJ,eK,eL,eM,eN,eO,eP,eQ,eS,eX,eY,eZ,fA,fB,fC,fD,fE,fJ,fK,fL,fM,fN,fO,fP,fQ,fR,fS,fT,fU,fV,fW,fX,fY,fZ,gA,gB,gC,gD,gE,gF,gG,gH,gR,gS,gT,gU,gV,gW,gX,gY,iN,iO,iP,iQ,iR,iS,iT,iV,iW,iX,iY] H=some (r,H2)/\Q H2 r:=by
 intro q;induction q with
 |zero=>
  intro i k H gb hq hi hk hS hfr hgb;intros;obtain⟨k,rfl⟩: ∃k',k=k'+1:=⟨k-1,by omega⟩
  have hie:i=n:=by omega
  subst hie;have c1:decide ((i:Int)<(i:Int))=false:=by simp
  rw[aI,Yj];simp only[gsR,c1];rw[aJD];exact hK H hS hfr ..
 |succ q ih=>
  intro i k H gb hq hi hk hS hfr hgb;intros;obtain⟨k,rfl⟩: ∃k',k=k'+1:=⟨k-1,by omega⟩
  have hin:i<n:=by omega
  obtain⟨gr,hgr⟩: ∃gr,gr=mA (kR rows) s0.m s0.g n:=⟨_,rfl⟩;obtain⟨s,hs⟩: ∃s,s=(List.range i).foldl (acc gr n (rd==0)) s0:=⟨_,rfl⟩;rw[<-hgr] at hS hgb ih;rw[<-hs] at hS;have hI:MatI n s:=by rw[hs];exact MatI.Of (by omega) _ hI0
  have hmi:s.m.getD i 0=s0.m.getD i 0:=by rw[hs];exact Bg _ _ (by simp)
  have hnext:(List.range (i+1)).foldl (acc gr n (rd==0)) s0=match jY (λk=>(grM gr n i).testBit k) (s.a.getD i 0) n with
   |none=>s
   |some k=>⟨s.m.set i (k:Int),if(rd==0)=true then s.g.set k ((i+1)%n) else s.g,if(rd==0)=true then s.a.set i ((k+1)%n) else s.a⟩:=by
   rw[aPt,List.foldl_append,List.foldl_cons,List.foldl_nil,<-hs,hgr];exact aLV hmi
  have c1:decide ((i:Int)<(n:Int))=true:=by rw[decide_eq_true_eq];omega
  have b0:H[ab]? =some (qM ga aa s.g.length):=hS.arb _ (aO3 ..);have b1:H[ga]? =some (iB s.g):=hS.arb (ga,iB s.g) (by simp[jX])
  have b2:H[aa]? =some (iB s.a):=hS.arb (aa,iB s.a) (by simp[jX])
  rw[hI.gl] at b0;obtain⟨a1,a2⟩:=Gr (c:=n) hgb (yK _ _ _) hin;have a1:aR 1 (eE gb n) (.int .i64 (i:Int))=some (.pointer (some ⟨gb,i,none⟩)):=a1;have hv:(grL gr n n).getD i 0=grM gr n i:=by rw[aOY,Ci hin];rfl
  rw[hv] at a2;have l1:ld1 (.pointer (some ⟨ab,1,none⟩)) H=some (eE aa n,H):=cZ b0 rfl;obtain⟨a3,a4⟩:=Gq b2 hI.al hin;have hai:s.a.getD i 0<n:=aAz hI.a (by rw[hI.al];exact hin)
  have a5:lvl prog pkN m (.func 103) [.int .u16 (grM gr n i:Nat),.int .i64 (s.a.getD i 0:Nat),.int .i64 n] H=some (pI (jY (λj=>(grM gr n i).testBit j) (s.a.getD i 0) n),H):=by
   rw[Kw _ (by omega),J3 (aAs gr h16 i) h16 hai]
   rfl
  have e9:=oO i (by omega)
  rw[aI,Yj];cases hp:jY (λk=>(grM gr n i).testBit k) (s.a.getD i 0) n with
  |none=>
   rw[hp] at a5 hnext;have c2:((-1:Int)== -1)=true:=rfl;simp only[gsR,c1,a1,a2,l1,a3,a4,a5,pI,c2,cC,e9];exact ih (i+1) k H gb (by omega) (by omega) (by omega) (by rw[hnext];exact hS) hfr hgb ..
  |some j=>
   rw[hp] at a5 hnext;have hjn:=(wB hp).1;have hjb:=(wB hp).2;have hfree:s.m.getD i 0= -1:=by
    have:gr j=some i:=by
     rw[grM,lL,aPD hjn,aPh,beq_iff_eq] at hjb;exact hjb
    rw[hgr] at this;exact hmi.trans (aAu this).1
   have c2:((j:Int)== -1)=false:=by rw[beq_eq_false_iff_ne];omega
   obtain⟨t1,t2,t3,t4,t5⟩:=hS.aMi hI h1 hne hma hmb (rd==0) hin hjn hfree;have l2:ld1 (.pointer (some ⟨sb,0,none⟩)) H=some (eE mb n,H):=cZ hS.st rfl;have i2:aR 1 (eE mb n) (.int .i64 (i:Int))=some (.pointer (some ⟨mb,i,none⟩)):=(Ai (c:=n) hS.mt hI.ml hin).1;have st1:=aAB (i:=i) (j:Int) hS.mt (by rw[hI.ml];exact hin)
   obtain⟨H1,hH1⟩: ∃H1,H1=H.set mb (gI (s.m.set i (j:Int)) []):=⟨_,rfl⟩;rw[<-hH1] at t1 t2 t3 t4 t5 st1;have l3:ld1 (.pointer (some ⟨sb,1,none⟩)) H1=some (.int .u16 (fI s.m n:Nat),H1):=cZ t1 rfl;have hil:fI s.m n<65536:=rI _ h16;have hol:kJ s.m n<65536:=rI _ h16;have hi1:=(wU (a:=0) (i:=i) (by omega) (by omega)).1
   have hj1:=(wU (a:=0) (i:=j) (by omega) (by omega)).1
   have hi2:=aAE (i:=i) hil (by omega)
   have hj2:=aAE (i:=j) hol (by omega)
   have st2:stN 1 (.pointer (some ⟨sb,1,none⟩)) (.int .u16 (lR (fI s.m n) (2 ^ i):Nat)) H1=some (undef,H1.set sb (stB mb n (lR (fI s.m n) (2 ^ i)) (kJ s.m n))):=kZ t1 (by decide) (by simp)
   obtain⟨H2,hH2⟩: ∃H2,H2=H1.set sb (stB mb n (lR (fI s.m n) (2 ^ i)) (kJ s.m n)):=⟨_,rfl⟩;rw[<-hH2] at t2 t3 t4 t5 st2;have l4:ld1 (.pointer (some ⟨sb,2,none⟩)) H2=some (.int .u16 (kJ s.m n:Nat),H2):=cZ t2 rfl;have st3:stN 1 (.pointer (some ⟨sb,2,none⟩)) (.int .u16 (lR (kJ s.m n) (2 ^ j):Nat)) H2=some (undef,H2.set sb (stB mb n (lR (fI s.m n) (2 ^ i)) (lR (kJ s.m n) (2 ^ j)))):=kZ t2 (by decide) (by simp)
   obtain⟨H3,hH3⟩: ∃H3,H3=H2.set sb (stB mb n (lR (fI s.m n) (2 ^ i)) (lR (kJ s.m n) (2 ^ j))):=⟨_,rfl⟩;rw[<-hH3] at t3 t4 t5 st3;have ngs:gb≠sb:=λhh=>by have:=hS.st;rw[<-hh,hgb] at this;exact aAF (aPw this).symm
   have ngm:gb≠mb:=λhh=>by have:=hS.mt;rw[<-hh,hgb] at this;exact Aj (aPw this)
   have ngg:gb≠ga:=λhh=>by have:=b1;rw[<-hh,hgb] at this;exact Aj (aPw this)
   have nga:gb≠aa:=λhh=>by have:=b2;rw[<-hh,hgb] at this;exact Aj (aPw this)
   have k3: ∀b,b≠sb->b≠mb->H3[b]? =H[b]? :=λb h1 h2=>by rw[hH3,hH2,hH1,aOV h1.symm,aOV h1.symm,aOV h2.symm]
   have hl3:H3.length=H.length:=by rw[hH3,hH2,hH1];simp
   have f3:Fr (λb=>b=ga∨b=aa) H0 H3:=⟨by rw[hl3];exact hfr.1,λb hb hn=>by rw[k3 b (by omega) (by omega),hfr.2 b hb hn]⟩
   have g3:H3[gb]? =some (iC (grL gr n n)):=by rw[k3 gb ngs ngm,hgb]
   by_cases hrd:rd=0
   ·subst hrd
    have c3:(((0:Nat):Int)==0)=true:=rfl;have q0:H3[ab]? =some (qM ga aa s.g.length):=t3.arb _ (aO3 ..);rw[hI.gl] at q0;have q1:H3[ga]? =some (iB s.g):=t3.arb (ga,iB s.g) (by simp[jX])
    have l5:ld1 (.pointer (some ⟨ab,0,none⟩)) H3=some (eE ga n,H3):=cZ q0 rfl;have l6:ld1 (.pointer (some ⟨ab,1,none⟩)) H3=some (eE aa n,H3):=cZ q0 rfl;have e10:=oO j (by omega)
    have r1:bin prog .rem 3 (.int .i64 ((i+1:Nat):Int)) (.int .i64 n)=some (.int .i64 (((i+1)%n:Nat):Int)):=q9 (i+1) n _ rfl (by omega)
    have r2:bin prog .rem 3 (.int .i64 ((j+1:Nat):Int)) (.int .i64 n)=some (.int .i64 (((j+1)%n:Nat):Int)):=q9 (j+1) n _ rfl (by omega)
    have i5:=(Gq q1 hI.gl hjn).1;have i6:=(Gq (b:=aa) (H:=H) b2 hI.al hin).1;have st4:=aAC (i:=j) ((i+1)%n) q1 (by rw[hI.gl];exact hjn)
    obtain⟨H4,hH4⟩: ∃H4,H4=H3.set ga (iB (s.g.set j ((i+1)%n))):=⟨_,rfl⟩;rw[<-hH4] at t4 t5 st4;have st5:=aAC (i:=i) ((j+1)%n) t4 (by rw[hI.al];exact hin)
    obtain⟨H5,hH5⟩: ∃H5,H5=H4.set aa (iB (s.a.set i ((j+1)%n))):=⟨_,rfl⟩;rw[<-hH5] at t5 st5;simp only[gsR,c1,a1,a2,l1,a3,a4,a5,pI,c2,l2,i2,st1,l3,hi1,hi2,st2,l4,hj1,hj2,st3,c3,l5,l6,cC,e9,e10,r1,r2,i5,i6,st4,st5];refine ih (i+1) k H5 gb (by omega) (by omega) (by omega) (by rw[hnext];exact t5) ?_ ?_ ..
    ·refine⟨by rw[hH5,hH4];simp;exact f3.1,λb hb hn=> ?_⟩
     rw[hH5,hH4,aOV (λhh=>hn (.inr hh.symm)),aOV (λhh=>hn (.inl hh.symm)),f3.2 b hb hn]
    ·rw[hH5,hH4,aOV nga.symm,aOV ngg.symm,g3]
   ·have c3:((rd:Int)==0)=false:=by rw[beq_eq_false_iff_ne];omega
    have c4:(rd==0)=false:=by simpa using hrd
    rw[c4] at hnext;simp only[gsR,c1,a1,a2,l1,a3,a4,a5,pI,c2,l2,i2,st1,l3,hi1,hi2,st2,l4,hj1,hj2,st3,c3,cC,e9];refine ih (i+1) k H3 gb (by omega) (by omega) (by omega) ?_ f3 g3 ..
    rw[c4,hnext];exact t3
end
section
variable {H : aC} {m : Nat} {ab ga aa sb mb cb : Nat} {rows : List Nat} {n : Nat}
def oP (rows:List Nat)(n:Nat)(s:Mat):Nat->Mat
 |0=>s
 |k+1=>rnd (kR rows) n (k==0) (oP rows n s k)
theorem Pa {s:Mat}(h:MatI n s)(hn:1<=n): ∀k,MatI n (oP rows n s k)
 |0=>h
 |k+1=>(Pa h hn k).rnd (by omega)
theorem aAH (req:Nat->Nat->Bool): ∀(k:Nat)(s:Mat),uT req n (k+1) s=rnd req n false (uT req n k s)
 |0,s=>rfl
 |k+1,s=>by
  rw[uT,aAH req k,uT]
theorem Pb (g a:List Nat): ∀k,oP rows n ⟨List.replicate n (-1),g,a⟩ (k+1)=oI (kR rows) n (k+1) g a
 |0=>rfl
 |k+1=>by
  rw[oP,Pb g a k];unfold oI;have:(k+1==0)=false:=rfl;rw[this,show k+1+1-1=k+1 by omega,aAH]
  rfl
theorem aAG {s:Mat}(h:MatI n s)(hn:1<=n){k:Nat}(he:oP rows n s (k+1)=oP rows n s k): ∀j,oP rows n s (k+j)=oP rows n s k
 |0=>rfl
 |j+1=>by
  rw[<-Nat.add_assoc,oP,aAG h hn he j];rw[oP] at he;exact aE4 (by rw[(Pa h hn k).ml];exact aOZ _) _ he
theorem aMn {H0:aC}{rounds:Nat}{g a:List Nat}(hI0:MatI n ⟨List.replicate n (-1),g,a⟩)(h1:1<=n)(h16:n<=16)(hne:ga≠aa)(hma:mb≠ga)(hmb:mb≠aa)(hsb:H0.length<=sb)(hmb0:H0.length<=mb)(hr:rows.length=n)(hrd:1<=rounds)(hr16:rounds<=16)(hm:80<m){Q:aC->Value->Prop}
  (hK: ∀H',RunS H' ab ga aa sb mb cb rows n (oP rows n ⟨List.replicate n (-1),g,a⟩ rounds)->Fr (λb=>b=ga∨b=aa) H0 H'->Q H' (eE mb n)):
  ∀(q i k:Nat)(H:aC),rounds-i=q->i<=rounds->q<k->RunS H ab ga aa sb mb cb rows n (oP rows n ⟨List.replicate n (-1),g,a⟩ i)->Fr (λb=>b=ga∨b=aa) H0 H->
  ∀(x1 x2 x3 x4 x5 x6 x8 bN bC aO aP aM aS bI aN bG bJ bL bH bE aT aU aV aW aX aY aZ bA bB bO bP bQ bR bS bT bU bV bX bY cD cG cH cS cT cM cN cO cP cW cU cV cY dA dC dB dD dN dO dR dS dT dU dV dW dX eG eH eI eJ eK eL eM eN eO eP eQ eS eX eY eZ fA fB fC fD fE fJ fK fL fM fN fO fP fQ fR fS fT fU fV fW fX fY fZ gA gB gC gD gE gF gG gH gR gS gT gU gV gW gX gY iN iO iP iQ iR iS iT iV iW iX iY:Value),∃H2 r,aI k (aK prog (lvl prog pkN m) (aI m) Na) (Nf (lvl prog pkN m) (aI m)) [(.pointer (some ⟨ab,0,none⟩)),x1,x2,x3,x4,x5,x6,(.int .i64 n),x8,(.pointer (some ⟨sb,0,none⟩)),(eE cb n),bN,bC,aO,aP,aM,aS,bI,aN,bG,bJ,bL,bH,bE,aT,aU,aV,aW,aX,aY,aZ,bA,bB,bO,bP,bQ,bR,bS,bT,bU,bV,bX,bY,cD,cG,cH,(.int .i64 rounds),(.int .i64 (i:Nat)),cS,cT,cM,cN,cO,cP,cW,cU,cV,cY,dA,dC,dB,dD,dN,dO,dR,dS,dT,dU,dV,dW,dX,eG,eH,eI,eJ,eK,eL,eM,eN,eO,eP,eQ,eS,eX,eY,eZ,fA,fB,fC,fD,fE,fJ,fK,fL,fM,fN,fO,fP,fQ,fR,fS,fT,fU,fV,fW,fX,fY,fZ,gA,gB,gC,gD,gE,gF,gG,gH,gR,gS,gT,gU,gV,gW,gX,gY,iN,iO,iP,iQ,iR,iS,iT,iV,iW,iX,iY] H=some (r,H2)/\Q H2 r:=by
 have out: ∀(H:aC),RunS H ab ga aa sb mb cb rows n (oP rows n ⟨List.replicate n (-1),g,a⟩ rounds)->Fr (λb=>b=ga∨b=aa) H0 H-> ∀(x0 x1 x2 x3 x4 x5 x6 x7 x8 bK bN bC aO aP aM aS bI aN bG bJ bL bH bE aT aU aV aW aX aY aZ bA bB bO bP bQ bR bS bT bU bV bX bY cD cG cH cK cQ cS cT cM cN cO cP cW cU cV cY dA dC dB dD dN dO dR dS dT dU dV dW dX eG eH eI eJ eK eL eM eN eO eP eQ eS eX eY eZ fA fB fC fD fE fJ fK fL fM fN fO fP fQ fR fS fT fU fV fW fX fY fZ gA gB gC gD gE gF gG gH gR gS gT gU gV gW gX gY iN iO iP iQ iR iS iT iV iW iX iY:Value),∃H2 r,Nc (lvl prog pkN m) (aI m) x0 x1 x2 x3 x4 x5 x6 x7 x8 (.pointer (some ⟨sb,0,none⟩)) bK bN bC aO aP aM aS bI aN bG bJ bL bH bE aT aU aV aW aX aY aZ bA bB bO bP bQ bR bS bT bU bV bX bY cD cG cH cK cQ cS cT cM cN cO cP cW cU cV cY dA dC dB dD dN dO dR dS dT dU dV dW dX eG eH eI eJ eK eL eM eN eO eP eQ eS eX eY eZ fA fB fC fD fE fJ fK fL fM fN fO fP fQ fR fS fT fU fV fW fX fY fZ gA gB gC gD gE gF gG gH gR gS gT gU gV gW gX gY iN iO iP iQ iR iS iT iV iW iX iY H=some (r,H2)/\Q H2 r:=by
  intro H hS hfr;intros;have l2:ld1 (.pointer (some ⟨sb,0,none⟩)) H=some (eE mb n,H):=cZ hS.st rfl;unfold Nc;simp only[gsR,l2]
  exact⟨_,_,rfl,hK H hS hfr⟩
 intro q;induction q with
 |zero=>
  intro i k H hq hi hk hS hfr;intros;obtain⟨k,rfl⟩: ∃k',k=k'+1:=⟨k-1,by omega⟩
  have hie:i=rounds:=by omega
  subst hie;have c1:decide ((i:Int)<(i:Int))=false:=by simp
  rw[aI,Yi];simp only[gsR,c1];rw[Yk];exact out H hS hfr ..
 |succ q ih=>
  intro i k H hq hi hk hS hfr;intros;obtain⟨k,rfl⟩: ∃k',k=k'+1:=⟨k-1,by omega⟩
  have c1:decide ((i:Int)<(rounds:Int))=true:=by rw[decide_eq_true_eq];omega
  obtain⟨s0,hs0⟩: ∃s0,s0=oP rows n ⟨List.replicate n (-1),g,a⟩ i:=⟨_,rfl⟩;have hI:MatI n s0:=by rw[hs0];exact Pa hI0 h1 i
  rw[<-hs0] at hS;have l1:ld1 (.pointer (some ⟨sb,1,none⟩)) H=some (.int .u16 (fI s0.m n:Nat),H):=cZ hS.st rfl;have a1:=aMe (m:=m) hS.arb hS.st hS.cols hI.gl hI.g hr hI.ml h1 h16 (by omega)
  have a2:bM (eE H.length n)=some (.int .i64 n):=rfl;rw[aI,Yi];simp only[gsR,c1,l1,a1,a2];refine aMk (H0:=H0) (s0:=s0) (was:=fI s0.m n) (rd:=i) (rounds:=rounds) hI h1 h16 hne hma hmb hsb hmb0 (by omega) ?_ n 0 m _ H.length (by omega) (by omega) (by omega) (hS.ext (Fr.app _ _ _)) ⟨by have:=hfr.1;simp;omega,λb hb hn=>by rw[aOX (aO9 hb hfr.1),hfr.2 b hb hn]⟩ (dJ _ _) ..
  intro H' hS' hfr';intros;have l3:ld1 (.pointer (some ⟨sb,1,none⟩)) H'=some (.int .u16 (fI (rnd (kR rows) n (i==0) s0).m n:Nat),H'):=cZ hS'.st rfl;have hrk:rnd (kR rows) n (i==0) s0=oP rows n ⟨List.replicate n (-1),g,a⟩ (i+1):=by rw[oP,hs0]
  have e9:=oO i (by omega)
  unfold Nd;by_cases hst:fI (rnd (kR rows) n (i==0) s0).m n=fI s0.m n
  ·have c2:(((fI (rnd (kR rows) n (i==0) s0).m n:Nat):Int)==((fI s0.m n:Nat):Int))=true:=by rw[hst];simp
   have hsame:=aL8 hI.ml hst;simp only[gsR,l3,c2];rw[Yk];refine out H' ?_ hfr' ..;have:oP rows n ⟨List.replicate n (-1),g,a⟩ rounds=rnd (kR rows) n (i==0) s0:=by
    have:=aAG (rows:=rows) hI0 h1 (k:=i) (by rw[<-hrk,hsame,hs0]) (rounds-i)
    rw[show i+(rounds-i)=rounds by omega] at this
    rw[this,hsame,hs0]
   rw[this];exact hS'
  ·have c2:(((fI (rnd (kR rows) n (i==0) s0).m n:Nat):Int)==((fI s0.m n:Nat):Int))=false:=by rw[beq_eq_false_iff_ne];omega
   rw[hrk] at hS';simp only[gsR,l3,c2,cC,e9];exact ih (i+1) k H' (by omega) (by omega) (by omega) hS' hfr' ..
theorem aMm {g a:List Nat}{qb rounds:Nat}(hB:Blks (jX ab ga aa g a) H)(hne:ga≠aa)(hg:g.length=n)(ha:a.length=n)(hgl: ∀z∈g,z<n)(hal: ∀z∈a,z<n)(h1:1<=n)(h15:n<=15)(hq:H[qb]? =some (iC rows))(hr:rows.length=n)(hrl: ∀z∈rows,z<65536)(hrd:1<=rounds)(hr16:rounds<=16)(hm:100<m):
  ∃H' mb,lvl prog pkN m (.func 50) [.pointer (some ⟨ab,0,none⟩),eE qb n,.int .i64 rounds] H=some (eE mb n,H')/\H'[mb]? =some (gI (oI (kR rows) n rounds g a).m [])/\H.length<=mb/\Fr (λb=>b=ga∨b=aa) H H'/\Blks (jX ab ga aa (oI (kR rows) n rounds g a).g (oI (kR rows) n rounds g a).a) H':=by
 have main: ∃H' r,lvl prog pkN m (.func 50) [.pointer (some ⟨ab,0,none⟩),eE qb n,.int .i64 rounds] H=some (r,H')/\(r=eE (H.length+1) n/\H'[H.length+1]? =some (gI (oI (kR rows) n rounds g a).m [])/\Fr (λb=>b=ga∨b=aa) H H'/\Blks (jX ab ga aa (oI (kR rows) n rounds g a).g (oI (kR rows) n rounds g a).a) H'):=by
  have h16:n<=16:=by omega
  have b0:H[ab]? =some (qM ga aa g.length):=hB _ (aO3 ..);have b1:H[ga]? =some (iB g):=hB (ga,iB g) (by simp[jX])
  have b2:H[aa]? =some (iB a):=hB (aa,iB a) (by simp[jX])
  rw[hg] at b0;refine jJ (cL rfl) (by omega) ?_
  rw[aJE];have l0:ld1 (.pointer (some ⟨ab,0,none⟩)) H=some (eE ga n,H):=cZ b0 rfl;have e0: ∀b,bM (eE b n)=some (.int .i64 n):=λ_=>rfl
  have c1:((n:Int)!=(n:Int))=false:=by simp
  have c2:decide ((rounds:Int)<1)=false:=by rw[decide_eq_false_iff_not];omega
  have c3:decide ((16:Int)<(rounds:Int))=false:=by rw[decide_eq_false_iff_not];omega
  have e1:=(wU (a:=0) (i:=n) (by omega) (by omega)).1
  have hpow:2 ^ n<2 ^ 17:=Nat.pow_lt_pow_right (by omega) (by omega)
  have hpos:0<2 ^ n:=Nat.pow_pos (by omega)
  have hpl:2 ^ n<65536:=Ea (by omega)
  have e2:IntKind.u16.wrap ((2 ^ n:Nat)-(1:Int))=((2 ^ n-1:Nat):Int):=by rw[Be];omega
  have e3:dL 3 1 1 [.int .i64 0] [(0,.int .i64 (-1))] H=some (.slice (some ⟨H.length,0,none⟩) 1 1,H++[.cells [.int .i64 (-1)] 3 .row]):=rfl;obtain⟨H1,hH1⟩: ∃H1,H1=H++[Blk.cells [.int .i64 (-1)] 3 .row]:=⟨_,rfl⟩;rw[<-hH1] at e3;have h1l:H1.length=H.length+1:=by rw[hH1];simp
  have e4:=aLP (H:=H1) (m:=m-1) (by omega) n h1 h16 (c:=1) (by rw[hH1];exact dJ H _)
  obtain⟨H2,hH2⟩: ∃H2,H2=H1++[lW n n]:=⟨_,rfl⟩;rw[<-hH2] at e4;have h2l:H2.length=H.length+2:=by rw[hH2];simp;omega
  have e5:bld prog 201 [(0,eE H1.length n),(1,.int .u16 (2 ^ n-1:Nat)),(2,.int .u16 (2 ^ n-1:Nat))]=some (.agg #[eE H1.length n,.int .u16 (2 ^ n-1:Nat),.int .u16 (2 ^ n-1:Nat)]):=rfl;have e6:H2++[Blk.cells (Value.cells (.agg #[eE H1.length n,.int .u16 (2 ^ n-1:Nat),.int .u16 (2 ^ n-1:Nat)])).toList 201 .fix]=H2++[stB H1.length n (2 ^ n-1) (2 ^ n-1)]:=rfl;obtain⟨H3,hH3⟩: ∃H3,H3=H2++[stB H1.length n (2 ^ n-1) (2 ^ n-1)]:=⟨_,rfl⟩;have h3l:H3.length=H.length+3:=by rw[hH3];simp;omega
  have x3:Ext H H3:=by
   have y1:Ext H H1:=by rw[hH1];exact Fr.app _ _ _
   have y2:Ext H1 H2:=by rw[hH2];exact Fr.app _ _ _
   have y3:Ext H2 H3:=by rw[hH3];exact Fr.app _ _ _
   exact(y1.tr y2).tr y3
  have hq3:H3[qb]? =some (iC rows):=by rw[x3.2 _ (dE hq) id,hq]
  have e7:lvl prog pkN (m-1) (.func 101) [eE qb n,.int .i64 n] H3=some (eE H3.length n,H3++[iC (j9 rows n)]):=by
   rw[aGj _ (by omega)]
   unfold uU eE;simp only;rw[if_pos (by omega),hq3]
   unfold iC;simp only;rw[if_pos (by simp;omega),List.drop_zero,List.take_of_length_le (by simp;omega),Ur rows hrl]
   simp only[aPm]
  simp only[gsR,l0,e0,c1,c2,c3,e1,iM,e2,e3,e4,e5,e6,<-hH3,e7];have hI0:MatI n ⟨List.replicate n (-1),g,a⟩:=MatI.Zn hg ha hgl hal;have x4:Ext H (H3++[iC (j9 rows n)]):=by
   have y4:Ext H3 (H3++[iC (j9 rows n)]):=Fr.app _ _ _;exact x3.tr y4
  have x4':Ext H3 (H3++[iC (j9 rows n)]):=Fr.app _ _ _;have hm3:H3[H1.length]? =some (gI (List.replicate n (-1)) []):=by
   have:H2[H1.length]? =some (lW n n):=by rw[hH2];exact dJ _ _
   rw[hH3,nF this];unfold lW gI;rw[Nat.sub_self,List.map_replicate];rfl
  have hs3:H3[H2.length]? =some (stB H1.length n (2 ^ n-1) (2 ^ n-1)):=by rw[hH3];exact dJ _ _
  have hS:RunS (H3++[iC (j9 rows n)]) ab ga aa H2.length H1.length H3.length rows n ⟨List.replicate n (-1),g,a⟩:=by
   refine⟨Blks.dx _ _ _ hB x4,?_,by rw[x4'.2 _ (dE hm3) id,hm3],dJ _ _⟩
   rw[x4'.2 _ (dE hs3) id,hs3];simp only;rw[aL3,aL6]
  have hgal:=dE b1;have haal:=dE b2;refine aMn (H0:=H) (rounds:=rounds) hI0 h1 h16 hne (by omega) (by omega) (by omega) (by omega) hr hrd hr16 (by omega) ?_ rounds 0 (m-1) _ (by omega) (by omega) (by omega) hS (x4.Bb λ_ h=>h.elim) ..
  intro H' hS' hfr';have hmt:=hS'.mt;obtain⟨r',hr'⟩: ∃r',rounds=r'+1:=⟨rounds-1,by omega⟩
  have harb:=hS'.arb;rw[hr',Pb,<-hr',h1l] at hmt;rw[hr',Pb,<-hr'] at harb
  exact⟨by rw[h1l],hmt,hfr',harb⟩
 obtain⟨H',r,g1,rfl,g2,g3,g4⟩:=main
 exact⟨H',H.length+1,g1,g2,by omega,g3,g4⟩
theorem aMl (h1:1<=n)(h16:n<=16)(hm:0<m): ∃ab ga aa H',lvl prog pkN m (.func 40) [.int .i64 n] H=some (.pointer (some ⟨ab,0,none⟩),H')/\Blks (jX ab ga aa (List.replicate n 0) (List.replicate n 0)) H'/\ga≠aa/\Ext H H'/\H.length<=ab/\H.length<=ga/\H.length<=aa:=by
 have mk:=λH:aC=>xN (H:=H) 3 1 8 [.int .i64 0] .i64 .i64 (n:Int) (by omega) (by omega) (by omega) rfl
 have hz: ∀H:aC,H++[Blk.cells (List.replicate (n:Int).toNat [Value.int .i64 0]).flatten 3 .row]=H++[iB (List.replicate n 0)]:=λH=>by
  have: ∀n,(List.replicate n [Value.int .i64 0]).flatten=List.replicate n (.int .i64 0):=by
   intro n;induction n with
   |zero=>rfl
   |succ n ih=>rw[List.replicate_succ,aPu,ih];rfl
  rw[aPm,this,iB,gI,u9,List.map_replicate,List.map_replicate,List.append_nil];rfl
 have mk': ∀H:aC,lO 3 1 8 [.int .i64 0] (.int .i64 (n:Int)) (.int .i64 (n:Int)) H=some (eE H.length n,H++[iB (List.replicate n 0)]):=λH=>by
  have:=mk H;rw[hz,aPm] at this;exact this
 obtain⟨H1,hH1⟩: ∃H1,H1=H++[iB (List.replicate n 0)]:=⟨_,rfl⟩;obtain⟨H2,hH2⟩: ∃H2,H2=H1++[iB (List.replicate n 0)]:=⟨_,rfl⟩;have h1l:H1.length=H.length+1:=by rw[hH1];simp
 have h2l:H2.length=H.length+2:=by rw[hH2];simp;omega
 have e5:bld prog 176 [(0,eE H.length n),(1,eE H1.length n)]=some (.agg #[eE H.length n,eE H1.length n]):=rfl;have c2:decide ((n:Int)<1)=false:=by rw[decide_eq_false_iff_not];omega
 have c3:decide ((16:Int)<(n:Int))=false:=by rw[decide_eq_false_iff_not];omega
 have e6:H2++[Blk.cells (Value.cells (.agg #[eE H.length n,eE H1.length n])).toList 176 .fix]=H2++[qM H.length H1.length n]:=rfl;have y1:Ext H H1:=by rw[hH1];exact Fr.app _ _ _
 have y2:Ext H1 H2:=by rw[hH2];exact Fr.app _ _ _
 have y3:Ext H2 (H2++[qM H.length H1.length n]):=Fr.app _ _ _;refine⟨H2.length,H.length,H1.length,H2++[qM H.length H1.length n],dF (cL rfl) (by omega) ?_,λp hp=> ?_,by omega,(y1.tr y2).tr y3,by omega,by omega,by omega⟩
 ·rw[aJt]
  simp only[gsR,c2,c3,mk',<-hH1,<-hH2,e5,e6]
 ·have q1:H1[H.length]? =some (iB (List.replicate n 0)):=by rw[hH1];exact dJ _ _
  have q2:H2[H1.length]? =some (iB (List.replicate n 0)):=by rw[hH2];exact dJ _ _
  simp only[jX,aPd,aPk,or_false,List.length_replicate] at hp;rcases hp with rfl|rfl|rfl
  ·exact dJ _ _
  ·simp only
   rw[y3.2 _ (by rw[h2l];omega) id,y2.2 _ (by omega) id,q1]
  ·simp only
   rw[y3.2 _ (by rw[h2l,h1l];omega) id,q2]
end
end Go.Proofs.YtkeilicinggjmaaGreatDoor
namespace Go.Proofs.YtkeilicinggjmaaGreatDoor
open Go.Proofs.Tryz
open Go.Abs
open Classical
def iJ (p:PlanD)(me:Nat):Cfg where
 nodes:=p.nodes.toNat
 lanes:=p.lanes.toNat
 room:=p.room.toNat
 queue:=p.queue.toNat
 rounds:=p.rounds.toNat
 every:=p.every.toNat
 weights:=p.weights
 start:=p.start.toNat
 me:=me
 by':=(bes p.edges me).map Int.toNat
 port:=λd=>if d=me then 0 else match ((bes p.edges me).map Int.toNat).findIdx? λw:Nat=>decide ((w:Int)=nx p me d) with
  |some j=>j+1
  |none=>0
structure Lay where
 nb:Nat
 pb:Nat
 pcap:Nat
 prest:List Value
 lb:Nat->Nat
 lcap:Nat->Nat
 lrest:Nat->List Value
 wh:Nat->Nat
 ww:Nat->Nat
 wl:Nat->Nat
 wc:Nat->Nat
 lc:Nat->Nat
 wr:Nat->List Value
 lr:Nat->List Value
 sb:Nat->Nat->Nat
 rb:Nat->Nat->Nat
 ab:Nat
 ga:Nat
 aa:Nat
 hb:Nat
 rg:Nat
inductive Part where
 |node
 |host
 |rings
 |arb
 |whl (i:Nat)
 |snd (i k:Nat)
 |rcv (i k:Nat)
abbrev pt (b:Nat):Value:= .pointer (some ⟨b,0,none⟩)
def kS (c:Cfg)(i:Nat):Nat:=if i=0 then c.me else c.by'.getD (i-1) 0
def mY (y:Lay)(c:Cfg)(i:Nat):Value:=if i=0 then .slice none 0 0 else .slice (some ⟨y.lb i,0,none⟩) c.lanes (y.lcap i)
def gQ (y:Lay)(c:Cfg)(i:Nat):List Value:=[.int .i64 (kS c i),mY y c i,pt (y.wh i)]
def mL (y:Lay)(i k:Nat):List Value:=[pt (y.sb i k),pt (y.rb i k)]
def jC (y:Lay)(c:Cfg):Value:= .slice (some ⟨y.pb,0,none⟩) c.aH y.pcap
def Pe (bag:Int)(ev wv nv:Value)(y:Lay)(c:Cfg)(ticks:Nat):List Value:=
 [pt y.ab,.int .i64 c.nodes,ev,.int .i64 c.lanes,.int .i64 c.room,.int .i64 c.queue,.int .i64 c.rounds,.int .i64 c.every,.int .i64 bag,wv,.int .u16 c.start,nv,.int .i64 c.me,jC y c,pt y.hb,pt y.rg,.int .i64 ticks]
def wV (bag:Int)(ev wv nv:Value)(y:Lay)(c:Cfg)(ticks:Nat):Blk:= .cells (Pe bag ev wv nv y c ticks) 89 .fix
def yN (y:Lay)(c:Cfg):Blk:= .cells (((List.range c.aH).map (gQ y c)).flatten++y.prest) 94 .row
def oQ (y:Lay)(c:Cfg)(i:Nat):Blk:= .cells (((List.range c.lanes).map (mL y i)).flatten++y.lrest i) 100 .row
def mM (bag:Int)(ev wv nv:Value)(y:Lay)(c:Cfg)(ticks:Nat):List (Nat×Blk):=
 (y.nb,wV bag ev wv nv y c ticks)::(y.pb,yN y c)::(List.range c.by'.length).map λj=>(y.lb (j+1),oQ y c (j+1))
def lY (bag:Int)(ev wv nv:Value)(y:Lay)(c:Cfg)(s:NS):Part->aC->Prop
 | .node=>Blks (mM bag ev wv nv y c s.ticks)
 | .host=>λD=>HostAt D y.hb s.hL s.hG c.lanes c.queue
 | .rings=>λD=>RingsN D y.rg s.rL (c.aH*c.lanes*c.room) c.aH c.lanes
 | .arb=>Blks (jX y.ab y.ga y.aa s.g s.a)
 | .whl i=>Blks (if i<c.aH then lX (y.wh i) (y.ww i) (y.wl i) (y.wc i) (y.lc i) (y.wr i) (y.lr i) c.weights (s.whl i) else [])
 | .snd i k=>Blks (if 1<=i/\i<c.aH/\k<c.lanes then [(y.sb i k,mK (s.snd i k))] else [])
 | .rcv i k=>Blks (if 1<=i/\i<c.aH/\k<c.lanes then [(y.rb i k,jZ (s.rcv i k) c.room)] else [])
structure LayOk (y:Lay)(c:Cfg):Prop where
 pcap:c.aH<=y.pcap
 lcap: ∀i,1<=i->i<c.aH->c.lanes<=y.lcap i
 ga:y.ga≠y.aa
 ww: ∀i,i<c.aH->y.ww i≠y.wl i
structure NodeAt (H0 H:aC)(F:Part->Nat->Prop)(y:Lay)(p:PlanD)(ev wv nv:Value)(c:Cfg)(t:Nat)(s:NS):Prop where
 ok:c.ok
 hc:c=iJ p c.me
 hp: ∃n,OkP p n
 lay:LayOk y c
 ext:Ext H0 H
 old: ∀b,Un F b->H0.length<=b
 plan:PV H0 p ev wv nv
 inv:NInv c t s
 sep:Sep (lY p.bag ev wv nv y c s) F H
theorem Ak (bag:Int)(ev wv nv:Value)(y:Lay)(c:Cfg)(s:NS)(i:Part):DX (lY bag ev wv nv y c s i):=by
 cases i with
 |host=>exact λD D' h he=>h.ext he
 |rings=>exact λD D' h he=>h.ext he
 |_=>exact Blks.dx _
theorem Gu {l:List (Nat×Blk)}(h: ∀p∈l,∃cs e k,p.2= .cells cs e k):r9 l:=λp hp hd=>by
 obtain⟨cs,e,k,he⟩:=h p hp;rw[he] at hd;cases hd
theorem yM {bag:Int}{ev wv nv:Value}{y:Lay}{c:Cfg}{ticks:Nat}:r9 (mM bag ev wv nv y c ticks):=Gu λp hp=>by
 simp only[mM,aPd,aPx] at hp;rcases hp with rfl|rfl|⟨j,_,rfl⟩<;>exact⟨_,_,_,rfl⟩
theorem aAM {ab ga aa:Nat}{g a:List Nat}:r9 (jX ab ga aa g a):=Gu λp hp=>by
 simp only[jX,aPd,aPk,or_false] at hp;rcases hp with rfl|rfl|rfl<;>exact⟨_,_,_,rfl⟩
theorem aAN {wh ww wl wc lc:Nat}{wr lr:List Value}{W:List Int}{x:Whl}:r9 (lX wh ww wl wc lc wr lr W x):=Gu λp hp=>by
 simp only[lX,aPd,aPk,or_false] at hp;rcases hp with rfl|rfl|rfl<;>exact⟨_,_,_,rfl⟩
theorem Gv {b:Nat}{cs:List Value}{e:TypeId}{k:Kind}:r9 [(b,Blk.cells cs e k)]:=Gu λp hp=>by
 simp only[aPd,aPk,or_false] at hp;subst hp
 exact⟨_,_,_,rfl⟩
section
variable {H0 H : aC} {F : Part → Nat → Prop} {y : Lay} {p : PlanD} {ev wv nv : Value} {c : Cfg} {t : Nat} {s : NS}
theorem NodeAt.hP {H':aC}(h:NodeAt H0 H F y p ev wv nv c t s)(he:Ext H H'):NodeAt H0 H' F y p ev wv nv c t s:=
 {h with ext:=h.ext.tr he,sep:=h.sep.ext (Ak _ _ _ _ _ _ _) he}
theorem NodeAt.nbB (h:NodeAt H0 H F y p ev wv nv c t s):H[y.nb]? =some (wV p.bag ev wv nv y c s.ticks):=h.sep.yJ .node rfl yM (aO3 ..)
theorem NodeAt.ld (h:NodeAt H0 H F y p ev wv nv c t s)(j:Nat)(v:Value)(hv:(Pe p.bag ev wv nv y c s.ticks)[j]? =some v):ld1 (.pointer (some ⟨y.nb,j,none⟩)) H=some (v,H):=cZ h.nbB hv
theorem Cn (y:Lay)(c:Cfg)(i:Nat):(gQ y c i).length=3:=rfl
theorem aAO (y:Lay)(i k:Nat):(mL y i k).length=2:=rfl
theorem NodeAt.aAJ (h:NodeAt H0 H F y p ev wv nv c t s):Rs (gQ y c) 94 H (jC y c) (List.range c.aH):=by
 have hb:H[y.pb]? =some (yN y c):=h.sep.yJ .node rfl yM (by simp[mM])
 refine .inr ⟨y.pb,0,y.pcap,by rw[aPo];rfl,by rw[aPo];exact h.lay.pcap,λ_=>⟨_,_,[],y.prest,rfl,λ_=>rfl,by rw[hb,List.nil_append];rfl⟩⟩
theorem NodeAt.aMo (h:NodeAt H0 H F y p ev wv nv c t s){i:Nat}(h1:1<=i)(h2:i<c.aH):Rs (mL y i) 100 H (mY y c i) (List.range c.lanes):=by
 have hb:H[y.lb i]? =some (oQ y c i):=h.sep.yJ .node rfl yM (by
  simp only[mM,aPd,aPx,aPy];exact .inr (.inr ⟨i-1,by unfold Cfg.aH at h2;omega,by rw[Nat.sub_add_cancel h1]⟩))
 unfold mY;rw[if_neg (by omega)]
 refine .inr ⟨y.lb i,0,y.lcap i,by rw[aPo],by rw[aPo];exact h.lay.lcap i h1 h2,λ_=>⟨_,_,[],y.lrest i,rfl,λ_=>rfl,by rw[hb,List.nil_append];rfl⟩⟩
theorem NodeAt.yL (h:NodeAt H0 H F y p ev wv nv c t s){i:Nat}(hi:i<c.aH): ∃b o,aR 3 (jC y c) (.int .i64 (i:Int))=some (.pointer (some ⟨b,o,none⟩))/\ ∀H',NodeAt H0 H' F y p ev wv nv c t s∨H'[b]? =H[b]? ->
  ldN 3 (.pointer (some ⟨b,o,none⟩)) H'=some (.agg ⟨gQ y c i⟩,H')/\ld1 (.pointer (some ⟨b,o,none⟩)) H'=some (.int .i64 (kS c i),H')/\ld1 (.pointer (some ⟨b,o+1,none⟩)) H'=some (mY y c i,H')/\ld1 (.pointer (some ⟨b,o+2,none⟩)) H'=some (pt (y.wh i),H'):=by
 obtain⟨b,o,g1,g2,g3⟩:=h.aAJ.iG (Cn y c) (i:=i) (x:=i) (by simp[hi]) .i64
 have hb:b=y.pb:=by
  obtain⟨o',n',c',hh⟩:=g2;unfold jC at hh;injection hh with hh;injection hh with hh;injection hh with hh;exact hh.symm
 refine⟨b,o,g1,λH' hH'=> ?_⟩
 have hsame:H'[b]? =H[b]? :=by
  rcases hH' with h'|h'
  ·have q1:H[y.pb]? =some (yN y c):=h.sep.yJ .node rfl yM (by simp[mM])
   have q2:H'[y.pb]? =some (yN y c):=h'.sep.yJ .node rfl yM (by simp[mM])
   rw[hb,q1,q2]
  ·exact h'
 obtain⟨q1,q2,_⟩:=g3 H' hsame
 exact⟨q1,q2 0 _ rfl,q2 1 _ rfl,q2 2 _ rfl⟩
theorem NodeAt.Cl (h:NodeAt H0 H F y p ev wv nv c t s){i k:Nat}(h1:1<=i)(hi:i<c.aH)(hk:k<c.lanes): ∃b o,aR 2 (mY y c i) (.int .i64 (k:Int))=some (.pointer (some ⟨b,o,none⟩))/\
  ldN 2 (.pointer (some ⟨b,o,none⟩)) H=some (.agg ⟨mL y i k⟩,H)/\ld1 (.pointer (some ⟨b,o,none⟩)) H=some (pt (y.sb i k),H)/\ld1 (.pointer (some ⟨b,o+1,none⟩)) H=some (pt (y.rb i k),H):=by
 obtain⟨b,o,g1,g2,g3⟩:=(h.aMo h1 hi).iG (aAO y i) (i:=k) (x:=k) (by simp[hk]) .i64
 obtain⟨q1,q2,_⟩:=g3 H rfl
 exact⟨b,o,g1,q1,q2 0 _ rfl,q2 1 _ rfl⟩
theorem NodeAt.Cm (h:NodeAt H0 H F y p ev wv nv c t s){i k:Nat}(h1:1<=i)(hi:i<c.aH)(hk:k<c.lanes):H[y.sb i k]? =some (mK (s.snd i k)):=
 h.sep.yJ (.snd i k) (l:=[(y.sb i k,Go.Proofs.YtkeilicinggjmaaGreatDoor.mK (s.snd i k))]) (by simp only[lY];rw[if_pos ⟨h1,hi,hk⟩]) Gv (aO3 ..)
theorem NodeAt.Gs (h:NodeAt H0 H F y p ev wv nv c t s){i k:Nat}(h1:1<=i)(hi:i<c.aH)(hk:k<c.lanes):H[y.rb i k]? =some (jZ (s.rcv i k) c.room):=
 h.sep.yJ (.rcv i k) (l:=[(y.rb i k,Go.Proofs.YtkeilicinggjmaaGreatDoor.jZ (s.rcv i k) c.room)]) (by simp only[lY];rw[if_pos ⟨h1,hi,hk⟩]) Gv (aO3 ..)
theorem NodeAt.aMp (h:NodeAt H0 H F y p ev wv nv c t s){i:Nat}(hi:i<c.aH):Blks (lX (y.wh i) (y.ww i) (y.wl i) (y.wc i) (y.lc i) (y.wr i) (y.lr i) c.weights (s.whl i)) H:=
 h.sep.see (.whl i) (by simp only[lY];rw[if_pos hi]) aAN
theorem NodeAt.Pd (h:NodeAt H0 H F y p ev wv nv c t s)(ht:t<1000000000)(i k:Nat):SndOk (s.snd i k):=by
 have:=h.inv.snd i k
 exact⟨this.le,this.wide,by have h1:=this.big;have h2:=this.wide;omega⟩
theorem NodeAt.Gt (h:NodeAt H0 H F y p ev wv nv c t s)(ht:t<1000000000)(i k:Nat):RcvOk (s.rcv i k) c.room:=by
 have:=h.inv.rcv i k
 exact⟨this.h,h.ok.room.2,by have:=this.big;omega⟩
theorem NodeAt.aAL {H':aC}{F':Part->Nat->Prop}{t':Nat}{s':NS}(h:NodeAt H0 H F y p ev wv nv c t s)(hi:NInv c t' s')(hs:Sep (lY p.bag ev wv nv y c s') F' H')(hm:Mv (Un F) (Un F') H H'):NodeAt H0 H' F' y p ev wv nv c t' s':=
 {h with inv:=hi,sep:=hs,ext:=⟨aPa h.ext.1 hm.le,λb hb _=>by
   rw[hm.keep b (aO9 hb h.ext.1) (λhu=>by have:=h.old b hu;omega),h.ext.2 b hb id]⟩,old:=λb hb=>(hm.own b hb).elim (h.old b) λhl=>aPa h.ext.1 hl}
theorem NodeAt.aAI {H':aC}{F':Nat->Prop}{t':Nat}{s':NS}(h:NodeAt H0 H F y p ev wv nv c t s)(i:Part){B:aC->Prop}(hB:Has B F' H')(hm:Mv (F i) F' H H')(hi:NInv c t' s')
  (hBi: ∀D,B D->lY p.bag ev wv nv y c s' i D)(hj: ∀j,j≠i-> ∀D,lY p.bag ev wv nv y c s j D->lY p.bag ev wv nv y c s' j D):NodeAt H0 H' (updI F i F') y p ev wv nv c t' s'/\Mv (Un F) (Un (updI F i F')) H H':=by
 obtain⟨h1,h2⟩:=h.sep.Jz i (λj _=>Ak _ _ _ _ _ _ _ j) hB hm
 refine⟨h.aAL hi (h1.xT λj D hD=> ?_) h2,h2⟩
 by_cases hji:j=i
 ·rw[hji,nQ] at hD
  rw[hji];exact hBi D hD
 ·rw[gL _ _ hji] at hD
  exact hj j hji D hD
theorem NodeAt.Ck {H':aC}{t':Nat}{s':NS}(h:NodeAt H0 H F y p ev wv nv c t s)(i:Part){l l':List (Nat×Blk)}(hA:lY p.bag ev wv nv y c s i=Blks l)(hl:r9 l)(hsub: ∀q∈l',InB l q.1)(hf:Fr (InB l) H H')(hB:Blks l' H')(hi:NInv c t' s')
  (hBi:lY p.bag ev wv nv y c s' i=Blks l')(hj: ∀j,j≠i->lY p.bag ev wv nv y c s' j=lY p.bag ev wv nv y c s j):NodeAt H0 H' F y p ev wv nv c t' s'/\Mv (Un F) (Un F) H H':=by
 obtain⟨h1,h2⟩:=h.sep.aLT i (λj _=>Ak _ _ _ _ _ _ _ j) hA hl hsub hf hB
 refine⟨h.aAL hi (h1.xT λj D hD=> ?_) h2,h2⟩
 by_cases hji:j=i
 ·rw[hji,nQ] at hD
  rw[hji,hBi];exact hD
 ·rw[gL _ _ hji] at hD
  rw[hj j hji];exact hD
theorem NodeAt.aAK {H':aC}{t':Nat}{i k:Nat}{x':Snd}(h:NodeAt H0 H F y p ev wv nv c t s)(h1:1<=i)(h2:i<c.aH)(hk:k<c.lanes)(hp:Put1 H (y.sb i k) (Go.Proofs.YtkeilicinggjmaaGreatDoor.mK x') H')(hi:NInv c t' {s with snd:=up2 s.snd i k x'}):
  NodeAt H0 H' F y p ev wv nv c t' {s with snd:=up2 s.snd i k x'}/\Mv (Un F) (Un F) H H':=by
 refine h.Ck (.snd i k) (l:=[(y.sb i k,Go.Proofs.YtkeilicinggjmaaGreatDoor.mK (s.snd i k))]) (l':=[(y.sb i k,Go.Proofs.YtkeilicinggjmaaGreatDoor.mK x')]) (by simp only[lY];rw[if_pos ⟨h1,h2,hk⟩]) Gv ?_ ?_ ?_ hi ?_ ?_
 ·intro q hq
  simp only[aPd,aPk,or_false] at hq;subst hq
  exact⟨_,aO3 ..,rfl⟩
 ·exact⟨hp.le,λb hb hn=>hp.keep b hb λhh=>hn ⟨_,aO3 ..,hh.symm⟩⟩
 ·intro q hq
  simp only[aPd,aPk,or_false] at hq;subst hq;exact hp.at_
 ·simp only[lY]
  rw[if_pos ⟨h1,h2,hk⟩,up2,if_pos ⟨rfl,rfl⟩]
 ·intro j hj
  cases j with
  |snd i' k'=>
   have e:up2 s.snd i k x' i' k'=s.snd i' k':=if_neg λhh=>hj (by rw[hh.1,hh.2])
   simp only[lY];rw[e]
  |_=>rfl
theorem NodeAt.Pc {H':aC}{t':Nat}{i k:Nat}{x':Rcv}(h:NodeAt H0 H F y p ev wv nv c t s)(h1:1<=i)(h2:i<c.aH)(hk:k<c.lanes)(hp:Put1 H (y.rb i k) (Go.Proofs.YtkeilicinggjmaaGreatDoor.jZ x' c.room) H')(hi:NInv c t' {s with rcv:=up2 s.rcv i k x'}):
  NodeAt H0 H' F y p ev wv nv c t' {s with rcv:=up2 s.rcv i k x'}/\Mv (Un F) (Un F) H H':=by
 refine h.Ck (.rcv i k) (l:=[(y.rb i k,Go.Proofs.YtkeilicinggjmaaGreatDoor.jZ (s.rcv i k) c.room)]) (l':=[(y.rb i k,Go.Proofs.YtkeilicinggjmaaGreatDoor.jZ x' c.room)]) (by simp only[lY];rw[if_pos ⟨h1,h2,hk⟩]) Gv ?_ ?_ ?_ hi ?_ ?_
 ·intro q hq
  simp only[aPd,aPk,or_false] at hq;subst hq
  exact⟨_,aO3 ..,rfl⟩
 ·exact⟨hp.le,λb hb hn=>hp.keep b hb λhh=>hn ⟨_,aO3 ..,hh.symm⟩⟩
 ·intro q hq
  simp only[aPd,aPk,or_false] at hq;subst hq;exact hp.at_
 ·simp only[lY]
  rw[if_pos ⟨h1,h2,hk⟩,up2,if_pos ⟨rfl,rfl⟩]
 ·intro j hj
  cases j with
  |rcv i' k'=>
   have e:up2 s.rcv i k x' i' k'=s.rcv i' k':=if_neg λhh=>hj (by rw[hh.1,hh.2])
   simp only[lY];rw[e]
  |_=>rfl
end
def wW:Value:= .agg #[.pointer none,.pointer none]
def gN (a b:Value):Blk:= .cells [a,b] 100 .fix
section
variable {H0 H : aC} {F : Part → Nat → Prop} {y : Lay} {p : PlanD} {ev wv nv : Value} {c : Cfg} {t : Nat} {s : NS} {m : Nat}
theorem Gw:bld prog 100 []=some wW:=rfl
theorem Al {b:Nat}{a0 b0:Value}(a1 b1:Value)(h:H[b]? =some (gN a0 b0))(ha:dZ [a1,b1]=true):stN 2 (.pointer (some ⟨b,0,none⟩)) (.agg #[a1,b1]) H=some (undef,H.set b (gN a1 b1)):=zW h (by decide) rfl rfl (aOZ 2) ha
theorem vA {b:Nat}{a0 b0:Value}(h:H[b]? =some (gN a0 b0)):ldN 2 (.pointer (some ⟨b,0,none⟩)) H=some (.agg #[a0,b0],H)/\ld1 (.pointer (some ⟨b,0,none⟩)) H=some (a0,H)/\ld1 (.pointer (some ⟨b,1,none⟩)) H=some (b0,H):=⟨B6 h (aOZ 2),cZ h rfl,cZ h rfl⟩
theorem aAQ (h:NodeAt H0 H F y p ev wv nv c t s)(hm:0<m)(i k:Int)(hno: ¬(1<=i/\i<c.aH/\0<=k/\k<c.lanes)): ∃H',lvl prog pkN m (.func 64) [pt y.nb,.int .i64 i,.int .i64 k] H=some (.tuple #[wW,.bool false],H')/\Ext H H':=by
 refine lK (cL rfl) (by omega) ?_
 rw[Yp];have e0: ∀H:aC,H++[Blk.cells [Value.pointer none,.pointer none] 100 .fix]=H++[gN (.pointer none) (.pointer none)]:=λ_=>rfl
 have h1:=h.hP (H':=H++[gN (.pointer none) (.pointer none)]) (Fr.app _ _ _);have l13:=h1.ld 13 (jC y c) rfl;have l3:=h1.ld 3 (.int .i64 c.lanes) rfl;have e1:bM (jC y c)=some (.int .i64 c.aH):=rfl;have st:stN 2 (.pointer (some ⟨H.length,0,none⟩)) wW (H++[gN (.pointer none) (.pointer none)])=some (undef,H++[gN (.pointer none) (.pointer none)]):=by
  rw[wW,Al _ _ (dJ _ _) rfl,nG]
 have ld:=(vA (dJ H (gN (.pointer none) (.pointer none)))).1;have fin: ∃H',(some (Value.tuple #[.agg #[.pointer none,.pointer none],.bool false],H++[gN (.pointer none) (.pointer none)]):Option (Value×aC))=some (.tuple #[wW,.bool false],H')/\Ext H H':=⟨_,rfl,Fr.app _ _ _⟩;by_cases c1:i<1
 ·simp -implicitDefEqProofs only[gsR,e0,aPD c1,Gw,st,ld]
  exact fin
 ·by_cases c2:(c.aH:Int)<=i
  ·simp -implicitDefEqProofs only[gsR,e0,aPE c1,l13,e1,aPD c2,Gw,st,ld]
   exact fin
  ·by_cases c3:k<0
   ·simp -implicitDefEqProofs only[gsR,e0,aPE c1,l13,e1,aPE c2,aPD c3,Gw,st,ld]
    exact fin
   ·have c4:(c.lanes:Int)<=k:=by omega
    simp -implicitDefEqProofs only[gsR,e0,aPE c1,l13,e1,aPE c2,aPE c3,l3,aPD c4,Gw,st,ld];exact fin
theorem Pf (h:NodeAt H0 H F y p ev wv nv c t s)(hm:0<m){i k:Nat}(h1:1<=i)(h2:i<c.aH)(hk:k<c.lanes): ∃H',lvl prog pkN m (.func 64) [pt y.nb,.int .i64 i,.int .i64 k] H=some (.tuple #[.agg #[pt (y.sb i k),pt (y.rb i k)],.bool true],H')/\Ext H H':=by
 refine lK (cL rfl) (by omega) ?_
 rw[Yp];have e0: ∀H:aC,H++[Blk.cells [Value.pointer none,.pointer none] 100 .fix]=H++[gN (.pointer none) (.pointer none)]:=λ_=>rfl
 have g1:=h.hP (H':=H++[gN (.pointer none) (.pointer none)]) (Fr.app _ _ _);have l13:=g1.ld 13 (jC y c) rfl;have l3:=g1.ld 3 (.int .i64 c.lanes) rfl;have e1:bM (jC y c)=some (.int .i64 c.aH):=rfl;obtain⟨b,o,a1,a2⟩:=g1.yL h2;obtain⟨_,_,a3,_⟩:=a2 _ (.inl g1);obtain⟨b',o',a4,a5,_,_⟩:=g1.Cl h1 h2 hk;have a5:ldN 2 (.pointer (some ⟨b',o',none⟩)) (H++[gN (.pointer none) (.pointer none)])=some (.agg #[pt (y.sb i k),pt (y.rb i k)],H++[gN (.pointer none) (.pointer none)]):=a5;have st:stN 2 (.pointer (some ⟨H.length,0,none⟩)) (.agg #[pt (y.sb i k),pt (y.rb i k)]) (H++[gN (.pointer none) (.pointer none)])=some (undef,H++[gN (pt (y.sb i k)) (pt (y.rb i k))]):=by
  rw[Al _ _ (dJ _ _) rfl,nG]
 have ld:=(vA (dJ H (gN (pt (y.sb i k)) (pt (y.rb i k))))).1;have c1:decide ((i:Int)<1)=false:=by rw[decide_eq_false_iff_not];omega
 have c2:decide ((c.aH:Int)<=(i:Int))=false:=by rw[decide_eq_false_iff_not];omega
 have c3:decide ((k:Int)<0)=false:=by rw[decide_eq_false_iff_not];omega
 have c4:decide ((c.lanes:Int)<=(k:Int))=false:=by rw[decide_eq_false_iff_not];omega
 simp -implicitDefEqProofs only[gsR,e0,c1,l13,e1,c2,c3,l3,c4,a1,a3,a4,a5,st,ld]
 exact⟨_,rfl,Fr.app _ _ _⟩
theorem pJ (a b:Value):ext 0 (.tuple #[a,b])=some a/\ext 1 (.tuple #[a,b])=some b:=⟨rfl,rfl⟩
theorem aAS (h:NodeAt H0 H F y p ev wv nv c t s)(hm:1<m){i k:Nat}(h1:1<=i)(h2:i<c.aH)(hk:k<c.lanes): ∃H',lvl prog pkN m (.func 19) [pt y.nb,.int .i64 i,.int .i64 k] H=some (pt (y.sb i k),H')/\Ext H H':=by
 obtain⟨H1,g1,x1⟩:=Pf h (m:=m-1) (by omega) h1 h2 hk
 have e0: ∀H:aC,H++[Blk.cells [Value.pointer none,.pointer none] 100 .fix]=H++[gN (.pointer none) (.pointer none)]:=λ_=>rfl
 have st:stN 2 (.pointer (some ⟨H1.length,0,none⟩)) (.agg #[pt (y.sb i k),pt (y.rb i k)]) (H1++[gN (.pointer none) (.pointer none)])=some (undef,H1++[gN (pt (y.sb i k)) (pt (y.rb i k))]):=by
  rw[Al _ _ (dJ _ _) rfl,nG]
 have ld:=(vA (dJ H1 (gN (pt (y.sb i k)) (pt (y.rb i k))))).2.1;refine lK (cL rfl) (by omega) ⟨H1++[gN (pt (y.sb i k)) (pt (y.rb i k))],?_,x1.tr (Fr.app _ _ _)⟩
 rw[Yf];simp -implicitDefEqProofs only[gsR,g1,pJ,e0,st,ld]
theorem aMu (h:NodeAt H0 H F y p ev wv nv c t s)(hm:1<m){i k:Nat}(h1:1<=i)(h2:i<c.aH)(hk:k<c.lanes): ∃H',lvl prog pkN m (.func 44) [pt y.nb,.int .i64 i,.int .i64 k] H=some (pt (y.rb i k),H')/\Ext H H':=by
 obtain⟨H1,g1,x1⟩:=Pf h (m:=m-1) (by omega) h1 h2 hk
 have e0: ∀H:aC,H++[Blk.cells [Value.pointer none,.pointer none] 100 .fix]=H++[gN (.pointer none) (.pointer none)]:=λ_=>rfl
 have st:stN 2 (.pointer (some ⟨H1.length,0,none⟩)) (.agg #[pt (y.sb i k),pt (y.rb i k)]) (H1++[gN (.pointer none) (.pointer none)])=some (undef,H1++[gN (pt (y.sb i k)) (pt (y.rb i k))]):=by
  rw[Al _ _ (dJ _ _) rfl,nG]
 have ld:=(vA (dJ H1 (gN (pt (y.sb i k)) (pt (y.rb i k))))).2.2;refine lK (cL rfl) (by omega) ⟨H1++[gN (pt (y.sb i k)) (pt (y.rb i k))],?_,x1.tr (Fr.app _ _ _)⟩
 rw[aJw];simp -implicitDefEqProofs only[gsR,g1,pJ,e0,st,ld]
theorem aMw (h:NodeAt H0 H F y p ev wv nv c t s)(hm:1<m)(i k:Int)(hno: ¬(1<=i/\i<c.aH/\0<=k/\k<c.lanes)): ∃H',lvl prog pkN m (.func 19) [pt y.nb,.int .i64 i,.int .i64 k] H=some (.pointer none,H')/\Ext H H':=by
 obtain⟨H1,g1,x1⟩:=aAQ h (m:=m-1) (by omega) i k hno
 have e0: ∀H:aC,H++[Blk.cells [Value.pointer none,.pointer none] 100 .fix]=H++[gN (.pointer none) (.pointer none)]:=λ_=>rfl
 have st:stN 2 (.pointer (some ⟨H1.length,0,none⟩)) wW (H1++[gN (.pointer none) (.pointer none)])=some (undef,H1++[gN (.pointer none) (.pointer none)]):=by
  rw[wW,Al _ _ (dJ _ _) rfl,nG]
 have ld:=(vA (dJ H1 (gN (.pointer none) (.pointer none)))).2.1;refine lK (cL rfl) (by omega) ⟨H1++[gN (.pointer none) (.pointer none)],?_,x1.tr (Fr.app _ _ _)⟩
 rw[Yf];simp -implicitDefEqProofs only[gsR,g1,pJ,e0,st,ld]
theorem Pg (h:NodeAt H0 H F y p ev wv nv c t s)(hm:0<m):lvl prog pkN m (.func 42) [pt y.nb] H=some (pt y.hb,H):=by
 refine dF (cL rfl) (by omega) ?_
 rw[aJu];simp -implicitDefEqProofs only[gsR,h.ld 14 (pt y.hb) rfl]
theorem aMv (h:NodeAt H0 H F y p ev wv nv c t s)(hm:0<m):lvl prog pkN m (.func 43) [pt y.nb] H=some (pt y.rg,H):=by
 refine dF (cL rfl) (by omega) ?_
 rw[aJv];simp -implicitDefEqProofs only[gsR,h.ld 15 (pt y.rg) rfl]
def fiI (l:List Nat)(z:Int):Int:=match l.findIdx? (λw:Nat=>decide ((w:Int)=z)) with
 |some j=>(j:Int)
 |none=> -1
theorem aMr {l:List Nat}{z:Int}{i:Nat}(hi:i<l.length)(h1:(l.getD i 0:Int)=z)(h2: ∀j,j<i->(l.getD j 0:Int)≠z):fiI l z=i:=by
 have:l.findIdx? (λw:Nat=>decide ((w:Int)=z))=some i:=by
  rw[List.findIdx?_eq_some_iff_getElem];refine⟨hi,?_,λj hj=> ?_⟩
  ·rw[aOY,aOW hi] at h1
   simpa using h1
  ·have:=h2 j hj
   rw[aOY,aOW (by omega)] at this
   simpa using this
 unfold fiI;rw[this]
theorem aMs {l:List Nat}{z:Int}(h: ∀j,j<l.length->(l.getD j 0:Int)≠z):fiI l z= -1:=by
 have:l.findIdx? (λw:Nat=>decide ((w:Int)=z))=none:=by
  rw[List.findIdx?_eq_none_iff];intro x hx;obtain⟨j,hj,rfl⟩:=List.mem_iff_getElem.mp hx;have:=h j hj;rw[aOY,aOW hj] at this;simpa using this
 unfold fiI;rw[this]
def nV (y:Lay)(c:Cfg)(i:Nat):Blk:= .cells (gQ y c i) 94 .fix
theorem aMy (hm:0<m){cb:Nat}{z:Int}(i:Nat)(hc:H[cb]? =some (.cells [.int .i64 z] 3 .fix)):lvl prog pkN m (.func 144) [.agg ⟨gQ y c i⟩,pt cb] H=some (.bool ((kS c i:Int)==z),H++[nV y c i]):=by
 refine dF (cL rfl) (by omega) ?_
 rw[aJf];have e0:H++[Blk.cells (Value.cells (.agg ⟨gQ y c i⟩)).toList 94 .fix]=H++[nV y c i]:=rfl;have l0:ld1 (.pointer (some ⟨H.length,0,none⟩)) (H++[nV y c i])=some (.int .i64 (kS c i),H++[nV y c i]):=cZ (dJ _ _) rfl;have l1:ld1 (pt cb) (H++[nV y c i])=some (.int .i64 z,H++[nV y c i]):=cZ (nF hc _) rfl;simp -implicitDefEqProofs only[gsR,e0,l0,l1]
theorem aMx (hm:0<m){cb:Nat}{z:Int}(i:Nat)(hc:H[cb]? =some (.cells [.int .i64 z] 3 .fix)):lvl prog pkN m (.func 86) [.agg ⟨gQ y c i⟩,pt cb] H=some (.bool ((kS c i:Int)==z),H++[nV y c i]):=by
 refine dF (cL rfl) (by omega) ?_
 rw[aJN];have e0:H++[Blk.cells (Value.cells (.agg ⟨gQ y c i⟩)).toList 94 .fix]=H++[nV y c i]:=rfl;have l0:ld1 (.pointer (some ⟨H.length,0,none⟩)) (H++[nV y c i])=some (.int .i64 (kS c i),H++[nV y c i]):=cZ (dJ _ _) rfl;have l1:ld1 (pt cb) (H++[nV y c i])=some (.int .i64 z,H++[nV y c i]):=cZ (nF hc _) rfl;simp -implicitDefEqProofs only[gsR,e0,l0,l1]
theorem aMt {fid:FuncId}{cb:Nat}{z:Int}{v:Value}(hf: ∀(H:aC)(i:Nat),H[cb]? =some (.cells [.int .i64 z] 3 .fix)->lvl prog pkN m (.func fid) [.agg ⟨gQ y c i⟩,pt cb] H=some (.bool ((kS c i:Int)==z),H++[nV y c i]))
  (hb:c.by'.length<=5): ∀(q i k:Nat)(H:aC),c.by'.length-i=q->i<=c.by'.length->q<k->Rs (gQ y c) 94 H v ((List.range c.aH).drop 1)->H[cb]? =some (.cells [.int .i64 z] 3 .fix)->(∀j,j<i->(c.by'.getD j 0:Int)≠z)-> ∀(x2 x3 x4 x5 x6 x9 bK bN bC aO aP aM aS bI aN:Value),
  ∃H2,aI k (aK prog (lvl prog pkN m) (aI m) Nt) (Fw (lvl prog pkN m) (aI m)) [v,(.func (.func fid) #[] #[pt cb]),x2,x3,x4,x5,x6,(.int .i64 c.by'.length),(.int .i64 (i:Nat)),x9,bK,bN,bC,aO,aP,aM,aS,bI,aN] H=some (.int .i64 (fiI c.by' z),H2)/\Ext H H2:=by
 intro q;induction q with
 |zero=>
  intro i k H hq hi hk hv hc hno;intros;obtain⟨k,rfl⟩: ∃k',k=k'+1:=⟨k-1,by omega⟩
  have c1:decide ((i:Int)<(c.by'.length:Int))=false:=by rw[decide_eq_false_iff_not];omega
  rw[aI,Yq];simp -implicitDefEqProofs only[gsR,c1];rw[aJK];rw[aMs λj hj=>hno j (by omega)]
  simp -implicitDefEqProofs only[gsR]
  exact⟨_,rfl,Fr.nC _ _⟩
 |succ q ih=>
  intro i k H hq hi hk hv hc hno;intros;obtain⟨k,rfl⟩: ∃k',k=k'+1:=⟨k-1,by omega⟩
  have c1:decide ((i:Int)<(c.by'.length:Int))=true:=by rw[decide_eq_true_eq];omega
  have hx:((List.range c.aH).drop 1)[i]? =some (i+1):=by
   rw[List.getElem?_drop,aPB (by unfold Cfg.aH;omega),Nat.add_comm]
  obtain⟨b,o,a1,_,a3⟩:=hv.iG (Cn y c) hx .i64;have a3:=(a3 H rfl).1;have hcall:=hf H (i+1) hc;have hto:kS c (i+1)=c.by'.getD i 0:=by unfold kS;rw[if_neg (by omega)];rfl
  rw[hto] at hcall;have e9:=oO i (by omega)
  have hcv:oH (lvl prog pkN m) (.func (.func fid) #[] #[pt cb]) [.agg ⟨gQ y c (i+1)⟩] H=some (.bool ((c.by'.getD i 0:Int)==z),H++[nV y c (i+1)]):=hcall;rw[aI,Yq];by_cases he:(c.by'.getD i 0:Int)=z
  ·have c2:((c.by'.getD i 0:Int)==z)=true:=by simpa using he
   rw[c2] at hcv;simp -implicitDefEqProofs only[gsR,c1,a1,a3,hcv];rw[aJM];rw[aMr (by omega) he hno]
   simp -implicitDefEqProofs only[gsR]
   exact⟨_,rfl,Fr.app _ _ _⟩
  ·have c2:((c.by'.getD i 0:Int)==z)=false:=by simpa using he
   rw[c2] at hcv;simp -implicitDefEqProofs only[gsR,c1,a1,a3,hcv,cC,e9];obtain⟨H2,g1,g2⟩:=ih (i+1) k (H++[nV y c (i+1)]) (by omega) (by omega) (by omega) (hv.ext (Fr.app _ _ _)) (nF hc _) (λj hj=>by
    by_cases hji:j=i
    ·rw[hji];exact he
    ·exact hno j (by omega)) ..
   exact⟨H2,g1,(show Ext H (H++[nV y c (i+1)]) from Fr.app _ _ _).tr g2⟩
theorem aAR {fid:FuncId}{cb:Nat}{z:Int}{v:Value}(hm:20<m)(hf: ∀(H:aC)(i:Nat),H[cb]? =some (.cells [.int .i64 z] 3 .fix)->lvl prog pkN (m-1) (.func fid) [.agg ⟨gQ y c i⟩,pt cb] H=some (.bool ((kS c i:Int)==z),H++[nV y c i]))
  (hb:c.by'.length<=5)(hv:Rs (gQ y c) 94 H v ((List.range c.aH).drop 1))(hc:H[cb]? =some (.cells [.int .i64 z] 3 .fix)): ∃H2,lvl prog pkN m (.func 85) [v,.func (.func fid) #[] #[pt cb]] H=some (.int .i64 (fiI c.by' z),H2)/\Ext H H2:=by
 refine lK (cL rfl) (by omega) ?_
 rw[aJL];have hl:=hv.gO;have:((List.range c.aH).drop 1).length=c.by'.length:=by simp[Cfg.aH]
 rw[this] at hl;simp -implicitDefEqProofs only[gsR,hl];exact aMt hf hb c.by'.length 0 (m-1) H (by omega) (by omega) (by omega) hv hc (λj hj=>by omega) ..
theorem aMq:prog.cellsOf 94=3:=by kernel_rfl
theorem NodeAt.aAP (h:NodeAt H0 H F y p ev wv nv c t s): ∃v,slc prog 3 (jC y c) (some (.int .i64 1)) none none H=some (v,H)/\Rs (gQ y c) 94 H v ((List.range c.aH).drop 1):=by
 have hne:List.range c.aH≠[]:=by unfold Cfg.aH;simp
 obtain⟨v',g1,g2,_⟩:=h.aAJ.D0 (P:=prog) (Cn y c) aMq hne (l:=1) (r:=c.aH) (lo:=some (.int .i64 1)) (hi:=none) (oA 0 .i64 1) (by rw[aPo];rfl) (by unfold Cfg.aH;omega) (by rw[aPo];exact aOZ _)
 rw[List.take_of_length_le (by rw[aPo];exact aOZ _)] at g2
 exact⟨v',g1,g2⟩
end
section
variable {H0 H : aC} {F : Part → Nat → Prop} {y : Lay} {p : PlanD} {ev wv nv : Value} {c : Cfg} {t : Nat} {s : NS} {m : Nat}
def yO (z:Int):Blk:= .cells [.int .i64 z] 3 .fix
theorem aAT (h:NodeAt H0 H F y p ev wv nv c t s)(hm:40<m)(d:Nat)(hd:d<c.nodes): ∃H',lvl prog pkN m (.func 99) [pt y.nb,.int .i64 d] H=some (.int .i64 (c.port d:Nat),H')/\Ext H H':=by
 have hport:c.port d=if d=c.me then 0 else match c.by'.findIdx? λw:Nat=>decide ((w:Int)=nx p c.me d) with
   |some j=>j+1
   |none=>0:=by
  have:=congrArg Cfg.port h.hc;have h2:=congrArg Cfg.by' h.hc;rw[this,h2];rfl
 refine lK (cL rfl) (by omega) ?_
 rw[aJV];have l12:=h.ld 12 (.int .i64 c.me) rfl;by_cases hme:d=c.me
 ·have c1:((d:Int)==(c.me:Int))=true:=by rw[hme];simp
  rw[if_pos hme] at hport;rw[hport];simp -implicitDefEqProofs only[gsR,l12,c1]
  exact⟨_,rfl,Fr.nC _ _⟩
 ·have c1:((d:Int)==(c.me:Int))=false:=by rw[beq_eq_false_iff_ne];omega
  rw[if_neg hme] at hport;obtain⟨n,hn⟩:=h.hp;have hnn:c.nodes=n:=by
   have:=congrArg Cfg.nodes h.hc;rw[this];show p.nodes.toNat=n
   rw[hn.hn];simp
  have hmen:c.me<n:=by rw[<-hnn];exact h.ok.me
  obtain⟨row,hrow⟩: ∃row,p.next[c.me]? =some row:=⟨_,aOW (by rw[hn.nl];exact hmen)⟩
  have l11:=h.ld 11 nv rfl;obtain⟨pp,u,r1,r2,r3⟩:=(h.plan.ext h.ext).n.Em hrow .i64;have hrl:row.length=n:=hn.rl _ (aO4 hrow);have hx:row[d]? =some (nx p c.me d):=by
   unfold nx;rw[aPm,aPm,aOY,aOY,hrow,aPn];rw[aOW (by rw[hrl];omega)]
   rfl
  obtain⟨b,o,i1,_,i3⟩:=r3.iG jK hx .i64;have i3:=(i3 H rfl).2.1 0 _ rfl;have i3:ld1 (.pointer (some ⟨b,o,none⟩)) H=some (.int .i64 (nx p c.me d),H):=i3;have e0: ∀H:aC,H++[Blk.cells [Value.int .i64 0] 3 .fix]=H++[yO 0]:=λ_=>rfl
  have st:stN 1 (.pointer (some ⟨H.length,0,none⟩)) (.int .i64 (nx p c.me d)) (H++[yO 0])=some (undef,H++[yO (nx p c.me d)]):=by
   rw[kZ (dJ H (yO 0)) (by decide) (by simp),nG]
   rfl
  obtain⟨H1,hH1⟩: ∃H1,H1=H++[yO (nx p c.me d)]:=⟨_,rfl⟩;have x1:Ext H H1:=by rw[hH1];exact Fr.app _ _ _
  have h1:=h.hP x1;have l13:=h1.ld 13 (jC y c) rfl;obtain⟨v,t1,t2⟩:=h1.aAP;obtain⟨H2,g1,g2⟩:=aAR (m:=m-1) (fid:=144) (cb:=H.length) (z:=nx p c.me d) (by omega) (λG i hG=>aMy (by omega) i hG) h.ok.by' t2 (by rw[hH1];exact dJ _ _)
  have e1:IntKind.i64.wrap (fiI c.by' (nx p c.me d)+1)=(c.port d:Nat):=by
   rw[hport];unfold fiI;cases hf:c.by'.findIdx? λw:Nat=>decide ((w:Int)=nx p c.me d) with
   |none=>rfl
   |some j=>
    have:=(List.findIdx?_eq_some_iff_getElem.mp hf).1;have:=h.ok.by';exact oO j (by omega)
  simp -implicitDefEqProofs only[gsR,l12,c1,l11,r1,r2,i1,i3,e0,st,<-hH1,l13,t1,g1,cC,e1]
  exact⟨_,rfl,x1.tr g2⟩
theorem aMA (x:Pkt):(rE c x s).2={s with hL:=(rE c x s).2.hL}:=by
 unfold rE;split
 ·rfl
 ·split<;>rfl
theorem aMz {D:aC}{hb:Nat}(hm:2<m)(x:Pkt)(hq: ∀k:Int,(gP s.hL k).length<=c.queue)(h8:c.queue<=8)(h:HostAt D hb s.hL s.hG c.lanes c.queue):
  ∃r D',lvl prog pkN m (.func 63) [pt hb,x.dM] D=some (r,D')/\(r= .int .u16 (rE c x s).1/\HostAt D' hb (rE c x s).2.hL s.hG c.lanes c.queue):=by
 obtain⟨w0,w1,w2,cv,h⟩:=h;unfold rE;by_cases h1:0<=x.lane/\x.lane<c.lanes
 ·rw[if_neg (not_not_intro h1)]
  by_cases h2:(gP s.hL x.lane).length=c.queue
  ·rw[if_pos h2]
   exact⟨_,_,aKu h hm x h1 h2,rfl,HostAt.ext ⟨w0,w1,w2,cv,h⟩ (Fr.app _ _ _)⟩
  ·rw[if_neg h2]
   obtain⟨H',g1,g2⟩:=aKw h hm x h1 h2 (kM (n:=1000) (by decide) (by have:=hq x.lane;omega))
   exact⟨_,_,g1,rfl,g2⟩
 ·rw[if_pos h1]
  exact⟨_,_,aKv h hm x h1,rfl,HostAt.ext ⟨w0,w1,w2,cv,h⟩ (Fr.app _ _ _)⟩
theorem NodeAt.Gx {H':aC}{F':Nat->Prop}{t':Nat}{L G:List Pkt}(h:NodeAt H0 H F y p ev wv nv c t s)(hB:Has (λD=>HostAt D y.hb L G c.lanes c.queue) F' H')(hm:Mv (F .host) F' H H')(hi:NInv c t' {s with hL:=L,hG:=G}):
  NodeAt H0 H' (updI F .host F') y p ev wv nv c t' {s with hL:=L,hG:=G}/\Mv (Un F) (Un (updI F .host F')) H H':=
 h.aAI .host hB hm hi (λD hD=>hD) λj hj D hD=>by
  cases j with
  |host=>exact absurd rfl hj
  |_=>exact hD
theorem NodeAt.Ph {H':aC}{F':Nat->Prop}{t':Nat}{L:List (Go.Abs.iA×Pkt)}(h:NodeAt H0 H F y p ev wv nv c t s)(hB:Has (λD=>RingsN D y.rg L (c.aH*c.lanes*c.room) c.aH c.lanes) F' H')(hm:Mv (F .rings) F' H H')(hi:NInv c t' {s with rL:=L}):
  NodeAt H0 H' (updI F .rings F') y p ev wv nv c t' {s with rL:=L}/\Mv (Un F) (Un (updI F .rings F')) H H':=
 h.aAI .rings hB hm hi (λD hD=>hD) λj hj D hD=>by
  cases j with
  |rings=>exact absurd rfl hj
  |_=>exact hD
theorem Has.wX {A B:aC->Prop}{F:Nat->Prop}{H:aC}(h:Has A F H)(hAB: ∀D,A D->B D):Has B F H:=⟨hAB _ h.at_,h.lt⟩
theorem Pi (h:NodeAt H0 H F y p ev wv nv c t s)(hm:10<m)(x:Pkt)(hb:0<=x.body/\x.body<4294967296): ∃H' F',lvl prog pkN m (.func 18) [pt y.nb,x.dM] H=some (.int .u16 (o6 c x s).1,H')/\NodeAt H0 H' F' y p ev wv nv c t (o6 c x s).2/\Mv (Un F) (Un F') H H':=by
 have hinv:=h.inv.aKC h.ok hb;obtain⟨H1,hH1⟩: ∃H1,H1=H++[eF x]:=⟨_,rfl⟩;have x1:Ext H H1:=by rw[hH1];exact Fr.app _ _ _
 have h1:=h.hP x1;have b1:H1[H.length]? =some (eF x):=by rw[hH1];exact dJ _ _
 have e0:H++[Blk.cells (Value.cells x.dM).toList 54 .fix]=H1:=by rw[hH1];rfl
 have l0:ld1 (.pointer (some ⟨H.length,0,none⟩)) H1=some (.int .i64 x.src,H1):=cZ b1 rfl;have l1:ld1 (.pointer (some ⟨H.length,1,none⟩)) H1=some (.int .i64 x.dst,H1):=cZ b1 rfl;have l4:=(pX b1).2;have n1:=h1.ld 1 (.int .i64 c.nodes) rfl;have n12:=h1.ld 12 (.int .i64 c.me) rfl;have n14:=h1.ld 14 (pt y.hb) rfl;have mvx:Mv (Un F) (Un F) H H1:=Mv.pP x1 _;by_cases hno:x.src≠c.me∨x.dst<0∨(c.nodes:Int)<=x.dst∨x.dst=c.me
 ·have hr:o6 c x s=(1,s):=by unfold o6;rw[if_pos hno]
  rw[hr];refine⟨H1,F,dF (cL rfl) (by omega) ?_,h1,mvx⟩
  rw[Ye];by_cases c1:x.src=c.me
  ·have c1':(x.src !=(c.me:Int))=false:=by simp[c1]
   by_cases c2:x.dst<0
   ·simp -implicitDefEqProofs only[gsR,e0,l0,n12,c1',l1,aPD c2]
    rfl
   ·by_cases c3:(c.nodes:Int)<=x.dst
    ·simp -implicitDefEqProofs only[gsR,e0,l0,n12,c1',l1,aPE c2,n1,aPD c3]
     rfl
    ·have c4:x.dst=c.me:=by
      rcases hno with h|h|h|h
      ·exact absurd c1 h
      ·exact absurd h c2
      ·exact absurd h c3
      ·exact h
     have c4':(x.dst==(c.me:Int))=true:=by simp[c4]
     simp -implicitDefEqProofs only[gsR,e0,l0,n12,c1',l1,aPE c2,n1,aPE c3,c4'];rfl
  ·have c1':(x.src !=(c.me:Int))=true:=by simpa using c1
   simp -implicitDefEqProofs only[gsR,e0,l0,n12,c1'];rfl
 ·have hr:o6 c x s=rE c x s:=by unfold o6;rw[if_neg hno]
  rw[hr] at hinv⊢;rw[aMA] at hinv⊢;obtain⟨r,H2,F',g1,g2,g3⟩:=(h1.sep.own .host).zM rX (n:=m-1) (λD hD=>aMz (m:=m-1) (by omega) x h1.inv.hQ h.ok.queue.2 hD)
  obtain⟨hrv,_⟩:=g2.at_;obtain⟨k1,k2⟩:=h1.Gx (Has.wX g2 λD hD=>hD.2) g3 hinv
  have c1:(x.src !=(c.me:Int))=false:=by
   simp only[bne_eq_false_iff_eq];exact Classical.byContradiction λhh=>hno (.inl hh)
  have c2:decide (x.dst<0)=false:=by rw[decide_eq_false_iff_not];exact λhh=>hno (.inr (.inl hh))
  have c3:decide ((c.nodes:Int)<=x.dst)=false:=by rw[decide_eq_false_iff_not];exact λhh=>hno (.inr (.inr (.inl hh)))
  have c4:(x.dst==(c.me:Int))=false:=by rw[beq_eq_false_iff_ne];exact λhh=>hno (.inr (.inr (.inr hh)))
  refine⟨H2,_,dF (cL rfl) (by omega) ?_,k1,mvx.pQ k2⟩
  rw[Ye];have g1:lvl prog pkN (m-1) (.func 63) [pt y.hb,x.dM] H1=some (.int .u16 (rE c x s).1,H2):=by rw[<-hrv];exact g1
  simp -implicitDefEqProofs only[gsR,e0,l0,n12,c1,l1,c2,n1,c3,c4,n14,l4,g1]
end
theorem aMG (a b c d:UInt8):fH [a,b,c,d]<4294967296:=F7 4 _ rfl
theorem aAU (a b:UInt8):fH [a,b]<65536:=F7 2 _ rfl
theorem aMF {bs:List UInt8}{f:Frm}(h:oK bs=some f):f.ok:=by
 have h1:(eW bs).ok:=⟨UInt8.toNat_lt _,UInt8.toNat_lt _,aAU _ _,by show 0<256;decide,by show 0<256;decide,by show 0<4294967296;decide⟩
 have h2:(jL bs).ok:=⟨UInt8.toNat_lt _,UInt8.toNat_lt _,aAU _ _,UInt8.toNat_lt _,UInt8.toNat_lt _,aMG _ _ _ _⟩;unfold oK wL at h
 split at h
 ·split at h
  ·cases h;exact h1
  ·cases h
 ·split at h
  ·split at h
   ·cases h;exact h2
   ·cases h
  ·cases h
theorem aMH {α:Type}(f:Nat->Nat->α)(i k:Nat):up2 f i k (f i k)=f:=by
 funext j l
 unfold up2;split
 ·rename_i h
  rw[h.1,h.2]
 ·rfl
theorem wY (b:Nat)(H':aC):chk (some (pt b,H')) (pt b)=true:=by simp[chk,veq]
theorem aAW (x:Pkt)(H':aC):chk (some (x.dM,H')) x.dM=true:=by simp[chk,veq,uK,Pkt.dM,Pkt.oZ]
theorem aAV {n:Nat}(h:n≠0):((n:Int)!=0)=true:=by
 rw[bne_iff_ne];omega
theorem aMB {room:Nat}{x:Rcv}{s:Nat}:(x.k9 room s).1≠0->(x.k9 room s).2=x:=by
 unfold Rcv.k9
 generalize eA x.n s=w
 by_cases c1:w<x.n
 ·simp only[if_pos c1]
  exact λ_=>trivial
 ·by_cases c2:x.mC room<=w
  ·simp only[if_neg c1,if_pos c2]
   exact λ_=>trivial
  ·simp only[if_neg c1,if_neg c2]
   exact λh=>absurd rfl h
theorem aMD {c:Cfg}{s:NS}{i:Nat}{f:Frm}(hn: ¬c.nodes<=max f.src f.dst)(h0:((s.rcv i f.lane).k9 c.room f.seq).1=0):
  rC c i f s=(0,{s with rcv:=up2 s.rcv i f.lane ((s.rcv i f.lane).k9 c.room f.seq).2,rL:=pU c s.rL ((i:Int),(c.port f.dst:Int),(f.lane:Int)) ⟨f.src,f.dst,f.lane,f.body⟩}):=by
 unfold rC;rw[if_neg hn]
 generalize (s.rcv i f.lane).k9 c.room f.seq=q at*
 obtain⟨e,r⟩:=q;simp only at h0;subst h0;rfl
theorem aMC {c:Cfg}{s:NS}{i:Nat}{f:Frm}(hn: ¬c.nodes<=max f.src f.dst)(h0:((s.rcv i f.lane).k9 c.room f.seq).1≠0):
  rC c i f s=(((s.rcv i f.lane).k9 c.room f.seq).1,s):=by
 unfold rC;rw[if_neg hn]
 generalize (s.rcv i f.lane).k9 c.room f.seq=q at*
 obtain⟨e,r⟩:=q;cases e with
 |zero=>exact absurd rfl h0
 |succ e=>rfl
section
variable {H0 H : aC} {F : Part → Nat → Prop} {y : Lay} {p : PlanD} {ev wv nv : Value} {c : Cfg} {t : Nat} {s : NS} {m : Nat}
theorem aME (h:NodeAt H0 H F y p ev wv nv c t s)(ht:t<1000000000)(hm:200<m){i:Nat}{f:Frm}(h1:1<=i)(h2:i<c.aH)(hl:f.lane<c.lanes)(hf:f.ok):
  ∃H' F',lvl prog pkN m (.func 90) [pt y.nb,.int .i64 i,.agg #[pt (y.sb i f.lane),pt (y.rb i f.lane)],frV f] H=some (.int .u16 (rC c i f s).1,H')/\NodeAt H0 H' F' y p ev wv nv c (t+1) (rC c i f s).2/\Mv (Un F) (Un F') H H':=by
 have hinv:=h.inv.aKA h.ok i f hl hf.body;have hm0:0<m:=by omega
 have fs:=hf.src;have fd:=hf.dst;have fl:=hf.lane;have fq:=hf.seq;obtain⟨H1,hH1⟩: ∃H1,H1=H++[gN (pt (y.sb i f.lane)) (pt (y.rb i f.lane))]:=⟨_,rfl⟩;obtain⟨H2,hH2⟩: ∃H2,H2=H1++[frB f]:=⟨_,rfl⟩;have x1:Ext H H1:=by rw[hH1];exact Fr.app _ _ _
 have x2:Ext H1 H2:=by rw[hH2];exact Fr.app _ _ _
 have g2:=(h.hP x1).hP x2;have mv2:Mv (Un F) (Un F) H H2:=Mv.pP (x1.tr x2) _;have e1:H++[Blk.cells (Value.cells (.agg #[pt (y.sb i f.lane),pt (y.rb i f.lane)])).toList 100 .fix]=H1:=by rw[hH1];rfl
 have e2:H1++[Blk.cells (Value.cells (frV f)).toList 39 .fix]=H2:=by rw[hH2];rfl
 have bl:H2[H.length]? =some (gN (pt (y.sb i f.lane)) (pt (y.rb i f.lane))):=by
  have:H1[H.length]? =some (gN (pt (y.sb i f.lane)) (pt (y.rb i f.lane))):=by rw[hH1];exact dJ _ _
  rw[x2.2 _ (dE this) id,this]
 have bf:H2[H1.length]? =some (frB f):=by rw[hH2];exact dJ _ _
 obtain⟨l0,l1,l2,l3,l4,l5,l6⟩:=kQ bf;have n1:=g2.ld 1 (.int .i64 c.nodes) rfl;have ec:IntKind.i64.wrap (max (f.src:Int) (f.dst:Int))=max (f.src:Int) (f.dst:Int):=dG (by omega) (by omega)
 by_cases c1:c.nodes<=max f.src f.dst
 ·have hr:rC c i f s=(30,s):=by unfold rC;rw[if_pos c1]
  rw[hr];have c1':decide ((c.nodes:Int)<=max (f.src:Int) (f.dst:Int))=true:=by rw[decide_eq_true_eq];omega
  refine⟨H2,F,dF (cL rfl) (by omega) ?_,{g2 with inv:=g2.inv.rZ (Nat.le_succ t)},mv2⟩
  rw[Nu];simp -implicitDefEqProofs only[gsR,e1,e2,l3,l4,yE,fF _ _ u8U iU,ec,n1,c1'];rfl
 ·have c1':decide ((c.nodes:Int)<=max (f.src:Int) (f.dst:Int))=false:=by rw[decide_eq_false_iff_not];omega
  have lr:=(vA bl).2.2;obtain⟨H3,r1,r2⟩:=aJ9 (m:=m-1) (by omega) (g2.Gs h1 h2 hl) (g2.Gt ht i f.lane) f.seq fq
  have hri:NInv c (t+1) {s with rcv:=up2 s.rcv i f.lane ((s.rcv i f.lane).k9 c.room f.seq).2}:=
   {g2.inv.rZ (t':=t+1) (by omega) with rcv:=Ae (g2.inv.rZ (t':=t+1) (by omega)).rcv ((g2.inv.rcv i f.lane).Zo h.ok.room.2 f.seq)}
  obtain⟨g3,mv3⟩:=g2.Pc h1 h2 hl r2 hri;by_cases c2:((s.rcv i f.lane).k9 c.room f.seq).1=0
  ·have c2':((((s.rcv i f.lane).k9 c.room f.seq).1:Int)!=0)=false:=by rw[c2];rfl
   have hr:=aMD (c:=c) (s:=s) (i:=i) c1 c2;rw[hr] at hinv⊢;obtain⟨x,hx⟩: ∃x:Pkt,x=⟨f.src,f.dst,f.lane,f.body⟩:=⟨_,rfl⟩;obtain⟨H4,hH4⟩: ∃H4,H4=H3++[eF x]:=⟨_,rfl⟩;have x4:Ext H3 H4:=by rw[hH4];exact Fr.app _ _ _
   have g4:=g3.hP x4;have b4:H4[H3.length]? =some (eF x):=by rw[hH4];exact dJ _ _
   have bf3:H3[H1.length]? =some (frB f):=by
    rw[mv3.keep _ (dE bf) (λhu=> ?_),bf]
    have h3:=h.sep.qF _ hu;have:=x1.1;omega
   obtain⟨k0,k1,k2,k3,k4,k5,k6⟩:=kQ bf3;have eb:bld prog 54 [(0,.int .i64 f.src),(1,.int .i64 f.dst),(2,.int .i64 f.lane),(3,.int .u32 f.body)]=some x.dM:=by rw[hx];rfl
   have ez: ∀H:aC,H++[Blk.cells [Value.int .i64 0,.int .i64 0,.int .i64 0,.int .u32 0] 54 .fix]=H++[eF pk0]:=λ_=>rfl
   have st:stN 4 (.pointer (some ⟨H3.length,0,none⟩)) x.dM (H3++[eF pk0])=some (undef,H4):=by rw[Gk x (dJ _ _),nG,hH4]
   have q1:ld1 (.pointer (some ⟨H3.length,1,none⟩)) H4=some (.int .i64 f.dst,H4):=cZ b4 (by rw[hx];rfl)
   have n15:=g4.ld 15 (pt y.rg) rfl;have hdn:f.dst<c.nodes:=by omega
   obtain⟨H5,t1,x5⟩:=aAT g4 (m:=m-1) (by omega) f.dst hdn
   have g5:=g4.hP x5;have n15':=g5.ld 15 (pt y.rg) rfl;have b5:H5[H3.length]? =some (eF x):=by rw[x5.2 _ (dE b4) id,b4]
   have q2:ld1 (.pointer (some ⟨H3.length,2,none⟩)) H5=some (.int .i64 f.lane,H5):=cZ b5 (by rw[hx];rfl)
   have q2':ld1 (.pointer (some ⟨H3.length,2,none⟩)) H4=some (.int .i64 f.lane,H4):=cZ b4 (by rw[hx];rfl)
   have q3:=(pX b5).2;have q3':=(pX b4).2;obtain⟨r,H6,F',p1,p2,p3⟩:=(g5.sep.own .rings).zM rX (n:=m-1) (λD hD=>aAl (m:=m-1) hD (by omega) ((i:Int),(c.port f.dst:Int),(f.lane:Int)) x)
   have hpw:(if B7 ((i:Int),(c.port f.dst:Int),(f.lane:Int)) c.aH c.lanes=true/\s.rL.length<c.aH*c.lanes*c.room then s.rL++[(((i:Int),(c.port f.dst:Int),(f.lane:Int)),x)] else s.rL)=pU c s.rL ((i:Int),(c.port f.dst:Int),(f.lane:Int)) ⟨f.src,f.dst,f.lane,f.body⟩:=by
    rw[hx];rfl
   obtain⟨k1',k2'⟩:=g5.Ph (Has.wX p2 λD hD=>by rw[<-hpw];exact hD) p3 hinv
   refine⟨H6,_,dF (cL rfl) (by omega) ?_,k1',((mv2.pQ mv3).pQ (Mv.pP (x4.tr x5) _)).pQ k2'⟩
   rw[Nu];have es:IntKind.i64.wrap (f.src:Int)=f.src:=zV _ (by omega)
   have ed:IntKind.i64.wrap (f.dst:Int)=f.dst:=zV _ (by omega)
   have el:IntKind.i64.wrap (f.lane:Int)=f.lane:=zV _ (by omega)
   have p1:lvl prog pkN (m-1) (.func 98) [pt y.rg,.int .i64 i,.int .i64 (c.port f.dst:Nat),.int .i64 f.lane,x.dM] H5=some (r,H6):=p1;simp -implicitDefEqProofs only[gsR,e1,e2,l3,l4,yE,fF _ _ u8U iU,ec,n1,c1',lr,l2,r1,c2',k3,k4,k1,k5,es,ed,el,eb,ez,st,n15,q1,t1,n15',wY,q2,q2',Cj,q3,q3',aAW,p1];rfl
  ·have hsame:=aMB c2
   have hr:=aMC (c:=c) (s:=s) (i:=i) c1 c2;obtain⟨e,he⟩: ∃e,e=((s.rcv i f.lane).k9 c.room f.seq).1:=⟨_,rfl⟩;rw[<-he] at hr r1 c2;have c2':=aAV c2;rw[hr];rw[hsame,aMH] at g3;refine⟨H3,F,dF (cL rfl) hm0 ?_,g3,mv2.pQ mv3⟩;rw[Nu];simp -implicitDefEqProofs only[gsR,e1,e2,l3,l4,yE,fF _ _ u8U iU,ec,n1,c1',lr,l2,r1,c2']
end
section
variable {H0 H : aC} {F : Part → Nat → Prop} {y : Lay} {p : PlanD} {ev wv nv : Value} {c : Cfg} {t : Nat} {s : NS} {m : Nat}
theorem Co (H:aC):H++[Blk.cells [Value.int .u8 0,.int .u8 0,.int .u16 0,.int .u8 0,.int .u8 0,.int .u32 0] 39 .fix]=H++[zfB]:=rfl
theorem Cp (H:aC):H++[Blk.cells [Value.pointer none,.pointer none] 100 .fix]=H++[gN (.pointer none) (.pointer none)]:=rfl
theorem Cq (H:aC)(f:Frm):stN 6 (.pointer (some ⟨H.length,0,none⟩)) (frV f) (H++[zfB])=some (undef,H++[frB f]):=by
 rw[yF f (dJ H zfB),nG]
theorem Pj (H:aC)(a b:Value)(ha:dZ [a,b]=true):stN 2 (.pointer (some ⟨H.length,0,none⟩)) (.agg #[a,b]) (H++[gN (.pointer none) (.pointer none)])=some (undef,H++[gN a b]):=by
 rw[Al a b (dJ _ _) ha,nG]
theorem aMJ {bs:List UInt8}{f:Frm}(h:oK bs=some f):nT bs= .tuple #[frV f,.int .u16 0]:=by
 unfold nT;rw[h]
theorem aMI {bs:List UInt8}(h:oK bs=none):nT bs= .tuple #[frV Frm.iI,.int .u16 30]:=by
 unfold nT;rw[h]
theorem aMK (h:NodeAt H0 H F y p ev wv nv c t s)(ht:t<1000000000)(hm:400<m)(fr:Int){u:Value}{bs:List UInt8}(hu:Bs H u bs):
  ∃H' F',lvl prog pkN m (.func 45) [pt y.nb,.int .i64 fr,u] H=some (.int .u16 (oN c fr bs s).1,H')/\NodeAt H0 H' F' y p ev wv nv c (t+1) (oN c fr bs s).2/\Mv (Un F) (Un F') H H':=by
 have hm0:0<m:=by omega
 have hmono:=h.inv.rZ (Nat.le_succ t);obtain⟨H1,hH1⟩: ∃H1,H1=H++[yO fr]:=⟨_,rfl⟩;have x1:Ext H H1:=by rw[hH1];exact Fr.app _ _ _
 have g1:=h.hP x1;have b1:H1[H.length]? =some (yO fr):=by rw[hH1];exact dJ _ _
 have e0:H++[Blk.cells (Value.cells (.int .i64 fr)).toList 3 .fix]=H1:=by rw[hH1];rfl
 have l13:=g1.ld 13 (jC y c) rfl;obtain⟨v,t1,t2⟩:=g1.aAP;obtain⟨H2,i1,x2⟩:=aAR (m:=m-1) (fid:=86) (cb:=H.length) (z:=fr) (by omega) (λG i hG=>aMx (by omega) i hG) h.ok.by' t2 b1
 have g2:=g1.hP x2;cases hfi:c.by'.findIdx? λw:Nat=>decide ((w:Int)=fr) with
 |none=>
  have hr:oN c fr bs s=(1,s):=by unfold oN;rw[hfi]
  have hf:fiI c.by' fr= -1:=by unfold fiI;rw[hfi]
  have e1:IntKind.i64.wrap ((-1:Int)+1)=0:=rfl;have c1:((0:Int)==0)=true:=rfl;rw[hf] at i1;rw[hr];refine⟨H2,F,dF (cL rfl) hm0 ?_,{g2 with inv:=hmono},Mv.pP (x1.tr x2) _⟩;rw[zT];simp -implicitDefEqProofs only[gsR,e0,l13,t1,i1,cC,e1,c1];rfl
 |some j=>
  have hjl:=(List.findIdx?_eq_some_iff_getElem.mp hfi).1;have hf:fiI c.by' fr=(j:Int):=by unfold fiI;rw[hfi]
  have h5:=h.ok.by';have e1:IntKind.i64.wrap ((j:Int)+1)=((j+1:Nat):Int):=oO j (by omega)
  have c1:(((j+1:Nat):Int)==0)=false:=by rw[beq_eq_false_iff_ne];omega
  have hp1:1<=j+1:=by omega
  have hp2:j+1<c.aH:=by unfold Cfg.aH;omega
  rw[hf] at i1;obtain⟨H3,d1,x3⟩:=aKr (m:=m-1) (by omega) (hu.ext (x1.tr x2))
  have g3:=g2.hP x3;cases hdec:oK bs with
  |none=>
   have hr:oN c fr bs s=(30,s):=by unfold oN;rw[hfi];simp only;rw[hdec]
   rw[aMI hdec] at d1;have c2:((30:Int)!=0)=true:=rfl;rw[hr];have x4:Ext H3 (H3++[frB Frm.iI]):=Fr.app _ _ _;refine⟨H3++[frB Frm.iI],F,dF (cL rfl) hm0 ?_,{g3.hP x4 with inv:=hmono},Mv.pP (((x1.tr x2).tr x3).tr x4) _⟩;rw[zT];simp -implicitDefEqProofs only[gsR,e0,l13,t1,i1,cC,e1,c1,d1,pJ,Co,Cq,c2];rfl
  |some f=>
   have hok:=aMF hdec;have fl:=hok.lane;rw[aMJ hdec] at d1;have c2:((0:Int)!=0)=false:=rfl;obtain⟨H4,hH4⟩: ∃H4,H4=H3++[frB f]:=⟨_,rfl⟩;have x4:Ext H3 H4:=by rw[hH4];exact Fr.app _ _ _
   have g4:=g3.hP x4;have b4:H4[H3.length]? =some (frB f):=by rw[hH4];exact dJ _ _
   have l4:=(kQ b4).2.1;have el:IntKind.i64.wrap (f.lane:Int)=f.lane:=zV _ (by omega)
   by_cases hl:c.lanes<=f.lane
   ·have hr:oN c fr bs s=(30,s):=by unfold oN;rw[hfi];simp only;rw[hdec];simp only;rw[if_pos hl]
    obtain⟨H5,n1,x5⟩:=aAQ g4 (m:=m-1) (by omega) ((j+1:Nat):Int) (f.lane:Int) (by omega)
    have x6:Ext H5 (H5++[gN (.pointer none) (.pointer none)]):=Fr.app _ _ _;rw[hr];refine⟨H5++[gN (.pointer none) (.pointer none)],F,dF (cL rfl) hm0 ?_,{(g4.hP x5).hP x6 with inv:=hmono},Mv.pP (((((x1.tr x2).tr x3).tr x4).tr x5).tr x6) _⟩;rw[zT];have st:=Pj H5 (.pointer none) (.pointer none) rfl;simp -implicitDefEqProofs only[gsR,e0,l13,t1,i1,cC,e1,c1,d1,pJ,Co,Cq,c2,<-hH4,l4,fF _ _ u8U iU,el,n1,Cp,wW,st];rfl
   ·have hlt:f.lane<c.lanes:=by omega
    obtain⟨H5,n1,x5⟩:=Pf g4 (m:=m-1) (by omega) hp1 hp2 hlt
    obtain⟨H6,hH6⟩: ∃H6,H6=H5++[gN (pt (y.sb (j+1) f.lane)) (pt (y.rb (j+1) f.lane))]:=⟨_,rfl⟩;have x6:Ext H5 H6:=by rw[hH6];exact Fr.app _ _ _
    have g6:=(g4.hP x5).hP x6;have b6:H6[H5.length]? =some (gN (pt (y.sb (j+1) f.lane)) (pt (y.rb (j+1) f.lane))):=by rw[hH6];exact dJ _ _
    obtain⟨q0,q1,q2⟩:=vA b6;have b46:H6[H3.length]? =some (frB f):=by rw[(x5.tr x6).2 _ (dE b4) id,b4]
    obtain⟨k0,k1,k2,k3,k4,k5,k6⟩:=kQ b46;have st:=Pj H5 (pt (y.sb (j+1) f.lane)) (pt (y.rb (j+1) f.lane)) rfl;have mv6:Mv (Un F) (Un F) H H6:=Mv.pP (((((x1.tr x2).tr x3).tr x4).tr x5).tr x6) _;by_cases hk2:f.kind=2
    ·have hr:oN c fr bs s=(0,{s with snd:=up2 s.snd (j+1) f.lane ((s.snd (j+1) f.lane).rB f.seq)}):=by unfold oN;rw[hfi];simp only;rw[hdec];simp only;rw[if_neg hl,if_pos hk2]
     have c3:((f.kind:Int)==2)=true:=by rw[hk2];rfl
     obtain⟨H7,w,s1,s2⟩:=aKe (m:=m-1) (by omega) (g6.Cm hp1 hp2 hlt) (g6.Pd ht _ _) f.seq hok.seq
     have hri:NInv c (t+1) {s with snd:=up2 s.snd (j+1) f.lane ((s.snd (j+1) f.lane).rB f.seq)}:=
      {hmono with snd:=Ae hmono.snd (((h.inv.snd _ _).aKH _).Oh (Nat.le_succ t))}
     obtain⟨g7,mv7⟩:=g6.aAK hp1 hp2 hlt s2 hri;rw[hr];refine⟨H7,F,dF (cL rfl) hm0 ?_,g7,mv6.pQ mv7⟩;rw[zT];simp -implicitDefEqProofs only[gsR,e0,l13,t1,i1,cC,e1,c1,d1,pJ,Co,Cq,c2,<-hH4,l4,fF _ _ u8U iU,el,n1,Cp,st,<-hH6,k0,c3,q1,k2,s1];rfl
    ·have c3:((f.kind:Int)==2)=false:=by rw[beq_eq_false_iff_ne];omega
     by_cases hk3:f.kind=3
     ·have hr:oN c fr bs s=(0,{s with rcv:=up2 s.rcv (j+1) f.lane ((s.rcv (j+1) f.lane).pS c.room f.seq)}):=by unfold oN;rw[hfi];simp only;rw[hdec];simp only;rw[if_neg hl,if_neg hk2,if_pos hk3]
      have c4:((f.kind:Int)==3)=true:=by rw[hk3];rfl
      obtain⟨H7,w,s1,s2⟩:=aKb (m:=m-1) (by omega) (g6.Gs hp1 hp2 hlt) (g6.Gt ht _ _) f.seq hok.seq
      have hri:NInv c (t+1) {s with rcv:=up2 s.rcv (j+1) f.lane ((s.rcv (j+1) f.lane).pS c.room f.seq)}:=
       {hmono with rcv:=Ae hmono.rcv ((h.inv.rcv _ _).aKG h.ok.room.2 _)}
      obtain⟨g7,mv7⟩:=g6.Pc hp1 hp2 hlt s2 hri;rw[hr];refine⟨H7,F,dF (cL rfl) hm0 ?_,g7,mv6.pQ mv7⟩;rw[zT];simp -implicitDefEqProofs only[gsR,e0,l13,t1,i1,cC,e1,c1,d1,pJ,Co,Cq,c2,<-hH4,l4,fF _ _ u8U iU,el,n1,Cp,st,<-hH6,k0,c3,c4,q2,k2,s1];rfl
     ·have c4:((f.kind:Int)==3)=false:=by rw[beq_eq_false_iff_ne];omega
      have hr:oN c fr bs s=rC c (j+1) f s:=by unfold oN;rw[hfi];simp only;rw[hdec];simp only;rw[if_neg hl,if_neg hk2,if_neg hk3]
      obtain⟨H7,F',s1,g7,mv7⟩:=aME g6 ht (m:=m-1) (by omega) hp1 hp2 hlt hok
      rw[hr];refine⟨H7,F',dF (cL rfl) hm0 ?_,g7,mv6.pQ mv7⟩;rw[zT];simp -implicitDefEqProofs only[gsR,e0,l13,t1,i1,cC,e1,c1,d1,pJ,Co,Cq,c2,<-hH4,l4,fF _ _ u8U iU,el,n1,Cp,st,<-hH6,k0,c3,c4,q0,k6,s1]
end
theorem aMS {H H':aC}{a n ports lanes p s mb:Nat}{L:List Rg.En}{l:List Rg.kC}{top free:Int}{fl:List Nat}{f:Rg.lC->Option Value}(h:Rg.RI H a L n ports lanes p s mb l top free fl f)(hk: ∀(b:Nat)(x:Blk),H[b]? =some x->x≠ .dead->H'[b]? =some x):Rg.RI H' a L n ports lanes p s mb l top free fl f:=by
 refine⟨hk _ _ h.hd (λhd=>by cases hd),⟨⟨hk _ _ h.pool.pool.hp (λhd=>by cases hd),hk _ _ h.pool.pool.hs (λhd=>by cases hd),λi q x d hi=>hk _ _ (h.pool.pool.hq i q x d hi) (λhd=>by cases hd)⟩,h.pool.chain,h.pool.nodup,h.pool.full,h.pool.cnt,h.pool.len⟩,
  h.len,h.cnt,h.nd,h.full,?_,h.no,λw v hv=>⟨?_,(h.yes w v hv).2⟩,h.sep,h.b1,h.b2⟩
 ·obtain⟨es,c,h1,h2⟩:=h.mp
  exact⟨es,c,hk _ _ h1 (λhd=>by cases hd),h2⟩
 ·refine(h.yes w v hv).1.sT λb hb=> ?_
  obtain⟨xs,hx⟩:=(h.yes w v hv).1.blk hb;rw[hx];exact hk _ _ hx (λhd=>by cases hd)
theorem RingsN.aMP {D H:aC}{a cap ports lanes:Nat}{L:List (Go.Abs.iA×Pkt)}(hs:Sub D H)(h:RingsN D a L cap ports lanes):RingsN H a L cap ports lanes:=by
 obtain⟨Le,⟨p,s,mb,l,top,free,fl,f,hi⟩,h2⟩:=h
 exact⟨Le,⟨p,s,mb,l,top,free,fl,f,aMS hi hs.2⟩,h2⟩
theorem HostAt.aML {D H:aC}{a lanes queue:Nat}{L G:List Pkt}(hs:Sub D H)(h:HostAt D a L G lanes queue):HostAt H a L G lanes queue:=by
 obtain⟨w0,w1,w2,cv,h⟩:=h;have key: ∀w (xs:List Pkt),Pq D w xs->Pq H w xs:=λw xs hw=>hw.yG λb hb=>by
  obtain⟨cs,hc⟩:=hw.blk hb;rw[hc];exact hs.2 b _ hc (λhd=>by cases hd)
 exact⟨w0,w1,w2,cv,hs.2 a _ h.blk (λhd=>by cases hd),h.lanes,h.queue,λk hk=>key _ _ (h.q k hk),key _ _ h.came,h.apart,h.apartC⟩
section
variable {H0 H : aC} {F : Part → Nat → Prop} {y : Lay} {p : PlanD} {ev wv nv : Value} {c : Cfg} {t : Nat} {s : NS} {m : Nat}
theorem NodeAt.aMO (h:NodeAt H0 H F y p ev wv nv c t s):RingsN H y.rg s.rL (c.aH*c.lanes*c.room) c.aH c.lanes:=RingsN.aMP (D4 _ _) (h.sep.own .rings).at_
theorem NodeAt.aMM (h:NodeAt H0 H F y p ev wv nv c t s):HostAt H y.hb s.hL s.hG c.lanes c.queue:=HostAt.aML (D4 _ _) (h.sep.own .host).at_
theorem aAX (h:NodeAt H0 H F y p ev wv nv c t s)(hm:0<m)(i o k:Nat):lvl prog pkN m (.func 96) [pt y.rg,.int .i64 i,.int .i64 o,.int .i64 k] H=some (.int .i64 (nJ s.rL i o k),H):=aLA h.aMO hm i o k
theorem aMR {i o:Nat}(hi:i<c.aH)(ho:o<c.aH)(h3:c.lanes<=3)(ht:t<1000000000)(hm:10<m): ∀(q k l:Nat)(H:aC),c.lanes-k=q->k<=c.lanes->q<l->NodeAt H0 H F y p ev wv nv c t s-> ∀(x3 x4 x5 x6 x8 x9 bK bN bC aM aS bI aN bG bJ bL bH bE aT aU aV aW aX aY aZ bA bB bO bP bQ bR bS bT bU bV bX bY cD cG cH cK cQ cS cT:Value),
  ∃H2,aI l (aK prog (lvl prog pkN m) (aI m) Mp) (Mq (lvl prog pkN m) (aI m)) [(pt y.nb),(.int .i64 (i:Nat)),(.int .i64 (o:Nat)),x3,x4,x5,x6,(.int .u16 (dH (gM c s i o) k:Nat)),x8,x9,bK,bN,bC,(.int .i64 c.lanes),(.int .i64 (k:Nat)),aM,aS,bI,aN,bG,bJ,bL,bH,bE,aT,aU,aV,aW,aX,aY,aZ,bA,bB,bO,bP,bQ,bR,bS,bT,bU,bV,bX,bY,cD,cG,cH,cK,cQ,cS,cT] H=some (.int .u16 (dH (gM c s i o) c.lanes:Nat),H2)/\Ext H H2:=by
 intro q;induction q with
 |zero=>
  intro k l H hq hk hl h;intros;obtain⟨l,rfl⟩: ∃l',l=l'+1:=⟨l-1,by omega⟩
  have hke:k=c.lanes:=by omega
  have c1:decide ((k:Int)<(c.lanes:Int))=false:=by rw[decide_eq_false_iff_not];omega
  rw[aI,X5];simp -implicitDefEqProofs only[gsR,c1];rw[aIV];simp -implicitDefEqProofs only[gsR]
  exact⟨_,by rw[hke],Fr.nC _ _⟩
 |succ q ih=>
  intro k l H hq hk hl h;intros;obtain⟨l,rfl⟩: ∃l',l=l'+1:=⟨l-1,by omega⟩
  have hkl:k<c.lanes:=by omega
  have c1:decide ((k:Int)<(c.lanes:Int))=true:=by rw[decide_eq_true_eq];omega
  have l15:=h.ld 15 (pt y.rg) rfl;have r1:=aAX h (m:=m) (by omega) i o k
  have e9:=oO k (by omega)
  rw[aI,X5];by_cases hz:nJ s.rL i o k=0
  ·have c2:(((nJ s.rL i o k:Nat):Int)==0)=true:=by rw[hz];rfl
   have hno:gM c s i o k=false:=by unfold gM;rw[hz];simp
   simp -implicitDefEqProofs only[gsR,c1,l15,r1,c2,cC,e9];rw[<-Gn hno];exact ih (k+1) l H (by omega) (by omega) (by omega) h ..
  ·have c2:(((nJ s.rL i o k:Nat):Int)==0)=false:=by rw[beq_eq_false_iff_ne];omega
   obtain⟨s1,s2⟩:=wU (a:=dH (gM c s i o) k) (i:=k) (rI _ (by omega)) (by omega)
   by_cases ho0:o=0
   ·have c3:((o:Int)==0)=true:=by rw[ho0];rfl
    have hyes:gM c s i o k=true:=by unfold gM;simp[hkl,ho0];rw[<-ho0];omega
    simp -implicitDefEqProofs only[gsR,c1,l15,r1,c2,c3,s1,s2,cC,e9];rw[<-Gp hyes];exact ih (k+1) l H (by omega) (by omega) (by omega) h ..
   ·have c3:((o:Int)==0)=false:=by rw[beq_eq_false_iff_ne];omega
    have l13:=h.ld 13 (jC y c) rfl;obtain⟨b,oo,a1,a2⟩:=h.yL ho;obtain⟨_,_,a3,_⟩:=a2 _ (.inl h);obtain⟨b',o',a4,_,a5,_⟩:=h.Cl (by omega) ho hkl
    have u1:=aKh (m:=m) (by omega) (h.Cm (by omega) ho hkl) (h.Pd ht o k)
    obtain⟨H1,hH1⟩: ∃H1,H1=H++[Blk.cells [.int .u64 (s.snd o k).s,.int .u64 (s.snd o k).l] 141 .fix]:=⟨_,rfl⟩;rw[<-hH1] at u1;have x1:Ext H H1:=by rw[hH1];exact Fr.app _ _ _
    by_cases hu:0<(s.snd o k).nI
    ·have c4:decide (0<((s.snd o k).nI:Int))=true:=by rw[decide_eq_true_eq];omega
     have hyes:gM c s i o k=true:=by unfold gM;simp[hkl,hu];omega
     simp -implicitDefEqProofs only[gsR,Nat.add_zero,c1,l15,r1,c2,c3,l13,a1,a3,a4,a5,u1,c4,s1,s2,cC,e9];rw[<-Gp hyes];obtain⟨H2,k1,k2⟩:=ih (k+1) l H1 (by omega) (by omega) (by omega) (h.hP x1) ..
     exact⟨H2,k1,x1.tr k2⟩
    ·have c4:decide (0<((s.snd o k).nI:Int))=false:=by rw[decide_eq_false_iff_not];omega
     have hno:gM c s i o k=false:=by unfold gM;simp[hkl,hu,ho0]
     simp -implicitDefEqProofs only[gsR,Nat.add_zero,c1,l15,r1,c2,c3,l13,a1,a3,a4,a5,u1,c4,cC,e9];rw[<-Gn hno];obtain⟨H2,k1,k2⟩:=ih (k+1) l H1 (by omega) (by omega) (by omega) (h.hP x1) ..
     exact⟨H2,k1,x1.tr k2⟩
theorem aAY (h:NodeAt H0 H F y p ev wv nv c t s)(ht:t<1000000000)(hm:20<m){i o:Nat}(hi:i<c.aH)(ho:o<c.aH): ∃H2,lvl prog pkN m (.func 104) [pt y.nb,.int .i64 i,.int .i64 o] H=some (.int .u16 (dH (gM c s i o) c.lanes:Nat),H2)/\Ext H H2:=by
 refine lK (cL rfl) (by omega) ?_
 rw[aIW];have l3:=h.ld 3 (.int .i64 c.lanes) rfl;simp -implicitDefEqProofs only[gsR,l3];exact aMR hi ho h.ok.lanes.2 ht (by omega) c.lanes 0 (m-1) H (by omega) (by omega) (by have:=h.ok.lanes;omega) h ..
theorem NodeAt.aMN (h:NodeAt H0 H F y p ev wv nv c t s){b:Nat}(hb: ¬Un F b)(hb0:H0.length<=b)(x:Blk):NodeAt H0 (H.set b x) F y p ev wv nv c t s:=by
 have hm:Mv (λa=>a=b) (λa=>a=b) H (H.set b x):=⟨by simp,λ_ h=> .inl h,λa _ ha=>aOV λhh=>ha hh.symm⟩
 refine {h with ext:=⟨by simp;exact h.ext.1,λa ha _=> ?_⟩,sep:=h.sep.xU (Ak _ _ _ _ _ _ _) hm λa ha hh=>hb (by rw[<-hh];exact ha)}
 rw[aOV (by omega),h.ext.2 a ha id]
def lD (c:Cfg)(s:NS)(i o:Nat):List Nat:=(List.range c.aH).map λj=>if j<i then dH (mD c s j) c.aH else if j=i then dH (mD c s i) o else 0
theorem vB (c:Cfg)(s:NS)(i o:Nat):(lD c s i o).length=c.aH:=by simp[lD]
theorem yP {c:Cfg}{s:NS}{i o j:Nat}(hj:j<c.aH):(lD c s i o)[j]? =some (if j<i then dH (mD c s j) c.aH else if j=i then dH (mD c s i) o else 0):=by simp[lD,hj]
theorem aMT (c:Cfg)(s:NS)(i:Nat):lD c s i c.aH=lD c s (i+1) 0:=by
 unfold lD;refine List.map_congr_left λj hj=> ?_
 by_cases h1:j<i
 ·rw[if_pos h1,if_pos (by omega)]
 ·by_cases h2:j=i
  ·rw[if_neg h1,if_pos h2,if_pos (by omega),h2]
  ·rw[if_neg h1,if_neg h2,if_neg (by omega)]
   split<;>rfl
theorem aMU (c:Cfg)(s:NS):lD c s 0 0=List.replicate c.aH 0:=by
 apply aPv;intro j;by_cases hj:j<c.aH
 ·rw[yP hj,List.getElem?_replicate_of_lt hj,if_neg (by omega)]
  split<;>rfl
 ·rw[aO5 (by rw[vB];omega),aO5 (by simp;omega)]
theorem aAZ {c:Cfg}{s:NS}{i o v:Nat}(hi:i<c.aH)(hv:dH (mD c s i) (o+1)=v):lD c s i (o+1)=(lD c s i o).set i v:=by
 apply aPv;intro j;by_cases hj:j<c.aH
 ·by_cases hij:i=j
  ·subst hij
   rw[aO0 (by rw[vB];exact hi),yP hj,if_neg (by omega),if_pos rfl,hv]
  ·rw[aOV hij,yP hj,yP hj,if_neg (show¬j=i by omega),if_neg (show¬j=i by omega)]
 ·rw[aO5 (by rw[vB];omega),aO5 (by rw[List.length_set,vB];omega)]
theorem aMW (c:Cfg)(s:NS):kR (lD c s c.aH 0)=mD c s:=by
 funext i k
 unfold kR;by_cases hi:i<c.aH
 ·rw[aOY,yP hi,if_pos hi,aPn,lL]
  unfold mD;cases decide (k<c.aH)<;>simp
 ·rw[aOY,aO5 (by rw[vB];omega)]
  unfold mD;simp[hi]
theorem aMV {c:Cfg}{s:NS}(h6:c.aH<=16): ∀z∈lD c s c.aH 0,z<65536:=λz hz=>by
 unfold lD at hz;obtain⟨j,hj,rfl⟩:=aPx.mp hz;rw[if_pos (aPy.mp hj)];exact rI _ h6
theorem aMQ {c:Cfg}{s:NS}{i o:Nat}(hi:i<c.aH)(ho:o<c.aH):mD c s i o=oB (gM c s i o) c.lanes:=by
 unfold mD oB;simp[hi,ho]
end
section
variable {H0 H : aC} {F : Part → Nat → Prop} {y : Lay} {p : PlanD} {ev wv nv : Value} {c : Cfg} {t : Nat} {s : NS} {m : Nat}
theorem aMX {Ha:aC}{i:Nat}(hi:i<c.aH)(hun: ¬Un F Ha.length)(hb0:H0.length<=Ha.length)(ht:t<1000000000)(hm:30<m)(h6:c.aH<=6){K:Ex->K (Value×aC)}{Q:aC->Value->Prop}
  (hK: ∀H',NodeAt H0 H' F y p ev wv nv c t s->H'[Ha.length]? =some (iC (lD c s i c.aH))->Ext Ha H'-> ∀(x1 x2 x4 x5 x6 x7 x8 x9 bK bN bC aO aP aM aN bG bJ bL bH bE aT aU aV aW aX aY aZ bA bB bO bP bQ bR bS bT bU bV bX bY cD:Value),∃H2 r,Nj (lvl prog pkN m) (aI m) K (pt y.nb) x1 x2 (eE Ha.length c.aH) x4 x5 x6 x7 x8 x9 bK bN bC aO aP aM (.int .i64 c.aH) (.int .i64 (i:Nat)) aN bG bJ bL bH bE aT aU aV aW aX aY aZ bA bB bO bP bQ bR bS bT bU bV bX bY cD H'=some (r,H2)/\Q H2 r):
  ∀(q o k:Nat)(H:aC),c.aH-o=q->o<=c.aH->q<k->NodeAt H0 H F y p ev wv nv c t s->H[Ha.length]? =some (iC (lD c s i o))->Ext Ha H-> ∀(x1 x2 x5 x6 x7 x8 x9 bK bN bC aO aP aM aN bG bJ bL bH bE aV aW aX aY aZ bA bB bO bP bQ bR bS bT bU bV bX bY cD:Value),
  ∃H2 r,aI k (aK prog (lvl prog pkN m) (aI m) Ni) (Nl (lvl prog pkN m) (aI m) K) [(pt y.nb),x1,x2,(eE Ha.length c.aH),(.int .i64 (i:Nat)),x5,x6,x7,x8,x9,bK,bN,bC,aO,aP,aM,(.int .i64 c.aH),(.int .i64 (i:Nat)),aN,bG,bJ,bL,bH,bE,(.int .i64 c.aH),(.int .i64 (o:Nat)),aV,aW,aX,aY,aZ,bA,bB,bO,bP,bQ,bR,bS,bT,bU,bV,bX,bY,cD] H=some (r,H2)/\Q H2 r:=by
 intro q;induction q with
 |zero=>
  intro o k H hq ho hk h hb he;intros;obtain⟨k,rfl⟩: ∃k',k=k'+1:=⟨k-1,by omega⟩
  have hoe:o=c.aH:=by omega
  subst hoe;have c1:decide ((c.aH:Int)<(c.aH:Int))=false:=by simp
  rw[aI,Ym];simp -implicitDefEqProofs only[gsR,c1];rw[aJG];exact hK H h hb he ..
 |succ q ih=>
  intro o k H hq ho hk h hb he;intros;obtain⟨k,rfl⟩: ∃k',k=k'+1:=⟨k-1,by omega⟩
  have hol:o<c.aH:=by omega
  have c1:decide ((o:Int)<(c.aH:Int))=true:=by rw[decide_eq_true_eq];omega
  obtain⟨H1,m1,x1⟩:=aAY h ht (m:=m) (by omega) hi hol
  have h1:=h.hP x1;have b1:H1[Ha.length]? =some (iC (lD c s i o)):=by rw[x1.2 _ (dE hb) id,hb]
  have e9:=oO o (by omega)
  have hask:=aMQ (c:=c) (s:=s) hi hol;rw[aI,Ym];by_cases hz:dH (gM c s i o) c.lanes=0
  ·have c2:(((dH (gM c s i o) c.lanes:Nat):Int)!=0)=false:=by rw[hz];rfl
   have hno:mD c s i o=false:=by rw[hask];exact(Ah _ _).mp hz
   have hr:lD c s i (o+1)=lD c s i o:=by
    rw[aAZ hi (Gn hno)];apply aPv;intro j;by_cases hij:i=j
    ·subst hij
     rw[aO0 (by rw[vB];exact hi),yP hi,if_neg (by omega),if_pos rfl]
    ·rw[aOV hij]
   simp -implicitDefEqProofs only[gsR,c1,m1,c2,cC,e9];exact ih (o+1) k H1 (by omega) (by omega) (by omega) h1 (by rw[hr];exact b1) (he.tr x1) ..
  ·have c2:(((dH (gM c s i o) c.lanes:Nat):Int)!=0)=true:=aAV hz
   have hyes:mD c s i o=true:=by
    rw[hask];cases hw:oB (gM c s i o) c.lanes with
    |true=>rfl
    |false=>exact absurd ((Ah _ _).mpr hw) hz
   obtain⟨a1,a2⟩:=Gr (c:=c.aH) b1 (vB _ _ _ _) hi;have a1:aR 1 (eE Ha.length c.aH) (.int .i64 (i:Int))=some (.pointer (some ⟨Ha.length,i,none⟩)):=a1;have hv:(lD c s i o).getD i 0=dH (mD c s i) o:=by rw[aOY,yP hi,if_neg (by omega),if_pos rfl];rfl
   rw[hv] at a2;obtain⟨s1,s2⟩:=wU (a:=dH (mD c s i) o) (i:=o) (rI _ (by omega)) (by omega)
   have st:=aAD (dH (mD c s i) o|||2 ^ o) b1 (i:=i) (by rw[vB];exact hi)
   rw[<-aAZ hi (Gp hyes)] at st;simp -implicitDefEqProofs only[gsR,c1,m1,c2,a1,a2,s1,s2,st,cC,e9];refine ih (o+1) k _ (by omega) (by omega) (by omega) (h1.aMN hun hb0 _) (iE b1) ?_ ..
   have he1:=he.tr x1
   exact⟨by simp;exact he1.1,λb hb hn=>by rw[aOV (by omega),he1.2 b hb id]⟩
theorem aMZ {Ha:aC}(hun: ¬Un F Ha.length)(hb0:H0.length<=Ha.length)(ht:t<1000000000)(hm:40<m)(h6:c.aH<=6):
  ∀(q i k:Nat)(H:aC),c.aH-i=q->i<=c.aH->q<k->NodeAt H0 H F y p ev wv nv c t s->H[Ha.length]? =some (iC (lD c s i 0))->Ext Ha H-> ∀(x1 x2 x4 x5 x6 x7 x8 x9 bK bN bC aO aP aM aN bG bJ bL bH bE aT aU aV aW aX aY aZ bA bB bO bP bQ bR bS bT bU bV bX bY cD:Value),
  ∃H2 r,aI k (aK prog (lvl prog pkN m) (aI m) Nh) (Nk (lvl prog pkN m) (aI m)) [(pt y.nb),x1,x2,(eE Ha.length c.aH),x4,x5,x6,x7,x8,x9,bK,bN,bC,aO,aP,aM,(.int .i64 c.aH),(.int .i64 (i:Nat)),aN,bG,bJ,bL,bH,bE,aT,aU,aV,aW,aX,aY,aZ,bA,bB,bO,bP,bQ,bR,bS,bT,bU,bV,bX,bY,cD] H=some (r,H2)/\(r=eE Ha.length c.aH/\H2[Ha.length]? =some (iC (lD c s c.aH 0))/\Ext Ha H2/\NodeAt H0 H2 F y p ev wv nv c t s):=by
 intro q;induction q with
 |zero=>
  intro i k H hq hi hk h hb he;intros;obtain⟨k,rfl⟩: ∃k',k=k'+1:=⟨k-1,by omega⟩
  have hie:i=c.aH:=by omega
  subst hie;have c1:decide ((c.aH:Int)<(c.aH:Int))=false:=by simp
  rw[aI,Yl];simp -implicitDefEqProofs only[gsR,c1];rw[aJF];simp -implicitDefEqProofs only[gsR]
  exact⟨_,_,rfl,rfl,hb,he,h⟩
 |succ q ih=>
  intro i k H hq hi hk h hb he;intros;obtain⟨k,rfl⟩: ∃k',k=k'+1:=⟨k-1,by omega⟩
  have hil:i<c.aH:=by omega
  have c1:decide ((i:Int)<(c.aH:Int))=true:=by rw[decide_eq_true_eq];omega
  have l13:=h.ld 13 (jC y c) rfl;have e1:bM (jC y c)=some (.int .i64 c.aH):=rfl;rw[aI,Yl];simp -implicitDefEqProofs only[gsR,c1,l13,e1];refine aMX hil hun hb0 ht (by omega) h6 ?_ c.aH 0 m H (by omega) (by omega) (by omega) h hb he ..
  intro H' h' hb' he';intros;have e9:=oO i (by omega)
  unfold Nj;simp -implicitDefEqProofs only[gsR,cC,e9];rw[aMT] at hb';exact ih (i+1) k H' (by omega) (by omega) (by omega) h' hb' he' ..
theorem aMY (h:NodeAt H0 H F y p ev wv nv c t s)(ht:t<1000000000)(hm:50<m): ∃H2,lvl prog pkN m (.func 51) [pt y.nb] H=some (eE H.length c.aH,H2)/\H2[H.length]? =some (iC (lD c s c.aH 0))/\Ext H H2:=by
 have h6:c.aH<=6:=by have:=h.ok.by';unfold Cfg.aH;omega
 have main: ∃H2 r,lvl prog pkN m (.func 51) [pt y.nb] H=some (r,H2)/\(r=eE H.length c.aH/\H2[H.length]? =some (iC (lD c s c.aH 0))/\Ext H H2/\NodeAt H0 H2 F y p ev wv nv c t s):=by
  refine jJ (cL rfl) (by omega) ?_
  rw[aJH];have l13:=h.ld 13 (jC y c) rfl;have e1:bM (jC y c)=some (.int .i64 c.aH):=rfl;have mk:=xN (H:=H) 23 1 2 [.int .u16 0] .i64 .i64 (c.aH:Int) (by omega) (by omega) (by omega) rfl
  have hz:H++[Blk.cells (List.replicate (c.aH:Int).toNat [Value.int .u16 0]).flatten 23 .row]=H++[iC (lD c s 0 0)]:=by
   have: ∀n,(List.replicate n [Value.int .u16 0]).flatten=List.replicate n (.int .u16 0):=by
    intro n;induction n with
    |zero=>rfl
    |succ n ih=>rw[List.replicate_succ,aPu,ih];rfl
   rw[aPm,this,aMU,iC,List.map_replicate];rfl
  rw[hz,aPm] at mk;have x1:Ext H (H++[iC (lD c s 0 0)]):=Fr.app _ _ _;have h1:=h.hP x1;have l13':=h1.ld 13 (jC y c) rfl;simp -implicitDefEqProofs only[gsR,l13,e1,mk,l13'];exact aMZ (λhu=>by have:=h.sep.qF _ hu;omega) h.ext.1 ht (by omega) h6 c.aH 0 (m-1) _ (by omega) (by omega) (by omega) h1 (dJ _ _) x1 ..
 obtain⟨H2,r,g1,rfl,g2,g3,_⟩:=main
 exact⟨H2,g1,g2,g3⟩
theorem aA2 (L:List (Go.Abs.iA×Pkt))(i o k:Nat):nJ L i o k<=L.length:=by
 unfold nJ lU;rw[aO8];exact List.length_filter_le _ _
def vD (L:List (Go.Abs.iA×Pkt))(k o:Nat):Nat:=((List.range o).map λo=>nJ L 0 o k).sum
theorem aA1 (L:List (Go.Abs.iA×Pkt))(k o:Nat):vD L k (o+1)=vD L k o+nJ L 0 o k:=by
 unfold vD;rw[aPt,List.map_append,List.sum_append];simp
theorem aA0 (L:List (Go.Abs.iA×Pkt))(k:Nat): ∀o,vD L k o<=o*L.length
 |0=>by simp[vD]
 |o+1=>by
  have:=aA0 L k o;have:=aA2 L 0 o k;rw[aA1,Nat.succ_mul];omega
theorem aA3 (h:c.ok):c.aH*c.lanes*c.room<=144:=by
 have h1:c.aH<=6:=by have:=h.by';unfold Cfg.aH;omega
 have h2:=h.lanes.2;have h3:=h.room.2
 calc c.aH*c.lanes*c.room<=6*3*8:=Nat.mul_le_mul (Nat.mul_le_mul h1 h2) h3
  _=144:=rfl
theorem aM0 {kk:Nat}(hm:30<m){K:Ex->K (Value×aC)}{Q:aC->Value->Prop}(h:NodeAt H0 H F y p ev wv nv c t s)
  (hK: ∀(x1 x4 x5 x6 x7 x8 x9 bK aO aP aM aS bI aN bG bJ bL bH bE aT aU aV aW aX aY aZ bA bB bO bP bQ bR bS bT bU bV bX bY cD cG cH cK cQ cS cT cM cN cO cP cW cU cV cY dA dC dB dD:Value),∃H2 r,Fu (lvl prog pkN m) (aI m) K (pt y.nb) x1 (.int .i64 (kk:Nat)) (.int .i64 (wM c s.rL kk:Nat)) x4 x5 x6 x7 x8 x9 bK (.int .i64 c.lanes) (.int .i64 (kk:Nat)) aO aP aM aS bI aN bG bJ bL bH bE aT aU aV aW aX aY aZ bA bB bO bP bQ bR bS bT bU bV bX bY cD cG cH cK cQ cS cT cM cN cO cP cW cU cV cY dA dC dB dD H=some (r,H2)/\Q H2 r):
  ∀(q o k:Nat),c.aH-o=q->o<=c.aH->q<k-> ∀(x1 x4 x5 x6 x7 x8 x9 bK aO aP aM aS bI aN bL bH bE aT aU aV aW aX aY aZ bA bB bO bP bQ bR bS bT bU bV bX bY cD cG cH cK cQ cS cT cM cN cO cP cW cU cV cY dA dC dB dD:Value),
  ∃H2 r,aI k (aK prog (lvl prog pkN m) (aI m) M7) (M9 (lvl prog pkN m) (aI m) K) [(pt y.nb),x1,(.int .i64 (kk:Nat)),(.int .i64 (vD s.rL kk o:Nat)),x4,x5,x6,x7,x8,x9,bK,(.int .i64 c.lanes),(.int .i64 (kk:Nat)),aO,aP,aM,aS,bI,aN,(.int .i64 c.aH),(.int .i64 (o:Nat)),bL,bH,bE,aT,aU,aV,aW,aX,aY,aZ,bA,bB,bO,bP,bQ,bR,bS,bT,bU,bV,bX,bY,cD,cG,cH,cK,cQ,cS,cT,cM,cN,cO,cP,cW,cU,cV,cY,dA,dC,dB,dD] H=some (r,H2)/\Q H2 r:=by
 intro q;induction q with
 |zero=>
  intro o k hq ho hk;intros;obtain⟨k,rfl⟩: ∃k',k=k'+1:=⟨k-1,by omega⟩
  have hoe:o=c.aH:=by omega
  subst hoe;have c1:decide ((c.aH:Int)<(c.aH:Int))=false:=by simp
  rw[aI,Yh];simp -implicitDefEqProofs only[gsR,c1];rw[aJB];exact hK ..
 |succ q ih=>
  intro o k hq ho hk;intros;obtain⟨k,rfl⟩: ∃k',k=k'+1:=⟨k-1,by omega⟩
  have h6:c.aH<=6:=by have:=h.ok.by';unfold Cfg.aH;omega
  have c1:decide ((o:Int)<(c.aH:Int))=true:=by rw[decide_eq_true_eq];omega
  have l15:=h.ld 15 (pt y.rg) rfl;have r1:=aAX h (m:=m) (by omega) 0 o kk
  have e9:=oO o (by omega)
  have hrl:=aPa h.inv.rN (aA3 h.ok);have hb1:vD s.rL kk o<=6*144:=aPa (aA0 _ _ _) (Nat.mul_le_mul (by omega) hrl)
  have hb2:=aA2 s.rL 0 o kk;have e8:IntKind.i64.wrap ((vD s.rL kk o:Nat)+((nJ s.rL 0 o kk:Nat):Int))=(vD s.rL kk (o+1):Nat):=by
   rw[aA1,dG (by omega) (by omega)]
   omega
  have r1:lvl prog pkN m (.func 96) [pt y.rg,.int .i64 0,.int .i64 o,.int .i64 kk] H=some (.int .i64 (nJ s.rL 0 o kk),H):=r1;rw[aI,Yh];simp -implicitDefEqProofs only[gsR,c1,l15,r1,cC,e8,e9];exact ih (o+1) k (by omega) (by omega) (by omega) ..
def aM2 (w:List Pkt):Value:=match w with
 |[]=> .tuple #[pk0.dM,.bool false]
 |x::_=> .tuple #[x.dM,.bool true]
def yQ (L:List Pkt)(k:Nat):List Pkt:=if gP L k=[] then L else pT L k
theorem aM1 {D:aC}{hb:Nat}(hm:3<m){k:Nat}(hk:k<c.lanes)(h:HostAt D hb s.hL s.hG c.lanes c.queue):
  ∃r D',lvl prog pkN m (.func 97) [pt hb,.int .i64 k] D=some (r,D')/\(r=aM2 (gP s.hL k)/\HostAt D' hb (yQ s.hL k) s.hG c.lanes c.queue):=by
 obtain⟨w0,w1,w2,cv,h⟩:=h;cases hw:gP s.hL k with
 |nil=>
  obtain⟨H',g1,g2⟩:=aLH h hm k hk hw
  exact⟨_,_,g1,rfl,by unfold yQ;rw[if_pos hw];exact g2⟩
 |cons x xs=>
  obtain⟨H',g1,g2⟩:=aLI h hm k hk hw
  exact⟨_,_,g1,rfl,by unfold yQ;rw[if_neg (by rw[hw];simp)];exact g2⟩
end
end Go.Proofs.YtkeilicinggjmaaGreatDoor
