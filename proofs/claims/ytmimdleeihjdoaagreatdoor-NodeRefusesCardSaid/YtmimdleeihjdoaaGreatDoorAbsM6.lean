/-
  PARTS OF THIS CLAIM'S PROOF, laid together by a program of mine.
-/
import Derived.Test.YtmimdleeihjdoaaGreatDoorAbsM2
import Derived.Test.YtmimdleeihjdoaaGreatDoorAbsM1
import Derived.Calls
import Derived.LoopN
import Derived.Orders
import Derived.Laws.Sem
import Derived.Laws.Tables
import Derived.Laws.Cells
import Derived.Laws.StructEq
import Derived.Laws.Append
import Derived.Laws.MakeOwn
import Derived.Laws.Slices
import Derived.Lib.UnsafeStr
import Derived.Laws.BytesString
import Derived.Laws.BytesArg
import Derived.Laws.Pointers
import Derived.Lib.SliceRun
import Derived.Laws.Cover3
import Derived.MapKept
import Derived.WideKeyRuns
import Derived.Scope
import Derived.Test.YtmimdleeihjdoaaGreatDoorProg
import Derived.KernelRfl
import Derived.Test.YtmimdleeihjdoaaGreatDoorAbsM5
import Derived.ProofKit
import Derived.RowKit
import Derived.RowKit3
import Derived.ChangeSame
import Derived.OpenShut
import Derived.Deep.Slices
import Derived.SizedLaws
import Derived.Test.YtmimdleeihjdoaaGreatDoorAbsM4
import Derived.Test.YtmimdleeihjdoaaGreatDoorAbsM3
import Derived.Sort.Grow
import Derived.Ground.NamesProg
import Derived.Shelf.Sort.Plain
import Derived.Shelf.Slices.In.SortNone
set_option linter.unusedVariables false
set_option linter.unusedSimpArgs false
set_option linter.unusedSectionVars false
set_option maxRecDepth 100000
noncomputable section
namespace Go.Proofs.YtmimdleeihjdoaaGreatDoor
open Go.Proofs.Tryz
open Go.Abs
variable (O:aE)(L:LV)(k:KV)(N P Q R S T U V W X Y Z a b c d e f g i j l m n o p q r s t u v w x y z A B C D E F G H I J zz zy zx zw zv zu zt zs zr zq zp zo zn zm zl zk zj zi zh zg zf ze zd zc zb za yz yy yx yw yv yu yt ys yr yq yp yo yn ym yl yk yj yi yh yg yf ye yd yc yb ya xz xy xx xw xv xu xt xs xr xq xp xo xn xm xl xk xj xi xh xg xf xe xd xc xb xa wz wy wx ww wv wu wt ws wr wq wp wo wn wm wl wk wj wi wh wg wf we wd wc wb wa vz vy vx vw vv vu vt vs vr vq vp vo vn vm vl vk vj vi vh vg vf:Value)(h:aC)
theorem aKs:cA prog O L 92 [N,P,Q] h=ob (O (.func 171) [Q] h) λaa h=>ob (M.aD (bin prog .eql 270 aa (.pointer none)) h) λab h=>ob (gd ab false (M.cB N) h) λac h=>ob (gd ab false (M.aD (bin prog .lss 3 ac (.int .i64 1))) h) λad h=>ob (M.aD (cF ab (.bool true) ad) h) λae h=>ob (gd ae false (M.cB N) h) λaf h=>ob (gd ae false (M.aD (bin prog .gtr 3 af (.int .i64 16))) h) λag h=>ob (M.aD (cF ae (.bool true) ag) h) λah h=>ob (gd ah false (M.cB P) h) λai h=>ob (gd ah false (M.aD (bin prog .lss 3 ai (.int .i64 1))) h) λaj h=>ob (M.aD (cF ah (.bool true) aj) h) λak h=>ob (gd ak false (M.cB P) h) λal h=>ob (gd ak false (M.aD (bin prog .gtr 3 al (.int .i64 3))) h) λam h=>ob (M.aD (cF ak (.bool true) am) h) λan h=>aL an (some (aJ [(.pointer none)],h)) (ob (pT h) λao h=>ob (M.aD (bld prog 274 [(0,aa),(1,ao),(2,N),(3,P)]) h) λap h=>ob (cP 274 (Value.cells ap).toList .fix h) λaq h=>some (aJ [aq],h)):=by kernel_rfl
theorem aKn:cA prog O L 159 [N,P,Q,R] h=ob (M.aD (aO N) h) λaa h=>ob (M.aD (aG 1 aa) h) λab h=>ob (ld1 ab h) λac h=>ob (M.aD (bld prog 307 [(0,P),(1,Q),(2,R)]) h) λad h=>ob (nE (.str [true,true,true]) (.slice none 0 0) false ac ad h) λae h=>ob (M.aD (bX ae) h) λaf h=>some (aJ [af],h):=by kernel_rfl
def N9:Code:=b9 [1,1,1,0,1,0,0] (cC prog 171)
def Oa:KV:=(dN 0 (eF prog O L (b9 [1,1,1,1] (cC prog 171)) (eX prog Tryz.f171)))
theorem aKo:Oa O L (.exit 0) [a,b,c,d,e,f,g,i,j,l,m,n,o,p,q,r,s,t,u,v,w,x,y,z,A,B,C,D,E,F,G,H,I,J,zz,zy,zx,zw,zv,zu,zt,zs,zr] h=ob (M.aD (aO d) h) λaa h=>ob (M.aD (aG 0 aa) h) λab h=>ob (ld1 ab h) λac h=>ob (M.aD (bin prog .sub 3 a (.int .i64 1)) h) λad h=>ob (M.aD (bH 2 ac ad) h) λae h=>ob (M.aD (aG 1 ae) h) λaf h=>ob (stN 1 af (.int .i64 (-1)) h) λag h=>some (aJ [d],h):=by kernel_rfl
theorem Yo:aK prog O L N9 k [a,b,c,d,e,f,g,i,j,l,m,n,o,p,q,r,s,t,u,v,w,x,y,z,A,B,C,D,E,F,G,H,I,J,zz,zy,zx,zw,zv,zu,zt,zs,zr] h=ob (M.aD (bin prog .lss 3 x w) h) λaa h=>aL aa (ob (M.aD (aO d) h) λab h=>ob (M.aD (aG 0 ab) h) λac h=>ob (ld1 ac h) λad h=>ob (M.aD (bin prog .add 3 x (.int .i64 1)) h) λae h=>ob (M.aD (bH 2 ad x) h) λaf h=>ob (M.aD (aG 1 af) h) λag h=>ob (stN 1 ag ae h) λah h=>ob (M.aD (bin prog .add 3 x (.int .i64 1)) h) λai h=>k .normal [a,b,c,d,x,f,g,i,j,l,m,n,o,p,q,r,s,t,u,v,w,ai,aa,x,d,ab,ac,ad,x,x,ae,af,ag,ai,zz,zy,zx,zw,zv,zu,zt,zs,zr] h) (k (.exit 0) [a,b,c,d,e,f,g,i,j,l,m,n,o,p,q,r,s,t,u,v,w,x,aa,z,A,B,C,D,E,F,G,H,I,J,zz,zy,zx,zw,zv,zu,zt,zs,zr] h):=by kernel_rfl
theorem aKp:cA prog O L 171 [N] h=ob (M.aD (bin prog .lss 3 N (.int .i64 1)) h) λaa h=>ob (gd aa false (M.cB N) h) λab h=>ob (gd aa false (M.aD (bin prog .gtr 3 ab (.int .i64 200))) h) λac h=>ob (M.aD (cF aa (.bool true) ac) h) λad h=>aL ad (some (aJ [(.pointer none)],h)) (ob (lC 330 2 16 [(.pointer none),(.int .i64 0)] N N h) λae h=>ob (M.aD (bld prog 327 [(0,ae),(2,N)]) h) λaf h=>ob (cP 327 (Value.cells af).toList .fix h) λag h=>ob (M.aD (aO ag) h) λah h=>ob (M.aD (aG 0 ah) h) λai h=>ob (ld1 ai h) λaj h=>ob (M.aD (bX aj) h) λak h=>L (aK prog O L N9) (Oa O L) [N,undef,(.pointer none),ag,undef,N,aa,aa,ab,ac,ad,N,ae,N,af,ag,ag,ah,ai,aj,ak,(.int .i64 0),undef,undef,undef,undef,undef,undef,undef,undef,undef,undef,undef,undef,undef,undef,undef,undef,undef,undef,undef,undef,undef] h):=by kernel_rfl
theorem Ob:cA prog O L 177 [N,P,Q,R,S] h=ob (cP 31 (Value.cells S).toList .fix h) λaa h=>ob (M.aD (bld prog 307 [(0,P),(1,Q),(2,R)]) h) λab h=>ob (cP 307 [(.int .i64 0),(.int .i64 0),(.int .i64 0)] .fix h) λac h=>ob (stN 3 ac ab h) λad h=>ob (ldN 3 ac h) λae h=>ob (O (.func 234) [N,ae] h) λaf h=>ob (M.aD (un prog .not af) h) λag h=>aL ag (some (aJ [(.bool false)],h)) (ob (M.aD (aO N) h) λah h=>ob (M.aD (aG 0 ah) h) λai h=>ob (ld1 ai h) λaj h=>ifB (true) (ob (ldN 4 aa h) λak h=>ifB (true) (ob (O (.func 235) [aj,ak] h) λal h=>ifB (true) (ob (M.aD (ext 0 al) h) λam h=>ob (M.aD (ext 1 al) h) λan h=>aL an (ob (M.aD (aO N) h) λao h=>ob (M.aD (aG 1 ao) h) λap h=>ob (ld1 ap h) λaq h=>ifB (true) (ob (ldN 3 ac h) λar h=>ifB (true) (ob (dJ 3 1 1 [(.int .i64 0)] [(0,am)] h) λau h=>ob (rI (.str [true,true,true]) (.slice none 0 0) aq ar h) λav h=>ifB (true) (ob (M.aD (ext 0 av) h) λaw h=>ob (app 3 1 8 aw au h) λax h=>ifB (true) (ob (M.aD (ext 1 av) h) λay h=>ob (rG aq ay ax h) λaz h=>ifB (true) (some (aJ [an],h))))))) (some (aJ [an],h)))))):=by kernel_rfl
theorem Oc:cA prog O L 185 [N,P,Q,R] h=ob (cP 31 [(.int .i64 0),(.int .i64 0),(.int .i64 0),(.int .u32 0)] .fix h) λaa h=>ob (O (.func 242) [N,P,Q,R] h) λab h=>ob (M.aD (ext 0 ab) h) λac h=>ob (M.aD (ext 1 ab) h) λad h=>ob (cP 31 [(.int .i64 0),(.int .i64 0),(.int .i64 0),(.int .u32 0)] .fix h) λae h=>ob (stN 4 ae ac h) λaf h=>aL ad (ob (M.aD (bld prog 307 [(0,P),(1,Q),(2,R)]) h) λag h=>ob (cP 307 [(.int .i64 0),(.int .i64 0),(.int .i64 0)] .fix h) λah h=>ob (stN 3 ah ag h) λai h=>ob (M.aD (aO N) h) λaj h=>ob (M.aD (aG 0 aj) h) λak h=>ob (ld1 ak h) λal h=>ifB (true) (ob (M.aD (aO N) h) λam h=>ob (M.aD (aG 1 am) h) λan h=>ob (ld1 an h) λao h=>ifB (true) (ob (ldN 3 ah h) λap h=>ifB (true) (ob (nE (.str [true,true,true]) (.slice none 0 0) false ao ap h) λaq h=>ifB (true) (ob (M.aD (bH 1 aq (.int .i64 0)) h) λar h=>ob (ld1 ar h) λau h=>ifB (true) (ob (O (.func 243) [al,au] h) λav h=>ifB (true) (ob (M.aD (aO N) h) λaw h=>ob (M.aD (aG 1 aw) h) λax h=>ob (ld1 ax h) λay h=>ifB (true) (ob (ldN 3 ah h) λaz h=>ifB (true) (ob (M.aD (aO N) h) λba h=>ob (M.aD (aG 1 ba) h) λbb h=>ob (ld1 bb h) λbc h=>ifB (true) (ob (ldN 3 ah h) λbd h=>ifB (true) (ob (nE (.str [true,true,true]) (.slice none 0 0) false bc bd h) λbe h=>ifB (true) (ob (slc prog 1 be (some (.int .i64 1)) none none h) λbf h=>ifB (true) (ob (sB (.str [true,true,true]) ay az bf h) λbg h=>ifB (true) (ob (M.aD (aO N) h) λbh h=>ob (M.aD (aG 1 bh) h) λbi h=>ob (ld1 bi h) λbj h=>ifB (true) (ob (ldN 3 ah h) λbk h=>ifB (true) (ob (nE (.str [true,true,true]) (.slice none 0 0) false bj bk h) λbl h=>ifB (true) (ob (M.aD (bX bl) h) λbm h=>ob (M.aD (bin prog .eql 3 bm (.int .i64 0)) h) λbn h=>aL bn (ob (M.aD (aO N) h) λbo h=>ob (M.aD (aG 1 bo) h) λbp h=>ob (ld1 bp h) λbq h=>ifB (true) (ob (ldN 3 ah h) λbr h=>ifB (true) (ob (sA (.str [true,true,true]) bq br h) λbs h=>ifB (true) (ob (ldN 4 ae h) λbt h=>ob (stN 4 aa bt h) λbu h=>ob (ldN 4 aa h) λw45 _=>some (aJ [w45,ad],h))))) (ob (ldN 4 ae h) λbv h=>ob (stN 4 aa bv h) λbw h=>ob (ldN 4 aa h) λw48 _=>some (aJ [w48,ad],h))))))))))))))))))) (ob (ldN 4 ae h) λbx h=>ob (stN 4 aa bx h) λbz h=>ob (ldN 4 aa h) λw51 _=>some (aJ [w51,ad],h)):=by kernel_rfl
theorem Yp:cA prog O L 213 [N,P] h=ob (cP 31 [(.int .i64 0),(.int .i64 0),(.int .i64 0),(.int .u32 0)] .fix h) λaa h=>ob (O (.func 254) [N,P] h) λab h=>ob (M.aD (bin prog .neq 348 ab (.pointer none)) h) λac h=>aL ac (ob (M.aD (aO ab) h) λad h=>ob (M.aD (aG 0 ad) h) λae h=>ob (ld1 ae h) λaf h=>ob (M.aD (aO af) h) λag h=>ob (ldN 4 ag h) λah h=>ob (stN 4 aa ah h) λai h=>ob (ldN 4 aa h) λw9 _=>some (aJ [w9,(.bool true)],h)) (ob (M.aD (bld prog 31 []) h) λaj h=>ob (stN 4 aa aj h) λak h=>ob (ldN 4 aa h) λw12 _=>some (aJ [w12,(.bool false)],h)):=by kernel_rfl
theorem aKq:cA prog O L 234 [N,P] h=ob (cP 307 (Value.cells P).toList .fix h) λaa h=>ob (M.aD (aG 0 aa) h) λab h=>ob (ld1 ab h) λac h=>ifB (true) (ob (M.aD (aG 1 aa) h) λad h=>ob (ld1 ad h) λae h=>ifB (true) (ob (M.aD (aG 2 aa) h) λaf h=>ob (ld1 af h) λag h=>ifB (true) (ob (M.aD (lV prog false [ac,ae,ag]) h) λah h=>ob (M.aD (bin prog .geq 3 ah (.int .i64 0)) h) λai h=>ob (gd ai true (M.aD (aG 0 aa)) h) λaj h=>ob (gd ai true (ld1 aj) h) λak h=>ifB (true) (ob (gd ai true (M.aD (aG 1 aa)) h) λal h=>ob (gd ai true (ld1 al) h) λam h=>ifB (true) (ob (gd ai true (M.aD (lV prog true [ak,am])) h) λan h=>ob (gd ai true (M.cB N) h) λao h=>ob (gd ai true (M.aD (aO ao)) h) λap h=>ob (gd ai true (M.aD (aG 2 ap)) h) λaq h=>ob (gd ai true (ld1 aq) h) λar h=>ifB (true) (ob (gd ai true (M.aD (bin prog .lss 3 an ar)) h) λau h=>ob (M.aD (cF ai au (.bool false)) h) λav h=>ob (gd av true (M.aD (aG 2 aa)) h) λaw h=>ob (gd av true (ld1 aw) h) λax h=>ifB (true) (ob (gd av true (M.cB N) h) λay h=>ob (gd av true (M.aD (aO ay)) h) λaz h=>ob (gd av true (M.aD (aG 3 az)) h) λba h=>ob (gd av true (ld1 ba) h) λbb h=>ifB (true) (ob (gd av true (M.aD (bin prog .lss 3 ax bb)) h) λbc h=>ob (M.aD (cF av bc (.bool false)) h) λbd h=>some (aJ [bd],h))))))))):=by kernel_rfl
theorem Yq:cA prog O L 235 [N,P] h=ob (cP 31 (Value.cells P).toList .fix h) λaa h=>ob (M.aD (aO N) h) λab h=>ob (M.aD (aG 1 ab) h) λac h=>ob (ld1 ac h) λad h=>ob (M.aD (bin prog .eql 3 ad (.int .i64 (-1))) h) λae h=>aL ae (some (aJ [(.int .i64 0),(.bool false)],h)) (ob (M.aD (aO N) h) λaf h=>ob (M.aD (aG 0 af) h) λag h=>ob (ld1 ag h) λah h=>ob (M.aD (bH 2 ah ad) h) λai h=>ob (M.aD (aO ai) h) λaj h=>ob (M.aD (aG 1 aj) h) λak h=>ob (ld1 ak h) λal h=>ob (M.aD (aO ai) h) λam h=>ob (M.aD (aG 0 am) h) λan h=>ob (stN 1 an aa h) λao h=>ob (M.aD (aO N) h) λap h=>ob (M.aD (aG 1 ap) h) λaq h=>ob (stN 1 aq al h) λar h=>ob (M.aD (aO N) h) λau h=>ob (M.aD (aG 2 au) h) λav h=>ob (ld1 av h) λaw h=>ob (M.aD (bin prog .sub 3 aw (.int .i64 1)) h) λax h=>ob (M.aD (aO N) h) λay h=>ob (M.aD (aG 2 ay) h) λaz h=>ob (stN 1 az ax h) λba h=>some (aJ [ad,(.bool true)],h)):=by kernel_rfl
theorem Yr:cA prog O L 242 [N,P,Q,R] h=ob (cP 31 [(.int .i64 0),(.int .i64 0),(.int .i64 0),(.int .u32 0)] .fix h) λaa h=>ob (M.aD (aO N) h) λab h=>ob (M.aD (aG 1 ab) h) λac h=>ob (ld1 ac h) λad h=>ob (M.aD (bld prog 307 [(0,P),(1,Q),(2,R)]) h) λae h=>ob (nE (.str [true,true,true]) (.slice none 0 0) false ad ae h) λaf h=>ob (M.aD (bX af) h) λag h=>ob (M.aD (bin prog .eql 3 ag (.int .i64 0)) h) λah h=>aL ah (ob (M.aD (bld prog 31 []) h) λai h=>ob (stN 4 aa ai h) λaj h=>ob (ldN 4 aa h) λw10 _=>some (aJ [w10,(.bool false)],h)) (ob (M.aD (aO N) h) λak h=>ob (M.aD (aG 0 ak) h) λal h=>ob (ld1 al h) λam h=>ifB (true) (ob (M.aD (bH 1 af (.int .i64 0)) h) λan h=>ob (ld1 an h) λao h=>ifB (true) (ob (O (.func 213) [am,ao] h) λap h=>ifB (true) (ob (M.aD (ext 0 ap) h) λaq h=>ob (M.aD (ext 1 ap) h) λar h=>ob (stN 4 aa aq h) λau h=>ifB (true) (ob (ldN 4 aa h) λw20 _=>some (aJ [w20,ar],h)))))):=by kernel_rfl
theorem aKr:cA prog O L 243 [N,P] h=ob (O (.func 254) [N,P] h) λaa h=>ob (M.aD (bin prog .eql 348 aa (.pointer none)) h) λab h=>aL ab (some (aJ [(.bool false)],h)) (ob (M.aD (aO N) h) λac h=>ob (M.aD (aG 1 ac) h) λad h=>ob (ld1 ad h) λae h=>ob (M.aD (aO aa) h) λaf h=>ob (M.aD (aG 0 af) h) λag h=>ob (stN 1 ag (.pointer none) h) λah h=>ob (M.aD (aO aa) h) λai h=>ob (M.aD (aG 1 ai) h) λaj h=>ob (stN 1 aj ae h) λak h=>ob (M.aD (aO N) h) λal h=>ob (M.aD (aG 1 al) h) λam h=>ob (stN 1 am P h) λan h=>ob (M.aD (aO N) h) λao h=>ob (M.aD (aG 2 ao) h) λap h=>ob (ld1 ap h) λaq h=>ob (M.aD (bin prog .add 3 aq (.int .i64 1)) h) λar h=>ob (M.aD (aO N) h) λau h=>ob (M.aD (aG 2 au) h) λav h=>ob (stN 1 av ar h) λaw h=>some (aJ [(.bool true)],h)):=by kernel_rfl
theorem Ys:cA prog O L 254 [N,P] h=ob (M.aD (bin prog .lss 3 P (.int .i64 0)) h) λaa h=>ob (gd aa false (M.cB P) h) λab h=>ob (gd aa false (M.cB N) h) λac h=>ob (gd aa false (M.aD (aO ac)) h) λad h=>ob (gd aa false (M.aD (aG 0 ad)) h) λae h=>ob (gd aa false (ld1 ae) h) λaf h=>ob (gd aa false (M.aD (bX af)) h) λag h=>ob (gd aa false (M.aD (bin prog .geq 3 ab ag)) h) λah h=>ob (M.aD (cF aa (.bool true) ah) h) λai h=>ob (gd ai false (M.cB N) h) λaj h=>ob (gd ai false (M.aD (aO aj)) h) λak h=>ob (gd ai false (M.aD (aG 0 ak)) h) λal h=>ob (gd ai false (ld1 al) h) λam h=>ob (gd ai false (M.cB P) h) λan h=>ob (gd ai false (M.aD (bH 2 am an)) h) λao h=>ob (gd ai false (M.aD (aG 0 ao)) h) λap h=>ob (gd ai false (ld1 ap) h) λaq h=>ob (gd ai false (M.aD (bin prog .eql 328 aq (.pointer none))) h) λar h=>ob (M.aD (cF ai (.bool true) ar) h) λau h=>aL au (some (aJ [(.pointer none)],h)) (ob (M.aD (aO N) h) λav h=>ob (M.aD (aG 0 av) h) λaw h=>ob (ld1 aw h) λax h=>ob (M.aD (bH 2 ax P) h) λay h=>some (aJ [ay],h)):=by kernel_rfl
end Go.Proofs.YtmimdleeihjdoaaGreatDoor
end
namespace Go.Proofs.YtmimdleeihjdoaaGreatDoor.Rg
open Go.Proofs.Tryz
open Go.Abs
theorem n73 (a:Addr):bin prog .neq 348 (.pointer (some a)) (.pointer none)=some (.bool true):=aCZ 348 330 (by kernel_rfl) a
theorem aKC:bin prog .neq 348 (.pointer none) (.pointer none)=some (.bool false):=aC0 348 330 (by kernel_rfl)
theorem e73 (a:Addr):bin prog .eql 348 (.pointer (some a)) (.pointer none)=some (.bool false):=Db 348 330 (by kernel_rfl) a
theorem e70 (a:Addr):bin prog .eql 328 (.pointer (some a)) (.pointer none)=some (.bool false):=Db 328 31 (by kernel_rfl) a
theorem aKv:bin prog .eql 328 (.pointer none) (.pointer none)=some (.bool true):=Ru 328 31 (by kernel_rfl)
theorem e22 (a:Addr):bin prog .eql 270 (.pointer (some a)) (.pointer none)=some (.bool false):=Db 270 327 (by kernel_rfl) a
def pkB (x:Pkt):Blk:= .cells x.oW 31 .fix
abbrev jZ:=Option (Nat×Pkt)×Int
def wZ (x:Option (Nat×Pkt)):Value:= .pointer (x.map λb=>⟨b.1,0,none⟩)
def rU (x:jZ):List Value:=[wZ x.1,.int .i64 x.2]
def nC (l:List jZ):Blk:= .cells (l.map rU).flatten 330 .row
def oZ (s n:Nat)(top free:Int):Blk:= .cells [.slice (some ⟨s,0,none⟩) n n,.int .i64 top,.int .i64 free] 327 .fix
structure IsPool (H:aC)(p s:Nat)(l:List jZ)(top free:Int):Prop where
 hp:H[p]? =some (oZ s l.length top free)
 hs:H[s]? =some (nC l)
 hq: ∀(i q:Nat)(x:Pkt)(d:Int),l[i]? =some (some (q,x),d)->H[q]? =some (pkB x)
theorem Ft (l:List jZ): ∀r∈l.map rU,r.length=2:=by
 intro r hr;simp only[aOK] at hr;obtain⟨x,_,rfl⟩:=hr;rfl
theorem Yz (l:List jZ):(l.map rU).flatten.length=l.length*2:=by
 rw[sJ _ (Ft l)];simp
theorem Y0 (l:List jZ)(i j:Nat)(v:Value)(x y:jZ)(hi:l[i]? =some x)(hj:j<2)(hv:(rU x).set j v=rU y):(l.map rU).flatten.set (i*2+j) v=((l.set i y).map rU).flatten:=by
 have:=I3 (l.map rU) (Ft l) i j [v] (rU x) (by simp[hi]) (by simp;omega)
 simp only[eH] at this;rw[this,hv,List.map_set]
variable {pr : iM} {H : aC} {p s : Nat} {l : List jZ} {top free : Int}
@[simp] theorem aN5 (i:Nat):ldC (some (nC l)) (i*2) H=xZ ((l[i]?).map λx=>wZ x.1) H:=by
 have:=Dc _ (Ft l) i 0 (by decide)
 simp only[Nat.add_zero] at this;unfold nC;rw[tI,this,aOj];cases l[i]? <;>rfl
@[simp] theorem aKA (i:Nat):ldC (some (nC l)) (i*2+1) H=xZ ((l[i]?).map λx=> .int .i64 x.2) H:=by
 have:=Dc _ (Ft l) i 1 (by decide)
 unfold nC;rw[tI,this,aOj];cases l[i]? <;>rfl
theorem Y4 (b i:Nat)(a:Option Addr)(x:jZ)(q:Option (Nat×Pkt))(hi:l[i]? =some x)(hq: .pointer a=wZ q):stC (some (nC l)) b (i*2) [.pointer a] H=some (undef,H.set b (nC (l.set i (q,x.2)))):=by
 have hl:i<l.length:=(aN6.mp hi).1;unfold nC;rw[I4 _ _ _ _ _ rfl (by rw[Yz];simp;omega)]
 have:=Y0 l i 0 (.pointer a) x (q,x.2) hi (by decide) (by rw[hq];rfl)
 simp only[eH];rw[<-this,Nat.add_zero]
theorem Oh (b i:Nat)(d:Int)(x:jZ)(hi:l[i]? =some x):stC (some (nC l)) b (i*2+1) [.int .i64 d] H=some (undef,H.set b (nC (l.set i (x.1,d)))):=by
 have hl:i<l.length:=(aN6.mp hi).1;unfold nC;rw[I4 _ _ _ _ _ rfl (by rw[Yz];simp;omega)]
 have:=Y0 l i 1 (.int .i64 d) x (x.1,d) hi (by decide) (by rfl)
 simp only[eH];rw[<-this]
@[simp] theorem Fp (n:Nat):ldC (some (oZ s n top free)) 0 H=some (.slice (some ⟨s,0,none⟩) n n,H):=rfl
@[simp] theorem Yw (n:Nat):ldC (some (oZ s n top free)) 1 H=some (.int .i64 top,H):=rfl
@[simp] theorem Yx (n:Nat):ldC (some (oZ s n top free)) 2 H=some (.int .i64 free,H):=rfl
@[simp] theorem Y2 (b n:Nat)(d:Int):stC (some (oZ s n top free)) b 1 [.int .i64 d] H=some (undef,H.set b (oZ s n d free)):=rfl
@[simp] theorem Y3 (b n:Nat)(d:Int):stC (some (oZ s n top free)) b 2 [.int .i64 d] H=some (undef,H.set b (oZ s n top d)):=rfl
@[simp] theorem aKz (x:Pkt):C9 (some (pkB x)) 4 0 H=some (x.dG,H):=rfl
theorem Fu (b:Nat)(y:Pkt):stN 4 (.pointer (some ⟨b,0,none⟩)) y.dG H=stC H[b]? b 0 y.oW H:=mX 4 b 0 _ rfl
@[simp] theorem Y1 (b:Nat)(x y:Pkt):stC (some (pkB x)) b 0 y.oW H=some (undef,H.set b (pkB y)):=rfl
theorem wY:Blk.cells [.int .i64 0,.int .i64 0,.int .i64 0,.int .u32 0] 31 .fix=pkB pk0:=rfl
theorem Yy:bld prog 31 []=some pk0.dG:=by kernel_rfl
theorem Og (H:aC)(a b:Blk):(H++[a]).set H.length b=H++[b]:=by simp
theorem aKt (hn:pr (.func 254)=none)(h:IsPool H p s l top free){m:Nat}(hm:0<m)(i:Int)(hi:i<0∨(l.length:Int)<=i∨ ∃d,l[i.toNat]? =some (none,d)):
  lvl prog pr m (.func 254) [.pointer (some ⟨p,0,none⟩),.int .i64 i] H=some (.pointer none,H):=by
 have hp:=h.hp;have hs:=h.hs;refine dA hn hm ?_;rw[Ys];by_cases h0:i<0
 ·simp -implicitDefEqProofs [h0]
 ·by_cases h1:(l.length:Int)<=i
  ·simp -implicitDefEqProofs [h0,h1,hp,hs]
  ·obtain⟨d,hd⟩: ∃d,l[i.toNat]? =some (none,d):=by
    rcases hi with hi|hi|hi
    ·exact absurd hi h0
    ·exact absurd hi h1
    ·exact hi
   simp -implicitDefEqProofs (disch:=first|omega|simp) [-getElem?_pos,h0,h1,hp,hs,hd,wZ,aKv]
theorem Yu (hn:pr (.func 254)=none)(h:IsPool H p s l top free){m:Nat}(hm:0<m)(i:Nat)(q:Nat×Pkt)(d:Int)(hi:l[i]? =some (some q,d)):
  lvl prog pr m (.func 254) [.pointer (some ⟨p,0,none⟩),.int .i64 i] H=some (.pointer (some ⟨s,i*2,none⟩),H):=by
 have hp:=h.hp;have hs:=h.hs;have hl:i<l.length:=(aN6.mp hi).1;refine dA hn hm ?_;rw[Ys];have h0: ¬(i:Int)<0:=by omega
 have h1: ¬(l.length:Int)<=i:=by omega
 simp -implicitDefEqProofs (disch:=first|omega|simp) [-getElem?_pos,h0,h1,hp,hs,hi,wZ,e70]
theorem IsPool.app (h:IsPool H p s l top free)(G:aC):IsPool (H++G) p s l top free:=by
 have up: ∀(b:Nat)(x:Blk),H[b]? =some x->(H++G)[b]? =some x:=λb x hb=>by
  rw[aN9 (aN6.mp hb).1,hb]
 exact⟨up _ _ h.hp,up _ _ h.hs,λi q x d hi=>up _ _ (h.hq i q x d hi)⟩
theorem aN4 (hn:pr (.func 254)=none)(hn':pr (.func 213)=none)(h:IsPool H p s l top free){m:Nat}(hm:1<m)(i:Int)(hi:i<0∨(l.length:Int)<=i∨ ∃d,l[i.toNat]? =some (none,d)):
  lvl prog pr m (.func 213) [.pointer (some ⟨p,0,none⟩),.int .i64 i] H=some (.tuple #[pk0.dG,.bool false],H++[pkB pk0]):=by
 refine dA hn' (by omega) ?_
 rw[Yp];have hc:=aKt hn (h.app [pkB pk0]) (m:=m-1) (by omega) i hi
 simp -implicitDefEqProofs [wY,hc,aKC,Yy,Fu,Og]
theorem aKy (hn:pr (.func 254)=none)(hn':pr (.func 213)=none)(h:IsPool H p s l top free){m:Nat}(hm:1<m)(i q:Nat)(x:Pkt)(d:Int)(hi:l[i]? =some (some (q,x),d)):
  lvl prog pr m (.func 213) [.pointer (some ⟨p,0,none⟩),.int .i64 i] H=some (.tuple #[x.dG,.bool true],H++[pkB x]):=by
 refine dA hn' (by omega) ?_
 rw[Yp];have h':=h.app [pkB pk0];have hc:=Yu hn h' (m:=m-1) (by omega) i _ d hi
 have hs:=h'.hs;have hq:=h'.hq i q x d hi;simp -implicitDefEqProofs [wY,hc,n73,hs,hq,hi,wZ,Fu,Og]
theorem IsPool.ps (h:IsPool H p s l top free):p≠s:=by
 intro e;have h1:=h.hp;have h2:=h.hs;rw[e,h2] at h1;simp[nC,oZ] at h1
theorem IsPool.Od (h:IsPool H p s l top free):p<H.length:=(aN6.mp h.hp).1
theorem IsPool.sl (h:IsPool H p s l top free):s<H.length:=(aN6.mp h.hs).1
theorem IsPool.qs (h:IsPool H p s l top free){q:Nat}{x:Pkt}(hq:H[q]? =some (pkB x)):q≠p/\q≠s:=by
 constructor
 ·intro e
  have h1:=h.hp;rw[<-e,hq] at h1;simp[pkB,oZ] at h1
 ·intro e
  have h1:=h.hs;rw[<-e,hq] at h1;simp[pkB,nC] at h1
theorem IsPool.Yt (h:IsPool H p s l top free)(l':List jZ)(hl:l'.length=l.length)(top' free':Int)
  (hq: ∀(i q:Nat)(x:Pkt)(d:Int),l'[i]? =some (some (q,x),d)->H[q]? =some (pkB x)):IsPool ((H.set s (nC l')).set p (oZ s l.length top' free')) p s l' top' free':=by
 have h1:=h.ps;have h2:=h.Od;have h3:=h.sl;refine⟨?_,?_,?_⟩
 ·rw[hl,aOc (by simpa using h2)]
 ·rw[aN7 (by omega),aOc (by omega)]
 ·intro i q x d hi
  have hb:=hq i q x d hi;obtain⟨h4,h5⟩:=h.qs hb;rw[aN7 (by omega),aN7 (by omega),hb]
theorem aKu (hn:pr (.func 254)=none)(hn':pr (.func 243)=none)(h:IsPool H p s l top free){m:Nat}(hm:1<m)(i:Nat)(q:Nat×Pkt)(d:Int)(hi:l[i]? =some (some q,d))(hf0:0<=free)(hf1:free<1000):
  lvl prog pr m (.func 243) [.pointer (some ⟨p,0,none⟩),.int .i64 i] H=some (.bool true,(H.set s (nC (l.set i (none,top)))).set p (oZ s l.length i (free+1))):=by
 refine dA hn' (by omega) ?_
 rw[aKr];have hc:=Yu hn h (m:=m-1) (by omega) i q d hi
 have hp:=h.hp;have hs:=h.hs;have h1:=h.ps;have h2:=h.Od;have h3:=h.sl;have hl:i<l.length:=(aN6.mp hi).1;have w:IntKind.i64.wrap (free+1)=free+1:=dM (by omega) (by omega)
 have s0:=λH=>Y4 (H:=H) (l:=l) s i none (some q,d) none hi rfl
 have s1:=λH=>Oh (H:=H) (l:=l.set i (none,d)) s i top (none,d) (by simp[hl])
 simp -implicitDefEqProofs (disch:=first|omega|(simp;omega)) only[hc,e73,hp,hs,s0,s1,w,cI,List.set_set,ob_some,iteV_false,iteV_true,r_opt,r_nil,r_fAddr,kO,Yw,Yx,De,R3,aOs,Nat.add_zero,aOc,aN7,ne_eq,Y2,Y3,oneOf_one]
theorem aKF (hn:pr (.func 235)=none)(h:IsPool H p s l (-1) free){m:Nat}(hm:0<m)(x:Pkt):
  lvl prog pr m (.func 235) [.pointer (some ⟨p,0,none⟩),x.dG] H=some (.tuple #[.int .i64 0,.bool false],H++[pkB x]):=by
 refine dA hn (by omega) ?_
 rw[Yq];have hp:=(h.app [pkB x]).hp;have e:Blk.cells (Value.cells x.dG).toList 31 .fix=pkB x:=rfl;simp -implicitDefEqProofs [e,hp]
theorem aKG (hn:pr (.func 235)=none)(k:Nat)(h:IsPool H p s l k free){m:Nat}(hm:0<m)(x:Pkt)(q:Option (Nat×Pkt))(d:Int)(hk:l[k]? =some (q,d))(hf0: -10<=free)(hf1:free<1000):
  lvl prog pr m (.func 235) [.pointer (some ⟨p,0,none⟩),x.dG] H=
   some (.tuple #[.int .i64 k,.bool true],((H++[pkB x]).set s (nC (l.set k (some (H.length,x),d)))).set p (oZ s l.length d (free-1))):=by
 refine dA hn (by omega) ?_
 rw[Yq];have h':=h.app [pkB x];have hp:=h'.hp;have hs:=h'.hs;have h1:=h'.ps;have h2:=h'.Od;have h3:=h'.sl;have h4:p<H.length+1:=by simpa using h2
 have h5:s<H.length+1:=by simpa using h3
 have hl:k<l.length:=(aN6.mp hk).1;have w:IntKind.i64.wrap (free-1)=free-1:=dM (by omega) (by omega)
 have e:Blk.cells (Value.cells x.dG).toList 31 .fix=pkB x:=rfl;have e2:((k:Int)== -1)=false:=by simp
 have e3:((l[k]?).map λx=>Value.int .i64 x.2)=some (.int .i64 d):=by rw[hk];rfl
 have s0:=λH'=>Y4 (H:=H') (l:=l) s k (some ⟨H.length,0,none⟩) (q,d) (some (H.length,x)) hk rfl
 simp -implicitDefEqProofs (disch:=first|omega|(simp;omega)) only[e,e2,e3,hp,hs,s0,w,b_eql,iF,x_newB,List.set_set,ob_some,iteV_false,iteV_true,r_opt,r_nil,r_fAddr,p7,kO,Fp,Yw,Yx,aKA,wB,De,R3,aOs,Nat.add_zero,aOc,aN7,ne_eq,Y2,Y3,oneOf_two,aOz]
def j7 (n i:Nat):List jZ:=(List.range n).map λj=>(none,if j<i then(j:Int)+1 else 0)
def lB (n:Nat):List jZ:=(List.range n).map λj=>(none,if j+1<n then(j:Int)+1 else -1)
theorem zA (n i j:Nat)(h:j<n):(j7 n i)[j]? =some (none,if j<i then(j:Int)+1 else 0):=by simp[j7,h]
theorem aKx (n i:Nat):(j7 n i).set i (none,(i:Int)+1)=j7 n (i+1):=by
 apply aOI;intro j;by_cases hj:j<n
 ·by_cases e:i=j
  ·subst e
   rw[aOc (by simpa[j7] using hj),zA _ _ _ hj,if_pos (by omega)]
  ·rw[aN7 e,zA _ _ _ hj,zA _ _ _ hj]
   by_cases h:j<i
   ·rw[if_pos h,if_pos (by omega)]
   ·rw[if_neg h,if_neg (by omega)]
 ·rw[aOh (by simp[j7];omega),aOh (by simp[j7];omega)]
theorem aKw (n:Nat)(h:0<n):(j7 n n).set (n-1) (none, -1)=lB n:=by
 apply aOI;intro j;by_cases hj:j<n
 ·have e2:(lB n)[j]? =some (none,if j+1<n then(j:Int)+1 else -1):=by simp[lB,hj]
  by_cases e:n-1=j
  ·subst e
   rw[aOc (by simpa[j7] using hj),e2,if_neg (by omega)]
  ·rw[aN7 e,zA _ _ _ hj,e2,if_pos hj,if_pos (by omega)]
 ·rw[aOh (by simp[j7];omega),aOh (by simp[lB];omega)]
def lT (H:aC)(l:List jZ):aC:=H++[nC l,oZ H.length l.length 0 l.length]
theorem Fo (l:List jZ):(lT H l)[H.length+1]? =some (oZ H.length l.length 0 l.length):=by simp[lT]
theorem Oe (l:List jZ):(lT H l)[H.length]? =some (nC l):=by simp[lT]
theorem Yv (l l':List jZ)(h:l'.length=l.length):(lT H l).set H.length (nC l')=lT H l':=by simp[lT,h]
theorem aKD (n:Nat)(h200:n<=200)(h1:0<n)(O:aE)(L:aF (Value×aC)): ∀(r i m:Nat),n-i=r->i<=n->r<m-> ∀(x1 x2 x4 x5 x6 x7 x8 x9 bK bM aR aN aM aP aZ bG aQ bC bI bE aS aT aU aV aW aX aY bA bB bN bO bP bQ bR bS bT bU bV bY:Value),
  aI m (aK prog O L N9) (Oa O L) [.int .i64 n,x1,x2,.pointer (some ⟨H.length+1,0,none⟩),x4,x5,x6,x7,x8,x9,bK,bM,aR,aN,aM,aP,aZ,bG,aQ,bC,.int .i64 n,.int .i64 i,bI,bE,aS,aT,aU,aV,aW,aX,aY,bA,bB,bN,bO,bP,bQ,bR,bS,bT,bU,bV,bY] (lT H (j7 n i))=some (.pointer (some ⟨H.length+1,0,none⟩),lT H (lB n)):=by
 intro r;induction r with
 |zero=>
  intro i m hr hi hm x1 x2 x4 x5 x6 x7 x8 x9 bK bM aR aN aM aP aZ bG aQ bC bI bE aS aT aU aV aW aX aY bA bB bN bO bP bQ bR bS bT bU bV bY;obtain⟨m,rfl⟩: ∃k,m=k+1:=⟨m-1,by omega⟩
  obtain rfl:i=n:=by omega
  rw[eD,Yo];have e:decide ((i:Int)<i)=false:=by simp
  have s1:=λH'=>Oh (H:=H') (l:=j7 i i) H.length (i-1) (-1) (none,((i-1:Nat):Int)+1) (by rw[zA _ _ _ (by omega),if_pos (by omega)])
  have w:IntKind.i64.wrap ((i:Int)-1)=((i-1:Nat):Int):=by rw[dM (by omega) (by omega)];omega
  have hl:(j7 i i).length=i:=by simp[j7]
  simp -implicitDefEqProofs only[b_lss,e,r_opt,ob_some,iteV_false,again_exit];rw[aKo];simp -implicitDefEqProofs (disch:=first|omega|(simp[j7];omega)|simp[j7,lB]) only[r_opt,ob_some,r_nil,r_fAddr,kO,Fo,Fp,iF,w,p7,aOs,Nat.add_zero,De,Oe,s1,aOz,aKw,hl,Yv,oneOf_one]
 |succ r ih=>
  intro i m hr hi hm x1 x2 x4 x5 x6 x7 x8 x9 bK bM aR aN aM aP aZ bG aQ bC bI bE aS aT aU aV aW aX aY bA bB bN bO bP bQ bR bS bT bU bV bY;obtain⟨m,rfl⟩: ∃k,m=k+1:=⟨m-1,by omega⟩
  rw[eD,Yo];have e:decide ((i:Int)<n)=true:=by simp;omega
  have s1:=λH'=>Oh (H:=H') (l:=j7 n i) H.length i ((i:Int)+1) (none,0) (by rw[zA _ _ _ (by omega),if_neg (by omega)])
  have w:=aA (i:=i) (by omega)
  have w':((i+1:Nat):Int)=(i:Int)+1:=by omega
  have hl:(j7 n i).length=n:=by simp[j7]
  simp -implicitDefEqProofs (disch:=first|omega|(simp[j7];omega)|simp[j7]) only[b_lss,e,r_opt,ob_some,iteV_true,again_normal,r_nil,r_fAddr,kO,Fo,Fp,cI,w,p7,aOs,Nat.add_zero,De,Oe,w',s1,aOz,aKx,hl,Yv,oneOf_one]
  rw[<-w'];exact ih (i+1) m (by omega) (by omega) (by omega) _ _ _ _ _ _ _ _ _ _ _ _ _ _ _ _ _ _ _ _ _ _ _ _ _ _ _ _ _ _ _ _ _ _ _ _ _ _ _
theorem Fq (n:Nat):(lB n).length=n:=by simp[lB]
theorem Of (n j:Nat)(h:j<n):(lB n)[j]? =some (none,if j+1<n then(j:Int)+1 else -1):=by simp[lB,h]
theorem aKE (hn:pr (.func 171)=none)(n:Nat)(h1:0<n)(h200:n<=200){m:Nat}(hm:210<m):
  lvl prog pr m (.func 171) [.int .i64 n] H=some (.pointer (some ⟨H.length+1,0,none⟩),lT H (lB n)):=by
 refine dA hn (by omega) ?_
 rw[aKp];have e1:decide ((n:Int)<1)=false:=by simp;omega
 have e2:decide ((200:Int)<n)=false:=by simp;omega
 have e3:bld prog 327 [(0,.slice (some ⟨H.length,0,none⟩) n n),(2,.int .i64 n)]=some (.agg #[.slice (some ⟨H.length,0,none⟩) n n,.int .i64 0,.int .i64 n]):=by kernel_rfl
 have e4:H++[Blk.cells (List.replicate n [.pointer none,.int .i64 0]).flatten 330 .row]++[Blk.cells [.slice (some ⟨H.length,0,none⟩) n n,.int .i64 0,.int .i64 n] 327 .fix]=lT H (j7 n 0):=by
  have:(j7 n 0).map rU=List.replicate n [.pointer none,.int .i64 0]:=by
   apply aOI;intro j;by_cases hj:j<n
   ·simp[j7,hj,rU,wZ]
   ·rw[aOh (by simp[j7];omega),aOh (by simp;omega)]
  have hl:(j7 n 0).length=n:=by simp[j7]
  simp[lT,nC,this,oZ,hl]
 have e5:(Value.agg #[Value.slice (some ⟨H.length,0,none⟩) n n,.int .i64 0,.int .i64 n]).cells.toList=[Value.slice (some ⟨H.length,0,none⟩) n n,.int .i64 0,.int .i64 n]:=rfl;have e6: ∀b c:Blk,(H++[b]++[c])[H.length+1]? =some c:=λb c=>by simp
 have hl:(j7 n 0).length=n:=by simp[j7]
 have ms:=wC (H:=H) 330 2 16 [.pointer none,.int .i64 0] .i64 .i64 n (by omega) (by omega) (by omega) rfl
 rw[aOz] at ms;simp -implicitDefEqProofs (disch:=first|omega|rfl) only[b_lss,b_gtr,e1,e2,r_opt,ob_some,r_gdff,r_ret,pick_f,iteV_false,ms,aOz,e3,e5,x_newB,aOi,aOt,List.length_nil,aOs,r_nil,r_fAddr,kO,e4,Fo,Fp,hl,uM]
 exact aKD n h200 h1 _ _ n 0 (m-1) (by omega) (by omega) (by omega) ..
theorem aKB (n:Nat):IsPool (lT H (lB n)) (H.length+1) H.length (lB n) 0 n:=by
 refine⟨?_,Oe _,λi q x d hi=> ?_⟩
 ·rw[Fo,Fq]
 ·by_cases hl:i<n
  ·rw[Of n i hl] at hi
   simp at hi
  ·rw[aOh (by simp[lB];omega)] at hi
   cases hi
structure More (p s:Nat)(H H':aC):Prop where
 len:H.length<=H'.length
 same: ∀b,b<H.length->b≠p->b≠s->H'[b]? =H[b]?
theorem aKK {pr:iM}{H:aC}{p s:Nat}{l:List jZ}{top free:Int}(hn:pr (.func 254)=none)(hn':pr (.func 243)=none)(h:IsPool H p s l top free){m:Nat}(hm:1<m)(i:Nat)(q:Nat×Pkt)(d:Int)(hi:l[i]? =some (some q,d))(hf0:0<=free)(hf1:free<1000):
  ∃H',lvl prog pr m (.func 243) [.pointer (some ⟨p,0,none⟩),.int .i64 i] H=some (.bool true,H')/\IsPool H' p s (l.set i (none,top)) i (free+1)/\More p s H H':=by
 refine⟨_,aKu hn hn' h hm i q d hi hf0 hf1,?_,by simp,?_⟩
 ·refine h.Yt _ (by simp) _ _ λj q y d hj=> ?_
  by_cases ej:i=j
  ·subst ej
   have hl:i<l.length:=(aN6.mp hi).1;rw[aOc hl] at hj;simp at hj
  ·rw[aN7 ej] at hj
   exact h.hq j q y d hj
 ·intro b hb h1 h2
  rw[aN7 (by omega),aN7 (by omega)]
theorem Y7: ∀(n:Nat)(l:List Nat),l.Nodup->(∀x∈l,x<n)->l.length<=n
 |0,l,_,h=>by
  cases l with
  |nil=>exact aOb _
  |cons a _=>exact absurd (h a (by simp)) (by omega)
 |n+1,l,hd,h=>by
  have:=Y7 n (l.erase n) (hd.erase n) λx hx=>by
   rw[hd.mem_erase_iff] at hx;have:=h x hx.2;have:=hx.1;omega
  rw[List.length_erase] at this
  split at this<;>omega
def FreeL (l:List jZ):Int->List Nat->Prop
 |top,[]=>top= -1
 |top,k::ks=>top=(k:Int)/\ ∃d,l[k]? =some (none,d)/\FreeL l d ks
theorem FreeL.Oi {l:List jZ}{i:Nat}{x:jZ}: ∀(fl:List Nat)(top:Int),FreeL l top fl->i∉fl->FreeL (l.set i x) top fl
 |[],_,h,_=>h
 |k::ks,top,⟨h1,d,h2,h3⟩,hi=>by
  simp only[aOq,not_or] at hi
  exact⟨h1,d,by rw[aN7 hi.1];exact h2,FreeL.Oi ks d h3 hi.2⟩
structure Model (H:aC)(p s:Nat)(l:List jZ)(top free:Int)(fl:List Nat):Prop where
 pool:IsPool H p s l top free
 chain:FreeL l top fl
 nodup:fl.Nodup
 full: ∀i,i∈fl↔ ∃d,l[i]? =some (none,d)
 cnt:free=fl.length
 len:l.length<=200
section
variable {pr : iM} {H : aC} {p s : Nat} {l : List jZ} {top free : Int} {fl : List Nat}
theorem Model.Y5 (h:Model H p s l top free fl):fl.length<=200:=by
 refine aOm (Y7 l.length fl h.nodup λx hx=> ?_) h.len
 obtain⟨d,hd⟩:=(h.full x).mp hx
 exact(aN6.mp hd).1
theorem Model.app (h:Model H p s l top free fl)(G:aC):Model (H++G) p s l top free fl:=⟨h.pool.app G,h.chain,h.nodup,h.full,h.cnt,h.len⟩
theorem Model.aKH (hn:pr (.func 254)=none)(hn':pr (.func 243)=none)(h:Model H p s l top free fl){m:Nat}(hm:1<m)(i:Nat)(q:Nat×Pkt)(d:Int)(hi:l[i]? =some (some q,d)):
  ∃H',lvl prog pr m (.func 243) [.pointer (some ⟨p,0,none⟩),.int .i64 i] H=some (.bool true,H')/\Model H' p s (l.set i (none,top)) i (free+1) (i::fl)/\More p s H H':=by
 have hl:=h.Y5;have hc:=h.cnt;obtain⟨H',e,hp,hm'⟩:=aKK hn hn' h.pool hm i q d hi (by omega) (by omega)
 have hlt:i<l.length:=(aN6.mp hi).1;have hni:i∉fl:=λhh=>by
  obtain⟨d',hd⟩:=(h.full i).mp hh;rw[hi] at hd;simp at hd
 refine⟨H',e,⟨hp,⟨rfl,top,aOc hlt,h.chain.Oi _ _ hni⟩,List.nodup_cons.mpr ⟨hni,h.nodup⟩,λj=> ?_,by rw[hc];simp,by simpa using h.len⟩,hm'⟩
 by_cases ej:i=j
 ·subst ej
  rw[aOc hlt];simp
 ·rw[aN7 ej,aOq,<-h.full j]
  constructor
  ·rintro (h1|h1)
   ·exact absurd h1.symm ej
   ·exact h1
  ·exact .inr
theorem Model.aKI (hn:pr (.func 235)=none){k:Nat}{ks:List Nat}(h:Model H p s l top free (k::ks)){m:Nat}(hm:0<m)(x:Pkt):
  ∃H' q d,lvl prog pr m (.func 235) [.pointer (some ⟨p,0,none⟩),x.dG] H=some (.tuple #[.int .i64 k,.bool true],H')/\Model H' p s (l.set k (some (q,x),d)) d (free-1) ks/\k<l.length/\
   H.length<=H'.length/\ ∀b,b<H.length->b≠p->b≠s->H'[b]? =H[b]? :=by
 obtain⟨ht,d,hk,hc⟩:=h.chain;have hp:=h.pool;have hcnt:=h.cnt;have hfl:=h.Y5;simp only[aOt] at hcnt hfl;rw[ht] at hp;have hlt:k<l.length:=(aN6.mp hk).1;have hnd:=List.nodup_cons.mp h.nodup;have e:=aKG hn k hp hm x none d hk (by omega) (by omega)
 refine⟨_,H.length,d,e,⟨?_,hc.Oi _ _ hnd.1,hnd.2,λj=> ?_,by omega,by simpa using h.len⟩,hlt,by simp,?_⟩
 ·have h':=hp.app [pkB x]
  refine h'.Yt _ (by simp) _ _ λj q y d' hj=> ?_
  by_cases ej:k=j
  ·subst ej
   rw[aOc hlt] at hj;simp only[aOy,Prod.mk.injEq] at hj;obtain⟨⟨rfl,rfl⟩,_⟩:=hj;simp
  ·rw[aN7 ej] at hj
   exact h'.hq j q y d' hj
 ·by_cases ej:k=j
  ·subst ej
   rw[aOc hlt];simp[hnd.1]
  ·rw[aN7 ej,<-h.full j,aOq]
   constructor
   ·exact .inr
   ·rintro (h1|h1)
    ·exact absurd h1.symm ej
    ·exact h1
 ·intro b hb h1 h2
  rw[aN7 (by omega),aN7 (by omega),aN9 hb]
theorem Model.aKJ (hn:pr (.func 235)=none)(h:Model H p s l top free []){m:Nat}(hm:0<m)(x:Pkt):
  lvl prog pr m (.func 235) [.pointer (some ⟨p,0,none⟩),x.dG] H=some (.tuple #[.int .i64 0,.bool false],H++[pkB x]):=by
 have ht:top= -1:=h.chain;have hp:=h.pool;rw[ht] at hp;exact aKF hn hp hm x
end
theorem Y6 (n:Nat): ∀(r k:Nat),k+r=n->FreeL (lB n) (if k<n then(k:Int) else -1) (List.range' k r)
 |0,k,h=>by
  rw[if_neg (by omega)]
  rfl
 |r+1,k,h=>by
  rw[if_pos (by omega),List.range'_succ]
  refine⟨rfl,_,Of n k (by omega),?_⟩
  exact Y6 n r (k+1) (by omega)
theorem aKL {H:aC}(n:Nat)(h0:0<n)(hn:n<=200):Model (lT H (lB n)) (H.length+1) H.length (lB n) 0 n (List.range n):=by
 refine⟨aKB n,?_,List.nodup_range,λi=> ?_,by simp,by rw[Fq];exact hn⟩
 ·have:=Y6 n n 0 (by omega)
  rw[<-List.range_eq_range'] at this;rw[if_pos h0] at this;exact this
 ·rw[aOL]
  constructor
  ·intro h
   exact⟨_,Of n i h⟩
  ·rintro ⟨d,hd⟩
   have:=(aN6.mp hd).1;rw[Fq] at this;exact this
end Go.Proofs.YtmimdleeihjdoaaGreatDoor.Rg
namespace Go.Abs
section
variable {κ : Type} [DecidableEq κ]
theorem Za {α β:Type}(g:α->β): ∀(l:List α)(i:Nat),(l.map g).eraseIdx i=(l.eraseIdx i).map g
 |[],_=>rfl
 |a::l,0=>rfl
 |a::l,i+1=>by simp[Za g l i]
structure KeyC (kt:KeyT)(enc:κ->Value):Prop where
 eq: ∀a b:κ,kX kt (enc a) (enc b)=some (decide (a=b))
def lU (enc:κ->Value)(e:κ×Value×Nat):Ent:=⟨enc e.1,e.2.1,e.2.2⟩
def upd (f:κ->Option Value)(k:κ)(v:Option Value):κ->Option Value:=λk'=>if k'=k then v else f k'
structure MapI (enc:κ->Value)(es:List (κ×Value×Nat))(clock:Nat)(f:κ->Option Value):Prop where
 keys:(es.map (·.1)).Nodup
 born:(es.map (·.2.2)).Nodup
 lt: ∀e∈es,e.2.2<clock
 no: ∀k,f k=none↔ ∀e∈es,e.1≠k
 yes: ∀(e:κ×Value×Nat),e∈es->f e.1=some e.2.1
def IsMap (enc:κ->Value)(H:aC)(mb:Nat)(f:κ->Option Value):Prop:= ∃es clock,H[mb]? =some (.map (es.map (lU enc)) clock)/\MapI enc es clock f
variable {kt : KeyT} {enc : κ → Value} {H : aC} {mb : Nat} {f : κ → Option Value}
theorem MapI.Fv {es:List (κ×Value×Nat)}{clock:Nat}(h:MapI enc es clock f){k:κ}{v:Value}(hf:f k=some v): ∃(i:Nat)(b:Nat),es[i]? =some (k,v,b):=by
 by_cases hx: ∀e∈es,e.1≠k
 ·rw[(h.no k).mpr hx] at hf
  cases hf
 ·simp only[Classical.not_forall] at hx
  obtain⟨e,he,hk⟩:=hx;have hk:e.1=k:=Classical.not_not.mp hk;have:=h.yes e he;rw[hk,hf] at this;cases this;obtain⟨i,hi⟩:=List.getElem?_of_mem he
  exact⟨i,e.2.2,by rw[hi,<-hk]⟩
theorem Ol (hk:KeyC kt enc)(k:κ): ∀(es:List (κ×Value×Nat))(j:Nat),(∀e∈es,e.1≠k)->mI kt (enc k) (es.map (lU enc)) j=some none
 |[],j,_=>rfl
 |e::es,j,h=>by
  have h1:kX kt (enc k) (lU enc e).key=some false:=by
   show kX kt (enc k) (enc e.1)=some false
   rw[hk.eq,aOR (λhh=>h e (by simp) hh.symm)]
  simp only[aOC,mI,h1];exact Ol hk k es (j+1) λe' he'=>h e' (by simp[he'])
theorem B2 (hk:KeyC kt enc): ∀(es:List (κ×Value×Nat))(i j:Nat)(e:κ×Value×Nat),(es.map (·.1)).Nodup->es[i]? =some e->mI kt (enc e.1) (es.map (lU enc)) j=some (some (j+i,lU enc e))
 |[],i,j,e,_,h=>by simp at h
 |x::es,i,j,e,hn,h=>by
  simp only[aOC,List.nodup_cons] at hn;cases i with
  |zero=>
   simp only[List.getElem?_cons_zero,aOy] at h;subst h;have h1:kX kt (enc x.1) (lU enc x).key=some true:=by
    show kX kt (enc x.1) (enc x.1)=some true
    rw[hk.eq,aOQ rfl]
   simp only[aOC,mI,h1,Nat.add_zero]
  |succ i=>
   simp only[List.getElem?_cons_succ] at h;have hne:e.1≠x.1:=λhh=>hn.1 (by rw[<-hh];exact List.mem_map_of_mem (aOg h))
   have h1:kX kt (enc e.1) (lU enc x).key=some false:=by
    show kX kt (enc e.1) (enc x.1)=some false
    rw[hk.eq,aOR hne]
   simp only[aOC,mI,h1];rw[B2 hk es i (j+1) e hn.2 h]
   congr 3
   omega
theorem B3 (hk:KeyC kt enc)(k:κ):kX kt (enc k) (enc k)=some true:=by rw[hk.eq,aOQ rfl]
theorem IsMap.Y8 {H':aC}(h:IsMap enc H mb f)(hk:H'[mb]? =H[mb]?):IsMap enc H' mb f:=by
 obtain⟨es,c,h1,h2⟩:=h
 exact⟨es,c,by rw[hk,h1],h2⟩
theorem IsMap.B1 (hk:KeyC kt enc)(h:IsMap enc H mb f)(k:κ)(z:Value):nE kt z false (.map (some mb)) (enc k) H=some ((f k).getD z,H):=by
 obtain⟨es,c,h1,h2⟩:=h;unfold nE;rw[if_pos (B3 hk k)];simp only;rw[h1];simp only;cases hf:f k with
 |none=>
  rw[Ol hk k es 0 ((h2.no k).mp hf)];rfl
 |some v=>
  obtain⟨i,b,hi⟩:=h2.Fv hf;rw[B2 hk es i 0 _ h2.keys hi];rfl
theorem MapI.Oj {es:List (κ×Value×Nat)}{clock:Nat}(h:MapI enc es clock f){k:κ}{v0 v:Value}{i b:Nat}(hi:es[i]? =some (k,v0,b)):MapI enc (es.set i (k,v,b)) clock (upd f k (some v)):=by
 have hlt:=(aN6.mp hi).1;have hmap1:(es.set i (k,v,b)).map (·.1)=es.map (·.1):=by
  rw[List.map_set];apply aOI;intro j;by_cases hj:i=j
  ·subst hj
   rw[aOc (by simpa using hlt),aOj,hi]
   rfl
  ·rw[aN7 hj]
 have hmap2:(es.set i (k,v,b)).map (·.2.2)=es.map (·.2.2):=by
  rw[List.map_set];apply aOI;intro j;by_cases hj:i=j
  ·subst hj
   rw[aOc (by simpa using hlt),aOj,hi]
   rfl
  ·rw[aN7 hj]
 refine⟨by rw[hmap1];exact h.keys,by rw[hmap2];exact h.born,λe he=> ?_,λk'=> ?_,λe he=> ?_⟩
 ·rcases List.mem_or_eq_of_mem_set he with he|rfl
  ·exact h.lt e he
  ·have:=h.lt _ (aOg hi)
   exact this
 ·unfold upd
  by_cases hk:k'=k
  ·rw[if_pos hk]
   constructor
   ·intro hh;cases hh
   ·intro hh
    exact absurd hk.symm (hh (k,v,b) (aOg (aOc hlt)))
  ·rw[if_neg hk,h.no k']
   have key: ∀e,e∈es.map (·.1)↔e∈(es.set i (k,v,b)).map (·.1):=λe=>by rw[hmap1]
   constructor
   ·intro hh e he hek
    have:=(key e.1).mpr (List.mem_map_of_mem he);obtain⟨e',he',hee⟩:=aOK.mp this;exact hh e' he' (by rw[hee,hek])
   ·intro hh e he hek
    have:=(key e.1).mp (List.mem_map_of_mem he);obtain⟨e',he',hee⟩:=aOK.mp this;exact hh e' he' (by rw[hee,hek])
 ·unfold upd
  obtain⟨j,hj⟩:=List.getElem?_of_mem he;by_cases hij:i=j
  ·subst hij
   rw[aOc hlt] at hj;cases hj;rw[if_pos rfl]
  ·rw[aN7 hij] at hj
   have hne:e.1≠k:=λhh=>by
    have h1:(es.map (·.1))[i]? =some k:=by rw[aOj,hi];rfl
    have h2:(es.map (·.1))[j]? =some k:=by rw[aOj,hj,<-hh];rfl
    have l1:=(aN6.mp h1);have l2:=(aN6.mp h2);exact hij ((List.getElem_inj h.keys).mp (l1.2.trans l2.2.symm))
   rw[if_neg hne];exact h.yes e (aOg hj)
theorem MapI.aKR {es:List (κ×Value×Nat)}{clock:Nat}(h:MapI enc es clock f){k:κ}(v:Value)(hf:f k=none):MapI enc (es++[(k,v,clock)]) (clock+1) (upd f k (some v)):=by
 have hno:=(h.no k).mp hf;refine⟨?_,?_,λe he=> ?_,λk'=> ?_,λe he=> ?_⟩
 ·rw[List.map_append,List.nodup_append]
  refine⟨h.keys,by simp,λa ha b hb hab=> ?_⟩
  obtain⟨e,he,rfl⟩:=aOK.mp ha;simp at hb;exact hno e he (hab.trans hb)
 ·rw[List.map_append,List.nodup_append]
  refine⟨h.born,by simp,λa ha b hb hab=> ?_⟩
  obtain⟨e,he,rfl⟩:=aOK.mp ha;have:=h.lt e he;simp at hb;omega
 ·rcases List.mem_append.mp he with he|he
  ·have:=h.lt e he
   omega
  ·rw[List.mem_singleton] at he
   subst he;simp
 ·unfold upd
  by_cases hk:k'=k
  ·rw[if_pos hk]
   constructor
   ·intro hh;cases hh
   ·intro hh
    exact absurd hk.symm (hh (k,v,clock) (by simp))
  ·rw[if_neg hk,h.no k']
   constructor
   ·intro hh e he hek
    rcases List.mem_append.mp he with he|he
    ·exact hh e he hek
    ·rw[List.mem_singleton] at he
     subst he;exact hk hek.symm
   ·intro hh e he
    exact hh e (by simp[he])
 ·unfold upd
  rcases List.mem_append.mp he with he|he
  ·rw[if_neg (hno e he)]
   exact h.yes e he
  ·rw[List.mem_singleton] at he
   subst he;rw[if_pos rfl]
theorem MapI.aKQ {es:List (κ×Value×Nat)}{clock:Nat}(h:MapI enc es clock f){k:κ}{v0:Value}{i b:Nat}(hi:es[i]? =some (k,v0,b)):MapI enc (es.eraseIdx i) clock (upd f k none):=by
 have hsub:=List.eraseIdx_sublist es i;have hlt:=(aN6.mp hi).1;have hin: ∀e,e∈es.eraseIdx i↔e∈es/\e.1≠k:=by
  intro e;constructor
  ·intro he
   refine⟨hsub.subset he,λhek=> ?_⟩
   obtain⟨j,hj⟩:=List.getElem?_of_mem he;rw[List.getElem?_eraseIdx] at hj;obtain⟨j',hj',hne⟩: ∃j':Nat,es[j']? =some e/\j'≠i:=by
    by_cases hji:j<i
    ·rw[if_pos hji] at hj
     exact⟨j,hj,by omega⟩
    ·rw[if_neg hji] at hj
     exact⟨j+1,hj,by omega⟩
   have h1:(es.map (·.1))[i]? =some k:=by rw[aOj,hi];rfl
   have h2:(es.map (·.1))[j']? =some k:=by rw[aOj,hj',<-hek];rfl
   have l1:=(aN6.mp h1);have l2:=(aN6.mp h2);exact hne ((List.getElem_inj h.keys).mp (l2.2.trans l1.2.symm))
  ·rintro ⟨he,hek⟩
   obtain⟨j,hj⟩:=List.getElem?_of_mem he;have hne:j≠i:=by
    rintro rfl
    rw[hi] at hj;cases hj;exact hek rfl
   by_cases hji:j<i
   ·exact aOg (i:=j) (by rw[List.getElem?_eraseIdx,if_pos hji,hj])
   ·refine aOg (i:=j-1) ?_
    rw[List.getElem?_eraseIdx,if_neg (by omega),show j-1+1=j by omega,hj]
 refine⟨(hsub.map _).nodup h.keys,(hsub.map _).nodup h.born,λe he=>h.lt e ((hin e).mp he).1,λk'=> ?_,λe he=> ?_⟩
 ·unfold upd
  by_cases hk:k'=k
  ·rw[if_pos hk]
   exact⟨λ_ e he hek=>((hin e).mp he).2 (hek.trans hk),λ_=>rfl⟩
  ·rw[if_neg hk,h.no k']
   constructor
   ·intro hh e he
    exact hh e ((hin e).mp he).1
   ·intro hh e he hek
    exact hh e ((hin e).mpr ⟨he,by rw[hek];exact hk⟩) hek
 ·unfold upd
  rw[if_neg ((hin e).mp he).2];exact h.yes e ((hin e).mp he).1
theorem Fw (es:List (κ×Value×Nat))(i:Nat)(e:κ×Value×Nat):(es.map (lU enc)).set i (lU enc e)=(es.set i e).map (lU enc):=by rw[List.map_set]
theorem IsMap.aKP (hk:KeyC kt enc)(h:IsMap enc H mb f)(k:κ)(v:Value)(hf:f k≠none): ∃X,sB kt (.map (some mb)) (enc k) v H=some (undef,H.set mb X)/\IsMap enc (H.set mb X) mb (upd f k (some v))/\ ∃es c,X= .map es c:=by
 obtain⟨es,c,h1,h2⟩:=h;obtain⟨v0,hv0⟩:=Option.ne_none_iff_exists'.mp hf;obtain⟨i,b,hi⟩:=h2.Fv hv0;have hlt:=(aN6.mp h1).1;refine⟨.map ((es.set i (k,v,b)).map (lU enc)) c,?_,⟨_,c,by rw[aOc hlt],h2.Oj hi⟩,_,_,rfl⟩
 unfold sB;rw[if_pos (B3 hk k)];simp only;rw[h1];simp only;have:=B2 hk es i 0 _ h2.keys hi;simp only at this;rw[this];simp only[aOs];rw[<-Fw];rfl
theorem IsMap.aKM (hk:KeyC kt enc)(h:IsMap enc H mb f)(k:κ)(hf:f k≠none): ∃X,sA kt (.map (some mb)) (enc k) H=some (.tuple #[],H.set mb X)/\IsMap enc (H.set mb X) mb (upd f k none)/\ ∃es c,X= .map es c:=by
 obtain⟨es,c,h1,h2⟩:=h;obtain⟨v0,hv0⟩:=Option.ne_none_iff_exists'.mp hf;obtain⟨i,b,hi⟩:=h2.Fv hv0;have hlt:=(aN6.mp h1).1;refine⟨.map ((es.eraseIdx i).map (lU enc)) c,?_,⟨_,c,by rw[aOc hlt],h2.aKQ hi⟩,_,_,rfl⟩
 unfold sA;rw[if_pos (B3 hk k)];simp only;rw[h1];simp only;have:=B2 hk es i 0 _ h2.keys hi;simp only at this;rw[this];simp only[aOs];rw[Za]
theorem Y9 (es:List (κ×Value×Nat))(hn:(es.map (·.2.2)).Nodup){i:Nat}{e:κ×Value×Nat}(hi:es[i]? =some e):(es.map (lU enc)).findIdx? (λx=>(x.born:Int)==(e.2.2:Int))=some i:=by
 have hlt:=(aN6.mp hi).1;have he:=(aN6.mp hi).2;rw[List.findIdx?_eq_some_iff_getElem];refine⟨by simpa using hlt,?_,λj hji=> ?_⟩
 ·simp[lU,he]
 ·have hne:es[j].2.2≠e.2.2:=λhh=>by
   have h1:(es.map (·.2.2))[i]'(by simpa using hlt)=e.2.2:=by simp[he]
   have h2:(es.map (·.2.2))[j]'(by simp;omega)=e.2.2:=by simp[hh]
   have:=(List.getElem_inj hn).mp (h1.trans h2.symm);omega
  simp[lU];omega
theorem IsMap.aKN (hk:KeyC kt enc)(h:IsMap enc H mb f)(k:κ)(z:Value): ∃(b:Nat)(X:Blk),rI kt z (.map (some mb)) (enc k) H=some (.tuple #[(f k).getD z,.int .i64 b],H.set mb X)/\(∃es c,X= .map es c)/\
  ∀(H2:aC)(v:Value),H2[mb]? =some X-> ∃X',rG (.map (some mb)) (.int .i64 b) v H2=some (undef,H2.set mb X')/\IsMap enc (H2.set mb X') mb (upd f k (some v))/\ ∃es c,X'= .map es c:=by
 obtain⟨es,c,h1,h2⟩:=h;cases hf:f k with
 |none=>
  refine⟨c,.map ((es++[(k,z,c)]).map (lU enc)) (c+1),?_,⟨_,_,rfl⟩,λH2 v hX=> ?_⟩
  ·unfold rI
   rw[if_pos (B3 hk k)];simp only;rw[h1];simp only;rw[Ol hk k es 0 ((h2.no k).mp hf)];simp[lU]
  ·have hp:=h2.aKR z hf
   have hi:(es++[(k,z,c)])[es.length]? =some (k,z,c):=by simp
   have hlt:=(aN6.mp hX).1;have hs:=hp.Oj (v:=v) hi;have hup:upd (upd f k (some z)) k (some v)=upd f k (some v):=by
    funext k'
    unfold upd
    split<;>rfl
   rw[hup] at hs;refine⟨.map (((es++[(k,z,c)]).set es.length (k,v,c)).map (lU enc)) (c+1),?_,⟨_,_,by rw[aOc hlt],hs⟩,_,_,rfl⟩
   unfold rG;simp only;rw[hX];simp only;have:=Y9 (enc:=enc) (es++[(k,z,c)]) hp.born hi;simp only at this;rw[this];simp only;rw[aOj,hi];simp only[Option.map_some];rw[<-Fw];rfl
 |some v0=>
  obtain⟨i,b,hi⟩:=h2.Fv hf;have hset:es.set i (k,v0,b)=es:=by
   apply aOI;intro j;by_cases hj:i=j
   ·subst hj
    rw[aOc (aN6.mp hi).1,hi]
   ·rw[aN7 hj]
  refine⟨b,.map (es.map (lU enc)) c,?_,⟨_,_,rfl⟩,λH2 v hX=> ?_⟩
  ·unfold rI
   rw[if_pos (B3 hk k)];simp only;rw[h1];simp only;have:=B2 hk es i 0 _ h2.keys hi;simp only at this;rw[this];simp only[aOs];have e1:(⟨enc k,(lU enc (k,v0,b)).val,(lU enc (k,v0,b)).born⟩:Ent)=lU enc (k,v0,b):=rfl;rw[e1,Fw,hset];rfl
  ·have hlt:=(aN6.mp hX).1
   refine⟨.map ((es.set i (k,v,b)).map (lU enc)) c,?_,⟨_,c,by rw[aOc hlt],h2.Oj hi⟩,_,_,rfl⟩
   unfold rG;simp only;rw[hX];simp only;have:=Y9 (enc:=enc) es h2.born hi;simp only at this;rw[this];simp only;rw[aOj,hi];simp only[Option.map_some];rw[<-Fw];rfl
theorem IsMap.aKO (H:aC):IsMap enc (H++[.map [] 0]) H.length (λ_=>none):=
 ⟨[],0,by simp,⟨by simp,by simp,by simp,λk=>by simp,λe he=>by simp at he⟩⟩
end
end Go.Abs
namespace Go.Proofs.YtmimdleeihjdoaaGreatDoor.Rg
open Go.Proofs.Tryz
open Go.Abs
abbrev kS:=Int×Int×Int
def nD (w:kS):Value:= .agg #[.int .i64 w.1,.int .i64 w.2.1,.int .i64 w.2.2]
abbrev kW:KeyT:= .str [true,true,true]
theorem vG:KeyC kW nD:=⟨λa b=>by
 obtain⟨a1,a2,a3⟩:=a;obtain⟨b1,b2,b3⟩:=b;have h:((a1,a2,a3)=(b1,b2,b3))=(a1=b1/\a2=b2/\a3=b3):=by simp
 simp[kX,nD,eqT];by_cases h1:a1=b1<;>by_cases h2:a2=b2<;>by_cases h3:a3=b3<;>simp[h1,h2,h3]⟩
theorem bW (a b c:Int):bld prog 307 [(0,.int .i64 a),(1,.int .i64 b),(2,.int .i64 c)]=some (nD (a,b,c)):=rfl
theorem szI:prog.cellsOf 3=1:=by kernel_rfl
def AR (x:Blk):Prop:=match x with
 | .map _ _=>True
 | .dead=>True
 | .cells _ e k=>(e=327/\k= .fix)∨(e=330/\k= .row)∨(e=3/\k= .row)
def AS (x:Blk):Prop:=AR x∨match x with
 | .cells _ e k=>(e=31/\k= .fix)∨(e=274/\k= .fix)
 |_=>False
abbrev En:=kS×Nat×Pkt
def qOf (L:List En)(w:kS):List Nat:=(L.filter λe=>decide (e.1=w)).map (·.2.1)
def nY (L:List En)(w:kS):List Pkt:=(L.filter λe=>decide (e.1=w)).map (·.2.2)
def mS (k:Nat):Value:= .int .i64 k
theorem Oq (L:List En)(w:kS):(qOf L w).length=(nY L w).length:=by simp[qOf,nY]
structure RI (H:aC)(a:Nat)(L:List En)(n ports lanes:Nat)(p s mb:Nat)(l:List jZ)(top free:Int)(fl:List Nat)(f:kS->Option Value):Prop where
 hd:H[a]? =some (.cells [.pointer (some ⟨p,0,none⟩),.map (some mb),.int .i64 ports,.int .i64 lanes] 274 .fix)
 pool:Model H p s l top free fl
 len:l.length=n
 cnt:L.length+fl.length=n
 nd:(L.map (·.2.1)).Nodup
 full: ∀e∈L,∃q d,l[e.2.1]? =some (some (q,e.2.2),d)
 mp:IsMap nD H mb f
 no: ∀w,f w=none->qOf L w=[]
 yes: ∀w v,f w=some v->RowO 3 H v ((qOf L w).map mS)/\qOf L w≠[]
 sep: ∀w w' v v' b,f w=some v->f w'=some v'->w≠w'->cK v b-> ¬cK v' b
 b1:1<=n/\n<=200
 b2:ports<=16/\lanes<=3
def IsRings (H:aC)(a:Nat)(L:List En)(n ports lanes:Nat):Prop:= ∃p s mb l top free fl f,RI H a L n ports lanes p s mb l top free fl f
section
variable {H H' : aC} {a n ports lanes p s mb : Nat} {L : List En} {l : List jZ} {top free : Int} {fl : List Nat} {f : kS → Option Value}
theorem RI.Fx (h:RI H a L n ports lanes p s mb l top free fl f)(hk: ∀(b:Nat)(x:Blk),H[b]? =some x->AS x->H'[b]? =some x):RI H' a L n ports lanes p s mb l top free fl f:=by
 refine⟨hk _ _ h.hd (.inr (.inr ⟨rfl,rfl⟩)),⟨⟨hk _ _ h.pool.pool.hp (.inl (.inl ⟨rfl,rfl⟩)),hk _ _ h.pool.pool.hs (.inl (.inr (.inl ⟨rfl,rfl⟩))),λi q x d hi=>hk _ _ (h.pool.pool.hq i q x d hi) (.inr (.inl ⟨rfl,rfl⟩))⟩,h.pool.chain,h.pool.nodup,h.pool.full,h.pool.cnt,h.pool.len⟩,
  h.len,h.cnt,h.nd,h.full,?_,h.no,λw v hv=>⟨?_,(h.yes w v hv).2⟩,h.sep,h.b1,h.b2⟩
 ·obtain⟨es,c,h1,h2⟩:=h.mp
  exact⟨es,c,hk _ _ h1 (.inl trivial),h2⟩
 ·refine(h.yes w v hv).1.sO λb hb=> ?_
  obtain⟨xs,hx⟩:=(h.yes w v hv).1.blk hb;rw[hx];exact hk _ _ hx (.inl (.inr (.inr ⟨rfl,rfl⟩)))
theorem RI.app (h:RI H a L n ports lanes p s mb l top free fl f)(G:aC):RI (H++G) a L n ports lanes p s mb l top free fl f:=h.Fx λb x hx _=>(Ch.app (λ_=>False) H G).2 b x hx id
theorem IsRings.app (h:IsRings H a L n ports lanes)(G:aC):IsRings (H++G) a L n ports lanes:=by
 obtain⟨p,s,mb,l,top,free,fl,f,hi⟩:=h
 exact⟨p,s,mb,l,top,free,fl,f,hi.app G⟩
theorem RI.ld0 (h:RI H a L n ports lanes p s mb l top free fl f):ld1 (.pointer (some ⟨a,0,none⟩)) H=some (.pointer (some ⟨p,0,none⟩),H):=by rw[kO,h.hd];rfl
theorem RI.ld1 (h:RI H a L n ports lanes p s mb l top free fl f):ld1 (.pointer (some ⟨a,1,none⟩)) H=some (.map (some mb),H):=by rw[kO,h.hd];rfl
theorem RI.ld2 (h:RI H a L n ports lanes p s mb l top free fl f):Go.Abs.ld1 (.pointer (some ⟨a,2,none⟩)) H=some (.int .i64 ports,H):=by rw[kO,h.hd];rfl
theorem RI.ld3 (h:RI H a L n ports lanes p s mb l top free fl f):Go.Abs.ld1 (.pointer (some ⟨a,3,none⟩)) H=some (.int .i64 lanes,H):=by rw[kO,h.hd];rfl
end
theorem Oo (L:List En)(e:En)(w:kS):qOf (e::L) w=if e.1=w then e.2.1::qOf L w else qOf L w:=by
 unfold qOf;by_cases h:e.1=w<;>simp[h]
theorem Zb (L:List En)(e:En)(w:kS):nY (e::L) w=if e.1=w then e.2.2::nY L w else nY L w:=by
 unfold nY;by_cases h:e.1=w<;>simp[h]
theorem On (L:List En)(e:En)(w:kS):qOf (L++[e]) w=if e.1=w then qOf L w++[e.2.1] else qOf L w:=by
 unfold qOf;by_cases h:e.1=w<;>simp[List.filter_append,h]
def nO (L:List En)(w:kS):List En:=L.eraseP λe=>decide (e.1=w)
theorem B4 (w w':kS): ∀L:List En,qOf (nO L w) w'=if w=w' then(qOf L w').tail else qOf L w'
 |[]=>by simp[nO,qOf]
 |e::L=>by
  have ih:=B4 w w' L;unfold nO at ih⊢;by_cases h:e.1=w
  ·simp only[List.eraseP_cons,h,decide_true,cond_true,Oo]
   by_cases hw:w=w'
   ·simp[hw]
   ·simp[hw]
  ·simp only[List.eraseP_cons,h,decide_false,cond_false,Oo,ih]
   by_cases hw:w=w'
   ·subst hw
    simp[h]
   ·simp[hw]
theorem Om {w:kS}: ∀{L:List En}{k:Nat}{ks:List Nat},qOf L w=k::ks-> ∃x xs,nY L w=x::xs/\(w,k,x)∈L/\L.length=(nO L w).length+1/\ ∀e,e∈nO L w->e∈L/\((L.map (·.2.1)).Nodup->e.2.1≠k)
 |[],k,ks,h=>by simp[qOf] at h
 |e::L,k,ks,h=>by
  obtain⟨we,ke,xe⟩:=e;rw[Oo] at h;by_cases hw:we=w
  ·subst hw
   simp only[if_pos] at h;cases h;refine⟨xe,nY L we,by rw[Zb];simp,by simp,by simp[nO],λe he=> ?_⟩
   have he':e∈L:=by simpa[nO] using he
   refine⟨by simp[he'],λhn=> ?_⟩
   simp only[aOC,List.nodup_cons] at hn;intro hh;exact hn.1 (by rw[<-hh];exact List.mem_map_of_mem he')
  ·simp only[hw,if_false] at h
   obtain⟨x,xs,h1,h2,h3,h4⟩:=Om h;refine⟨x,xs,by rw[Zb];simp[hw,h1],by simp[h2],by simp[nO,hw] at h3 ⊢; omega,λe he=> ?_⟩
   have he':e=(we,ke,xe)∨e∈nO L w:=by
    simp only[nO,List.eraseP_cons,hw,decide_false,cond_false] at he;simpa[nO] using he
   rcases he' with rfl|he'
   ·refine⟨by simp,λhn=> ?_⟩
    simp only[aOC,List.nodup_cons] at hn;intro hh;exact hn.1 (by rw[show ke=k from hh];exact List.mem_map_of_mem h2)
   ·obtain⟨g1,g2⟩:=h4 e he'
    refine⟨by simp[g1],λhn=> ?_⟩
    simp only[aOC,List.nodup_cons] at hn;exact g2 hn.2
abbrev pk8:iM:=pkN
theorem bRg (p mb:Nat)(a b:Int):bld prog 274 [(0,.pointer (some ⟨p,0,none⟩)),(1,.map (some mb)),(2,.int .i64 a),(3,.int .i64 b)]=some (.agg #[.pointer (some ⟨p,0,none⟩),.map (some mb),.int .i64 a,.int .i64 b]):=rfl
theorem aKT (H:aC):pT H=some (.map (some H.length),H++[.map [] 0]):=rfl
theorem aKS (H:aC)(k:Int):dJ 3 1 1 [.int .i64 0] [(0,.int .i64 k)] H=some (.slice (some ⟨H.length,0,none⟩) 1 1,H++[.cells [.int .i64 k] 3 .row]):=rfl
theorem Ou (a b c:Int):lV prog false [.int .i64 a,.int .i64 b,.int .i64 c]=some (.int .i64 (min (min a b) c)):=by
 simp[lV,dU,iL,pur,Builtin.min_,Builtin.min2,pure,bind,Sem.bind]
 split<;>split<;>omega
theorem Ot (a b:Int):lV prog true [.int .i64 a,.int .i64 b]=some (.int .i64 (max a b)):=by
 simp[lV,dU,iL,pur,Builtin.max_,Builtin.max2,pure,bind,Sem.bind]
 split<;>omega
def rA (w:kS)(ports lanes:Nat):Bool:=decide (0<=min (min w.1 w.2.1) w.2.2)&&decide (max w.1 w.2.1<(ports:Int))&&decide (w.2.2<(lanes:Int))
theorem Model.Zc {H H':aC}{p s:Nat}{l:List jZ}{top free:Int}{fl:List Nat}(h:Model H p s l top free fl)
  (hk: ∀(b:Nat)(cs:List Value)(e:TypeId)(k:Kind),H[b]? =some (.cells cs e k)->(e=327/\k= .fix)∨(e=330/\k= .row)∨(e=31/\k= .fix)->H'[b]? =some (.cells cs e k)):Model H' p s l top free fl:=
 ⟨⟨hk _ _ _ _ h.pool.hp (.inl ⟨rfl,rfl⟩),hk _ _ _ _ h.pool.hs (.inr (.inl ⟨rfl,rfl⟩)),λi q x d hi=>hk _ _ _ _ (h.pool.hq i q x d hi) (.inr (.inr ⟨rfl,rfl⟩))⟩,h.chain,h.nodup,h.full,h.cnt,h.len⟩
section
variable {H : aC} {a n ports lanes m : Nat} {L : List En}
theorem aKV (hm:300<m)(po la sl:Nat)(h:1<=po/\po<=16/\1<=la/\la<=3/\1<=sl/\sl<=200): ∃a H',lvl prog pk8 m (.func 92) [.int .i64 po,.int .i64 la,.int .i64 sl] H=some (.pointer (some ⟨a,0,none⟩),H')/\Ext H H'/\IsRings H' a [] sl po la/\H.length<=a:=by
 have g:=aKE (H:=H) (pr:=pk8) (cJ rfl) sl (by omega) (by omega) (m:=m-1) (by omega)
 have hM:=((aKL (H:=H) sl (by omega) (by omega)).app [Blk.map [] 0]).app [.cells [.pointer (some ⟨H.length+1,0,none⟩),.map (some (lT H (lB sl)).length),.int .i64 po,.int .i64 la] 274 .fix]
 have e1:decide ((po:Int)<1)=false:=aOR (by omega)
 have e2:decide (16<(po:Int))=false:=aOR (by omega)
 have e3:decide ((la:Int)<1)=false:=aOR (by omega)
 have e4:decide (3<(la:Int))=false:=aOR (by omega)
 have hl:(lT H (lB sl)).length=H.length+2:=by simp[lT]
 refine⟨(lT H (lB sl)++[Blk.map [] 0]).length,lT H (lB sl)++[Blk.map [] 0]++[Blk.cells [.pointer (some ⟨H.length+1,0,none⟩),.map (some (lT H (lB sl)).length),.int .i64 po,.int .i64 la] 274 .fix],dA (cJ rfl) (by omega) ?_,?_,
  ⟨H.length+1,H.length,(lT H (lB sl)).length,lB sl,0,sl,List.range sl,λ_=>none,by simp,hM,Fq sl,by simp,by simp,by simp,?_,λw _=>rfl,by simp,by simp,by omega,by omega⟩,by simp[hl];omega⟩
 ·rw[aKs]
  simp -implicitDefEqProofs only[g,e22,b_lss,b_gtr,e1,e2,e3,e4,r_opt,r_ret,ob_some,r_gdff,r_gdff2,pick_f,iteV_false,aKT,bRg,x_newB,oneOf_one];rfl
 ·unfold lT
  rw[aOd,aOd];exact Fr.app _ _ _
 ·have h0:=IsMap.aKO (enc:=nD) (lT H (lB sl))
  refine h0.Y8 ?_;rw[aN9 (by simp)]
theorem Ze (h:IsRings H a L n ports lanes)(hm:0<m)(w:kS):lvl prog pk8 m (.func 234) [.pointer (some ⟨a,0,none⟩),nD w] H=some (.bool (rA w ports lanes),H++[.cells [.int .i64 w.1,.int .i64 w.2.1,.int .i64 w.2.2] 307 .fix]):=by
 obtain⟨p,s,mb,l,top,free,fl,f,hi⟩:=h;have hi':=hi.app [.cells [.int .i64 w.1,.int .i64 w.2.1,.int .i64 w.2.2] 307 .fix];have l2:=hi'.ld2;have l3:=hi'.ld3;have x0:ld1 (.pointer (some ⟨H.length,0,none⟩)) (H++[.cells [.int .i64 w.1,.int .i64 w.2.1,.int .i64 w.2.2] 307 .fix])=some (.int .i64 w.1,H++[.cells [.int .i64 w.1,.int .i64 w.2.1,.int .i64 w.2.2] 307 .fix]):=by rw[kO,uN];rfl
 have x1:ld1 (.pointer (some ⟨H.length,1,none⟩)) (H++[.cells [.int .i64 w.1,.int .i64 w.2.1,.int .i64 w.2.2] 307 .fix])=some (.int .i64 w.2.1,H++[.cells [.int .i64 w.1,.int .i64 w.2.1,.int .i64 w.2.2] 307 .fix]):=by rw[kO,uN];rfl
 have x2:ld1 (.pointer (some ⟨H.length,2,none⟩)) (H++[.cells [.int .i64 w.1,.int .i64 w.2.1,.int .i64 w.2.2] 307 .fix])=some (.int .i64 w.2.2,H++[.cells [.int .i64 w.1,.int .i64 w.2.1,.int .i64 w.2.2] 307 .fix]):=by rw[kO,uN];rfl
 have hc:(Value.cells (nD w)).toList=[.int .i64 w.1,.int .i64 w.2.1,.int .i64 w.2.2]:=rfl;refine dA (cJ rfl) (by omega) ?_
 rw[aKq];unfold rA;rw[hc];by_cases h1:0<=min (min w.1 w.2.1) w.2.2
 ·have e1:decide (0<=min (min w.1 w.2.1) w.2.2)=true:=aOQ h1
  by_cases h2:max w.1 w.2.1<(ports:Int)
  ·have e2:decide (max w.1 w.2.1<(ports:Int))=true:=aOQ h2
   simp -implicitDefEqProofs only[x_newB,r_fAddr,r_nil,aOs,Nat.add_zero,x0,x1,x2,l2,l3,Ou,Ot,b_geq,b_lss,e1,e2,r_opt,r_ret,ob_some,ifB_true,r_gdt,r_gdt2,pick_t,oneOf_one,aOu]
  ·have e2:decide (max w.1 w.2.1<(ports:Int))=false:=aOR h2
   simp -implicitDefEqProofs only[x_newB,r_fAddr,r_nil,aOs,Nat.add_zero,x0,x1,x2,l2,l3,Ou,Ot,b_geq,b_lss,e1,e2,r_opt,r_ret,ob_some,ifB_true,r_gdt,r_gdt2,r_gdft,r_gdft2,r_gdu,r_gdu2,pick_t,pick_f,oneOf_one,aOu,Bool.false_and]
 ·have e1:decide (0<=min (min w.1 w.2.1) w.2.2)=false:=aOR h1
  simp -implicitDefEqProofs only[x_newB,r_fAddr,r_nil,aOs,Nat.add_zero,x0,x1,x2,l2,l3,Ou,Ot,b_geq,b_lss,e1,r_opt,r_ret,ob_some,ifB_true,r_gdft,r_gdft2,r_gdu,r_gdu2,pick_f,oneOf_one,Bool.false_and]
theorem aKU (h:IsRings H a L n ports lanes)(hm:0<m)(i o k:Int):lvl prog pk8 m (.func 159) [.pointer (some ⟨a,0,none⟩),.int .i64 i,.int .i64 o,.int .i64 k] H=some (.int .i64 (qOf L (i,o,k)).length,H):=by
 obtain⟨p,s,mb,l,top,free,fl,f,hi⟩:=h;have l1:=hi.ld1;have g:=hi.mp.B1 vG (i,o,k) (.slice none 0 0);refine dA (cJ rfl) (by omega) ?_
 rw[aKn];cases hf:f (i,o,k) with
 |none=>
  rw[hf] at g;simp only[Option.getD_none] at g;rw[hi.no _ hf];simp -implicitDefEqProofs only[r_nil,r_fAddr,aOs,l1,bW,g,I2,r_opt,ob_some,oneOf_one];rfl
 |some v=>
  rw[hf] at g;simp only[aOA] at g;have hl:=(hi.yes _ v hf).1.Jl;rw[aOk] at hl;simp -implicitDefEqProofs only[r_nil,r_fAddr,aOs,l1,bW,g,hl,r_opt,ob_some,oneOf_one]
theorem Ov (H:aC)(x:Pkt):stN 4 (.pointer (some ⟨H.length,0,none⟩)) x.dG (H++[pkB pk0])=some (undef,H++[pkB x]):=by
 rw[Fu,uN,Y1,Og]
theorem vH {H:aC}{b:Nat}{x:Pkt}(h:H[b]? =some (pkB x)):ldN 4 (.pointer (some ⟨b,0,none⟩)) H=some (x.dG,H):=by
 rw[rO,h,aKz]
theorem Ow {H:aC}{b:Nat}{y x:Pkt}(h:H[b]? =some (pkB y)):stN 4 (.pointer (some ⟨b,0,none⟩)) x.dG H=some (undef,H.set b (pkB x)):=by
 rw[Fu,h,Y1]
def tV (ps:List Pkt):Value:= .tuple #[(ps.headD pk0).dG,.bool (!ps.isEmpty)]
theorem Zd (h:IsRings H a L n ports lanes)(hm:10<m)(i o k:Int): ∃H',lvl prog pk8 m (.func 242) [.pointer (some ⟨a,0,none⟩),.int .i64 i,.int .i64 o,.int .i64 k] H=some (tV (nY L (i,o,k)),H')/\Ext H H':=by
 obtain⟨p,s,mb,l,top,free,fl,f,hi⟩:=h;have hi1:=hi.app [pkB pk0];have l1:=hi1.ld1;have l0:=hi1.ld0;have g:=hi1.mp.B1 vG (i,o,k) (.slice none 0 0);cases hf:f (i,o,k) with
 |none=>
  rw[hf] at g;simp only[Option.getD_none] at g;have hq:=hi.no _ hf;have hp:nY L (i,o,k)=[]:=aOo.mp (by rw[<-Oq,hq];rfl)
  rw[hp];refine⟨H++[pkB pk0],dA (cJ rfl) (by omega) ?_,Fr.app _ _ _⟩
  rw[Yr];have e1:((0:Int)==0)=true:=rfl;have hl:ldN 4 (.pointer (some ⟨H.length,0,none⟩)) (H++[pkB pk0])=some (pk0.dG,H++[pkB pk0]):=vH (by simp)
  simp -implicitDefEqProofs only[wY,x_newB,r_nil,r_fAddr,aOs,l1,bW,g,I2,b_eql,e1,Yy,Ov,hl,r_opt,ob_some,iteV_true,oneOf_two];rfl
 |some v=>
  rw[hf] at g;simp only[aOA] at g;obtain⟨hr,hne⟩:=hi1.yes _ v hf;obtain⟨k0,ks,hq⟩: ∃k0 ks,qOf L (i,o,k)=k0::ks:=by
   cases hx:qOf L (i,o,k) with
   |nil=>exact absurd hx hne
   |cons a b=>exact⟨a,b,rfl⟩
  obtain⟨x,xs,hp,hin,hlen,hrest⟩:=Om hq;rw[hq] at hr;rw[hp];have hl:=hr.Jl;obtain⟨bb,oo,g1,g2,g3⟩:=hr.Td (i:=0) (x:=mS k0) rfl .i64;obtain⟨q,d,hslot⟩:=hi.full _ hin;have hg:=aKy (pr:=pk8) (cJ rfl) (cJ rfl) hi1.pool.pool (m:=m-1) (by omega) k0 q x d hslot
  have e1:((((k0::ks).map mS).length:Int)==0)=false:=by simp;omega
  have hst:stN 4 (.pointer (some ⟨H.length,0,none⟩)) x.dG (H++[pkB pk0]++[pkB x])=some (undef,H++[pkB x]++[pkB x]):=by
   rw[Ow (y:=pk0) (by rw[aN9 (by simp)];simp)]
   simp
  have hld:ldN 4 (.pointer (some ⟨H.length,0,none⟩)) (H++[pkB x]++[pkB x])=some (x.dG,H++[pkB x]++[pkB x]):=vH (by rw[aN9 (by simp)];simp)
  refine⟨H++[pkB x]++[pkB x],dA (cJ rfl) (by omega) ?_,by rw[aOd];exact Fr.app _ _ _⟩
  rw[Yr];have g1':bH 1 v (.int .i64 0)=some (.pointer (some ⟨bb,oo,none⟩)):=g1;have hk0:mS k0= .int .i64 k0:=rfl;simp -implicitDefEqProofs only[wY,x_newB,r_nil,r_fAddr,aOs,Nat.add_zero,l0,l1,bW,g,hl,b_eql,e1,g1',g3 _ rfl,hk0,hg,ext_0,ext_1,hst,hld,r_opt,ob_some,ifB_true,iteV_false,oneOf_two];rfl
end
theorem Ox (w:kS)(H:aC):stN 3 (.pointer (some ⟨H.length,0,none⟩)) (nD w) (H++[.cells [.int .i64 0,.int .i64 0,.int .i64 0] 307 .fix])=some (undef,H++[.cells [.int .i64 w.1,.int .i64 w.2.1,.int .i64 w.2.2] 307 .fix]):=by
 have hc:(Value.cells (nD w)).toList=[.int .i64 w.1,.int .i64 w.2.1,.int .i64 w.2.2]:=rfl;rw[mX 3 _ _ _ rfl,uN,hc,oA _ _ _ _ _ _ (by decide) (by simp) rfl]
 simp[eH]
theorem zB {H:aC}{b:Nat}{w:kS}(h:H[b]? =some (.cells [.int .i64 w.1,.int .i64 w.2.1,.int .i64 w.2.2] 307 .fix)):ldN 3 (.pointer (some ⟨b,0,none⟩)) H=some (nD w,H):=by
 rw[rO,h,sI _ _ _ _ _ (by simp)]
 rfl
section
variable {H : aC} {a n ports lanes m : Nat} {L : List En}
theorem RI.Zf {H1:aC}{p s mb:Nat}{l:List jZ}{top free:Int}{fl:List Nat}{f:kS->Option Value}(hi:RI H a L n ports lanes p s mb l top free fl f)(hs: ∀b,b<H.length->b≠p->b≠s->H1[b]? =H[b]?):
  (∀(b:Nat)(x:Blk),H[b]? =some x->(∀cs,x≠ .cells cs 327 .fix)->(∀cs,x≠ .cells cs 330 .row)->H1[b]? =some x):=by
 intro b x hx h1 h2;have hlt:=(aN6.mp hx).1;have hp:b≠p:=λhh=>by
  subst hh;rw[hi.pool.pool.hp] at hx;cases hx;exact h1 _ rfl
 have hss:b≠s:=λhh=>by
  subst hh;rw[hi.pool.pool.hs] at hx;cases hx;exact h2 _ rfl
 rw[hs b hlt hp hss,hx]
theorem aKW (h:IsRings H a L n ports lanes)(hm:100<m)(w:kS)(x:Pkt)(hno:rA w ports lanes=false∨n<=L.length):
  ∃H',lvl prog pk8 m (.func 177) [.pointer (some ⟨a,0,none⟩),.int .i64 w.1,.int .i64 w.2.1,.int .i64 w.2.2,x.dG] H=some (.bool false,H')/\Ext H H':=by
 obtain⟨hw,hH⟩: ∃WB:Blk,WB= .cells [.int .i64 w.1,.int .i64 w.2.1,.int .i64 w.2.2] 307 .fix:=⟨_,rfl⟩;have h2:=(h.app [pkB x]).app [hw];have hr:=Ze h2 (m:=m-1) (by omega) w
 have hx:Blk.cells (Value.cells x.dG).toList 31 .fix=pkB x:=rfl;have hb:=bW w.1 w.2.1 w.2.2;have hst:=Ox w (H++[pkB x]);rw[<-hH] at hst hr;have hld:ldN 3 (.pointer (some ⟨(H++[pkB x]).length,0,none⟩)) (H++[pkB x]++[hw])=some (nD w,H++[pkB x]++[hw]):=zB (by rw[uN,hH])
 cases hv:rA w ports lanes with
 |false=>
  rw[hv] at hr;refine⟨H++[pkB x]++[hw]++[hw],dA (cJ rfl) (by omega) ?_,by rw[aOd,aOd];exact Fr.app _ _ _⟩
  rw[Ob];simp -implicitDefEqProofs only[x_newB,hx,hb,hst,hld,hr,u_not,Bool.not_false,r_opt,ob_some,iteV_true,oneOf_one]
 |true=>
  have hcnt:n<=L.length:=by
   rcases hno with hno|hno
   ·rw[hv] at hno;cases hno
   ·exact hno
  rw[hv] at hr;obtain⟨p,s,mb,l,top,free,fl,f,hi⟩:=h2.app [hw];have hfl:fl=[]:=by
   have:=hi.cnt;exact aOo.mp (by omega)
  subst hfl;have hp:=hi.pool.aKJ (pr:=pk8) (cJ rfl) (m:=m-1) (by omega) x
  have l0:=hi.ld0;have hldx:ldN 4 (.pointer (some ⟨H.length,0,none⟩)) (H++[pkB x]++[hw]++[hw])=some (x.dG,H++[pkB x]++[hw]++[hw]):=vH (by rw[aOd,aOd,aOr (aOb _)];simp)
  refine⟨H++[pkB x]++[hw]++[hw]++[pkB x],dA (cJ rfl) (by omega) ?_,by rw[aOd,aOd,aOd];exact Fr.app _ _ _⟩
  rw[Ob];simp -implicitDefEqProofs only[x_newB,hx,hb,hst,hld,hr,u_not,Bool.not_true,r_opt,ob_some,ifB_true,iteV_false,r_nil,r_fAddr,aOs,l0,hldx,hp,ext_0,ext_1,oneOf_one]
theorem aKX (h:IsRings H a L n ports lanes)(hm:100<m)(w:kS)(x:Pkt)(hv:rA w ports lanes=true)(hn:L.length<n):
    ∃H' k,lvl prog pk8 m (.func 177) [.pointer (some ⟨a,0,none⟩),.int .i64 w.1,.int .i64 w.2.1,.int .i64 w.2.2,x.dG] H=some (.bool true,H')/\Ch AR H H'/\IsRings H' a (L++[(w,k,x)]) n ports lanes:=by
  obtain⟨hw,hH⟩: ∃WB:Blk,WB= .cells [.int .i64 w.1,.int .i64 w.2.1,.int .i64 w.2.2] 307 .fix:=⟨_,rfl⟩;have h2:=(h.app [pkB x]).app [hw];have hr:=Ze h2 (m:=m-1) (by omega) w
  have hx:Blk.cells (Value.cells x.dG).toList 31 .fix=pkB x:=rfl;have hb:=bW w.1 w.2.1 w.2.2;have hst:=Ox w (H++[pkB x]);rw[<-hH] at hst hr;have hld:ldN 3 (.pointer (some ⟨(H++[pkB x]).length,0,none⟩)) (H++[pkB x]++[hw])=some (nD w,H++[pkB x]++[hw]):=zB (by rw[uN,hH])
  rw[hv] at hr;obtain⟨H0,hH0⟩: ∃H0,H0=H++[pkB x]++[hw]++[hw]:=⟨_,rfl⟩;have hc0:Ch AR H H0:=by rw[hH0,aOd,aOd];exact Ch.app _ _ _
  have h3:=h2.app [hw];rw[<-hH0] at h3 hr;obtain⟨p,s,mb,l,top,free,fl,f,hi⟩:=h3;have hWat:H0[(H++[pkB x]).length]? =some hw:=by rw[hH0,aN9 (by simp),aOr (aOb _)];simp
  obtain⟨k,ks,rfl⟩: ∃k ks,fl=k::ks:=by
    cases fl with
    |nil=>have:=hi.cnt;simp at this;omega
    |cons k ks=>exact⟨k,ks,rfl⟩
  obtain⟨H1,q,d,hp,hM1,hkl,hlen1,hsame⟩:=hi.pool.aKI (pr:=pk8) (cJ rfl) (m:=m-1) (by omega) x
  have keep1:=hi.Zf hsame;have l0:=hi.ld0;have hldx:ldN 4 (.pointer (some ⟨H.length,0,none⟩)) H0=some (x.dG,H0):=vH (by rw[hH0,aOd,aOd,aOr (aOb _)];simp)
  have hd1:=keep1 _ _ hi.hd (λcs hh=>by cases hh) (λcs hh=>by cases hh)
  have l1:ld1 (.pointer (some ⟨a,1,none⟩)) H1=some (.map (some mb),H1):=by rw[kO,hd1];rfl
  have hW1:H1[(H++[pkB x]).length]? =some hw:=keep1 _ _ hWat (λcs hh=>by rw[hH] at hh;cases hh) (λcs hh=>by rw[hH] at hh;cases hh)
  have hld1:ldN 3 (.pointer (some ⟨(H++[pkB x]).length,0,none⟩)) H1=some (nD w,H1):=zB (by rw[hW1,hH])
  have hm1:IsMap nD H1 mb f:=by
    obtain⟨es,c,e1,e2⟩:=hi.mp
    exact⟨es,c,keep1 _ _ e1 (λcs hh=>by cases hh) (λcs hh=>by cases hh),e2⟩
  have hq1: ∀w' v,f w'=some v->RowO 3 H1 v ((qOf L w').map mS):=λw' v hf=>by
    have:=(hi.yes w' v hf).1;refine this.sO λb hb=> ?_
    obtain⟨xs,hxs⟩:=this.blk hb;rw[hxs,keep1 _ _ hxs (λcs hh=>by cases hh) (λcs hh=>by cases hh)]
  have hc1:Ch AR H0 H1:=⟨hlen1,λb y hy hn'=>keep1 b y hy (λcs hh=>hn' (by rw[hh];exact .inl ⟨rfl,rfl⟩)) (λcs hh=>hn' (by rw[hh];exact .inr (.inl ⟨rfl,rfl⟩)))⟩
  -- the slot's number, in a row of its own
  obtain⟨H2,hH2⟩: ∃H2,H2=H1++[Blk.cells [mS k] 3 .row]:=⟨_,rfl⟩;have hbi:dJ 3 1 1 [.int .i64 0] [(0,.int .i64 (k:Nat))] H1=some (.slice (some ⟨H1.length,0,none⟩) 1 1,H2):=by rw[hH2];exact aKS H1 k
  have hm2:IsMap nD H2 mb f:=hm1.Y8 (by
    obtain⟨es,c,e1,e2⟩:=hm1;rw[hH2,aN9 (aN6.mp e1).1])
  obtain⟨born,X,hent,⟨xe,xc,hX⟩,hstore⟩:=hm2.aKN vG w (.slice none 0 0);obtain⟨H3,hH3⟩: ∃H3,H3=H2.set mb X:=⟨_,rfl⟩;rw[<-hH3] at hent;have hmblk: ∃es c,H2[mb]? =some (.map es c):=by
    obtain⟨es,c,e1,e2⟩:=hm2
    exact⟨_,_,e1⟩
  have hmlt:mb<H2.length:=by
    obtain⟨es,c,e1⟩:=hmblk
    exact(aN6.mp e1).1
  have hlen2:H2.length=H1.length+1:=by rw[hH2];simp
  have hlen3:H3.length=H1.length+1:=by rw[hH3];simp[hlen2]
  -- cells of H1 in H3
  have k13: ∀(b:Nat)(cs:List Value)(e:TypeId)(kk:Kind),H1[b]? =some (.cells cs e kk)->H3[b]? =some (.cells cs e kk):=by
    intro b cs e kk hb;have hlt:=(aN6.mp hb).1;have hb2:H2[b]? =some (.cells cs e kk):=by rw[hH2,aN9 hlt,hb]
    have hne:b≠mb:=λhh=>by
      subst hh;obtain⟨es,c,e1⟩:=hmblk;rw[hb2] at e1;cases e1
    rw[hH3,pJ hne,hb2]
  have hX3:H3[mb]? =some X:=by rw[hH3,aOc hmlt]
  have hsrcb:H3[H1.length]? =some (.cells [mS k] 3 .row):=by
    have hb2:H2[H1.length]? =some (.cells [mS k] 3 .row):=by rw[hH2];simp
    have hne:H1.length≠mb:=λhh=>by
      obtain⟨es,c,e1⟩:=hmblk;rw[<-hh,hb2] at e1;cases e1
    rw[hH3,pJ hne,hb2]
  have hsl:mK (.slice (some ⟨H1.length,0,none⟩) 1 1)=some 1:=rfl;have hsc:jV 1 (.slice (some ⟨H1.length,0,none⟩) 1 1) 1 H3=some [mS k]:=by simp[jV,hsrcb]
  have hall:dR [mS k]=true:=rfl;have hqlen:(qOf L w).length<=200:=by
    have h1:(qOf L w).length<=L.length:=by simp[qOf,List.length_filter_le]
    have:=hi.cnt;have:=hi.b1;omega
  -- the queue grows
  obtain⟨v',H4,happ,hrow,hl4,hsame4,hhome,hnew⟩: ∃v' H4,app 3 1 8 ((f w).getD (.slice none 0 0)) (.slice (some ⟨H1.length,0,none⟩) 1 1) H3=some (v',H4)/\RowO 3 H4 v' ((qOf L w).map mS++[mS k])/\H3.length<=H4.length/\
      (∀b,b<H3.length-> ¬(∃v,f w=some v/\cK v b)->H4[b]? =H3[b]?)/\(∀b,cK v' b->(∃v,f w=some v/\cK v b)∨(H3.length<=b/\b<H4.length))/\True:=by
    cases hf:f w with
    |none=>
      obtain⟨g1,g2⟩:=aD3 (e:=3) (H:=H3) (by':=8) hsl hsc (by decide)
      refine⟨_,_,g1,by rw[hi.no w hf];exact g2,by simp,λb hb _=>aN9 hb,?_,trivial⟩
      rintro b ⟨oo,nn,cc,hh⟩
      cases hh;exact .inr ⟨aOb _,by simp⟩
    |some v=>
      have hr3:RowO 3 H3 v ((qOf L w).map mS):=(hq1 w v hf).sO λb hb=>by
        obtain⟨xs,hxs⟩:=(hq1 w v hf).blk hb;rw[hxs,k13 _ _ _ _ hxs]
      obtain⟨v',H4,g1,g2,g3,g4,g5,g6⟩:=hr3.aD1 (by':=8) hsl hsc (by simp[jQ];omega) hall
      exact⟨v',H4,g1,g2,g3,λb hb hn=>g4 b hb λhh=>hn ⟨v,rfl,hh⟩,λb hb=>(g5 b hb).imp (λhh=>⟨v,rfl,hh⟩) id,trivial⟩
  have hnomb: ¬ ∃v,f w=some v/\cK v mb:=by
    rintro ⟨v,hf,hh⟩
    obtain⟨xs,hxs⟩:=(hq1 w v hf).blk hh;obtain⟨es,c,e1,e2⟩:=hm1;rw[hxs] at e1;cases e1
  have hX4:H4[mb]? =some X:=by rw[hsame4 mb (by omega) hnomb,hX3]
  obtain⟨X',hset,hm5,⟨ye,yc,hX'⟩⟩:=hstore H4 v' hX4
  -- what is not a map nor a row of ints stays from H1 on
  have k15: ∀(b:Nat)(cs:List Value)(e:TypeId)(kk:Kind),H1[b]? =some (.cells cs e kk)->(∀v,f w=some v-> ¬cK v b)->(H4.set mb X')[b]? =some (.cells cs e kk):=by
    intro b cs e kk hb hh;have hlt:=(aN6.mp hb).1;have h3:=k13 b cs e kk hb;have hne:b≠mb:=λhx=>by
      subst hx;rw[hX3,hX] at h3;cases h3
    rw[pJ hne,hsame4 b (by omega) (λ⟨v,hf,hv⟩=>hh v hf hv),h3]
  have k15': ∀(b:Nat)(cs:List Value)(e:TypeId)(kk:Kind),H1[b]? =some (.cells cs e kk)-> ¬(e=3/\kk= .row)->(H4.set mb X')[b]? =some (.cells cs e kk):=λb cs e kk hb hne=>k15 b cs e kk hb λv hf hh=>by
    obtain⟨xs,hxs⟩:=(hq1 w v hf).blk hh;rw[hb] at hxs;cases hxs;exact hne ⟨rfl,rfl⟩
  refine⟨H4.set mb X',k,dA (cJ rfl) (by omega) ?_,?_,⟨p,s,mb,l.set k (some (q,x),d),d,free-1,ks,upd f w (some v'),?_⟩⟩
  · rw[Ob]
    simp -implicitDefEqProofs only[x_newB,hx,hb,hst,hld,hr,u_not,Bool.not_true,r_opt,ob_some,ifB_true,iteV_false,iteV_true,r_nil,r_fAddr,aOs,l0,hldx,hp,ext_0,ext_1,l1,hld1,hbi,hent,happ,hset,oneOf_one]
  · refine(hc0.wF hc1).wF ⟨by simp;omega,λb y hy hn'=> ?_⟩
    cases y with
    |map es c=>exact absurd trivial hn'
    |dead=>exact absurd trivial hn'
    |cells cs e kk=>exact k15' b cs e kk hy λhh=>hn' (.inr (.inr hh))
  · refine⟨k15' _ _ _ _ hd1 (by rintro ⟨hh,_⟩;revert hh;decide),hM1.Zc λb cs e kk hb hh=>k15' b cs e kk hb (by
      rintro ⟨h1,h2⟩
      subst h1 h2;rcases hh with⟨h1,_⟩|⟨h1,_⟩|⟨h1,_⟩<;>revert h1<;>decide),by simp[hi.len],by have:=hi.cnt;simp at this ⊢; omega,?_,?_,hm5,?_,?_,?_,hi.b1,hi.b2⟩
    · rw[List.map_append,List.nodup_append]
      refine⟨hi.nd,by simp,λy hy z hz hyz=> ?_⟩
      simp at hz;obtain⟨e,he,rfl⟩:=aOK.mp hy;obtain⟨q',d',hs⟩:=hi.full e he;obtain⟨d'',hf⟩:=(hi.pool.full k).mp (by simp)
      rw[hyz,hz,hf] at hs;cases hs
    · intro e he
      rcases List.mem_append.mp he with he|he
      · obtain⟨q',d',hs⟩:=hi.full e he
        have hne:k≠e.2.1:=λhh=>by
          obtain⟨d'',hf⟩:=(hi.pool.full k).mp (by simp)
          rw[hh,hs] at hf;cases hf
        exact⟨q',d',by rw[aN7 hne,hs]⟩
      · rw[List.mem_singleton] at he
        subst he
        exact⟨q,d,aOc hkl⟩
    · intro w' hw'
      unfold upd at hw';by_cases hww:w'=w
      · rw[if_pos hww] at hw'
        cases hw'
      · rw[if_neg hww] at hw'
        rw[On,if_neg (λhh=>hww hh.symm)]
        exact hi.no w' hw'
    · intro w' v hw'
      unfold upd at hw';by_cases hww:w'=w
      · rw[if_pos hww] at hw'
        cases hw';subst hww;rw[On,if_pos rfl];refine⟨?_,by simp⟩
        rw[List.map_append];refine hrow.sO λb hb=>pJ λhh=> ?_
        subst hh;obtain⟨xs,hxs⟩:=hrow.blk hb;rw[hX4,hX] at hxs;cases hxs
      · rw[if_neg hww] at hw'
        rw[On,if_neg (λhh=>hww hh.symm)]
        refine⟨(hq1 w' v hw').sO λb hb=> ?_,(hi.yes w' v hw').2⟩
        obtain⟨xs,hxs⟩:=(hq1 w' v hw').blk hb;rw[hxs,k15 b _ _ _ hxs λv2 hf2 hh=>hi.sep w' w v v2 b hw' hf2 hww hb hh]
    · intro w1 w2 v1 v2 b hf1 hf2 hne hh1 hh2
      have old: ∀w' v,f w'=some v->cK v b->b<H1.length:=λw' v hf hh=>by
        obtain⟨xs,hxs⟩:=(hq1 w' v hf).blk hh
        exact(aN6.mp hxs).1
      unfold upd at hf1 hf2;by_cases e1:w1=w
      · rw[if_pos e1] at hf1
        cases hf1;rw[if_neg (λhh=>hne (e1.trans hh.symm))] at hf2
        rcases hhome b hh1 with⟨v,hf,hh⟩|hh
        · exact hi.sep w w2 v v2 b hf hf2 (by rw[<-e1];exact hne) hh hh2
        · have:=old w2 v2 hf2 hh2
          omega
      · rw[if_neg e1] at hf1
        by_cases e2:w2=w
        · rw[if_pos e2] at hf2
          cases hf2;rcases hhome b hh2 with⟨v,hf,hh⟩|hh
          · exact hi.sep w1 w v1 v b hf1 hf e1 hh1 hh
          · have:=old w1 v1 hf1 hh1
            omega
        · rw[if_neg e2] at hf2
          exact hi.sep w1 w2 v1 v2 b hf1 hf2 hne hh1 hh2
end
section
variable {H : aC} {a n ports lanes m : Nat} {L : List En}
theorem RI.aKY {p s mb:Nat}{l:List jZ}{top free:Int}{fl:List Nat}{f:kS->Option Value}(hi:RI H a L n ports lanes p s mb l top free fl f){b:Nat}{y x:Pkt}(hb:H[b]? =some (pkB y))(hq: ∀(i q:Nat)(z:Pkt)(d:Int),l[i]? =some (some (q,z),d)->q≠b):
  RI (H.set b (pkB x)) a L n ports lanes p s mb l top free fl f:=by
 have keep: ∀(c:Nat)(z:Blk),H[c]? =some z->(∀cs,z≠ .cells cs 31 .fix)->(H.set b (pkB x))[c]? =some z:=λc z hc hz=>by
  rw[pJ (λhh=>by subst hh;rw[hb] at hc;cases hc;exact hz _ rfl),hc]
 refine⟨keep _ _ hi.hd (λcs hh=>by cases hh),⟨⟨keep _ _ hi.pool.pool.hp (λcs hh=>by cases hh),keep _ _ hi.pool.pool.hs (λcs hh=>by cases hh),λi q z d hl=>by
  rw[pJ (hq i q z d hl),hi.pool.pool.hq i q z d hl]⟩,hi.pool.chain,hi.pool.nodup,hi.pool.full,hi.pool.cnt,hi.pool.len⟩,hi.len,hi.cnt,hi.nd,hi.full,?_,hi.no,λw v hv=>⟨?_,(hi.yes w v hv).2⟩,hi.sep,hi.b1,hi.b2⟩
 ·obtain⟨es,c,h1,h2⟩:=hi.mp
  exact⟨es,c,keep _ _ h1 (λcs hh=>by cases hh),h2⟩
 ·refine(hi.yes w v hv).1.sO λc hc=> ?_
  obtain⟨xs,hx⟩:=(hi.yes w v hv).1.blk hc;rw[hx];exact keep _ _ hx (λcs hh=>by cases hh)
theorem aKZ (h:IsRings H a L n ports lanes)(hm:100<m)(i o k:Int)(hp:nY L (i,o,k)=[]):
  ∃H',lvl prog pk8 m (.func 185) [.pointer (some ⟨a,0,none⟩),.int .i64 i,.int .i64 o,.int .i64 k] H=some (tV [],H')/\Ext H H':=by
 obtain⟨H1,g1,g2⟩:=Zd (h.app [pkB pk0]) (m:=m-1) (by omega) i o k
 rw[hp] at g1;have hv:tV []= .tuple #[pk0.dG,.bool false]:=rfl;rw[hv] at g1;have hb0:H1[H.length]? =some (pkB pk0):=by rw[g2.2 H.length (by simp) id];simp
 have hl1:H.length<H1.length:=by have:=g2.1;simp at this;omega
 have hst:stN 4 (.pointer (some ⟨H1.length,0,none⟩)) pk0.dG (H1++[pkB pk0])=some (undef,H1++[pkB pk0]):=Ov H1 pk0;have hld:ldN 4 (.pointer (some ⟨H1.length,0,none⟩)) (H1++[pkB pk0])=some (pk0.dG,H1++[pkB pk0]):=vH (by simp)
 have hb1:(H1++[pkB pk0])[H.length]? =some (pkB pk0):=by rw[aN9 hl1,hb0]
 have hst2:stN 4 (.pointer (some ⟨H.length,0,none⟩)) pk0.dG (H1++[pkB pk0])=some (undef,H1++[pkB pk0]):=by
  rw[Ow (y:=pk0) hb1,Hp hb1]
 have hld2:ldN 4 (.pointer (some ⟨H.length,0,none⟩)) (H1++[pkB pk0])=some (pk0.dG,H1++[pkB pk0]):=vH hb1;refine⟨H1++[pkB pk0],dA (cJ rfl) (by omega) ?_,⟨by simp;omega,λb hb _=> ?_⟩⟩
 ·rw[Oc]
  simp -implicitDefEqProofs only[wY,x_newB,g1,ext_0,ext_1,hst,hld,hst2,hld2,r_opt,ob_some,iteV_false,oneOf_two];rfl
 ·rw[aN9 (by omega),g2.2 b (by simp;omega) id,aN9 hb]
theorem aK0 (h:IsRings H a L n ports lanes)(hm:100<m)(i o k:Int){x:Pkt}{xs:List Pkt}(hp:nY L (i,o,k)=x::xs):
    ∃H',lvl prog pk8 m (.func 185) [.pointer (some ⟨a,0,none⟩),.int .i64 i,.int .i64 o,.int .i64 k] H=some (.tuple #[x.dG,.bool true],H')/\Ch AR H H'/\IsRings H' a (nO L (i,o,k)) n ports lanes:=by
  obtain⟨H1,g1,g2⟩:=Zd (h.app [pkB pk0]) (m:=m-1) (by omega) i o k
  rw[hp] at g1;have hv:tV (x::xs)= .tuple #[x.dG,.bool true]:=rfl;rw[hv] at g1;obtain⟨w,hw⟩: ∃w:kS,w=(i,o,k):=⟨_,rfl⟩;obtain⟨p,s,mb,l,top,free,fl,f,hi0⟩:=h;have hqlt: ∀(j q:Nat)(z:Pkt)(d:Int),l[j]? =some (some (q,z),d)->q<H.length:=λj q z d hl=>(aN6.mp (hi0.pool.pool.hq j q z d hl)).1
  have hl1:H.length<H1.length:=by have:=g2.1;simp at this;omega
  have hi1:RI H1 a L n ports lanes p s mb l top free fl f:=hi0.Fx λb y hb _=>by
    have hlt:=(aN6.mp hb).1;rw[g2.2 b (by simp;omega) id,aN9 hlt,hb]
  have hb0:H1[H.length]? =some (pkB pk0):=by rw[g2.2 H.length (by simp) id];simp
  obtain⟨WB,hWB⟩: ∃WB:Blk,WB= .cells [.int .i64 i,.int .i64 o,.int .i64 k] 307 .fix:=⟨_,rfl⟩;obtain⟨H5,hH5⟩: ∃H5,H5=H1++[pkB x]++[WB]:=⟨_,rfl⟩;have hst1:stN 4 (.pointer (some ⟨H1.length,0,none⟩)) x.dG (H1++[pkB pk0])=some (undef,H1++[pkB x]):=Ov H1 x;have hst2:=Ox (i,o,k) (H1++[pkB x]);simp only at hst2;rw[<-hWB,<-hH5] at hst2;have hi:RI H5 a L n ports lanes p s mb l top free fl f:=by rw[hH5];exact(hi1.app _).app _
  have hc5:Ch AR H H5:=by
    refine(Ch.app AR H [pkB pk0]).wF ((Ch.ext g2).wF ?_);rw[hH5,aOd];exact Ch.app _ _ _
  have at0:H5[H.length]? =some (pkB pk0):=by rw[hH5,aOd,aN9 hl1,hb0]
  have at4:H5[H1.length]? =some (pkB x):=by rw[hH5,aOd,aOr (aOb _)];simp
  have atW:H5[(H1++[pkB x]).length]? =some WB:=by rw[hH5,uN]
  have l0:=hi.ld0;have l1:=hi.ld1;have hldw:ldN 3 (.pointer (some ⟨(H1++[pkB x]).length,0,none⟩)) H5=some (nD (i,o,k),H5):=zB (by rw[atW,hWB])
  -- the queue
  obtain⟨v,hf⟩: ∃v,f w=some v:=by
    cases hf:f w with
    |some v=>exact⟨v,rfl⟩
    |none=>
      have:=hi.no w hf;have h2:=Oq L w;rw[this,hw,hp] at h2;simp at h2
  have hg:=hi.mp.B1 vG w (.slice none 0 0);rw[hf] at hg;simp only[aOA] at hg;obtain⟨hr,hne⟩:=hi.yes w v hf;obtain⟨k0,ks,hq⟩: ∃k0 ks,qOf L w=k0::ks:=by
    cases hx:qOf L w with
    |nil=>exact absurd hx hne
    |cons a b=>exact⟨a,b,rfl⟩
  obtain⟨x',xs',hp',hin,hlen,hrest⟩:=Om hq;rw[hw,hp] at hp';cases hp';rw[hq] at hr;obtain⟨bb,oo,a1,a2,a3⟩:=hr.Td (i:=0) (x:=mS k0) rfl .i64;have a1':bH 1 v (.int .i64 0)=some (.pointer (some ⟨bb,oo,none⟩)):=a1;have hk0:mS k0= .int .i64 k0:=rfl;obtain⟨q0,d0,hslot⟩:=hi.full _ hin;obtain⟨H6,hd,hM6,hmore⟩:=hi.pool.aKH (pr:=pk8) (cJ rfl) (cJ rfl) (m:=m-1) (by omega) k0 (q0,x) d0 hslot
  have keep6:=hi.Zf hmore.same;have c6:Ch AR H5 H6:=⟨hmore.len,λb y hy hn'=>keep6 b y hy (λcs hh=>hn' (by rw[hh];exact .inl ⟨rfl,rfl⟩)) (λcs hh=>hn' (by rw[hh];exact .inr (.inl ⟨rfl,rfl⟩)))⟩
  have hd6:=keep6 _ _ hi.hd (λcs hh=>by cases hh) (λcs hh=>by cases hh)
  have l16:ld1 (.pointer (some ⟨a,1,none⟩)) H6=some (.map (some mb),H6):=by rw[kO,hd6];rfl
  have at06:=keep6 _ _ at0 (λcs hh=>by cases hh) (λcs hh=>by cases hh)
  have at46:=keep6 _ _ at4 (λcs hh=>by cases hh) (λcs hh=>by cases hh)
  have atW6:H6[(H1++[pkB x]).length]? =some WB:=keep6 _ _ atW (λcs hh=>by rw[hWB] at hh;cases hh) (λcs hh=>by rw[hWB] at hh;cases hh)
  have hldw6:ldN 3 (.pointer (some ⟨(H1++[pkB x]).length,0,none⟩)) H6=some (nD (i,o,k),H6):=zB (by rw[atW6,hWB])
  have hm6:IsMap nD H6 mb f:=by
    obtain⟨es,c,e1,e2⟩:=hi.mp
    exact⟨es,c,keep6 _ _ e1 (λcs hh=>by cases hh) (λcs hh=>by cases hh),e2⟩
  have hq6: ∀w' v',f w'=some v'->RowO 3 H6 v' ((qOf L w').map mS):=λw' v' hf'=>by
    have:=(hi.yes w' v' hf').1;refine this.sO λb hb=> ?_
    obtain⟨ys,hys⟩:=this.blk hb;rw[hys,keep6 _ _ hys (λcs hh=>by cases hh) (λcs hh=>by cases hh)]
  have hg6:=hm6.B1 vG w (.slice none 0 0);rw[hf] at hg6;simp only[aOA] at hg6;have hr6:=hq6 w v hf;rw[hq] at hr6;obtain⟨v',hcut,hrow',hhome⟩:=RowO.aD2 (P:=prog) (x:=mS k0) (cs:=ks.map mS) hr6 szI;obtain⟨X,hset,hm7,⟨xe,xc,hX⟩⟩:=hm6.aKP vG w v' (by rw[hf];simp)
  obtain⟨H7,hH7⟩: ∃H7,H7=H6.set mb X:=⟨_,rfl⟩;rw[<-hH7] at hset hm7;have hmb6: ∃es c,H6[mb]? =some (.map es c):=by
    obtain⟨es,c,e1,e2⟩:=hm6
    exact⟨_,_,e1⟩
  have k67: ∀(b:Nat)(cs:List Value)(e:TypeId)(kk:Kind),H6[b]? =some (.cells cs e kk)->H7[b]? =some (.cells cs e kk):=λb cs e kk hb=>by
    have hne:b≠mb:=λhh=>by
      subst hh;obtain⟨es,c,e1⟩:=hmb6;rw[hb] at e1;cases e1
    rw[hH7,pJ hne,hb]
  have len7:H7.length=H6.length:=by rw[hH7];simp
  have l17:ld1 (.pointer (some ⟨a,1,none⟩)) H7=some (.map (some mb),H7):=by rw[kO,k67 _ _ _ _ hd6];rfl
  have hldw7:ldN 3 (.pointer (some ⟨(H1++[pkB x]).length,0,none⟩)) H7=some (nD (i,o,k),H7):=zB (by rw[hWB] at atW6;rw[k67 _ _ _ _ atW6])
  have hg7:=hm7.B1 vG w (.slice none 0 0);have hupd:upd f w (some v') w=some v':=by unfold upd;rw[if_pos rfl]
  rw[hupd] at hg7;simp only[aOA] at hg7;have hlen':=hrow'.Jl;have c7:Ch AR H6 H7:=by
    obtain⟨es,c,e1⟩:=hmb6;rw[hH7];exact Ch.Tc e1 trivial _
  -- the ending: from a heap H8 that is H7 but for the map
  have fin: ∀(H8:aC)(f8:kS->Option Value),Ch AR H7 H8->(∀(b:Nat)(cs:List Value)(e:TypeId)(kk:Kind),H6[b]? =some (.cells cs e kk)->H8[b]? =some (.cells cs e kk))->H6.length<=H8.length->IsMap nD H8 mb f8->
      (∀w',w'≠w->f8 w'=f w')->(f8 w=some v'/\ks≠[]∨f8 w=none/\ks=[])->
      ldN 4 (.pointer (some ⟨H1.length,0,none⟩)) H8=some (x.dG,H8)/\stN 4 (.pointer (some ⟨H.length,0,none⟩)) x.dG H8=some (undef,H8.set H.length (pkB x))/\ldN 4 (.pointer (some ⟨H.length,0,none⟩)) (H8.set H.length (pkB x))=some (x.dG,H8.set H.length (pkB x))/\Ch AR H (H8.set H.length (pkB x))/\IsRings (H8.set H.length (pkB x)) a (nO L w) n ports lanes:=by
    intro H8 f8 c8 k68 hl8 hm8 hoth hself;have at48:=k68 _ _ _ _ at46;have at08:=k68 _ _ _ _ at06;have at08':H8[H.length]? =some (pkB pk0):=at08;have hlt8:=(aN6.mp at08).1;refine⟨vH at48,Ow at08',vH (aOc hlt8),?_,?_⟩
    · refine⟨by simp;omega,λb y hy hn'=> ?_⟩
      have hltb:=(aN6.mp hy).1;rw[pJ (by omega)]
      exact(((hc5.wF c6).wF c7).wF c8).2 b y hy hn'
    · have hRI:RI H8 a (nO L w) n ports lanes p s mb (l.set k0 (none,top)) k0 (free+1) (k0::fl) f8:=by
        refine⟨k68 _ _ _ _ hd6,hM6.Zc λb cs e kk hb _=>k68 b cs e kk hb,by simp[hi.len],by have:=hi.cnt;simp;omega,?_,?_,hm8,?_,?_,?_,hi.b1,hi.b2⟩
        · exact(List.Sublist.map _ (List.eraseP_sublist)).nodup hi.nd
        · intro e he
          obtain⟨h1,h2⟩:=hrest e he;obtain⟨q',d',hs⟩:=hi.full e h1
          exact⟨q',d',by rw[aN7 (λhh=>h2 hi.nd hh.symm),hs]⟩
        · intro w' hw'
          by_cases hww:w'=w
          · subst hww
            rw[B4,if_pos rfl,hq];rcases hself with⟨h1,_⟩|⟨_,h2⟩
            · rw[h1] at hw';cases hw'
            · exact h2
          · rw[hoth w' hww] at hw'
            rw[B4,if_neg (λhh=>hww hh.symm)]
            exact hi.no w' hw'
        · intro w' u hw'
          by_cases hww:w'=w
          · subst hww
            rw[B4,if_pos rfl,hq];rcases hself with⟨h1,h2⟩|⟨h1,_⟩
            · rw[h1] at hw'
              cases hw';refine⟨hrow'.sO λb hb=> ?_,h2⟩
              obtain⟨ys,hys⟩:=hrow'.blk hb;rw[hys,k68 _ _ _ _ hys]
            · rw[h1] at hw';cases hw'
          · rw[hoth w' hww] at hw'
            rw[B4,if_neg (λhh=>hww hh.symm)]
            refine⟨(hq6 w' u hw').sO λb hb=> ?_,(hi.yes w' u hw').2⟩
            obtain⟨ys,hys⟩:=(hq6 w' u hw').blk hb;rw[hys,k68 _ _ _ _ hys]
        · intro w1 w2 v1 v2 b hf1 hf2 hne' hh1 hh2
          by_cases e1:w1=w
          · rw[hoth w2 (λhh=>hne' (e1.trans hh.symm))] at hf2
            rw[e1] at hf1;rcases hself with⟨h1,_⟩|⟨h1,_⟩
            · rw[h1] at hf1
              cases hf1;exact hi.sep w w2 v v2 b hf hf2 (by rw[<-e1];exact hne') (hhome b hh1) hh2
            · rw[h1] at hf1;cases hf1
          · rw[hoth w1 e1] at hf1
            by_cases e2:w2=w
            · rw[e2] at hf2
              rcases hself with⟨h1,_⟩|⟨h1,_⟩
              · rw[h1] at hf2
                cases hf2;exact hi.sep w1 w v1 v b hf1 hf e1 hh1 (hhome b hh2)
              · rw[h1] at hf2;cases hf2
            · rw[hoth w2 e2] at hf2
              exact hi.sep w1 w2 v1 v2 b hf1 hf2 hne' hh1 hh2
      refine⟨_,_,_,_,_,_,_,_,hRI.aKY at08' λj q z d hl=> ?_⟩
      by_cases hj:k0=j
      · subst hj
        have hlt:=(aN6.mp hslot).1;rw[aOc hlt] at hl;cases hl
      · rw[aN7 hj] at hl
        have:=hqlt j q z d hl;omega
  rw[hw] at hg hg6 hset hg7;cases hks:ks with
  |nil=>
    subst hks;have e1:((([]:List Nat).map mS).length:Int)=0:=rfl;have e2:((((([]:List Nat).map mS).length:Nat):Int)==0)=true:=rfl;obtain⟨X8,hdel,hm8,⟨ye,yc,hX8⟩⟩:=hm7.aKM vG w (by rw[hupd];simp)
    have hmb7: ∃es c,H7[mb]? =some (.map es c):=by
      obtain⟨es,c,e1,e2⟩:=hm7
      exact⟨_,_,e1⟩
    obtain⟨r1,r2,r3,r4,r5⟩:=fin (H7.set mb X8) _ (by
      obtain⟨es,c,e1⟩:=hmb7;exact Ch.Tc e1 trivial _) (λb cs e kk hb=>by
        have h7:=k67 b cs e kk hb;have hne:b≠mb:=λhh=>by
          subst hh;obtain⟨es,c,e1⟩:=hmb7;rw[h7] at e1;cases e1
        rw[pJ hne,h7]) (by simp[len7]) hm8 (λw' hww=>by simp[upd,hww]) (.inr ⟨by simp[upd],rfl⟩)
    rw[hw] at hdel r5;refine⟨_,dA (cJ rfl) (by omega) ?_,r4,r5⟩
    rw[Oc];simp -implicitDefEqProofs only[wY,x_newB,g1,ext_0,ext_1,hst1,bW,hst2,r_nil,r_fAddr,aOs,l0,l1,hldw,hg,a1',a3 H5 rfl,hk0,hd,l16,hldw6,hg6,hcut,hset,l17,hldw7,hg7,hlen',b_eql,e2,hdel,r1,r2,r3,r_opt,ob_some,ifB_true,iteV_true,oneOf_two]
  |cons k1 ks1=>
    subst hks;have e2:(((((k1::ks1).map mS).length:Nat):Int)==0)=false:=by simp;omega
    obtain⟨r1,r2,r3,r4,r5⟩:=fin H7 _ (Ch.aD0 _ _) k67 (by omega) hm7 (λw' hww=>by simp[upd,hww]) (.inl ⟨hupd,by simp⟩)
    rw[hw] at r5;refine⟨_,dA (cJ rfl) (by omega) ?_,r4,r5⟩
    rw[Oc];simp -implicitDefEqProofs only[wY,x_newB,g1,ext_0,ext_1,hst1,bW,hst2,r_nil,r_fAddr,aOs,l0,l1,hldw,hg,a1',a3 H5 rfl,hk0,hd,l16,hldw6,hg6,hcut,hset,l17,hldw7,hg7,hlen',b_eql,e2,r1,r2,r3,r_opt,ob_some,ifB_true,iteV_true,iteV_false,oneOf_two]
end
section
variable {H : aC} {a n ports lanes m : Nat} {L : List En}
theorem aK2 (h:IsRings H a L n ports lanes)(hm:100<m)(w:kS)(x:Pkt): ∃H' L',lvl prog pk8 m (.func 177) [.pointer (some ⟨a,0,none⟩),.int .i64 w.1,.int .i64 w.2.1,.int .i64 w.2.2,x.dG] H=some (.bool (rA w ports lanes&&decide (L.length<n)),H')/\Ch AR H H'/\IsRings H' a L' n ports lanes/\
  ((rA w ports lanes&&decide (L.length<n))=true/\(∃k,L'=L++[(w,k,x)])∨(rA w ports lanes&&decide (L.length<n))=false/\L'=L):=by
 by_cases hv:(rA w ports lanes&&decide (L.length<n))=true
 ·rw[aOe,decide_eq_true_eq] at hv
  obtain⟨H',k,g1,g2,g3⟩:=aKX h hm w x hv.1 hv.2;rw[hv.1,aOQ hv.2]
  exact⟨H',_,g1,g2,g3,.inl ⟨rfl,k,rfl⟩⟩
 ·have hf:(rA w ports lanes&&decide (L.length<n))=false:=by simpa using hv
  obtain⟨H',g1,g2⟩:=aKW h hm w x (by
   rw[Bool.and_eq_false_iff] at hf;exact hf.imp id λh=>by have:=of_decide_eq_false h;omega)
  rw[hf];have hc:Ch AR H H':=Ch.ext g2;obtain⟨p,s,mb,l,top,free,fl,f,hi⟩:=h
  exact⟨H',L,g1,hc,⟨p,s,mb,l,top,free,fl,f,hi.Fx λb x hx _=>by rw[g2.2 b (aN6.mp hx).1 id,hx]⟩,.inr ⟨rfl,rfl⟩⟩
theorem IsRings.ext {H':aC}(h:IsRings H a L n ports lanes)(he:Ext H H'):IsRings H' a L n ports lanes:=by
 obtain⟨p,s,mb,l,top,free,fl,f,hi⟩:=h
 exact⟨p,s,mb,l,top,free,fl,f,hi.Fx λb x hx _=>by rw[he.2 b (aN6.mp hx).1 id,hx]⟩
theorem aK1 (h:IsRings H a L n ports lanes)(hm:100<m)(w:kS): ∃H',lvl prog pk8 m (.func 185) [.pointer (some ⟨a,0,none⟩),.int .i64 w.1,.int .i64 w.2.1,.int .i64 w.2.2] H=some (tV (nY L w),H')/\Ch AR H H'/\IsRings H' a (nO L w) n ports lanes:=by
 cases hp:nY L w with
 |nil=>
  obtain⟨H',g1,g2⟩:=aKZ h hm w.1 w.2.1 w.2.2 hp;have hL:nO L w=L:=by
   unfold nO;apply List.eraseP_of_forall_not;intro e he hd;have:e∈L.filter λe=>decide (e.1=w):=List.mem_filter.mpr ⟨he,hd⟩
   have hl:(nY L w).length=0:=by rw[hp];rfl
   unfold nY at hl;rw[aOk] at hl;rw[aOo.mp hl] at this;cases this
  rw[hL]
  exact⟨H',g1,Ch.ext g2,h.ext g2⟩
 |cons x xs=>
  obtain⟨H',g1,g2,g3⟩:=aK0 h hm w.1 w.2.1 w.2.2 hp
  exact⟨H',g1,g2,g3⟩
end
end Go.Proofs.YtmimdleeihjdoaaGreatDoor.Rg
namespace Go.Proofs.YtmimdleeihjdoaaGreatDoor
open Go.Proofs.Tryz
open Go.Abs
def tW (L:List Rg.En):List (Go.Abs.hZ×Pkt):=L.map λe=>(e.1,e.2.2)
theorem Zg (L:List Rg.En)(w:Go.Abs.hZ):Rg.nY L w=pC (tW L) w:=by
 unfold Rg.nY pC tW;induction L with
 |nil=>rfl
 |cons e L ih=>
  rw[aOC,List.filter_cons,List.filter_cons];by_cases h:e.1=w
  ·simp only[h,decide_true,if_true,aOC]
   rw[ih]
  ·simp only[h,decide_false]
   exact ih
theorem aK3 (L:List Rg.En)(w:Go.Abs.hZ):tW (Rg.nO L w)=oY (tW L) w:=by
 unfold Rg.nO oY tW;induction L with
 |nil=>rfl
 |cons e L ih=>
  rw[aOC,List.eraseP_cons,List.eraseP_cons];by_cases h:e.1=w
  ·simp only[h,decide_true,if_true,cond_true]
  ·simp only[h,decide_false,cond_false,aOC]
   rw[ih]
def RingsN (D:aC)(a:Nat)(L:List (Go.Abs.hZ×Pkt))(cap ports lanes:Nat):Prop:= ∃Le:List Rg.En,Rg.IsRings D a Le cap ports lanes/\tW Le=L
theorem aK7 (w:Go.Abs.hZ)(ports lanes:Nat):Rg.rA w ports lanes=Bt w ports lanes:=by
 unfold Rg.rA Bt;rw[Bool.eq_iff_iff];simp only[aOe,decide_eq_true_eq];omega
section
variable {D : aC} {m a cap ports lanes : Nat} {L : List (Go.Abs.hZ × Pkt)}
theorem RingsN.ext {D':aC}(h:RingsN D a L cap ports lanes)(he:Ext D D'):RingsN D' a L cap ports lanes:=by
 obtain⟨Le,h1,h2⟩:=h
 exact⟨Le,h1.ext he,h2⟩
theorem aK5 (hm:300<m)(po la sl:Nat)(h:1<=po/\po<=16/\1<=la/\la<=3/\1<=sl/\sl<=200): ∃a H',lvl prog pkN m (.func 92) [.int .i64 po,.int .i64 la,.int .i64 sl] D=some (.pointer (some ⟨a,0,none⟩),H')/\RingsN H' a [] sl po la/\Ext D H'/\D.length<=a:=by
 obtain⟨a,H',h1,h2,h3,h4⟩:=Rg.aKV (H:=D) hm po la sl h
 exact⟨a,H',h1,⟨[],h3,rfl⟩,h2,h4⟩
theorem aK4 (h:RingsN D a L cap ports lanes)(hm:0<m)(i o k:Int):lvl prog pkN m (.func 159) [.pointer (some ⟨a,0,none⟩),.int .i64 i,.int .i64 o,.int .i64 k] D=some (.int .i64 (pC L (i,o,k)).length,D):=by
 obtain⟨Le,h1,rfl⟩:=h;rw[<-Zg,<-Rg.Oq];exact Rg.aKU h1 hm i o k
theorem Zh (h:RingsN D a L cap ports lanes)(hm:100<m)(w:Go.Abs.hZ)(x:Pkt): ∃r H',lvl prog pkN m (.func 177) [.pointer (some ⟨a,0,none⟩),.int .i64 w.1,.int .i64 w.2.1,.int .i64 w.2.2,x.dG] D=some (r,H')/\RingsN H' a (if Bt w ports lanes=true/\L.length<cap then L++[(w,x)] else L) cap ports lanes:=by
 obtain⟨Le,h1,rfl⟩:=h;have hl:(tW Le).length=Le.length:=by simp[tW]
 obtain⟨H',L',g1,g2,g3,g4⟩:=Rg.aK2 h1 hm w x;rw[aK7,aOe,decide_eq_true_eq] at g4;refine⟨_,H',g1,⟨L',g3,?_⟩⟩;rw[hl];rcases g4 with⟨hv,k,rfl⟩|⟨hv,rfl⟩
 ·rw[if_pos hv]
  simp[tW]
 ·rw[if_neg (by intro hh;rw[hh.1,aOQ hh.2] at hv;cases hv)]
theorem aK6 (h:RingsN D a L cap ports lanes)(hm:100<m)(i o k:Int): ∃H',lvl prog pkN m (.func 185) [.pointer (some ⟨a,0,none⟩),.int .i64 i,.int .i64 o,.int .i64 k] D=some (Rg.tV (pC L (i,o,k)),H')/\RingsN H' a (oY L (i,o,k)) cap ports lanes:=by
 obtain⟨Le,h1,rfl⟩:=h;obtain⟨H',g1,g2,g3⟩:=Rg.aK1 h1 hm (i,o,k);rw[<-Zg,<-aK3]
 exact⟨H',g1,_,g3,rfl⟩
end
section
variable {D : aC} {m a lanes queue : Nat} {L G : List Pkt} {w0 w1 w2 cv : Value}
theorem aLd:bld prog 31 []=some pk0.dG:=rfl
theorem Fy {H:aC}{b:Nat}{y:Pkt}(x:Pkt)(hb:H[b]? =some (dS y)):stN 4 (.pointer (some ⟨b,0,none⟩)) x.dG H=some (undef,H.set b (dS x)):=yU hb (by decide) rfl rfl (aOb 4) rfl
theorem aK8:prog.cellsOf 31=4:=by kernel_rfl
theorem aLb (h:HostI D a L G lanes queue w0 w1 w2 cv)(hm:3<m)(k:Nat)(hk:k<lanes)(hw:fP L k=[]): ∃H',lvl prog pkN m (.func 176) [.pointer (some ⟨a,0,none⟩),.int .i64 k] D=some (.tuple #[pk0.dG,.bool false],H')/\HostAt H' a L G lanes queue:=by
 refine k8 (cJ rfl) (by omega) ?_
 rw[Xc];obtain⟨u0,u1,u2,cu,h'⟩:HostAt (D++[dS pk0]) a L G lanes queue:=HostAt.ext ⟨w0,w1,w2,cv,h⟩ (Fr.app _ _ _);have e0: ∀H:aC,H++[Blk.cells [Value.int .i64 0,.int .i64 0,.int .i64 0,.int .u32 0] 31 .fix]=H++[dS pk0]:=λ_=>rfl
 have e1:=N4 h' (m:=m-1) (by omega) k hk
 rw[hw] at e1;have st:stN 4 (.pointer (some ⟨D.length,0,none⟩)) pk0.dG (D++[dS pk0])=some (undef,D++[dS pk0]):=by
  rw[Fy pk0 (dK _ _),nL]
 have l4:=(pR (dK D (dS pk0))).2;have c1:((([]:List Pkt).length:Int)==0)=true:=rfl;simp -implicitDefEqProofs only[gsR,e0,e1,c1,aLd,st,l4]
 exact⟨_,rfl,_,_,_,_,h'⟩
theorem HostI.ext {D':aC}(h:HostI D a L G lanes queue w0 w1 w2 cv)(he:Ext D D'):HostI D' a L G lanes queue w0 w1 w2 cv:=
 ⟨by rw[he.2 a (dC h.blk) id,h.blk],h.lanes,h.queue,λk hk=>(h.q k hk).ext he,h.came.ext he,h.apart,h.apartC⟩
theorem aLc (h:HostI D a L G lanes queue w0 w1 w2 cv)(hm:3<m)(k:Nat)(hk:k<lanes){x:Pkt}{xs:List Pkt}(hw:fP L k=x::xs): ∃H',lvl prog pkN m (.func 176) [.pointer (some ⟨a,0,none⟩),.int .i64 k] D=some (.tuple #[x.dG,.bool true],H')/\HostAt H' a (q8 L k) G lanes queue:=by
 have h3:k<3:=aOl hk h.lanes.2;refine k8 (cJ rfl) (by omega) ?_
 rw[Xc];have e0: ∀H:aC,H++[Blk.cells [Value.int .i64 0,.int .i64 0,.int .i64 0,.int .u32 0] 31 .fix]=H++[dS pk0]:=λ_=>rfl
 obtain⟨D1,hD1⟩: ∃D1,D1=D++[dS pk0]:=⟨_,rfl⟩;obtain⟨D3,hD3⟩: ∃D3,D3=D1++[dS x]:=⟨_,rfl⟩;have h1l:D1.length=D.length+1:=by rw[hD1];simp
 have i1:HostI D1 a L G lanes queue w0 w1 w2 cv:=h.ext (by rw[hD1];exact Fr.app _ _ _)
 have i3:HostI D3 a L G lanes queue w0 w1 w2 cv:=i1.ext (by rw[hD3];exact Fr.app _ _ _)
 have e1:=N4 i1 (m:=m-1) (by omega) k hk
 rw[hw] at e1;have c1:(((x::xs).length:Int)==0)=false:=by simp;omega
 have e2:=Fl 3 1 a 0 .i64 k h3;rw[Nat.mul_one,aOs] at e2;have q1:=i1.q k h3;rw[hw] at q1;obtain⟨b,o,a1,_,a3⟩:=q1.rs.iS y8 (i:=0) (x:=x) rfl .i64;have a1:bH 4 (w3 w0 w1 w2 k) (.int .i64 0)=some (.pointer (some ⟨b,o,none⟩)):=a1;have a3:=(a3 D1 rfl).1;have a3':ldN 4 (.pointer (some ⟨b,o,none⟩)) D1=some (x.dG,D1):=a3;have st0:stN 4 (.pointer (some ⟨D1.length,0,none⟩)) x.dG (D1++[dS pk0])=some (undef,D3):=by
  rw[Fy x (dK _ _),nL,hD3]
 have q3:=i3.q k h3;rw[hw] at q3;obtain⟨v',g1,g2,g3⟩:=q3.aJW (P:=prog) y8 aK8;have g1:=g1 D3 q3;have st1:stN 1 (.pointer (some ⟨a,k,none⟩)) v' D3=some (undef,D3.set a (.cells (([w0,w1,w2,cv,.int .i64 lanes,.int .i64 queue]:List Value).set k v') 178 .fix)):=sY i3.blk (by decide) (by simp;omega) g2.y7.1 g2.y7.2
 obtain⟨Y,hY⟩: ∃Y,Y=Blk.cells (([w0,w1,w2,cv,.int .i64 lanes,.int .i64 queue]:List Value).set k v') 178 .fix:=⟨_,rfl⟩;rw[<-hY] at st1;have hal:a<D.length:=dC h.blk;have b12:(D3.set a Y)[D1.length]? =some (dS x):=by rw[aN7 (by omega),hD3,dK]
 have b00:(D3.set a Y)[D.length]? =some (dS pk0):=by rw[aN7 (by omega),hD3,hD1,aN9 (by simp),dK]
 have l12:=(pR b12).2;have st2:stN 4 (.pointer (some ⟨D.length,0,none⟩)) x.dG (D3.set a Y)=some (undef,(D3.set a Y).set D.length (dS x)):=yU b00 (by decide) rfl rfl (aOb 4) rfl
 have l00:=(pR (iT (y:=dS x) b00)).2;simp -implicitDefEqProofs only[gsR,e0,<-hD1,e1,c1,e2,B0 i1 h3,a1,a3',st0,B0 i3 h3,g1,st1,l12,st2,l00];refine⟨_,rfl,?_⟩;have hE:(D3.set a Y).set D.length (dS x)=(D++[dS x]++[dS x]).set a Y:=by
  rw[List.set_comm _ _ (by omega),hD3,hD1]
  congr 1
  simp
 rw[hE,hY];have he1:Ext D (D++[dS x]):=Fr.app _ _ _;have he:Ext D (D++[dS x]++[dS x]):=he1.tr (Fr.app _ _ _);have q0:=h.q k h3;rw[hw] at q0;refine h.Yg h3 (he.Ay λ_ h=>h.elim) ?_ (λb hb=> .inl (g3 b hb)) λj hj hjk=> ?_
 ·rw[Fm,if_pos rfl,hw]
  refine g2.wX λb hb=> ?_
  have hb2:=(h.q k h3).vF (g3 b hb);rw[hD3,hD1,aOd,aN9 hb2,aOd,aN9 hb2]
 ·rw[Fm,if_neg (by omega)]
theorem aLf (b o n c:Nat):bin prog .eql 42 (.slice (some ⟨b,o,none⟩) n c) (.slice none 0 0)=some (.bool false):=by
 have h1:prog.underlying 42=some (.slice 31):=by kernel_rfl
 simp[bin,dU,oN,mJ,eqV,h1]
theorem aLe:bin prog .eql 42 (.slice none 0 0) (.slice none 0 0)=some (.bool true):=by
 have h1:prog.underlying 42=some (.slice 31):=by kernel_rfl
 simp[bin,dU,oN,mJ,eqV,h1]
theorem aK9 {v:Value}{xs:List Pkt}(hx:Rs Pkt.oW 31 D v xs)(hr:jQ xs.length 32=true)(hm:0<m): ∃H' u,lvl prog pkN m (.func 121) [v] D=some (u,H')/\Ext D H'/\Rw Pkt.oW 31 4 H' u xs/\New D u:=by
 rcases hx with⟨rfl,rfl⟩|⟨b,o,c,hv,hlc,hx2⟩
 ·refine⟨D,.slice none 0 0,dA (cJ rfl) hm ?_,Fr.nF _ _,Rw.lE,New.nG _⟩
  rw[Xa];simp -implicitDefEqProofs only[gsR,aLe]
 ·have b0:dJ 31 4 0 [.int .i64 0,.int .i64 0,.int .i64 0,.int .u32 0] [] D=some (.slice (some ⟨D.length,0,none⟩) 0 0,D++[.cells [] 31 .row]):=rfl
  have h0:Rw Pkt.oW 31 4 (D++[.cells [] 31 .row]) (.slice (some ⟨D.length,0,none⟩) 0 0) []:=⟨rfl,.inr ⟨D.length,0,[],rfl,aOb _,rfl,by simp⟩⟩
  have hx:Rs Pkt.oW 31 D v xs:= .inr ⟨b,o,c,hv,hlc,hx2⟩;obtain⟨u,H',g1,g2,g3,g4⟩:=h0.tL y8 N5 (by decide) (by':=32) (H0:=D) (hx.ext (Fr.app _ _ _)) (λb ⟨_,_,_,h⟩=>by cases h;exact aOb _) (Fr.app _ _ _) (by simpa using hr)
  refine iP (cJ rfl) hm ⟨H',u,?_,g4,g2,g3⟩;subst hv;rw[Xa];simp -implicitDefEqProofs only[gsR,aLf,b0,g1]
theorem aLa (h:HostI D a L G lanes queue w0 w1 w2 cv)(hm:1<m)(hr:jQ G.length 32=true): ∃H' v,lvl prog pkN m (.func 52) [.pointer (some ⟨a,0,none⟩)] D=some (v,H')/\Ext D H'/\Rw Pkt.oW 31 4 H' v G/\New D v:=by
 obtain⟨H',u,g1,g2⟩:=aK9 (D:=D) (m:=m-1) h.came.rs hr (by omega)
 refine iP (cJ rfl) (by omega) ⟨H',u,?_,g2⟩
 rw[aI7];have l3:ld1 (.pointer (some ⟨a,3,none⟩)) D=some (cv,D):=cT h.blk rfl;simp -implicitDefEqProofs only[gsR,l3,g1]
end
def eE (b n:Nat):Value:= .slice (some ⟨b,0,none⟩) n n
section
variable {H : aC} {m : Nat}
theorem Zj:prog.underlying 187=some (.int .u64):=by kernel_rfl
theorem aLg (hm:1<m)(n:Nat)(hn:n<=16):lvl prog pkN m (.func 237) [.int .u64 1,.int .u64 n] H=some (.tuple #[.int .u64 0,.int .u64 n],H):=by
 have main:lvl prog pkN (m-1) (.func 273) [.int .u64 1,.int .u64 n] H=some (.tuple #[.int .u64 0,.int .u64 n],H):=by
  refine dA (cJ rfl) (by omega) ?_
  rw[aIY];have p1:bin prog .and 83 (.int .u64 1) (.int .u64 4294967295)=some (.int .u64 1):=by kernel_rfl
  have p2:bin prog .shr 83 (.int .u64 1) (.int .u64 32)=some (.int .u64 0):=by kernel_rfl
  have p3:bin prog .and 83 (.int .u64 n) (.int .u64 4294967295)=some (.int .u64 n):=by
   have:=wK (P:=prog) .u64 rfl 83 (a:=n) (b:=4294967295) (by show _<18446744073709551616;omega) (by show _<18446744073709551616;omega)
   rw[show n&&&4294967295=n by rw[show(4294967295:Nat)=2 ^ 32-1 from rfl,Nat.and_two_pow_sub_one_eq_mod];exact aOF (by omega)] at this
   exact this
  have p4:bin prog .shr 83 (.int .u64 n) (.int .u64 32)=some (.int .u64 0):=by
   have:=wL (P:=prog) .u64 .u64 83 n 32 (by decide)
   rw[Nat.shiftRight_eq_div_pow,Nat.div_eq_of_lt (by omega)] at this
   exact this
  have q1:IntKind.u64.wrap (1*(n:Int))=n:=by rw[Int.one_mul];exact yR n (by omega)
  have q2:IntKind.u64.wrap (0*(n:Int))=0:=by rw[Int.zero_mul];rfl
  have q3:IntKind.u64.wrap (0+0)=0:=rfl;have q4:IntKind.u64.wrap (1*0)=0:=rfl;have q5:IntKind.u64.wrap (0*0)=0:=rfl;have p5:bin prog .and 83 (.int .u64 0) (.int .u64 4294967295)=some (.int .u64 0):=by kernel_rfl
  have p6:bin prog .shr 83 (.int .u64 0) (.int .u64 32)=some (.int .u64 0):=by kernel_rfl
  simp -implicitDefEqProofs only[gsR,p1,p2,p3,p4,Rl,q1,q2,cI,q3,q4,q5,p5,p6]
 refine dA (cJ rfl) (by omega) ?_
 rw[aIS];simp -implicitDefEqProofs only[gsR,main]
def lJ (n k:Nat):Blk:= .cells (List.replicate k (.int .i64 (-1))++List.replicate (n-k) (.int .i64 0)) 3 .row
theorem aLh (k:Nat):dR (List.replicate k (Value.int .i64 (-1)))=true:=by
 unfold dR;rw[List.all_replicate]
 split<;>rfl
theorem Zi {n k j:Nat}(hj:k+j<=n):eH (List.replicate k (Value.int .i64 (-1))++List.replicate (n-k) (.int .i64 0)) k (List.replicate j (.int .i64 (-1)))=List.replicate (k+j) (.int .i64 (-1))++List.replicate (n-(k+j)) (.int .i64 0):=by
 have:=uQ (List.replicate j (Value.int .i64 (-1))) (List.replicate j (.int .i64 0)) (List.replicate k (Value.int .i64 (-1))) (List.replicate (n-(k+j)) (.int .i64 0)) (by simp)
 rw[List.length_replicate] at this;rw[show List.replicate (n-k) (Value.int .i64 0)=List.replicate j (.int .i64 0)++List.replicate (n-(k+j)) (.int .i64 0) by rw[List.replicate_append_replicate];congr 1;omega]
 rw[<-aOd,this,List.replicate_append_replicate]
theorem aLi {n k:Nat}(G:aC)(hk:k<=n)(h1:1<=k)(c:Nat):cpy 1 (.slice (some ⟨G.length,k,none⟩) (n-k) c) (.slice (some ⟨G.length,0,none⟩) k n) (G++[lJ n k])=some (.int .i64 (min k (n-k):Nat),G++[lJ n (k+min k (n-k))]):=by
 have hb:(G++[lJ n k])[G.length]? =some (lJ n k):=dK _ _;have hs:jV 1 (.slice (some ⟨G.length,0,none⟩) k n) (min k (n-k)) (G++[lJ n k])=some (List.replicate (min k (n-k)) (.int .i64 (-1))):=by
  unfold jV;by_cases h0:min k (n-k)=0
  ·simp[h0]
  ·simp only
   rw[if_neg h0,hb];unfold lJ;simp only;rw[if_pos (by simp;omega)]
   congr 1
   rw[List.drop_zero,List.take_append_of_le_length (by simp;omega),List.take_replicate]
   congr 1
   omega
 unfold cpy;have h2:mK (.slice (some ⟨G.length,0,none⟩) k n)=some k:=rfl;rw[h2];simp only;rw[hs];simp only;rw[hb];unfold lJ;simp only;rw[if_pos ⟨by decide,by simp;omega,aLh _⟩,Zi (by omega),nL]
theorem aLk {n:Nat}(hn:n<=16){G:aC}: ∀(q k l:Nat),n-k=q->k<=n->1<=k->q<l-> ∀(x0 x1 x2 x3 x4 x5 x6 x9 bK bM aR aN aM aP aZ bG aQ bC bJ bL bI bE aS aT aU aV aW aX aY bA bB bN bO bP bQ bR bS bT bU bV bY cE cG cH cL cQ:Value),
  aI l (aK prog (lvl prog pkN m) (aI m) Mo) (Mp (lvl prog pkN m) (aI m)) [x0,x1,x2,x3,x4,x5,x6,(eE G.length n),(.int .i64 (k:Nat)),x9,bK,bM,aR,aN,aM,aP,aZ,bG,aQ,bC,bJ,bL,bI,bE,aS,aT,aU,aV,aW,aX,aY,bA,bB,bN,bO,bP,bQ,bR,bS,bT,bU,bV,bY,cE,cG,cH,cL,cQ] (G++[lJ n k])=some (eE G.length n,G++[lJ n n]):=by
 intro q;induction q using Nat.strongRecOn with
 |ind q ih=>
  intro k l hq hk h1 hl;intros;obtain⟨l,rfl⟩: ∃l',l=l'+1:=⟨l-1,by omega⟩
  have e1:bX (eE G.length n)=some (.int .i64 n):=rfl;rw[aI,aIt];by_cases hc:k=n
  ·subst hc
   have c1:decide ((k:Int)<(k:Int))=false:=by simp
   simp -implicitDefEqProofs only[gsR,e1,c1];rw[aIx];simp -implicitDefEqProofs only[gsR]
  ·have c1:decide ((k:Int)<(n:Int))=true:=by rw[decide_eq_true_eq];omega
   have hb:(G++[lJ n k])[G.length]? =some (lJ n k):=dK _ _;have s1:slc prog 1 (eE G.length n) (some (.int .i64 (k:Nat))) none none (G++[lJ n k])=some (.slice (some ⟨G.length,k,none⟩) (n-k) (n-k),G++[lJ n k]):=by
    have:=tK (P:=prog) (sz:=1) (b:=G.length) (o:=0) (len:=n) (cap:=n) (lo:=some (.int .i64 (k:Nat))) (hi:=none) (mx:=none) hb (λ_=>by kernel_rfl) (nT 0 .i64 k) rfl rfl hk (aOb _) (aOb _)
    rw[aOs,Nat.mul_one] at this;exact this
   have s2:slc prog 1 (eE G.length n) none (some (.int .i64 (k:Nat))) none (G++[lJ n k])=some (.slice (some ⟨G.length,0,none⟩) k n,G++[lJ n k]):=by
    have:=tK (P:=prog) (sz:=1) (b:=G.length) (o:=0) (len:=n) (cap:=n) (lo:=none) (hi:=some (.int .i64 (k:Nat))) (mx:=none) hb (λ_=>by kernel_rfl) rfl (nT n .i64 k) rfl (Nat.zero_le _) hk (aOb _)
    rw[Nat.zero_mul] at this;exact this
   have s3:=aLi G hk h1 (n-k);have e4:IntKind.i64.wrap ((k:Int)+((min k (n-k):Nat):Int))=((k+min k (n-k):Nat):Int):=by rw[dM (by omega) (by omega)];omega
   simp -implicitDefEqProofs only[gsR,e1,c1,s1,s2,s3,cI,e4];exact ih (n-(k+min k (n-k))) (by omega) (k+min k (n-k)) l rfl (by omega) (by omega) (by omega) ..
theorem aLj (hm:40<m)(n:Nat)(h1:1<=n)(hn:n<=16){b c:Nat}{e:TypeId}{kk:Kind}(hb:H[b]? =some (.cells [.int .i64 (-1)] e kk)):lvl prog pkN m (.func 179) [.slice (some ⟨b,0,none⟩) 1 c,.int .i64 n] H=some (eE H.length n,H++[lJ n n]):=by
 refine dA (cJ rfl) (by omega) ?_
 rw[aIy];have c1:decide ((n:Int)<0)=false:=by rw[decide_eq_false_iff_not];omega
 have c2:decide ((0:Int)<0)=false:=rfl;have c3:decide ((9223372036854775807:Int)<(n:Int))=false:=by rw[decide_eq_false_iff_not];omega
 have e0:bX (.slice (some ⟨b,0,none⟩) 1 c)=some (.int .i64 1):=rfl;have e1:IntKind.u64.wrap (1:Int)=1:=rfl;have e2:IntKind.u64.wrap (n:Int)=n:=yR n (by omega)
 have e3:=aLg (H:=H) (m:=m-1) (by omega) n hn
 have x0:ext 0 (.tuple #[.int .u64 0,.int .u64 n])=some (.int .u64 0):=rfl;have x1:ext 1 (.tuple #[.int .u64 0,.int .u64 n])=some (.int .u64 n):=rfl;have e4:IntKind.i64.wrap (n:Int)=n:=yS n (by omega)
 have mk:=wC (H:=H) 3 1 8 [.int .i64 0] .i64 .i64 (n:Int) (by omega) (by omega) (by omega) rfl
 have hz:H++[Blk.cells (List.replicate (n:Int).toNat [Value.int .i64 0]).flatten 3 .row]=H++[lJ n 0]:=by
  have: ∀n,(List.replicate n [Value.int .i64 0]).flatten=List.replicate n (.int .i64 0):=by
   intro n;induction n with
   |zero=>rfl
   |succ n ih=>rw[List.replicate_succ,aOH,ih];rfl
  rw[aOz,this];rfl
 rw[hz,aOz] at mk;have cp:cpy 1 (.slice (some ⟨H.length,0,none⟩) n n) (.slice (some ⟨b,0,none⟩) 1 c) (H++[lJ n 0])=some (.int .i64 (1:Nat),H++[lJ n 1]):=by
  have hs:jV 1 (.slice (some ⟨b,0,none⟩) 1 c) 1 (H++[lJ n 0])=some [.int .i64 (-1)]:=by
   unfold jV;simp only;rw[if_neg (by decide),nK hb]
   rfl
  unfold cpy;have h2:mK (.slice (some ⟨b,0,none⟩) 1 c)=some 1:=rfl;rw[h2];simp only;rw[Nat.min_eq_left h1,hs];simp only;rw[dK];unfold lJ;simp only;rw[if_pos ⟨by decide,by simp;omega,rfl⟩]
  have:=Zi (n:=n) (k:=0) (j:=1) (by omega)
  rw[show List.replicate 1 (Value.int .i64 (-1))=[.int .i64 (-1)] from rfl] at this
  rw[this,nL];rfl
 simp -implicitDefEqProofs only[gsR,c1,c2,c3,e0,eZ _ _ iU Zj,e1,e2,e3,x0,x1,eZ _ _ Zj iU,e4,mk,cp];exact aLk hn (n-1) 1 (m-1) rfl h1 (aOb _) (by omega) ..
end
end Go.Proofs.YtmimdleeihjdoaaGreatDoor
namespace Go.Abs
open Classical
def Blks (l:List (Nat×Blk))(D:aC):Prop:= ∀p∈l,D[p.1]? =some p.2
def InB (l:List (Nat×Blk))(b:Nat):Prop:= ∃p∈l,p.1=b
def rV (l:List (Nat×Blk)):Prop:= ∀p∈l,p.2≠Blk.dead
theorem Blks.dx (l:List (Nat×Blk)):DX (Blks l):=λD D' h he p hp=>by
 have h1:=h p hp;rw[he.2 p.1 (aN6.mp h1).1 id,h1]
theorem Blks.aLl {l:List (Nat×Blk)}(hl:rV l):Pos (Blks l):=λD H hs h p hp=>hs.2 p.1 p.2 (h p hp) (hl p hp)
theorem Has.inB {l:List (Nat×Blk)}{F:Nat->Prop}{H:aC}(h:Has (Blks l) F H)(hl:rV l){b:Nat}(hb:InB l b):F b:=by
 obtain⟨p,hp,rfl⟩:=hb;have h1:=h.at_ p hp;refine Classical.byContradiction λhF=> ?_
 have hlt:=(aN6.mp h1).1;rw[sQ] at hlt;rw[uR hF hlt] at h1;exact hl p hp (aOJ h1).symm
theorem Has.Fz {l:List (Nat×Blk)}{F:Nat->Prop}{H:aC}(hb:Blks l H)(hF: ∀p∈l,F p.1)(hlt: ∀b,F b->b<H.length):Has (Blks l) F H:=
 ⟨λp hp=>by rw[Az (hF p hp),hb p hp],hlt⟩
theorem Mv.aLm {F:Nat->Prop}{A:Nat->Prop}{H H':aC}(h:Fr A H H')(hA: ∀b,A b->F b):Mv F F H H':=⟨h.1,λ_ hb=> .inl hb,λb hb hF=>h.2 b hb λhh=>hF (hA b hh)⟩
theorem aLo {ι α:Type}(f:ι->α)(i:ι):updI f i (f i)=f:=by
 funext j
 unfold updI;split
 ·rename_i h
  rw[h]
 ·rfl
theorem Sep.aLn {ι:Type}{A:ι->aC->Prop}{F:ι->Nat->Prop}{H H':aC}(h:Sep A F H)(i:ι)(hA: ∀j,j≠i->DX (A j)){l l':List (Nat×Blk)}(hi:A i=Blks l)(hl:rV l)(hsub: ∀p∈l',InB l p.1)(hf:Fr (InB l) H H')(hB:Blks l' H'):
  Sep (updI A i (Blks l')) F H'/\Mv (Un F) (Un F) H H':=by
 have h0:=h.own i;rw[hi] at h0;have hm:Mv (F i) (F i) H H':=Mv.aLm hf λb hb=>h0.inB hl hb
 have h1:Has (Blks l') (F i) H':=Has.Fz hB (λp hp=>h0.inB hl (hsub p hp)) λb hb=>aOl (h0.lt b hb) hf.1
 have h2:=h.Jm i hA h1 hm;rw[aLo] at h2;exact h2
theorem Sep.see {ι:Type}{A:ι->aC->Prop}{F:ι->Nat->Prop}{H:aC}(h:Sep A F H)(i:ι){l:List (Nat×Blk)}(hi:A i=Blks l)(hl:rV l):Blks l H:=by
 have h0:=h.own i;rw[hi] at h0;exact h0.aEa (Blks.aLl hl)
theorem Sep.w7 {ι:Type}{A:ι->aC->Prop}{F:ι->Nat->Prop}{H:aC}(h:Sep A F H)(i:ι){l:List (Nat×Blk)}(hi:A i=Blks l)(hl:rV l){b:Nat}{x:Blk}(hm:(b,x)∈l):H[b]? =some x:=h.see i hi hl _ hm
theorem Sep.F5 {ι:Type}{A:ι->aC->Prop}{F:ι->Nat->Prop}{H H':aC}(h:Sep A F H)(i:ι)(hA: ∀j,DX (A j))(hi: ∀b,¬F i b){B:aC->Prop}{G:Nat->Prop}(hB:Has B G H')(he:Ext H H')(hn: ∀b,G b->H.length<=b):
  Sep (updI A i B) (updI F i G) H':=by
 have hm:Mv (F i) G H H':=⟨he.1,λb hb=> .inr (hn b hb),λb hb _=>he.2 b hb id⟩
 exact(h.Jm i (λj _=>hA j) hB hm).1
theorem Has.Zk {A:aC->Prop}{H:aC}{P:Program}{pr:iM}(hp:FrP pr){n:Nat}{fn:Fn}{args:List Value}{B:Value->aC->Prop}
  (hc: ∀D:aC,D.length=H.length->(∀(b:Nat)(x:Blk),D[b]? =some x->x=Blk.dead)-> ∃r D',lvl P pr n fn args D=some (r,D')/\B r D'):
  ∃r H' G,lvl P pr n fn args H=some (r,H')/\Has (B r) G H'/\Ext H H'/\ ∀b,G b->H.length<=b:=by
 obtain⟨r,D',h1,h2⟩:=hc (rst (λ_=>False) H) (sQ _ _) λb x hb=>by
  have hlt:=(aN6.mp hb).1;rw[sQ] at hlt;rw[uR (λh=>h) hlt] at hb
  cases hb;rfl
 obtain⟨H',F',h3,rfl,h4,h5⟩:=Tm hp h1
 exact⟨r,H',F',h3,⟨h2,h5⟩,h4.Tk.2,h4.Tk.1⟩
end Go.Abs
namespace Go.Abs
theorem rB (p:Nat->Bool){n:Nat}(hn:n<=16):dB p n<65536:=aOl (A7 p n) (show 2 ^ n<=2 ^ 16 from Nat.pow_le_pow_right (by omega) hn)
def eY (m:List Int)(n:Nat):Nat:=dB (λi=>decide (m.getD i 0= -1)) n
def kE (m:List Int)(n:Nat):Nat:=dB (λk=>decide ((k:Int)∉m)) n
theorem Oy (n:Nat):dB (λ_=>true) n=2 ^ n-1:=by
 induction n with
 |zero=>rfl
 |succ n ih=>
  rw[dB,ih,if_pos rfl,Nat.pow_succ];have:0<2 ^ n:=Nat.pow_pos (by omega)
  omega
theorem aLx (n:Nat):eY (List.replicate n (-1)) n=2 ^ n-1:=by
 rw[<-Oy];refine Dt λi hi=> ?_
 rw[decide_eq_true_eq,aOa,List.getElem?_replicate_of_lt hi];rfl
theorem aLA (n:Nat):kE (List.replicate n (-1)) n=2 ^ n-1:=by
 rw[<-Oy];refine Dt λi hi=> ?_
 rw[decide_eq_true_eq];intro h;have:=List.eq_of_mem_replicate h;omega
theorem aLw {m:List Int}{n i k:Nat}(hi:i<n)(hl:m.length=n):eY (m.set i (k:Int)) n=lF (eY m n) (2 ^ i):=by
 apply Nat.eq_of_testBit_eq;intro j;rw[Jn,eY,eY,lA,lA,Nat.testBit_two_pow];by_cases hj:i=j
 ·subst hj
  have:(m.set i (k:Int)).getD i 0=k:=by rw[aOa,aOc (by omega),aOA]
  rw[this];simp
 ·rw[aOa,aN7 hj,<-aOa]
  simp[hj]
theorem aLy {m:List Int}{n i k:Nat}(hi:i<n)(hl:m.length=n)(hf:m.getD i 0= -1):kE (m.set i (k:Int)) n=lF (kE m n) (2 ^ k):=by
 apply Nat.eq_of_testBit_eq;intro j;rw[Jn,kE,kE,lA,lA,Nat.testBit_two_pow];have hi':i<m.length:=by omega
 have key:((j:Int)∈m.set i (k:Int))↔((j:Int)∈m∨j=k):=by
  constructor
  ·intro h
   rcases List.mem_or_eq_of_mem_set h with h|h
   ·exact .inl h
   ·exact .inr (by omega)
  ·intro h
   rcases h with h|h
   ·obtain⟨l,hl,he⟩:=List.mem_iff_getElem.mp h
    have hne:l≠i:=by
     intro hh;subst hh;rw[aOa,aN8 hl,aOA,he] at hf;omega
    refine List.mem_iff_getElem.mpr ⟨l,by simpa using hl,?_⟩
    rw[List.getElem_set_ne (λhh=>hne hh.symm),he]
   ·subst h
    exact List.mem_set hi' _
 rw[show(decide ((j:Int)∉m.set i (k:Int)))=(decide ((j:Int)∉m)&& !decide (k=j)) by
  rw[Bool.eq_iff_iff];simp only[decide_eq_true_eq,aOe,Bool.not_eq_true',decide_eq_false_iff_not];rw[key];constructor
  ·intro h
   exact⟨λhh=>h (.inl hh),λhh=>h (.inr hh.symm)⟩
  ·rintro ⟨h1,h2⟩ h
   rcases h with h|h
   ·exact h1 h
   ·exact h2 h.symm]
 rw[Bool.and_assoc]
def kL (rows:List Nat)(i k:Nat):Bool:=(rows.getD i 0).testBit k
def grM (gr:Nat->Option Nat)(kk i:Nat):Nat:=dB (λk=>gr k==some i) kk
def grL (gr:Nat->Option Nat)(n kk:Nat):List Nat:=(List.range n).map (grM gr kk)
theorem w8 (gr:Nat->Option Nat)(n kk:Nat):(grL gr n kk).length=n:=by simp[grL]
theorem B5 {gr:Nat->Option Nat}{n kk i:Nat}(hi:i<n):(grL gr n kk)[i]? =some (grM gr kk i):=by simp[grL,hi]
theorem aLt (gr:Nat->Option Nat)(n:Nat):grL gr n 0=List.replicate n 0:=by
 apply aOI;intro i;by_cases hi:i<n
 ·rw[B5 hi,List.getElem?_replicate_of_lt hi]
  rfl
 ·rw[aOh (by rw[w8];omega),aOh (by simp;omega)]
theorem Zp {gr:Nat->Option Nat}{kk i:Nat}(h:gr kk≠some i):grM gr (kk+1) i=grM gr kk i:=by
 unfold grM;rw[dB,if_neg (by simpa using h),Nat.add_zero]
theorem aLu {gr:Nat->Option Nat}{kk i:Nat}(h:gr kk=some i):grM gr (kk+1) i=grM gr kk i|||2 ^ kk:=by
 apply Nat.eq_of_testBit_eq;intro j;rw[Tt,grM,grM,lA,lA];by_cases hj:j=kk
 ·subst hj
  simp[h]
 ·by_cases hlt:j<kk
  ·simp[hlt,show j<kk+1 by omega,show¬kk=j by omega]
  ·simp[hlt,show¬j<kk+1 by omega,show¬kk=j by omega]
theorem Zn {gr:Nat->Option Nat}{n kk:Nat}(h: ∀i,i<n->gr kk≠some i):grL gr n (kk+1)=grL gr n kk:=by
 unfold grL;refine List.map_congr_left λi hi=>Zp (h i (aOL.mp hi))
theorem aLs {gr:Nat->Option Nat}{n kk i:Nat}(hi:i<n)(h:gr kk=some i):grL gr n (kk+1)=(grL gr n kk).set i (grM gr kk i|||2 ^ kk):=by
 apply aOI;intro j;by_cases hj:j<n
 ·rw[B5 hj]
  by_cases hij:i=j
  ·subst hij
   rw[aOc (by rw[w8];exact hi),aLu h]
  ·rw[aN7 hij,B5 hj,Zp (by rw[h];simp;exact hij)]
 ·rw[aOh (by rw[w8];omega),aOh (by rw[List.length_set,w8];omega)]
theorem Zo (gr:Nat->Option Nat){kk:Nat}(hk:kk<=16)(i:Nat):grM gr kk i<65536:=rB _ hk
theorem aLv {rows:List Nat}{m:List Int}{G:List Nat}{n k:Nat}(hr:rows.length=n)(hk:k<n):
  nU (kL rows) m G n k=if(k:Int)∈m then none else jX (λi=>((jY rows n).getD k 0&&&eY m n).testBit i) (G.getD k 0) n:=by
 unfold nU;split
 ·rfl
 ·refine Dr λi hi=> ?_
  have hc:(jY rows n).getD k 0=dB (λi=>(rows.getD i 0).testBit k) rows.length:=by
   rw[aOa,jY,aOj,aOO hk];rfl
  rw[Nat.testBit_and,hc,eY,lA,lA,hr,aOQ hi,aOu,aOu,kL,Bool.and_comm]
theorem aLz {m:List Int}{n k:Nat}(hk:k<n):(kE m n).testBit k=decide ((k:Int)∉m):=by rw[kE,lA,aOQ hk,aOu]
theorem aLr {rows:List Nat}{n k:Nat}(hr:rows.length<=16)(hk:k<n):(jY rows n).getD k 0<65536:=by
 rw[aOa,jY,aOj,aOO hk];exact rB _ hr
theorem Zq {req:Nat->Nat->Bool}{m:List Int}{G:List Nat}{n k i:Nat}(h:nU req m G n k=some i):m.getD i 0= -1/\i<n:=by
 unfold nU at h
 split at h
 ·cases h
 ·have:=uS h
  rw[aOe,decide_eq_true_eq] at this
  exact⟨this.2.1,this.1⟩
theorem aLp {req:Nat->Nat->Bool}{n:Nat}{first:Bool}{m0:List Int}{g0:List Nat}{s:Mat}{i:Nat}(hm:s.m.getD i 0=m0.getD i 0):
  acc (nU req m0 g0 n) n first s i=match jX (λk=>(grM (nU req m0 g0 n) n i).testBit k) (s.a.getD i 0) n with
   |none=>s
   |some k=>⟨s.m.set i (k:Int),if first=true then s.g.set k ((i+1)%n) else s.g,if first=true then s.a.set i ((k+1)%n) else s.a⟩:=by
 have e:jX (λk=>(grM (nU req m0 g0 n) n i).testBit k) (s.a.getD i 0) n=jX (λk=>nU req m0 g0 n k==some i) (s.a.getD i 0) n:=Dr λk hk=>by
  rw[grM,lA,aOQ hk,aOu]
 rw[e];unfold acc;split
 ·rfl
 ·rename_i hn
  have:jX (λk=>nU req m0 g0 n k==some i) (s.a.getD i 0) n=none:=by
   rw[Tr];intro k hk;rw[beq_eq_false_iff_ne];intro hh;exact hn (hm.trans (Zq hh).1)
  rw[this]
theorem Zl {gr:Nat->Option Nat}{n:Nat}{first:Bool}: ∀(l:List Nat)(s:Mat),l.Nodup->(∀i∈l,i<s.m.length)->(∀i∈l,s.m.getD i 0= -1->(l.foldl (acc gr n first) s).m.getD i 0= -1)->l.foldl (acc gr n first) s=s
 |[],s,_,_,_=>rfl
 |i::l,s,hn,hl,h=>by
  rw[List.foldl_cons] at h⊢;have hi:=hl i (aOf ..);rw[List.nodup_cons] at hn;rcases Jp (gr:=gr) (n:=n) (first:=first) (s:=s) hi with h1|⟨h1,h2⟩
  ·rw[h1] at h⊢
   exact Zl l s hn.2 (λj hj=>hl j (aOn _ hj)) λj hj=>h j (aOn _ hj)
  ·have h3:=A6 (gr:=gr) (n:=n) (first:=first) (j:=i) l (acc gr n first s i) hn.1
   exact absurd (h3.symm.trans (h i (aOf ..) h2)) h1
theorem aLC {req:Nat->Nat->Bool}{n:Nat}{first:Bool}{s:Mat}(hl:s.m.length=n)(h:eY (rnd req n first s).m n=eY s.m n):rnd req n first s=s:=by
 refine Zl _ _ List.nodup_range (λi hi=>by rw[aOL] at hi;omega) λi hi h0=> ?_
 rw[aOL] at hi;have h1:(eY (rnd req n first s).m n).testBit i=(eY s.m n).testBit i:=by rw[h]
 rw[eY,eY,lA,lA,aOQ hi,aOu,aOu,aOQ h0,decide_eq_true_eq] at h1;exact h1
theorem aLq (M n:Nat):M&&&(2 ^ n-1)=dB (λi=>M.testBit i) n:=by
 apply Nat.eq_of_testBit_eq;intro i;rw[Nat.testBit_and,lA,<-Oy,lA,Bool.and_true,Bool.and_comm]
theorem Zm (p q:Nat->Bool)(n:Nat):dB p n&&&dB q n=dB (λi=>p i&&q i) n:=by
 apply Nat.eq_of_testBit_eq;intro i;rw[Nat.testBit_and,lA,lA,lA];cases decide (i<n)<;>simp
theorem zC (p:Nat->Bool)(n:Nat):dB p n=0↔oB p n=false:=by
 rw[aEu];constructor
 ·intro h
  cases hw:oB p n with
  |false=>rfl
  |true=>
   obtain⟨i,h1,h2⟩:=yK.mp hw;rw[h i h1] at h2;cases h2
 ·intro h i hi
  cases hp:p i with
  |false=>rfl
  |true=>
   rw[yK.mpr ⟨i,hi,hp⟩] at h;cases h
theorem aLB (p:Nat->Bool)(fr n:Nat):jX (λi=>(dB p n).testBit i) fr n=jX p fr n:=Dr λi hi=>by rw[lA,aOQ hi,aOu]
theorem F9 {p:Nat->Bool}{k:Nat}(h:p k=true):dB p (k+1)=dB p k|||2 ^ k:=by
 apply Nat.eq_of_testBit_eq;intro j;rw[Tt,lA,lA];by_cases hj:j=k
 ·subst hj
  simp[h]
 ·by_cases hlt:j<k
  ·simp[hlt,show j<k+1 by omega,show¬k=j by omega]
  ·simp[hlt,show¬j<k+1 by omega,show¬k=j by omega]
theorem F8 {p:Nat->Bool}{k:Nat}(h:p k=false):dB p (k+1)=dB p k:=by rw[dB,h];simp
theorem Zr {p q:Nat->Bool}{n:Nat}(h: ∀i,i<n->p i=q i):oB p n=oB q n:=by
 rw[Bool.eq_iff_iff,yK,yK];constructor
 ·rintro ⟨i,h1,h2⟩
  exact⟨i,h1,by rw[<-h i h1];exact h2⟩
 ·rintro ⟨i,h1,h2⟩
  exact⟨i,h1,by rw[h i h1];exact h2⟩
theorem aLD {W:List Int}{s:Whl}{p q:Nat->Bool}(h: ∀i,i<W.length->p i=q i):k9 W s p=k9 W s q:=by
 have h1:oB p W.length=oB q W.length:=Zr h;have h2: ∀l:List Int,∀i,i<W.length->mZ l p i=mZ l q i:=λl i hi=>by unfold mZ;rw[h i hi]
 have h3:lO W s p=lO W s q:=by unfold lO;rw[Zr (h2 s.l)]
 unfold k9;rw[h1,h3,Dr (h2 _)]
end Go.Abs
namespace Go.Proofs.YtmimdleeihjdoaaGreatDoor
open Go.Proofs.Tryz
open Go.Abs
def fB (zs:List Int)(rest:List Value):Blk:= .cells (zs.map (λz:Int=> .int .i64 z)++rest) 3 .row
def kF (b n c:Nat):Value:= .slice (some ⟨b,0,none⟩) n c
def rC (ww wl wc lc n:Nat)(fr:Nat):Blk:= .cells [kF ww n wc,kF wl n lc,.int .i64 fr] 266 .fix
def lK (wh ww wl wc lc:Nat)(wr lr:List Value)(W:List Int)(x:Whl):List (Nat×Blk):=
 [(wh,rC ww wl wc lc W.length x.fr),(ww,fB W wr),(wl,fB x.l lr)]
theorem Zs: ∀W:List Int,dR (W.map λz:Int=>Value.int .i64 z)=true
 |[]=>rfl
 |_::W=>Zs W
theorem Zu {ww wl wc lc n fr:Nat}{zs:List Int}{lr:List Value}:rC ww wl wc lc n fr≠fB zs lr:=λh=>by
 injection h with _ h2
 revert h2
 decide
section
variable {H : aC} {m : Nat}
theorem aLF (hm:0<m)(M i:Nat)(hM:M<65536)(hi:i<16):lvl prog pkN m (.func 240) [.int .u16 M,.int .i64 i] H=some (.bool (M.testBit i),H):=by
 refine dA (cJ rfl) (by omega) ?_
 rw[aIT];have c1:decide ((0:Int)<=(i:Int))=true:=by rw[decide_eq_true_eq];omega
 have c2:decide ((i:Int)<16)=true:=by rw[decide_eq_true_eq];omega
 have e1:bin prog .shr 23 (.int .u16 (M:Int)) (.int .i64 (i:Int))=some (.int .u16 ((M>>>i:Nat):Int)):=wL .u16 .i64 23 M i (by show i<=16;omega)
 have hlt:M>>>i<65536:=Nat.lt_of_le_of_lt (Nat.shiftRight_le M i) hM;have e2:bin prog .and 23 (.int .u16 ((M>>>i:Nat):Int)) (.int .u16 ((1:Nat):Int))=some (.int .u16 (((M>>>i)&&&1:Nat):Int)):=wK .u16 rfl 23 (by show _<65536;exact hlt) (by show(1:Nat)<65536;omega)
 have e2':bin prog .and 23 (.int .u16 ((M>>>i:Nat):Int)) (.int .u16 1)=some (.int .u16 (((M>>>i)&&&1:Nat):Int)):=e2;have e3:((((M>>>i)&&&1:Nat):Int)==1)=M.testBit i:=by
  rw[Nat.testBit,Nat.and_comm 1];rw[Nat.and_one_is_mod];rcases Nat.mod_two_eq_zero_or_one (M>>>i) with h|h<;>rw[h]<;>rfl
 simp -implicitDefEqProofs only[gsR,c1,c2,e1,e2',e3]
theorem vI {a i:Nat}(ha:a<65536)(hi:i<16):bin prog .shl 23 (.int .u16 1) (.int .i64 (i:Int))=some (.int .u16 ((2 ^ i:Nat):Int))/\bin prog .or 23 (.int .u16 (a:Int)) (.int .u16 ((2 ^ i:Nat):Int))=some (.int .u16 ((a|||2 ^ i:Nat):Int)):=by
 have hp:=Du hi;constructor
 ·have:=yJ (P:=prog) .u16 .i64 rfl 23 1 i (by show i<=16;omega)
  rw[Nat.one_mul] at this;rw[show(2:Nat) ^ i%2 ^ IntKind.u16.bits=2 ^ i from aOF hp] at this
  exact this
 ·exact Jo .u16 rfl _ (by show _<65536;exact ha) (by show _<65536;exact hp)
theorem zD {wl n c:Nat}{zs:List Int}{lr:List Value}(hb:H[wl]? =some (fB zs lr))(hn:zs.length=n){i:Nat}(hi:i<n):bH 1 (kF wl n c) (.int .i64 (i:Int))=some (.pointer (some ⟨wl,i,none⟩))/\ld1 (.pointer (some ⟨wl,i,none⟩)) H=some (.int .i64 (zs.getD i 0),H):=by
 constructor
 ·have:=p7 1 wl 0 n c .i64 (i:Int) (by omega) (by omega)
  simpa[kF] using this
 ·refine cT hb ?_
  rw[aN9 (by simp;omega),aOj,aOa,aN8 (by omega)]
  rfl
theorem aLG {wl lc:Nat}{zs:List Int}{lr:List Value}(hb:H[wl]? =some (fB zs lr))(h3:zs.length<=3): ∀(q i k:Nat),zs.length-i=q->i<=zs.length->q<k-> ∀(x0 x1 x2 x4 x5 x6 x7 x8 aR aN aM aP aZ bG aQ bC bJ bL bI bE:Value),
  aI k (aK prog (lvl prog pkN m) (aI m) Mz) (M0 (lvl prog pkN m) (aI m)) [x0,x1,x2,(.int .u16 (dB (λj=>decide (0<zs.getD j 0)) i:Nat)),x4,x5,x6,x7,x8,(kF wl zs.length lc),(.int .i64 zs.length),(.int .i64 (i:Nat)),aR,aN,aM,aP,aZ,bG,aQ,bC,bJ,bL,bI,bE] H=some (.int .u16 (dB (λj=>decide (0<zs.getD j 0)) zs.length:Nat),H):=by
 intro q;induction q with
 |zero=>
  intro i k hq hi hk;intros;obtain⟨k,rfl⟩: ∃k',k=k'+1:=⟨k-1,by omega⟩
  have hie:i=zs.length:=by omega
  subst hie;have c1:decide ((zs.length:Int)<(zs.length:Int))=false:=by simp
  rw[aI,Xh];simp -implicitDefEqProofs only[gsR,c1];rw[aIU];simp -implicitDefEqProofs only[gsR]
 |succ q ih=>
  intro i k hq hi hk;intros;obtain⟨k,rfl⟩: ∃k',k=k'+1:=⟨k-1,by omega⟩
  have c1:decide ((i:Int)<(zs.length:Int))=true:=by rw[decide_eq_true_eq];omega
  obtain⟨a1,a2⟩:=zD (c:=lc) hb rfl (i:=i) (by omega)
  have e4:=aA (i:=i) (by omega)
  rw[aI,Xh];by_cases hp:0<zs.getD i 0
  ·obtain⟨e1,e2⟩:=vI (a:=dB (λj=>decide (0<zs.getD j 0)) i) (i:=i) (rB _ (by omega)) (by omega)
   rw[<-F9 (p:=λj=>decide (0<zs.getD j 0)) (k:=i) (aOQ hp)] at e2
   simp -implicitDefEqProofs only[gsR,c1,a1,a2,aOQ hp,e1,e2,cI,e4];exact ih (i+1) k (by omega) (by omega) (by omega) ..
  ·have e2:=F8 (p:=λj=>decide (0<zs.getD j 0)) (k:=i) (aOR hp)
   simp -implicitDefEqProofs only[gsR,c1,a1,a2,aOR hp,cI,e4];rw[<-e2];exact ih (i+1) k (by omega) (by omega) (by omega) ..
theorem Zt (hm:10<m){wh ww wl wc lc n fr:Nat}{zs:List Int}{lr:List Value}(h0:H[wh]? =some (rC ww wl wc lc n fr))(hb:H[wl]? =some (fB zs lr))(hn:zs.length=n)(h3:n<=3):
  lvl prog pkN m (.func 241) [.pointer (some ⟨wh,0,none⟩)] H=some (.int .u16 (dB (λj=>decide (0<zs.getD j 0)) n:Nat),H):=by
 subst hn;refine dA (cJ rfl) (by omega) ?_
 rw[aIV];have l1:ld1 (.pointer (some ⟨wh,1,none⟩)) H=some (kF wl zs.length lc,H):=cT h0 rfl;have l2:bX (kF wl zs.length lc)=some (.int .i64 zs.length):=rfl;simp -implicitDefEqProofs only[gsR,l1,l2];exact aLG hb h3 zs.length 0 (m-1) (by omega) (by omega) (by omega) ..
theorem aLE {wl ww n lc wc:Nat}{l W:List Int}{lr wr:List Value}(hn:n=W.length)(b2:H[wl]? =some (fB l lr))(b1:H[ww]? =some (fB W wr))(hl:l.length=W.length):cpy 1 (kF wl n lc) (kF ww n wc) H=some (.int .i64 n,H.set wl (fB W lr)):=by
 subst hn;have hs:jV 1 (kF ww W.length wc) W.length H=some (W.map λz:Int=> .int .i64 z):=by
  unfold jV kF;simp only;split
  ·rename_i h0
   rw[aOo.mp h0];rfl
  ·rw[b1]
   unfold fB;simp only;rw[if_pos ⟨aOb _,by simp⟩,List.drop_zero,List.take_append_of_le_length (by simp)]
   congr 1
   rw[List.take_of_length_le (by simp)]
 unfold cpy;have h2:mK (kF ww W.length wc)=some W.length:=rfl;rw[h2];simp only[kF];have hs':=hs;unfold kF at hs';rw[Nat.min_self,hs'];simp only;rw[b2];unfold fB;simp only;have:=uQ (W.map λz:Int=>Value.int .i64 z) (l.map λz:Int=>Value.int .i64 z) [] lr (by simp[hl])
 rw[List.nil_append,List.nil_append,List.length_nil] at this;rw[if_pos ⟨by decide,by simp;omega,Zs W⟩,this]
def pD (o:Option Nat):Value:= .int .i64 (match o with|some k=>(k:Int)|none=> -1)
theorem B6 (k:IntKind)(n:Int)(H':aC):chk (some (Value.int k n,H')) (.int k n)=true:=by simp[chk,veq]
theorem aLH (hm:20<m){wh ww wl wc lc:Nat}{wr lr:List Value}{W:List Int}{x:Whl}(hB:Blks (lK wh ww wl wc lc wr lr W x) H)(hne:ww≠wl)(hx:WhlI W.length x)(hW: ∀y∈W,0<y/\y<=5)(h1:1<=W.length)(h3:W.length<=3)(M:Nat)(hM:M<65536):
  ∃H',lvl prog pkN m (.func 184) [.pointer (some ⟨wh,0,none⟩),.int .u16 M] H=some (pD (k9 W x λi=>M.testBit i).1,H')/\Fr (λb=>b=wh∨b=wl) H H'/\Blks (lK wh ww wl wc lc wr lr W (k9 W x λi=>M.testBit i).2) H':=by
 have b0:H[wh]? =some (rC ww wl wc lc W.length x.fr):=hB _ (aOf ..);have b1:H[ww]? =some (fB W wr):=hB (ww,fB W wr) (by simp[lK])
 have b2:H[wl]? =some (fB x.l lr):=hB (wl,fB x.l lr) (by simp[lK])
 have n01:wh≠ww:=λh=>by rw[h,b1] at b0;exact Zu (aOJ b0).symm
 have n02:wh≠wl:=λh=>by rw[h,b2] at b0;exact Zu (aOJ b0).symm
 obtain⟨n,hn⟩: ∃n,n=W.length:=⟨_,rfl⟩;have hxl:=hx.len;have hxf:=hx.fr;obtain⟨p,hp⟩: ∃p:Nat->Bool,p=λi=>M.testBit i:=⟨_,rfl⟩
 rw[<-hp];refine k8 (cJ rfl) (by omega) ?_
 rw[aIG];have l0:ld1 (.pointer (some ⟨wh,0,none⟩)) H=some (kF ww W.length wc,H):=cT b0 rfl;have l0':bX (kF ww W.length wc)=some (.int .i64 W.length):=rfl;have hpow:2 ^ W.length<65536:=Du (by omega)
 have hpos:0<2 ^ W.length:=Nat.pow_pos (by omega)
 have e1:=(vI (a:=0) (i:=W.length) (by omega) (by omega)).1
 have e2:IntKind.u16.wrap ((2 ^ W.length:Nat)-(1:Int))=((2 ^ W.length-1:Nat):Int):=by rw[A4];omega
 have e3:bin prog .and 23 (.int .u16 (M:Int)) (.int .u16 ((2 ^ W.length-1:Nat):Int))=some (.int .u16 ((dB p W.length:Nat):Int)):=by
  rw[wK .u16 rfl _ (by show _<65536;exact hM) (by show _<65536;omega),aLq,hp]
 have hml: ∀q:Nat->Bool,dB q W.length<65536:=λq=>rB q (by omega)
 by_cases ha:oB p W.length=true
 ·have c1:(((dB p W.length:Nat):Int)==0)=false:=by
   rw[beq_eq_false_iff_ne];intro h;have:=(zC p W.length).mp (by omega)
   rw[ha] at this;cases this
  have s1:=Zt (m:=m-1) (by omega) b0 b2 hxl h3
  have a1:bin prog .and 23 (.int .u16 ((dB p W.length:Nat):Int)) (.int .u16 ((dB (λj=>decide (0<x.l.getD j 0)) W.length:Nat):Int))=some (.int .u16 ((dB (mZ x.l p) W.length:Nat):Int)):=by
   rw[wK .u16 rfl _ (by show _<65536;exact hml _) (by show _<65536;exact hml _),Zm]
   rfl
  obtain⟨i,hi,hil,hip,hip2⟩:=aEq (s:=x) (λy hy=>(hW y hy).1) ha
  have hres:k9 W x p=(some i,⟨(lO W x p).set i ((lO W x p).getD i 0-1),(i+1)%W.length⟩):=by
   unfold k9;rw[if_pos ha,hi]
  have hpk: ∀G:aC,lvl prog pkN (m-1) (.func 182) [.int .u16 ((dB (mZ (lO W x p) p) W.length:Nat):Int),.int .i64 x.fr,.int .i64 W.length] G=some (.int .i64 i,G):=λG=>by
   rw[Kk _ (by omega),Jq (hml _) (by omega) hxf,aLB,hi]
  have e5:=aA (i:=i) (by omega)
  have e6:bin prog .rem 3 (.int .i64 ((i+1:Nat):Int)) (.int .i64 W.length)=some (.int .i64 (((i+1)%W.length:Nat):Int)):=rS (i+1) W.length _ rfl (by omega)
  rw[hres];by_cases hc:oB (mZ x.l p) W.length=true
  ·have hf:lO W x p=x.l:=by unfold lO;rw[if_pos hc]
   rw[hf] at hpk hip2⊢;have c2:(((dB (mZ x.l p) W.length:Nat):Int)==0)=false:=by
    rw[beq_eq_false_iff_ne];intro h;have:=(zC (mZ x.l p) W.length).mp (by omega)
    rw[hc] at this;cases this
   have l2:ld1 (.pointer (some ⟨wh,2,none⟩)) H=some (.int .i64 x.fr,H):=cT b0 rfl;have l1:ld1 (.pointer (some ⟨wh,1,none⟩)) H=some (kF wl W.length lc,H):=cT b0 rfl;obtain⟨g1,g2⟩:=zD (c:=lc) b2 hxl hil;have hle:x.l.getD i 0<=5:=by
    have:i<x.l.length:=by omega
    rw[aOa,aN8 this,aOA]
    exact(hx.wt _ (List.getElem_mem this)).2
   have e7:IntKind.i64.wrap (x.l.getD i 0-1)=x.l.getD i 0-1:=dM (by omega) (by omega)
   have st1:stN 1 (.pointer (some ⟨wl,i,none⟩)) (.int .i64 (x.l.getD i 0-1)) H=some (undef,H.set wl (fB (x.l.set i (x.l.getD i 0-1)) lr)):=by
    rw[lQ b2 (by decide) (by simp;omega),List.set_append_left _ _ (by simp;omega),<-List.map_set]
    rfl
   have b0':(H.set wl (fB (x.l.set i (x.l.getD i 0-1)) lr))[wh]? =some (rC ww wl wc lc W.length x.fr):=by rw[aN7 (λh=>n02 h.symm),b0]
   have st2:stN 1 (.pointer (some ⟨wh,2,none⟩)) (.int .i64 (((i+1)%W.length:Nat):Int)) (H.set wl (fB (x.l.set i (x.l.getD i 0-1)) lr))=some (undef,(H.set wl (fB (x.l.set i (x.l.getD i 0-1)) lr)).set wh (rC ww wl wc lc W.length ((i+1)%W.length))):=lQ b0' (by decide) (by simp)
   simp -implicitDefEqProofs only[gsR,l0,l0',e1,iF,e2,e3,c1,s1,a1,c2,l2,B6,hpk,l1,g1,g2,e7,st1,cI,e5,e6,st2];refine⟨_,rfl,⟨by simp,λb hb hbn=> ?_⟩,λq hq=> ?_⟩
   ·rw[aN7 (λh=>hbn (.inl h.symm)),aN7 (λh=>hbn (.inr h.symm))]
   ·simp only[lK,aOq,aOx,or_false] at hq
    rcases hq with rfl|rfl|rfl
    ·exact iT b0'
    ·rw[aN7 n01,aN7 hne.symm,b1]
    ·rw[aN7 n02]
     exact iT b2
  ·have hf:lO W x p=W:=by unfold lO;rw[if_neg hc]
   rw[hf] at hpk hip2⊢;have c2:(((dB (mZ x.l p) W.length:Nat):Int)==0)=true:=by
    rw[beq_iff_eq];have:=(zC (mZ x.l p) W.length).mpr (by simpa using hc)
    omega
   have l1:ld1 (.pointer (some ⟨wh,1,none⟩)) H=some (kF wl W.length lc,H):=cT b0 rfl;obtain⟨H1,hH1⟩: ∃H1,H1=H.set wl (fB W lr):=⟨_,rfl⟩;have cp:cpy 1 (kF wl W.length lc) (kF ww W.length wc) H=some (.int .i64 W.length,H1):=by rw[hH1];exact aLE rfl b2 b1 hxl
   have b01:H1[wh]? =some (rC ww wl wc lc W.length x.fr):=by rw[hH1,aN7 (λh=>n02 h.symm),b0]
   have b11:H1[ww]? =some (fB W wr):=by rw[hH1,aN7 hne.symm,b1]
   have b21:H1[wl]? =some (fB W lr):=by rw[hH1];exact iT b2
   have s2:=Zt (m:=m-1) (by omega) b01 b21 rfl h3
   have a2:bin prog .and 23 (.int .u16 ((dB p W.length:Nat):Int)) (.int .u16 ((dB (λj=>decide (0<W.getD j 0)) W.length:Nat):Int))=some (.int .u16 ((dB (mZ W p) W.length:Nat):Int)):=by
    rw[wK .u16 rfl _ (by show _<65536;exact hml _) (by show _<65536;exact hml _),Zm]
    rfl
   have l2:ld1 (.pointer (some ⟨wh,2,none⟩)) H1=some (.int .i64 x.fr,H1):=cT b01 rfl;have l11:ld1 (.pointer (some ⟨wh,1,none⟩)) H1=some (kF wl W.length lc,H1):=cT b01 rfl;obtain⟨g1,g2⟩:=zD (c:=lc) b21 rfl hil;have hle:W.getD i 0<=5:=by
    rw[aOa,aN8 hil,aOA]
    exact(hW _ (List.getElem_mem hil)).2
   have e7:IntKind.i64.wrap (W.getD i 0-1)=W.getD i 0-1:=dM (by omega) (by omega)
   have st1:stN 1 (.pointer (some ⟨wl,i,none⟩)) (.int .i64 (W.getD i 0-1)) H1=some (undef,H1.set wl (fB (W.set i (W.getD i 0-1)) lr)):=by
    rw[lQ b21 (by decide) (by simp;omega),List.set_append_left _ _ (by simp;omega),<-List.map_set]
    rfl
   have b0':(H1.set wl (fB (W.set i (W.getD i 0-1)) lr))[wh]? =some (rC ww wl wc lc W.length x.fr):=by rw[aN7 (λh=>n02 h.symm),b01]
   have st2:stN 1 (.pointer (some ⟨wh,2,none⟩)) (.int .i64 (((i+1)%W.length:Nat):Int)) (H1.set wl (fB (W.set i (W.getD i 0-1)) lr))=some (undef,(H1.set wl (fB (W.set i (W.getD i 0-1)) lr)).set wh (rC ww wl wc lc W.length ((i+1)%W.length))):=lQ b0' (by decide) (by simp)
   simp -implicitDefEqProofs only[gsR,l0,l0',e1,iF,e2,e3,c1,s1,a1,c2,l1,cp,s2,a2,l2,B6,hpk,l11,g1,g2,e7,st1,cI,e5,e6,st2];refine⟨_,rfl,⟨by simp[hH1],λb hb hbn=> ?_⟩,λq hq=> ?_⟩
   ·rw[aN7 (λh=>hbn (.inl h.symm)),aN7 (λh=>hbn (.inr h.symm)),hH1,aN7 (λh=>hbn (.inr h.symm))]
   ·simp only[lK,aOq,aOx,or_false] at hq
    rcases hq with rfl|rfl|rfl
    ·exact iT b0'
    ·rw[aN7 n01,aN7 hne.symm,b11]
    ·rw[aN7 n02]
     exact iT b21
 ·have c1:(((dB p W.length:Nat):Int)==0)=true:=by
   rw[beq_iff_eq];have:=(zC p W.length).mpr (by simpa using ha)
   omega
  have hres:k9 W x p=(none,x):=by
   unfold k9;rw[if_neg ha]
  rw[hres];simp -implicitDefEqProofs only[gsR,l0,l0',e1,iF,e2,e3,c1]
  exact⟨_,rfl,Fr.nF _ _,hB⟩
end
def tX (zs:List Nat):List Int:=zs.map λz:Nat=>(z:Int)
def iA (zs:List Nat):Blk:=fB (tX zs) []
def iB (zs:List Nat):Blk:= .cells (zs.map λz:Nat=> .int .u16 (z:Int)) 23 .row
def qH (ga aa n:Nat):Blk:= .cells [eE ga n,eE aa n] 269 .fix
def iY (ab ga aa:Nat)(g a:List Nat):List (Nat×Blk):=[(ab,qH ga aa g.length),(ga,iA g),(aa,iA a)]
def stB (mb n ins outs:Nat):Blk:= .cells [eE mb n,.int .u16 ins,.int .u16 outs] 283 .fix
theorem Zw (zs:List Nat):(tX zs).length=zs.length:=by simp[tX]
theorem aLK (zs:List Nat)(i:Nat):(tX zs).getD i 0=((zs.getD i 0:Nat):Int):=by
 unfold tX;rw[aOa,aOa,aOj];cases zs[i]? <;>rfl
theorem aLL (zs:List Nat)(i z:Nat):tX (zs.set i z)=(tX zs).set i (z:Int):=by simp[tX,List.map_set]
theorem Zv {zs:List Nat}{n i:Nat}(h: ∀z∈zs,z<n)(hi:i<zs.length):zs.getD i 0<n:=by
 rw[aOa,aN8 hi];exact h _ (List.getElem_mem hi)
section
variable {H : aC} {m : Nat}
theorem Ga {b n:Nat}{zs:List Nat}(hb:H[b]? =some (iA zs))(hn:zs.length=n){i:Nat}(hi:i<n):bH 1 (eE b n) (.int .i64 (i:Int))=some (.pointer (some ⟨b,i,none⟩))/\ld1 (.pointer (some ⟨b,i,none⟩)) H=some (.int .i64 (zs.getD i 0:Nat),H):=by
 have:=zD (c:=n) hb ((Zw zs).trans hn) hi;rw[aLK] at this;exact this
theorem Gb {b n c:Nat}{zs:List Nat}(hb:H[b]? =some (iB zs))(hn:zs.length=n){i:Nat}(hi:i<n):bH 1 (.slice (some ⟨b,0,none⟩) n c) (.int .i64 (i:Int))=some (.pointer (some ⟨b,i,none⟩))/\ld1 (.pointer (some ⟨b,i,none⟩)) H=some (.int .u16 (zs.getD i 0:Nat),H):=by
 constructor
 ·have:=p7 1 b 0 n c .i64 (i:Int) (by omega) (by omega)
  simpa using this
 ·refine cT hb ?_
  rw[aOj,aOa,aN8 (by omega)]
  rfl
theorem Zx {b i:Nat}{zs:List Int}{lr:List Value}(z:Int)(hb:H[b]? =some (fB zs lr))(hi:i<zs.length):stN 1 (.pointer (some ⟨b,i,none⟩)) (.int .i64 z) H=some (undef,H.set b (fB (zs.set i z) lr)):=by
 rw[lQ hb (by decide) (by simp;omega),List.set_append_left _ _ (by simp;omega),<-List.map_set]
 rfl
theorem Zy {b i:Nat}{zs:List Nat}(z:Nat)(hb:H[b]? =some (iA zs))(hi:i<zs.length):stN 1 (.pointer (some ⟨b,i,none⟩)) (.int .i64 z) H=some (undef,H.set b (iA (zs.set i z))):=by
 rw[Zx (z:Int) hb (by rw[Zw];exact hi),<-aLL]
 rfl
theorem Zz {b i:Nat}{zs:List Nat}(z:Nat)(hb:H[b]? =some (iB zs))(hi:i<zs.length):stN 1 (.pointer (some ⟨b,i,none⟩)) (.int .u16 z) H=some (undef,H.set b (iB (zs.set i z))):=by
 rw[lQ hb (by decide) (by simp;omega),<-List.map_set]
 rfl
theorem oK (i:Nat)(hi:i<1000):IntKind.i64.wrap ((i:Int)+1)=((i+1:Nat):Int):=by rw[dM (by omega) (by omega)];omega
section
variable {ab ga aa sb mb cb : Nat} {rows : List Nat} {M : List Int} {g a : List Nat} {n : Nat}
theorem aLJ (hB:Blks (iY ab ga aa g a) H)(hs:H[sb]? =some (stB mb n (eY M n) (kE M n)))(hc:H[cb]? =some (iB (jY rows n)))(hg:g.length=n)(hgl: ∀z∈g,z<n)(hr:rows.length=n)(hM:M.length=n)(h1:1<=n)(h16:n<=16)(hm:2<m):
  ∀(q i k:Nat),n-i=q->i<=n->q<k-> ∀(x3 x4 x5 x6 x8 x9 bK bM aR aN bG aQ bC bJ bL bI bE aS aT aU aV aW aX aY bA bB bN bO bP bQ bR bS bT bU bV bY cE cG cH cL cQ cU cV cM cN cO cR cY cW cX:Value),
  aI k (aK prog (lvl prog pkN m) (aI m) Mq) (Mr (lvl prog pkN m) (aI m)) [(.pointer (some ⟨ab,0,none⟩)),(.pointer (some ⟨sb,0,none⟩)),(eE cb n),x3,x4,x5,x6,(eE H.length n),x8,x9,bK,bM,aR,aN,(eE cb n),(.int .i64 n),(.int .i64 (i:Nat)),bG,aQ,bC,bJ,bL,bI,bE,aS,aT,aU,aV,aW,aX,aY,bA,bB,bN,bO,bP,bQ,bR,bS,bT,bU,bV,bY,cE,cG,cH,cL,cQ,cU,cV,cM,cN,cO,cR,cY,cW,cX] (H++[iB (grL (nU (kL rows) M g n) n i)])=some (eE H.length n,H++[iB (grL (nU (kL rows) M g n) n n)]):=by
 obtain⟨gr,hgr⟩: ∃gr,gr=nU (kL rows) M g n:=⟨_,rfl⟩;rw[<-hgr];have b0:H[ab]? =some (qH ga aa n):=by rw[<-hg];exact hB _ (aOf ..)
 have b1:H[ga]? =some (iA g):=hB (ga,iA g) (by simp[iY])
 intro q;induction q with
 |zero=>
  intro i k hq hi hk;intros;obtain⟨k,rfl⟩: ∃k',k=k'+1:=⟨k-1,by omega⟩
  have hie:i=n:=by omega
  subst hie;have c1:decide ((i:Int)<(i:Int))=false:=by simp
  rw[aI,Xd];simp -implicitDefEqProofs only[gsR,c1];rw[aIC];simp -implicitDefEqProofs only[gsR]
 |succ q ih=>
  intro i k hq hi hk;intros;obtain⟨k,rfl⟩: ∃k',k=k'+1:=⟨k-1,by omega⟩
  have hin:i<n:=by omega
  have c1:decide ((i:Int)<(n:Int))=true:=by rw[decide_eq_true_eq];omega
  obtain⟨G,hG⟩: ∃G,G=H++[iB (grL gr n i)]:=⟨_,rfl⟩;have e0:G[ab]? =some (qH ga aa n):=by rw[hG];exact nK b0 _
  have e1:G[ga]? =some (iA g):=by rw[hG];exact nK b1 _
  have e2:G[sb]? =some (stB mb n (eY M n) (kE M n)):=by rw[hG];exact nK hs _
  have e3:G[cb]? =some (iB (jY rows n)):=by rw[hG];exact nK hc _
  have e4:G[H.length]? =some (iB (grL gr n i)):=by rw[hG];exact dK _ _
  obtain⟨a1,a2⟩:=Gb (c:=n) e3 (aEr _ _) hin;have a1:bH 1 (eE cb n) (.int .i64 (i:Int))=some (.pointer (some ⟨cb,i,none⟩)):=a1;have l1:ld1 (.pointer (some ⟨sb,1,none⟩)) G=some (.int .u16 (eY M n:Nat),G):=cT e2 rfl;have l2:ld1 (.pointer (some ⟨sb,2,none⟩)) G=some (.int .u16 (kE M n:Nat),G):=cT e2 rfl;have l0:ld1 (.pointer (some ⟨ab,0,none⟩)) G=some (eE ga n,G):=cT e0 rfl;obtain⟨a3,a4⟩:=Ga e1 hg hin;have hcl:(jY rows n).getD i 0<65536:=aLr (by omega) hin
  have hil:eY M n<65536:=rB _ h16;have hol:kE M n<65536:=rB _ h16;have a5:bin prog .and 23 (.int .u16 ((jY rows n).getD i 0:Nat)) (.int .u16 (eY M n:Nat))=some (.int .u16 ((jY rows n).getD i 0&&&eY M n:Nat)):=wK .u16 rfl _ (by show _<65536;exact hcl) (by show _<65536;exact hil)
  have hal:(jY rows n).getD i 0&&&eY M n<65536:=Nat.lt_of_le_of_lt Nat.and_le_left hcl;have a6:bX (eE cb n)=some (.int .i64 n):=rfl;have hgi:g.getD i 0<n:=Zv hgl (by omega)
  have a7:lvl prog pkN m (.func 182) [.int .u16 ((jY rows n).getD i 0&&&eY M n:Nat),.int .i64 (g.getD i 0:Nat),.int .i64 n] G=some (pD (jX (λj=>((jY rows n).getD i 0&&&eY M n).testBit j) (g.getD i 0) n),G):=by
   rw[Kk _ (by omega),Jq hal h16 hgi]
   rfl
  have hgm:gr i=if(i:Int)∈M then none else jX (λj=>((jY rows n).getD i 0&&&eY M n).testBit j) (g.getD i 0) n:=by rw[hgr];exact aLv hr hin
  have e9:=oK i (by omega)
  rw[aI,Xd];rw[<-hG];cases hp:jX (λj=>((jY rows n).getD i 0&&&eY M n).testBit j) (g.getD i 0) n with
  |none=>
   rw[hp] at a7 hgm;have hno:gr i=none:=by rw[hgm];split<;>rfl
   have c2:((-1:Int)!= -1)=false:=rfl;have hL:=Zn (gr:=gr) (n:=n) (kk:=i) (λj _=>by rw[hno];simp)
   simp -implicitDefEqProofs only[gsR,c1,a1,a2,l1,a5,l0,a3,a4,a6,a7,pD,c2,cI,e9];rw[hG,<-hL];exact ih (i+1) k (by omega) (by omega) (by omega) ..
  |some j=>
   rw[hp] at a7 hgm;have hjn:=(uS hp).1;have c2:(((j:Int))!= -1)=true:=by rw[bne_iff_ne];omega
   have c3:=aLF (H:=G) (m:=m) (by omega) (kE M n) i hol (by omega)
   rw[aLz hin] at c3;by_cases hmem:(i:Int)∈M
   ·have hno:gr i=none:=by rw[hgm,if_pos hmem]
    have hL:=Zn (gr:=gr) (n:=n) (kk:=i) (λj _=>by rw[hno];simp)
    rw[aOR (not_not_intro hmem)] at c3;simp -implicitDefEqProofs only[gsR,c1,a1,a2,l1,a5,l0,a3,a4,a6,a7,pD,c2,l2,c3,cI,e9];rw[hG,<-hL];exact ih (i+1) k (by omega) (by omega) (by omega) ..
   ·have hyes:gr i=some j:=by rw[hgm,if_neg hmem]
    have hL:=aLs (n:=n) (kk:=i) hjn hyes;rw[aOQ hmem] at c3;obtain⟨a8,a9⟩:=Gb (c:=n) e4 (w8 _ _ _) hjn;have hv:(grL gr n i).getD j 0=grM gr i j:=by rw[aOa,B5 hjn];rfl
    rw[hv] at a9;obtain⟨s1,s2⟩:=vI (a:=grM gr i j) (i:=i) (Zo _ (by omega) _) (by omega)
    have st:=Zz (grM gr i j|||2 ^ i) e4 (i:=j) (by rw[w8];exact hjn)
    rw[<-hL] at st;have a8':bH 1 (eE H.length n) (.int .i64 (j:Int))=some (.pointer (some ⟨H.length,j,none⟩)):=a8;simp -implicitDefEqProofs only[gsR,c1,a1,a2,l1,a5,l0,a3,a4,a6,a7,pD,c2,l2,c3,a8',a9,s1,s2,st,cI,e9];rw[hG,nL];exact ih (i+1) k (by omega) (by omega) (by omega) ..
theorem aLI (hB:Blks (iY ab ga aa g a) H)(hs:H[sb]? =some (stB mb n (eY M n) (kE M n)))(hc:H[cb]? =some (iB (jY rows n)))(hg:g.length=n)(hgl: ∀z∈g,z<n)(hr:rows.length=n)(hM:M.length=n)(h1:1<=n)(h16:n<=16)(hm:30<m):
  lvl prog pkN m (.func 181) [.pointer (some ⟨ab,0,none⟩),.pointer (some ⟨sb,0,none⟩),eE cb n] H=some (eE H.length n,H++[iB (grL (nU (kL rows) M g n) n n)]):=by
 refine dA (cJ rfl) (by omega) ?_
 rw[aID];have a6:bX (eE cb n)=some (.int .i64 n):=rfl;have mk:=wC (H:=H) 23 1 2 [.int .u16 0] .i64 .i64 (n:Int) (by omega) (by omega) (by omega) rfl
 have hz:H++[Blk.cells (List.replicate (n:Int).toNat [Value.int .u16 0]).flatten 23 .row]=H++[iB (grL (nU (kL rows) M g n) n 0)]:=by
  have: ∀n,(List.replicate n [Value.int .u16 0]).flatten=List.replicate n (.int .u16 0):=by
   intro n;induction n with
   |zero=>rfl
   |succ n ih=>rw[List.replicate_succ,aOH,ih];rfl
  rw[aOz,this,aLt,iB,List.map_replicate];rfl
 rw[hz,aOz] at mk;simp -implicitDefEqProofs only[gsR,a6,mk];exact aLJ hB hs hc hg hgl hr hM h1 h16 (by omega) n 0 (m-1) rfl (by omega) (by omega) ..
end
end
structure RunS (H:aC)(ab ga aa sb mb cb:Nat)(rows:List Nat)(n:Nat)(s:Mat):Prop where
 arb:Blks (iY ab ga aa s.g s.a) H
 st:H[sb]? =some (stB mb n (eY s.m n) (kE s.m n))
 mt:H[mb]? =some (fB s.m [])
 cols:H[cb]? =some (iB (jY rows n))
section
variable {H : aC} {m : Nat} {ab ga aa sb mb cb : Nat} {rows : List Nat} {n : Nat} {s : Mat}
theorem RunS.ext {H':aC}(h:RunS H ab ga aa sb mb cb rows n s)(he:Ext H H'):RunS H' ab ga aa sb mb cb rows n s:=
 ⟨Blks.dx _ _ _ h.arb he,by rw[he.2 _ (dC h.st) id,h.st],by rw[he.2 _ (dC h.mt) id,h.mt],by rw[he.2 _ (dC h.cols) id,h.cols]⟩
theorem zE {zs:List Nat}{ws:List Int}{lr:List Value}:iB zs≠fB ws lr:=λh=>by
 injection h with _ h2
 revert h2
 decide
theorem O0 {mb n i o:Nat}{ws:List Int}{lr:List Value}:stB mb n i o≠fB ws lr:=λh=>by
 injection h with _ h2
 revert h2
 decide
theorem Z1 {mb n i o:Nat}{zs:List Nat}:stB mb n i o≠iB zs:=λh=>by
 injection h with _ h2
 revert h2
 decide
theorem Oz {ga aa n:Nat}{ws:List Int}{lr:List Value}:qH ga aa n≠fB ws lr:=λh=>by
 injection h with _ h2
 revert h2
 decide
theorem aLN {ga aa n mb k i o:Nat}:qH ga aa n≠stB mb k i o:=λh=>by
 injection h with _ h2
 revert h2
 decide
theorem Z0 {a i:Nat}(ha:a<65536)(hi:i<16):bin prog .andNot 23 (.int .u16 (a:Int)) (.int .u16 ((2 ^ i:Nat):Int))=some (.int .u16 ((lF a (2 ^ i):Nat):Int)):=
 To .u16 rfl _ (by show _<65536;exact ha) (by show _<65536;exact Du hi)
theorem RunS.aLM (h:RunS H ab ga aa sb mb cb rows n s)(hI:MatI n s)(hn:1<=n)(hne:ga≠aa)(hma:mb≠ga)(hmb:mb≠aa)(first:Bool){i k:Nat}(hi:i<n)(hk:k<n)(hf:s.m.getD i 0= -1):
  let H1:=H.set mb (fB (s.m.set i (k:Int)) [])
  let H2:=H1.set sb (stB mb n (lF (eY s.m n) (2 ^ i)) (kE s.m n))
  let H3:=H2.set sb (stB mb n (lF (eY s.m n) (2 ^ i)) (lF (kE s.m n) (2 ^ k)))
  let H4:=H3.set ga (iA (s.g.set k ((i+1)%n)))
  let H5:=H4.set aa (iA (s.a.set i ((k+1)%n)))
  H1[sb]? =some (stB mb n (eY s.m n) (kE s.m n))/\H2[sb]? =some (stB mb n (lF (eY s.m n) (2 ^ i)) (kE s.m n))/\
  RunS H3 ab ga aa sb mb cb rows n ⟨s.m.set i (k:Int),s.g,s.a⟩/\H4[aa]? =some (iA s.a)/\RunS H5 ab ga aa sb mb cb rows n ⟨s.m.set i (k:Int),s.g.set k ((i+1)%n),s.a.set i ((k+1)%n)⟩:=by
 intro H1 H2 H3 H4 H5;have b0:H[ab]? =some (qH ga aa s.g.length):=h.arb _ (aOf ..);have b1:H[ga]? =some (iA s.g):=h.arb (ga,iA s.g) (by simp[iY])
 have b2:H[aa]? =some (iA s.a):=h.arb (aa,iA s.a) (by simp[iY])
 have nsm:sb≠mb:=λhh=>by have:=h.st;rw[hh,h.mt] at this;exact O0 (aOJ this).symm
 have nsg:sb≠ga:=λhh=>by have:=h.st;rw[hh,b1] at this;exact O0 (aOJ this).symm
 have nsa:sb≠aa:=λhh=>by have:=h.st;rw[hh,b2] at this;exact O0 (aOJ this).symm
 have nsc:sb≠cb:=λhh=>by have:=h.st;rw[hh,h.cols] at this;exact Z1 (aOJ this).symm
 have ncm:cb≠mb:=λhh=>by have:=h.cols;rw[hh,h.mt] at this;exact zE (aOJ this).symm
 have ncg:cb≠ga:=λhh=>by have:=h.cols;rw[hh,b1] at this;exact zE (aOJ this).symm
 have nca:cb≠aa:=λhh=>by have:=h.cols;rw[hh,b2] at this;exact zE (aOJ this).symm
 have nam:ab≠mb:=λhh=>by have:=h.mt;rw[<-hh,b0] at this;exact Oz (aOJ this)
 have nag:ab≠ga:=λhh=>by have:=b1;rw[<-hh,b0] at this;exact Oz (aOJ this)
 have naa:ab≠aa:=λhh=>by have:=b2;rw[<-hh,b0] at this;exact Oz (aOJ this)
 have nas:ab≠sb:=λhh=>by have:=h.st;rw[<-hh,b0] at this;exact aLN (aOJ this)
 have s1:H1[sb]? =some (stB mb n (eY s.m n) (kE s.m n)):=by rw[aN7 nsm.symm,h.st]
 have s2:H2[sb]? =some (stB mb n (lF (eY s.m n) (2 ^ i)) (kE s.m n)):=iT s1;have k3: ∀b,b≠sb->b≠mb->H3[b]? =H[b]? :=λb h1 h2=>by rw[aN7 h1.symm,aN7 h1.symm,aN7 h2.symm]
 have hins:=aLw (k:=k) hi hI.ml;have houts:=aLy (k:=k) hi hI.ml hf;have m3:H3[mb]? =some (fB (s.m.set i (k:Int)) []):=by
  rw[aN7 nsm,aN7 nsm];exact iT h.mt
 have s3:H3[sb]? =some (stB mb n (eY (s.m.set i (k:Int)) n) (kE (s.m.set i (k:Int)) n)):=by rw[hins,houts];exact iT s2
 have g3:H3[ga]? =some (iA s.g):=by rw[k3 ga nsg.symm hma.symm,b1]
 have a3:H3[aa]? =some (iA s.a):=by rw[k3 aa nsa.symm hmb.symm,b2]
 have r3:H3[ab]? =some (qH ga aa s.g.length):=by rw[k3 ab nas nam,b0]
 have c3:H3[cb]? =some (iB (jY rows n)):=by rw[k3 cb nsc.symm ncm,h.cols]
 have a4:H4[aa]? =some (iA s.a):=by rw[aN7 hne,a3]
 have k5: ∀b,b≠ga->b≠aa->H5[b]? =H3[b]? :=λb h1 h2=>by rw[aN7 h2.symm,aN7 h1.symm]
 refine⟨s1,s2,⟨λp hp=> ?_,s3,m3,c3⟩,a4,⟨λp hp=> ?_,by rw[k5 sb nsg nsa,s3],by rw[k5 mb hma hmb,m3],by rw[k5 cb ncg nca,c3]⟩⟩
 ·simp only[iY,aOq,aOx,or_false] at hp
  rcases hp with rfl|rfl|rfl
  ·exact r3
  ·exact g3
  ·exact a3
 ·simp only[iY,aOq,aOx,or_false] at hp
  rcases hp with rfl|rfl|rfl
  ·rw[k5 ab nag naa,r3,List.length_set]
  ·rw[aN7 hne.symm]
   exact iT g3
  ·exact iT a4
end
section
variable {H : aC} {m : Nat} {ab ga aa sb mb cb : Nat} {rows : List Nat} {n : Nat} {s0 : Mat}
theorem aLO {H0:aC}{rounds rd was:Nat}(hI0:MatI n s0)(h1:1<=n)(h16:n<=16)(hne:ga≠aa)(hma:mb≠ga)(hmb:mb≠aa)(hsb:H0.length<=sb)(hmb0:H0.length<=mb)(hm:2<m){K:Ex->K (Value×aC)}{Q:aC->Value->Prop}
  (hK: ∀H',RunS H' ab ga aa sb mb cb rows n (rnd (kL rows) n (rd==0) s0)->Fr (λb=>b=ga∨b=aa) H0 H'-> ∀(x1 x2 x3 x4 x5 x6 x8 bM aN aM aP aZ bG aQ bC bJ bL bI bE aS aT aU aV aW aX aY bA bB bN bO bP bQ bR bS bT bU bV bY cE cG cH cU cV cM cN cO cR cY cW cX cZ dD dH dE dI dP dQ dV dW dX dY dZ eA eC eJ eK eM eN eO eP eQ eS eT eU eV eW fC fD fE fF fG fH fI fJ fS fT fU fV fW fX fY fZ gA gB gC gD gE gG gH gI gJ gK gL gM gN gO gP gQ gR gS gT gU gV gW gX gY gZ jB jC jD jE jH jI jJ jK jL jM jO:Value),∃H2 r,Ni (lvl prog pkN m) (aI m) K (.pointer (some ⟨ab,0,none⟩)) x1 x2 x3 x4 x5 x6 (.int .i64 n) x8 (.pointer (some ⟨sb,0,none⟩)) (eE cb n) bM (.int .u16 was) aN aM aP aZ bG aQ bC bJ bL bI bE aS aT aU aV aW aX aY bA bB bN bO bP bQ bR bS bT bU bV bY cE cG cH (.int .i64 rounds) (.int .i64 (rd:Nat)) cU cV cM cN cO cR cY cW cX cZ dD dH dE dI dP dQ dV dW dX dY dZ eA eC eJ eK eM eN eO eP eQ eS eT eU eV eW fC fD fE fF fG fH fI fJ fS fT fU fV fW fX fY fZ gA gB gC gD gE gG gH gI gJ gK gL gM gN gO gP gQ gR gS gT gU gV gW gX gY gZ jB jC jD jE jH jI jJ jK jL jM jO H'=some (r,H2)/\Q H2 r):
  ∀(q i k:Nat)(H:aC)(gb:Nat),n-i=q->i<=n->q<k->RunS H ab ga aa sb mb cb rows n ((List.range i).foldl (acc (nU (kL rows) s0.m s0.g n) n (rd==0)) s0)->Fr (λb=>b=ga∨b=aa) H0 H->H[gb]? =some (iB (grL (nU (kL rows) s0.m s0.g n) n n))->
  ∀(x1 x2 x3 x4 x5 x6 x8 aN aM aP aZ bG aQ bC bJ bL bI bE aS aT aU aV aW aX aY bA bB bN bO bP bQ bR bS bT bU bV bY cE cG cH cU cV cM cN cO cR cY cW cX dE dI dP dQ dV dW dX dY dZ eA eC eJ eK eM eN eO eP eQ eS eT eU eV eW fC fD fE fF fG fH fI fJ fS fT fU fV fW fX fY fZ gA gB gC gD gE gG gH gI gJ gK gL gM gN gO gP gQ gR gS gT gU gV gW gX gY gZ jB jC jD jE jH jI jJ jK jL jM jO:Value),∃H2 r,aI k (aK prog (lvl prog pkN m) (aI m) Ng) (Nk (lvl prog pkN m) (aI m) K) [(.pointer (some ⟨ab,0,none⟩)),x1,x2,x3,x4,x5,x6,(.int .i64 n),x8,(.pointer (some ⟨sb,0,none⟩)),(eE cb n),(.int .i64 (rd:Nat)),(.int .u16 was),aN,aM,aP,aZ,bG,aQ,bC,bJ,bL,bI,bE,aS,aT,aU,aV,aW,aX,aY,bA,bB,bN,bO,bP,bQ,bR,bS,bT,bU,bV,bY,cE,cG,cH,(.int .i64 rounds),(.int .i64 (rd:Nat)),cU,cV,cM,cN,cO,cR,cY,cW,cX,(eE gb n),(.int .i64 n),(.int .i64 (i:Nat)),dE,dI,dP,dQ,dV,dW,dX,dY,dZ,eA,eC,eJ,eK,eM,eN,eO,eP,eQ,eS,eT,eU,eV,eW,fC,fD,fE,fF,fG,fH,fI,fJ,fS,fT,fU,fV,fW,fX,fY,fZ,gA,gB,gC,gD,gE,gG,gH,gI,gJ,gK,gL,gM,gN,gO,gP,gQ,gR,gS,gT,gU,gV,gW,gX,gY,gZ,jB,jC,jD,jE,jH,jI,jJ,jK,jL,jM,jO] H=some (r,H2)/\Q H2 r:=by
 intro q;induction q with
 |zero=>
  intro i k H gb hq hi hk hS hfr hgb;intros;obtain⟨k,rfl⟩: ∃k',k=k'+1:=⟨k-1,by omega⟩
  have hie:i=n:=by omega
  subst hie;have c1:decide ((i:Int)<(i:Int))=false:=by simp
  rw[aI,Xr];simp -implicitDefEqProofs only[gsR,c1];rw[aJk];exact hK H hS hfr ..
 |succ q ih=>
  intro i k H gb hq hi hk hS hfr hgb;intros;obtain⟨k,rfl⟩: ∃k',k=k'+1:=⟨k-1,by omega⟩
  have hin:i<n:=by omega
  obtain⟨gr,hgr⟩: ∃gr,gr=nU (kL rows) s0.m s0.g n:=⟨_,rfl⟩;obtain⟨s,hs⟩: ∃s,s=(List.range i).foldl (acc gr n (rd==0)) s0:=⟨_,rfl⟩;rw[<-hgr] at hS hgb ih;rw[<-hs] at hS;have hI:MatI n s:=by rw[hs];exact MatI.N6 (by omega) _ hI0
  have hmi:s.m.getD i 0=s0.m.getD i 0:=by rw[hs];exact A6 _ _ (by simp)
  have hnext:(List.range (i+1)).foldl (acc gr n (rd==0)) s0=match jX (λk=>(grM gr n i).testBit k) (s.a.getD i 0) n with
   |none=>s
   |some k=>⟨s.m.set i (k:Int),if(rd==0)=true then s.g.set k ((i+1)%n) else s.g,if(rd==0)=true then s.a.set i ((k+1)%n) else s.a⟩:=by
   rw[aOG,List.foldl_append,List.foldl_cons,List.foldl_nil,<-hs,hgr];exact aLp hmi
  have c1:decide ((i:Int)<(n:Int))=true:=by rw[decide_eq_true_eq];omega
  have b0:H[ab]? =some (qH ga aa s.g.length):=hS.arb _ (aOf ..);have b1:H[ga]? =some (iA s.g):=hS.arb (ga,iA s.g) (by simp[iY])
  have b2:H[aa]? =some (iA s.a):=hS.arb (aa,iA s.a) (by simp[iY])
  rw[hI.gl] at b0;obtain⟨a1,a2⟩:=Gb (c:=n) hgb (w8 _ _ _) hin;have a1:bH 1 (eE gb n) (.int .i64 (i:Int))=some (.pointer (some ⟨gb,i,none⟩)):=a1;have hv:(grL gr n n).getD i 0=grM gr n i:=by rw[aOa,B5 hin];rfl
  rw[hv] at a2;have l1:ld1 (.pointer (some ⟨ab,1,none⟩)) H=some (eE aa n,H):=cT b0 rfl;obtain⟨a3,a4⟩:=Ga b2 hI.al hin;have hai:s.a.getD i 0<n:=Zv hI.a (by rw[hI.al];exact hin)
  have a5:lvl prog pkN m (.func 182) [.int .u16 (grM gr n i:Nat),.int .i64 (s.a.getD i 0:Nat),.int .i64 n] H=some (pD (jX (λj=>(grM gr n i).testBit j) (s.a.getD i 0) n),H):=by
   rw[Kk _ (by omega),Jq (Zo gr h16 i) h16 hai]
   rfl
  have e9:=oK i (by omega)
  rw[aI,Xr];cases hp:jX (λk=>(grM gr n i).testBit k) (s.a.getD i 0) n with
  |none=>
   rw[hp] at a5 hnext;have c2:((-1:Int)== -1)=true:=rfl;simp -implicitDefEqProofs only[gsR,c1,a1,a2,l1,a3,a4,a5,pD,c2,cI,e9];exact ih (i+1) k H gb (by omega) (by omega) (by omega) (by rw[hnext];exact hS) hfr hgb ..
  |some j=>
   rw[hp] at a5 hnext;have hjn:=(uS hp).1;have hjb:=(uS hp).2;have hfree:s.m.getD i 0= -1:=by
    have:gr j=some i:=by
     rw[grM,lA,aOQ hjn,aOu,beq_iff_eq] at hjb;exact hjb
    rw[hgr] at this;exact hmi.trans (Zq this).1
   have c2:((j:Int)== -1)=false:=by rw[beq_eq_false_iff_ne];omega
   obtain⟨t1,t2,t3,t4,t5⟩:=hS.aLM hI h1 hne hma hmb (rd==0) hin hjn hfree;have l2:ld1 (.pointer (some ⟨sb,0,none⟩)) H=some (eE mb n,H):=cT hS.st rfl;have i2:bH 1 (eE mb n) (.int .i64 (i:Int))=some (.pointer (some ⟨mb,i,none⟩)):=(zD (c:=n) hS.mt hI.ml hin).1;have st1:=Zx (i:=i) (j:Int) hS.mt (by rw[hI.ml];exact hin)
   obtain⟨H1,hH1⟩: ∃H1,H1=H.set mb (fB (s.m.set i (j:Int)) []):=⟨_,rfl⟩;rw[<-hH1] at t1 t2 t3 t4 t5 st1;have l3:ld1 (.pointer (some ⟨sb,1,none⟩)) H1=some (.int .u16 (eY s.m n:Nat),H1):=cT t1 rfl;have hil:eY s.m n<65536:=rB _ h16;have hol:kE s.m n<65536:=rB _ h16;have hi1:=(vI (a:=0) (i:=i) (by omega) (by omega)).1
   have hj1:=(vI (a:=0) (i:=j) (by omega) (by omega)).1
   have hi2:=Z0 (i:=i) hil (by omega)
   have hj2:=Z0 (i:=j) hol (by omega)
   have st2:stN 1 (.pointer (some ⟨sb,1,none⟩)) (.int .u16 (lF (eY s.m n) (2 ^ i):Nat)) H1=some (undef,H1.set sb (stB mb n (lF (eY s.m n) (2 ^ i)) (kE s.m n))):=lQ t1 (by decide) (by simp)
   obtain⟨H2,hH2⟩: ∃H2,H2=H1.set sb (stB mb n (lF (eY s.m n) (2 ^ i)) (kE s.m n)):=⟨_,rfl⟩;rw[<-hH2] at t2 t3 t4 t5 st2;have l4:ld1 (.pointer (some ⟨sb,2,none⟩)) H2=some (.int .u16 (kE s.m n:Nat),H2):=cT t2 rfl;have st3:stN 1 (.pointer (some ⟨sb,2,none⟩)) (.int .u16 (lF (kE s.m n) (2 ^ j):Nat)) H2=some (undef,H2.set sb (stB mb n (lF (eY s.m n) (2 ^ i)) (lF (kE s.m n) (2 ^ j)))):=lQ t2 (by decide) (by simp)
   obtain⟨H3,hH3⟩: ∃H3,H3=H2.set sb (stB mb n (lF (eY s.m n) (2 ^ i)) (lF (kE s.m n) (2 ^ j))):=⟨_,rfl⟩;rw[<-hH3] at t3 t4 t5 st3;have ngs:gb≠sb:=λhh=>by have:=hS.st;rw[<-hh,hgb] at this;exact Z1 (aOJ this).symm
   have ngm:gb≠mb:=λhh=>by have:=hS.mt;rw[<-hh,hgb] at this;exact zE (aOJ this)
   have ngg:gb≠ga:=λhh=>by have:=b1;rw[<-hh,hgb] at this;exact zE (aOJ this)
   have nga:gb≠aa:=λhh=>by have:=b2;rw[<-hh,hgb] at this;exact zE (aOJ this)
   have k3: ∀b,b≠sb->b≠mb->H3[b]? =H[b]? :=λb h1 h2=>by rw[hH3,hH2,hH1,aN7 h1.symm,aN7 h1.symm,aN7 h2.symm]
   have hl3:H3.length=H.length:=by rw[hH3,hH2,hH1];simp
   have f3:Fr (λb=>b=ga∨b=aa) H0 H3:=⟨by rw[hl3];exact hfr.1,λb hb hn=>by rw[k3 b (by omega) (by omega),hfr.2 b hb hn]⟩
   have g3:H3[gb]? =some (iB (grL gr n n)):=by rw[k3 gb ngs ngm,hgb]
   by_cases hrd:rd=0
   ·subst hrd
    have c3:(((0:Nat):Int)==0)=true:=rfl;have q0:H3[ab]? =some (qH ga aa s.g.length):=t3.arb _ (aOf ..);rw[hI.gl] at q0;have q1:H3[ga]? =some (iA s.g):=t3.arb (ga,iA s.g) (by simp[iY])
    have l5:ld1 (.pointer (some ⟨ab,0,none⟩)) H3=some (eE ga n,H3):=cT q0 rfl;have l6:ld1 (.pointer (some ⟨ab,1,none⟩)) H3=some (eE aa n,H3):=cT q0 rfl;have e10:=oK j (by omega)
    have r1:bin prog .rem 3 (.int .i64 ((i+1:Nat):Int)) (.int .i64 n)=some (.int .i64 (((i+1)%n:Nat):Int)):=rS (i+1) n _ rfl (by omega)
    have r2:bin prog .rem 3 (.int .i64 ((j+1:Nat):Int)) (.int .i64 n)=some (.int .i64 (((j+1)%n:Nat):Int)):=rS (j+1) n _ rfl (by omega)
    have i5:=(Ga q1 hI.gl hjn).1;have i6:=(Ga (b:=aa) (H:=H) b2 hI.al hin).1;have st4:=Zy (i:=j) ((i+1)%n) q1 (by rw[hI.gl];exact hjn)
    obtain⟨H4,hH4⟩: ∃H4,H4=H3.set ga (iA (s.g.set j ((i+1)%n))):=⟨_,rfl⟩;rw[<-hH4] at t4 t5 st4;have st5:=Zy (i:=i) ((j+1)%n) t4 (by rw[hI.al];exact hin)
    obtain⟨H5,hH5⟩: ∃H5,H5=H4.set aa (iA (s.a.set i ((j+1)%n))):=⟨_,rfl⟩;rw[<-hH5] at t5 st5;simp -implicitDefEqProofs only[gsR,c1,a1,a2,l1,a3,a4,a5,pD,c2,l2,i2,st1,l3,hi1,hi2,st2,l4,hj1,hj2,st3,c3,l5,l6,cI,e9,e10,r1,r2,i5,i6,st4,st5];refine ih (i+1) k H5 gb (by omega) (by omega) (by omega) (by rw[hnext];exact t5) ?_ ?_ ..
    ·refine⟨by rw[hH5,hH4];simp;exact f3.1,λb hb hn=> ?_⟩
     rw[hH5,hH4,aN7 (λhh=>hn (.inr hh.symm)),aN7 (λhh=>hn (.inl hh.symm)),f3.2 b hb hn]
    ·rw[hH5,hH4,aN7 nga.symm,aN7 ngg.symm,g3]
   ·have c3:((rd:Int)==0)=false:=by rw[beq_eq_false_iff_ne];omega
    have c4:(rd==0)=false:=by simpa using hrd
    rw[c4] at hnext;simp -implicitDefEqProofs only[gsR,c1,a1,a2,l1,a3,a4,a5,pD,c2,l2,i2,st1,l3,hi1,hi2,st2,l4,hj1,hj2,st3,c3,cI,e9];refine ih (i+1) k H3 gb (by omega) (by omega) (by omega) ?_ f3 g3 ..
    rw[c4,hnext];exact t3
end
section
variable {H : aC} {m : Nat} {ab ga aa sb mb cb : Nat} {rows : List Nat} {n : Nat}
def oL (rows:List Nat)(n:Nat)(s:Mat):Nat->Mat
 |0=>s
 |k+1=>rnd (kL rows) n (k==0) (oL rows n s k)
theorem O1 {s:Mat}(h:MatI n s)(hn:1<=n): ∀k,MatI n (oL rows n s k)
 |0=>h
 |k+1=>(O1 h hn k).rnd (by omega)
theorem Z3 (req:Nat->Nat->Bool): ∀(k:Nat)(s:Mat),wM req n (k+1) s=rnd req n false (wM req n k s)
 |0,s=>rfl
 |k+1,s=>by
  rw[wM,Z3 req k,wM]
theorem O2 (g a:List Nat): ∀k,oL rows n ⟨List.replicate n (-1),g,a⟩ (k+1)=rQ (kL rows) n (k+1) g a
 |0=>rfl
 |k+1=>by
  rw[oL,O2 g a k];unfold rQ;have:(k+1==0)=false:=rfl;rw[this,show k+1+1-1=k+1 by omega,Z3]
  rfl
theorem Z2 {s:Mat}(h:MatI n s)(hn:1<=n){k:Nat}(he:oL rows n s (k+1)=oL rows n s k): ∀j,oL rows n s (k+j)=oL rows n s k
 |0=>rfl
 |j+1=>by
  rw[<-Nat.add_assoc,oL,Z2 h hn he j];rw[oL] at he;exact aEp (by rw[(O1 h hn k).ml];exact aOb _) _ he
theorem aLR {H0:aC}{rounds:Nat}{g a:List Nat}(hI0:MatI n ⟨List.replicate n (-1),g,a⟩)(h1:1<=n)(h16:n<=16)(hne:ga≠aa)(hma:mb≠ga)(hmb:mb≠aa)(hsb:H0.length<=sb)(hmb0:H0.length<=mb)(hr:rows.length=n)(hrd:1<=rounds)(hr16:rounds<=16)(hm:80<m){Q:aC->Value->Prop}
  (hK: ∀H',RunS H' ab ga aa sb mb cb rows n (oL rows n ⟨List.replicate n (-1),g,a⟩ rounds)->Fr (λb=>b=ga∨b=aa) H0 H'->Q H' (eE mb n)):
  ∀(q i k:Nat)(H:aC),rounds-i=q->i<=rounds->q<k->RunS H ab ga aa sb mb cb rows n (oL rows n ⟨List.replicate n (-1),g,a⟩ i)->Fr (λb=>b=ga∨b=aa) H0 H->
  ∀(x1 x2 x3 x4 x5 x6 x8 bM aR aN aM aP aZ bG aQ bC bJ bL bI bE aS aT aU aV aW aX aY bA bB bN bO bP bQ bR bS bT bU bV bY cE cG cH cU cV cM cN cO cR cY cW cX cZ dD dH dE dI dP dQ dV dW dX dY dZ eA eC eJ eK eM eN eO eP eQ eS eT eU eV eW fC fD fE fF fG fH fI fJ fS fT fU fV fW fX fY fZ gA gB gC gD gE gG gH gI gJ gK gL gM gN gO gP gQ gR gS gT gU gV gW gX gY gZ jB jC jD jE jH jI jJ jK jL jM jO:Value),∃H2 r,aI k (aK prog (lvl prog pkN m) (aI m) Nf) (Nj (lvl prog pkN m) (aI m)) [(.pointer (some ⟨ab,0,none⟩)),x1,x2,x3,x4,x5,x6,(.int .i64 n),x8,(.pointer (some ⟨sb,0,none⟩)),(eE cb n),bM,aR,aN,aM,aP,aZ,bG,aQ,bC,bJ,bL,bI,bE,aS,aT,aU,aV,aW,aX,aY,bA,bB,bN,bO,bP,bQ,bR,bS,bT,bU,bV,bY,cE,cG,cH,(.int .i64 rounds),(.int .i64 (i:Nat)),cU,cV,cM,cN,cO,cR,cY,cW,cX,cZ,dD,dH,dE,dI,dP,dQ,dV,dW,dX,dY,dZ,eA,eC,eJ,eK,eM,eN,eO,eP,eQ,eS,eT,eU,eV,eW,fC,fD,fE,fF,fG,fH,fI,fJ,fS,fT,fU,fV,fW,fX,fY,fZ,gA,gB,gC,gD,gE,gG,gH,gI,gJ,gK,gL,gM,gN,gO,gP,gQ,gR,gS,gT,gU,gV,gW,gX,gY,gZ,jB,jC,jD,jE,jH,jI,jJ,jK,jL,jM,jO] H=some (r,H2)/\Q H2 r:=by
 have out: ∀(H:aC),RunS H ab ga aa sb mb cb rows n (oL rows n ⟨List.replicate n (-1),g,a⟩ rounds)->Fr (λb=>b=ga∨b=aa) H0 H-> ∀(x0 x1 x2 x3 x4 x5 x6 x7 x8 bK bM aR aN aM aP aZ bG aQ bC bJ bL bI bE aS aT aU aV aW aX aY bA bB bN bO bP bQ bR bS bT bU bV bY cE cG cH cL cQ cU cV cM cN cO cR cY cW cX cZ dD dH dE dI dP dQ dV dW dX dY dZ eA eC eJ eK eM eN eO eP eQ eS eT eU eV eW fC fD fE fF fG fH fI fJ fS fT fU fV fW fX fY fZ gA gB gC gD gE gG gH gI gJ gK gL gM gN gO gP gQ gR gS gT gU gV gW gX gY gZ jB jC jD jE jH jI jJ jK jL jM jO:Value),∃H2 r,Nh (lvl prog pkN m) (aI m) x0 x1 x2 x3 x4 x5 x6 x7 x8 (.pointer (some ⟨sb,0,none⟩)) bK bM aR aN aM aP aZ bG aQ bC bJ bL bI bE aS aT aU aV aW aX aY bA bB bN bO bP bQ bR bS bT bU bV bY cE cG cH cL cQ cU cV cM cN cO cR cY cW cX cZ dD dH dE dI dP dQ dV dW dX dY dZ eA eC eJ eK eM eN eO eP eQ eS eT eU eV eW fC fD fE fF fG fH fI fJ fS fT fU fV fW fX fY fZ gA gB gC gD gE gG gH gI gJ gK gL gM gN gO gP gQ gR gS gT gU gV gW gX gY gZ jB jC jD jE jH jI jJ jK jL jM jO H=some (r,H2)/\Q H2 r:=by
  intro H hS hfr;intros;have l2:ld1 (.pointer (some ⟨sb,0,none⟩)) H=some (eE mb n,H):=cT hS.st rfl;unfold Nh;simp -implicitDefEqProofs only[gsR,l2]
  exact⟨_,_,rfl,hK H hS hfr⟩
 intro q;induction q with
 |zero=>
  intro i k H hq hi hk hS hfr;intros;obtain⟨k,rfl⟩: ∃k',k=k'+1:=⟨k-1,by omega⟩
  have hie:i=rounds:=by omega
  subst hie;have c1:decide ((i:Int)<(i:Int))=false:=by simp
  rw[aI,Xq];simp -implicitDefEqProofs only[gsR,c1];rw[Xs];exact out H hS hfr ..
 |succ q ih=>
  intro i k H hq hi hk hS hfr;intros;obtain⟨k,rfl⟩: ∃k',k=k'+1:=⟨k-1,by omega⟩
  have c1:decide ((i:Int)<(rounds:Int))=true:=by rw[decide_eq_true_eq];omega
  obtain⟨s0,hs0⟩: ∃s0,s0=oL rows n ⟨List.replicate n (-1),g,a⟩ i:=⟨_,rfl⟩;have hI:MatI n s0:=by rw[hs0];exact O1 hI0 h1 i
  rw[<-hs0] at hS;have l1:ld1 (.pointer (some ⟨sb,1,none⟩)) H=some (.int .u16 (eY s0.m n:Nat),H):=cT hS.st rfl;have a1:=aLI (m:=m) hS.arb hS.st hS.cols hI.gl hI.g hr hI.ml h1 h16 (by omega)
  have a2:bX (eE H.length n)=some (.int .i64 n):=rfl;rw[aI,Xq];simp -implicitDefEqProofs only[gsR,c1,l1,a1,a2];refine aLO (H0:=H0) (s0:=s0) (was:=eY s0.m n) (rd:=i) (rounds:=rounds) hI h1 h16 hne hma hmb hsb hmb0 (by omega) ?_ n 0 m _ H.length (by omega) (by omega) (by omega) (hS.ext (Fr.app _ _ _)) ⟨by have:=hfr.1;simp;omega,λb hb hn=>by rw[aN9 (aOl hb hfr.1),hfr.2 b hb hn]⟩ (dK _ _) ..
  intro H' hS' hfr';intros;have l3:ld1 (.pointer (some ⟨sb,1,none⟩)) H'=some (.int .u16 (eY (rnd (kL rows) n (i==0) s0).m n:Nat),H'):=cT hS'.st rfl;have hrk:rnd (kL rows) n (i==0) s0=oL rows n ⟨List.replicate n (-1),g,a⟩ (i+1):=by rw[oL,hs0]
  have e9:=oK i (by omega)
  unfold Ni;by_cases hst:eY (rnd (kL rows) n (i==0) s0).m n=eY s0.m n
  ·have c2:(((eY (rnd (kL rows) n (i==0) s0).m n:Nat):Int)==((eY s0.m n:Nat):Int))=true:=by rw[hst];simp
   have hsame:=aLC hI.ml hst;simp -implicitDefEqProofs only[gsR,l3,c2];rw[Xs];refine out H' ?_ hfr' ..;have:oL rows n ⟨List.replicate n (-1),g,a⟩ rounds=rnd (kL rows) n (i==0) s0:=by
    have:=Z2 (rows:=rows) hI0 h1 (k:=i) (by rw[<-hrk,hsame,hs0]) (rounds-i)
    rw[show i+(rounds-i)=rounds by omega] at this
    rw[this,hsame,hs0]
   rw[this];exact hS'
  ·have c2:(((eY (rnd (kL rows) n (i==0) s0).m n:Nat):Int)==((eY s0.m n:Nat):Int))=false:=by rw[beq_eq_false_iff_ne];omega
   rw[hrk] at hS';simp -implicitDefEqProofs only[gsR,l3,c2,cI,e9];exact ih (i+1) k H' (by omega) (by omega) (by omega) hS' hfr' ..
theorem aLQ {g a:List Nat}{qb rounds:Nat}(hB:Blks (iY ab ga aa g a) H)(hne:ga≠aa)(hg:g.length=n)(ha:a.length=n)(hgl: ∀z∈g,z<n)(hal: ∀z∈a,z<n)(h1:1<=n)(h15:n<=15)(hq:H[qb]? =some (iB rows))(hr:rows.length=n)(hrl: ∀z∈rows,z<65536)(hrd:1<=rounds)(hr16:rounds<=16)(hm:100<m):
  ∃H' mb,lvl prog pkN m (.func 99) [.pointer (some ⟨ab,0,none⟩),eE qb n,.int .i64 rounds] H=some (eE mb n,H')/\H'[mb]? =some (fB (rQ (kL rows) n rounds g a).m [])/\H.length<=mb/\Fr (λb=>b=ga∨b=aa) H H'/\Blks (iY ab ga aa (rQ (kL rows) n rounds g a).g (rQ (kL rows) n rounds g a).a) H':=by
 have main: ∃H' r,lvl prog pkN m (.func 99) [.pointer (some ⟨ab,0,none⟩),eE qb n,.int .i64 rounds] H=some (r,H')/\(r=eE (H.length+1) n/\H'[H.length+1]? =some (fB (rQ (kL rows) n rounds g a).m [])/\Fr (λb=>b=ga∨b=aa) H H'/\Blks (iY ab ga aa (rQ (kL rows) n rounds g a).g (rQ (kL rows) n rounds g a).a) H'):=by
  have h16:n<=16:=by omega
  have b0:H[ab]? =some (qH ga aa g.length):=hB _ (aOf ..);have b1:H[ga]? =some (iA g):=hB (ga,iA g) (by simp[iY])
  have b2:H[aa]? =some (iA a):=hB (aa,iA a) (by simp[iY])
  rw[hg] at b0;refine iP (cJ rfl) (by omega) ?_
  rw[aJl];have l0:ld1 (.pointer (some ⟨ab,0,none⟩)) H=some (eE ga n,H):=cT b0 rfl;have e0: ∀b,bX (eE b n)=some (.int .i64 n):=λ_=>rfl
  have c1:((n:Int)!=(n:Int))=false:=by simp
  have c2:decide ((rounds:Int)<1)=false:=by rw[decide_eq_false_iff_not];omega
  have c3:decide ((16:Int)<(rounds:Int))=false:=by rw[decide_eq_false_iff_not];omega
  have e1:=(vI (a:=0) (i:=n) (by omega) (by omega)).1
  have hpow:2 ^ n<2 ^ 17:=Nat.pow_lt_pow_right (by omega) (by omega)
  have hpos:0<2 ^ n:=Nat.pow_pos (by omega)
  have hpl:2 ^ n<65536:=Du (by omega)
  have e2:IntKind.u16.wrap ((2 ^ n:Nat)-(1:Int))=((2 ^ n-1:Nat):Int):=by rw[A4];omega
  have e3:dJ 3 1 1 [.int .i64 0] [(0,.int .i64 (-1))] H=some (.slice (some ⟨H.length,0,none⟩) 1 1,H++[.cells [.int .i64 (-1)] 3 .row]):=rfl;obtain⟨H1,hH1⟩: ∃H1,H1=H++[Blk.cells [.int .i64 (-1)] 3 .row]:=⟨_,rfl⟩;rw[<-hH1] at e3;have h1l:H1.length=H.length+1:=by rw[hH1];simp
  have e4:=aLj (H:=H1) (m:=m-1) (by omega) n h1 h16 (c:=1) (by rw[hH1];exact dK H _)
  obtain⟨H2,hH2⟩: ∃H2,H2=H1++[lJ n n]:=⟨_,rfl⟩;rw[<-hH2] at e4;have h2l:H2.length=H.length+2:=by rw[hH2];simp;omega
  have e5:bld prog 283 [(0,eE H1.length n),(1,.int .u16 (2 ^ n-1:Nat)),(2,.int .u16 (2 ^ n-1:Nat))]=some (.agg #[eE H1.length n,.int .u16 (2 ^ n-1:Nat),.int .u16 (2 ^ n-1:Nat)]):=rfl;have e6:H2++[Blk.cells (Value.cells (.agg #[eE H1.length n,.int .u16 (2 ^ n-1:Nat),.int .u16 (2 ^ n-1:Nat)])).toList 283 .fix]=H2++[stB H1.length n (2 ^ n-1) (2 ^ n-1)]:=rfl;obtain⟨H3,hH3⟩: ∃H3,H3=H2++[stB H1.length n (2 ^ n-1) (2 ^ n-1)]:=⟨_,rfl⟩;have h3l:H3.length=H.length+3:=by rw[hH3];simp;omega
  have x3:Ext H H3:=by
   have y1:Ext H H1:=by rw[hH1];exact Fr.app _ _ _
   have y2:Ext H1 H2:=by rw[hH2];exact Fr.app _ _ _
   have y3:Ext H2 H3:=by rw[hH3];exact Fr.app _ _ _
   exact(y1.tr y2).tr y3
  have hq3:H3[qb]? =some (iB rows):=by rw[x3.2 _ (dC hq) id,hq]
  have e7:lvl prog pkN (m-1) (.func 180) [eE qb n,.int .i64 n] H3=some (eE H3.length n,H3++[iB (jY rows n)]):=by
   rw[aFF _ (by omega)]
   unfold tN eE;simp only;rw[if_pos (by omega),hq3]
   unfold iB;simp only;rw[if_pos (by simp;omega),List.drop_zero,List.take_of_length_le (by simp;omega),Tu rows hrl]
   simp only[aOz]
  simp -implicitDefEqProofs only[gsR,l0,e0,c1,c2,c3,e1,iF,e2,e3,e4,e5,e6,<-hH3,e7];have hI0:MatI n ⟨List.replicate n (-1),g,a⟩:=MatI.Yj hg ha hgl hal;have x4:Ext H (H3++[iB (jY rows n)]):=by
   have y4:Ext H3 (H3++[iB (jY rows n)]):=Fr.app _ _ _;exact x3.tr y4
  have x4':Ext H3 (H3++[iB (jY rows n)]):=Fr.app _ _ _;have hm3:H3[H1.length]? =some (fB (List.replicate n (-1)) []):=by
   have:H2[H1.length]? =some (lJ n n):=by rw[hH2];exact dK _ _
   rw[hH3,nK this];unfold lJ fB;rw[Nat.sub_self,List.map_replicate];rfl
  have hs3:H3[H2.length]? =some (stB H1.length n (2 ^ n-1) (2 ^ n-1)):=by rw[hH3];exact dK _ _
  have hS:RunS (H3++[iB (jY rows n)]) ab ga aa H2.length H1.length H3.length rows n ⟨List.replicate n (-1),g,a⟩:=by
   refine⟨Blks.dx _ _ _ hB x4,?_,by rw[x4'.2 _ (dC hm3) id,hm3],dK _ _⟩
   rw[x4'.2 _ (dC hs3) id,hs3];simp only;rw[aLx,aLA]
  have hgal:=dC b1;have haal:=dC b2;refine aLR (H0:=H) (rounds:=rounds) hI0 h1 h16 hne (by omega) (by omega) (by omega) (by omega) hr hrd hr16 (by omega) ?_ rounds 0 (m-1) _ (by omega) (by omega) (by omega) hS (x4.Ay λ_ h=>h.elim) ..
  intro H' hS' hfr';have hmt:=hS'.mt;obtain⟨r',hr'⟩: ∃r',rounds=r'+1:=⟨rounds-1,by omega⟩
  have harb:=hS'.arb;rw[hr',O2,<-hr',h1l] at hmt;rw[hr',O2,<-hr'] at harb
  exact⟨by rw[h1l],hmt,hfr',harb⟩
 obtain⟨H',r,g1,rfl,g2,g3,g4⟩:=main
 exact⟨H',H.length+1,g1,g2,by omega,g3,g4⟩
theorem aLP (h1:1<=n)(h16:n<=16)(hm:0<m): ∃ab ga aa H',lvl prog pkN m (.func 91) [.int .i64 n] H=some (.pointer (some ⟨ab,0,none⟩),H')/\Blks (iY ab ga aa (List.replicate n 0) (List.replicate n 0)) H'/\ga≠aa/\Ext H H'/\H.length<=ab/\H.length<=ga/\H.length<=aa:=by
 have mk:=λH:aC=>wC (H:=H) 3 1 8 [.int .i64 0] .i64 .i64 (n:Int) (by omega) (by omega) (by omega) rfl
 have hz: ∀H:aC,H++[Blk.cells (List.replicate (n:Int).toNat [Value.int .i64 0]).flatten 3 .row]=H++[iA (List.replicate n 0)]:=λH=>by
  have: ∀n,(List.replicate n [Value.int .i64 0]).flatten=List.replicate n (.int .i64 0):=by
   intro n;induction n with
   |zero=>rfl
   |succ n ih=>rw[List.replicate_succ,aOH,ih];rfl
  rw[aOz,this,iA,fB,tX,List.map_replicate,List.map_replicate,List.append_nil];rfl
 have mk': ∀H:aC,lC 3 1 8 [.int .i64 0] (.int .i64 (n:Int)) (.int .i64 (n:Int)) H=some (eE H.length n,H++[iA (List.replicate n 0)]):=λH=>by
  have:=mk H;rw[hz,aOz] at this;exact this
 obtain⟨H1,hH1⟩: ∃H1,H1=H++[iA (List.replicate n 0)]:=⟨_,rfl⟩;obtain⟨H2,hH2⟩: ∃H2,H2=H1++[iA (List.replicate n 0)]:=⟨_,rfl⟩;have h1l:H1.length=H.length+1:=by rw[hH1];simp
 have h2l:H2.length=H.length+2:=by rw[hH2];simp;omega
 have e5:bld prog 269 [(0,eE H.length n),(1,eE H1.length n)]=some (.agg #[eE H.length n,eE H1.length n]):=rfl;have c2:decide ((n:Int)<1)=false:=by rw[decide_eq_false_iff_not];omega
 have c3:decide ((16:Int)<(n:Int))=false:=by rw[decide_eq_false_iff_not];omega
 have e6:H2++[Blk.cells (Value.cells (.agg #[eE H.length n,eE H1.length n])).toList 269 .fix]=H2++[qH H.length H1.length n]:=rfl;have y1:Ext H H1:=by rw[hH1];exact Fr.app _ _ _
 have y2:Ext H1 H2:=by rw[hH2];exact Fr.app _ _ _
 have y3:Ext H2 (H2++[qH H.length H1.length n]):=Fr.app _ _ _;refine⟨H2.length,H.length,H1.length,H2++[qH H.length H1.length n],dA (cJ rfl) (by omega) ?_,λp hp=> ?_,by omega,(y1.tr y2).tr y3,by omega,by omega,by omega⟩
 ·rw[aJc]
  simp -implicitDefEqProofs only[gsR,c2,c3,mk',<-hH1,<-hH2,e5,e6]
 ·have q1:H1[H.length]? =some (iA (List.replicate n 0)):=by rw[hH1];exact dK _ _
  have q2:H2[H1.length]? =some (iA (List.replicate n 0)):=by rw[hH2];exact dK _ _
  simp only[iY,aOq,aOx,or_false,List.length_replicate] at hp;rcases hp with rfl|rfl|rfl
  ·exact dK _ _
  ·simp only
   rw[y3.2 _ (by rw[h2l];omega) id,y2.2 _ (by omega) id,q1]
  ·simp only
   rw[y3.2 _ (by rw[h2l,h1l];omega) id,q2]
end
end Go.Proofs.YtmimdleeihjdoaaGreatDoor
namespace Go.Proofs.YtmimdleeihjdoaaGreatDoor
open Go.Proofs.Tryz
open Go.Abs
open Classical
def iI (p:PlanD)(me:Nat):Cfg where
 nodes:=p.nodes.toNat
 lanes:=p.lanes.toNat
 room:=p.room.toNat
 queue:=p.queue.toNat
 rounds:=p.rounds.toNat
 every:=p.every.toNat
 weights:=p.weights
 start:=p.start.toNat
 me:=me
 by':=(bes p.edges me).map Int.toNat
 port:=λd=>if d=me then 0 else match ((bes p.edges me).map Int.toNat).findIdx? λw:Nat=>decide ((w:Int)=nx p me d) with
  |some j=>j+1
  |none=>0
structure Lay where
 nb:Nat
 pb:Nat
 pcap:Nat
 prest:List Value
 lb:Nat->Nat
 lcap:Nat->Nat
 lrest:Nat->List Value
 wh:Nat->Nat
 ww:Nat->Nat
 wl:Nat->Nat
 wc:Nat->Nat
 lc:Nat->Nat
 wr:Nat->List Value
 lr:Nat->List Value
 sb:Nat->Nat->Nat
 rb:Nat->Nat->Nat
 ab:Nat
 ga:Nat
 aa:Nat
 hb:Nat
 rg:Nat
inductive Part where
 |node
 |host
 |rings
 |arb
 |whl (i:Nat)
 |snd (i k:Nat)
 |rcv (i k:Nat)
abbrev pt (b:Nat):Value:= .pointer (some ⟨b,0,none⟩)
def kM (c:Cfg)(i:Nat):Nat:=if i=0 then c.me else c.by'.getD (i-1) 0
def mT (y:Lay)(c:Cfg)(i:Nat):Value:=if i=0 then .slice none 0 0 else .slice (some ⟨y.lb i,0,none⟩) c.lanes (y.lcap i)
def fQ (y:Lay)(c:Cfg)(i:Nat):List Value:=[.int .i64 (kM c i),mT y c i,pt (y.wh i)]
def mB (y:Lay)(i k:Nat):List Value:=[pt (y.sb i k),pt (y.rb i k)]
def iJ (y:Lay)(c:Cfg):Value:= .slice (some ⟨y.pb,0,none⟩) c.aH y.pcap
def O4 (bag:Int)(ev wv nv:Value)(y:Lay)(c:Cfg)(ticks:Nat):List Value:=
 [pt y.ab,.int .i64 c.nodes,ev,.int .i64 c.lanes,.int .i64 c.room,.int .i64 c.queue,.int .i64 c.rounds,.int .i64 c.every,.int .i64 bag,wv,.int .u16 c.start,nv,.int .i64 c.me,iJ y c,pt y.hb,pt y.rg,.int .i64 ticks]
def vJ (bag:Int)(ev wv nv:Value)(y:Lay)(c:Cfg)(ticks:Nat):Blk:= .cells (O4 bag ev wv nv y c ticks) 162 .fix
def xC (y:Lay)(c:Cfg):Blk:= .cells (((List.range c.aH).map (fQ y c)).flatten++y.prest) 167 .row
def oM (y:Lay)(c:Cfg)(i:Nat):Blk:= .cells (((List.range c.lanes).map (mB y i)).flatten++y.lrest i) 172 .row
def mC (bag:Int)(ev wv nv:Value)(y:Lay)(c:Cfg)(ticks:Nat):List (Nat×Blk):=
 (y.nb,vJ bag ev wv nv y c ticks)::(y.pb,xC y c)::(List.range c.by'.length).map λj=>(y.lb (j+1),oM y c (j+1))
def lM (bag:Int)(ev wv nv:Value)(y:Lay)(c:Cfg)(s:NS):Part->aC->Prop
 | .node=>Blks (mC bag ev wv nv y c s.ticks)
 | .host=>λD=>HostAt D y.hb s.hL s.hG c.lanes c.queue
 | .rings=>λD=>RingsN D y.rg s.rL (c.aH*c.lanes*c.room) c.aH c.lanes
 | .arb=>Blks (iY y.ab y.ga y.aa s.g s.a)
 | .whl i=>Blks (if i<c.aH then lK (y.wh i) (y.ww i) (y.wl i) (y.wc i) (y.lc i) (y.wr i) (y.lr i) c.weights (s.whl i) else [])
 | .snd i k=>Blks (if 1<=i/\i<c.aH/\k<c.lanes then [(y.sb i k,mA (s.snd i k))] else [])
 | .rcv i k=>Blks (if 1<=i/\i<c.aH/\k<c.lanes then [(y.rb i k,jA (s.rcv i k) c.room)] else [])
structure LayOk (y:Lay)(c:Cfg):Prop where
 pcap:c.aH<=y.pcap
 lcap: ∀i,1<=i->i<c.aH->c.lanes<=y.lcap i
 ga:y.ga≠y.aa
 ww: ∀i,i<c.aH->y.ww i≠y.wl i
structure NodeAt (H0 H:aC)(F:Part->Nat->Prop)(y:Lay)(p:PlanD)(ev wv nv:Value)(c:Cfg)(t:Nat)(s:NS):Prop where
 ok:c.ok
 hc:c=iI p c.me
 hp: ∃n,OkP p n
 lay:LayOk y c
 ext:Ext H0 H
 old: ∀b,Un F b->H0.length<=b
 plan:PV H0 p ev wv nv
 inv:NInv c t s
 sep:Sep (lM p.bag ev wv nv y c s) F H
theorem zF (bag:Int)(ev wv nv:Value)(y:Lay)(c:Cfg)(s:NS)(i:Part):DX (lM bag ev wv nv y c s i):=by
 cases i with
 |host=>exact λD D' h he=>h.ext he
 |rings=>exact λD D' h he=>h.ext he
 |_=>exact Blks.dx _
theorem Gf {l:List (Nat×Blk)}(h: ∀p∈l,∃cs e k,p.2= .cells cs e k):rV l:=λp hp hd=>by
 obtain⟨cs,e,k,he⟩:=h p hp;rw[he] at hd;cases hd
theorem xB {bag:Int}{ev wv nv:Value}{y:Lay}{c:Cfg}{ticks:Nat}:rV (mC bag ev wv nv y c ticks):=Gf λp hp=>by
 simp only[mC,aOq,aOK] at hp;rcases hp with rfl|rfl|⟨j,_,rfl⟩<;>exact⟨_,_,_,rfl⟩
theorem Z8 {ab ga aa:Nat}{g a:List Nat}:rV (iY ab ga aa g a):=Gf λp hp=>by
 simp only[iY,aOq,aOx,or_false] at hp;rcases hp with rfl|rfl|rfl<;>exact⟨_,_,_,rfl⟩
theorem Z9 {wh ww wl wc lc:Nat}{wr lr:List Value}{W:List Int}{x:Whl}:rV (lK wh ww wl wc lc wr lr W x):=Gf λp hp=>by
 simp only[lK,aOq,aOx,or_false] at hp;rcases hp with rfl|rfl|rfl<;>exact⟨_,_,_,rfl⟩
theorem Gg {b:Nat}{cs:List Value}{e:TypeId}{k:Kind}:rV [(b,Blk.cells cs e k)]:=Gf λp hp=>by
 simp only[aOq,aOx,or_false] at hp;subst hp
 exact⟨_,_,_,rfl⟩
section
variable {H0 H : aC} {F : Part → Nat → Prop} {y : Lay} {p : PlanD} {ev wv nv : Value} {c : Cfg} {t : Nat} {s : NS}
theorem NodeAt.fR {H':aC}(h:NodeAt H0 H F y p ev wv nv c t s)(he:Ext H H'):NodeAt H0 H' F y p ev wv nv c t s:=
 {h with ext:=h.ext.tr he,sep:=h.sep.ext (zF _ _ _ _ _ _ _) he}
theorem NodeAt.nbB (h:NodeAt H0 H F y p ev wv nv c t s):H[y.nb]? =some (vJ p.bag ev wv nv y c s.ticks):=h.sep.w7 .node rfl xB (aOf ..)
theorem NodeAt.ld (h:NodeAt H0 H F y p ev wv nv c t s)(j:Nat)(v:Value)(hv:(O4 p.bag ev wv nv y c s.ticks)[j]? =some v):ld1 (.pointer (some ⟨y.nb,j,none⟩)) H=some (v,H):=cT h.nbB hv
theorem Ca (y:Lay)(c:Cfg)(i:Nat):(fQ y c i).length=3:=rfl
theorem aAa (y:Lay)(i k:Nat):(mB y i k).length=2:=rfl
theorem NodeAt.Z5 (h:NodeAt H0 H F y p ev wv nv c t s):Rs (fQ y c) 167 H (iJ y c) (List.range c.aH):=by
 have hb:H[y.pb]? =some (xC y c):=h.sep.w7 .node rfl xB (by simp[mC])
 refine .inr ⟨y.pb,0,y.pcap,by rw[aOB];rfl,by rw[aOB];exact h.lay.pcap,λ_=>⟨_,_,[],y.prest,rfl,λ_=>rfl,by rw[hb,List.nil_append];rfl⟩⟩
theorem NodeAt.aLS (h:NodeAt H0 H F y p ev wv nv c t s){i:Nat}(h1:1<=i)(h2:i<c.aH):Rs (mB y i) 172 H (mT y c i) (List.range c.lanes):=by
 have hb:H[y.lb i]? =some (oM y c i):=h.sep.w7 .node rfl xB (by
  simp only[mC,aOq,aOK,aOL];exact .inr (.inr ⟨i-1,by unfold Cfg.aH at h2;omega,by rw[Nat.sub_add_cancel h1]⟩))
 unfold mT;rw[if_neg (by omega)]
 refine .inr ⟨y.lb i,0,y.lcap i,by rw[aOB],by rw[aOB];exact h.lay.lcap i h1 h2,λ_=>⟨_,_,[],y.lrest i,rfl,λ_=>rfl,by rw[hb,List.nil_append];rfl⟩⟩
theorem NodeAt.xA (h:NodeAt H0 H F y p ev wv nv c t s){i:Nat}(hi:i<c.aH): ∃b o,bH 3 (iJ y c) (.int .i64 (i:Int))=some (.pointer (some ⟨b,o,none⟩))/\ ∀H',NodeAt H0 H' F y p ev wv nv c t s∨H'[b]? =H[b]? ->
  ldN 3 (.pointer (some ⟨b,o,none⟩)) H'=some (.agg ⟨fQ y c i⟩,H')/\ld1 (.pointer (some ⟨b,o,none⟩)) H'=some (.int .i64 (kM c i),H')/\ld1 (.pointer (some ⟨b,o+1,none⟩)) H'=some (mT y c i,H')/\ld1 (.pointer (some ⟨b,o+2,none⟩)) H'=some (pt (y.wh i),H'):=by
 obtain⟨b,o,g1,g2,g3⟩:=h.Z5.iS (Ca y c) (i:=i) (x:=i) (by simp[hi]) .i64
 have hb:b=y.pb:=by
  obtain⟨o',n',c',hh⟩:=g2;unfold iJ at hh;injection hh with hh;injection hh with hh;injection hh with hh;exact hh.symm
 refine⟨b,o,g1,λH' hH'=> ?_⟩
 have hsame:H'[b]? =H[b]? :=by
  rcases hH' with h'|h'
  ·have q1:H[y.pb]? =some (xC y c):=h.sep.w7 .node rfl xB (by simp[mC])
   have q2:H'[y.pb]? =some (xC y c):=h'.sep.w7 .node rfl xB (by simp[mC])
   rw[hb,q1,q2]
  ·exact h'
 obtain⟨q1,q2,_⟩:=g3 H' hsame
 exact⟨q1,q2 0 _ rfl,q2 1 _ rfl,q2 2 _ rfl⟩
theorem NodeAt.B8 (h:NodeAt H0 H F y p ev wv nv c t s){i k:Nat}(h1:1<=i)(hi:i<c.aH)(hk:k<c.lanes): ∃b o,bH 2 (mT y c i) (.int .i64 (k:Int))=some (.pointer (some ⟨b,o,none⟩))/\
  ldN 2 (.pointer (some ⟨b,o,none⟩)) H=some (.agg ⟨mB y i k⟩,H)/\ld1 (.pointer (some ⟨b,o,none⟩)) H=some (pt (y.sb i k),H)/\ld1 (.pointer (some ⟨b,o+1,none⟩)) H=some (pt (y.rb i k),H):=by
 obtain⟨b,o,g1,g2,g3⟩:=(h.aLS h1 hi).iS (aAa y i) (i:=k) (x:=k) (by simp[hk]) .i64
 obtain⟨q1,q2,_⟩:=g3 H rfl
 exact⟨b,o,g1,q1,q2 0 _ rfl,q2 1 _ rfl⟩
theorem NodeAt.B9 (h:NodeAt H0 H F y p ev wv nv c t s){i k:Nat}(h1:1<=i)(hi:i<c.aH)(hk:k<c.lanes):H[y.sb i k]? =some (mA (s.snd i k)):=
 h.sep.w7 (.snd i k) (l:=[(y.sb i k,Go.Proofs.YtmimdleeihjdoaaGreatDoor.mA (s.snd i k))]) (by simp only[lM];rw[if_pos ⟨h1,hi,hk⟩]) Gg (aOf ..)
theorem NodeAt.Gc (h:NodeAt H0 H F y p ev wv nv c t s){i k:Nat}(h1:1<=i)(hi:i<c.aH)(hk:k<c.lanes):H[y.rb i k]? =some (jA (s.rcv i k) c.room):=
 h.sep.w7 (.rcv i k) (l:=[(y.rb i k,Go.Proofs.YtmimdleeihjdoaaGreatDoor.jA (s.rcv i k) c.room)]) (by simp only[lM];rw[if_pos ⟨h1,hi,hk⟩]) Gg (aOf ..)
theorem NodeAt.aLT (h:NodeAt H0 H F y p ev wv nv c t s){i:Nat}(hi:i<c.aH):Blks (lK (y.wh i) (y.ww i) (y.wl i) (y.wc i) (y.lc i) (y.wr i) (y.lr i) c.weights (s.whl i)) H:=
 h.sep.see (.whl i) (by simp only[lM];rw[if_pos hi]) Z9
theorem NodeAt.Ge (h:NodeAt H0 H F y p ev wv nv c t s)(ht:t<1000000000)(i k:Nat):SndOk (s.snd i k):=by
 have:=h.inv.snd i k
 exact⟨this.le,this.wide,by have h1:=this.big;have h2:=this.wide;omega⟩
theorem NodeAt.Gd (h:NodeAt H0 H F y p ev wv nv c t s)(ht:t<1000000000)(i k:Nat):RcvOk (s.rcv i k) c.room:=by
 have:=h.inv.rcv i k
 exact⟨this.h,h.ok.room.2,by have:=this.big;omega⟩
theorem NodeAt.Z7 {H':aC}{F':Part->Nat->Prop}{t':Nat}{s':NS}(h:NodeAt H0 H F y p ev wv nv c t s)(hi:NInv c t' s')(hs:Sep (lM p.bag ev wv nv y c s') F' H')(hm:Mv (Un F) (Un F') H H'):NodeAt H0 H' F' y p ev wv nv c t' s':=
 {h with inv:=hi,sep:=hs,ext:=⟨aOm h.ext.1 hm.le,λb hb _=>by
   rw[hm.keep b (aOl hb h.ext.1) (λhu=>by have:=h.old b hu;omega),h.ext.2 b hb id]⟩,old:=λb hb=>(hm.own b hb).elim (h.old b) λhl=>aOm h.ext.1 hl}
theorem NodeAt.Z4 {H':aC}{F':Nat->Prop}{t':Nat}{s':NS}(h:NodeAt H0 H F y p ev wv nv c t s)(i:Part){B:aC->Prop}(hB:Has B F' H')(hm:Mv (F i) F' H H')(hi:NInv c t' s')
  (hBi: ∀D,B D->lM p.bag ev wv nv y c s' i D)(hj: ∀j,j≠i-> ∀D,lM p.bag ev wv nv y c s j D->lM p.bag ev wv nv y c s' j D):NodeAt H0 H' (updI F i F') y p ev wv nv c t' s'/\Mv (Un F) (Un (updI F i F')) H H':=by
 obtain⟨h1,h2⟩:=h.sep.Jm i (λj _=>zF _ _ _ _ _ _ _ j) hB hm
 refine⟨h.Z7 hi (h1.wI λj D hD=> ?_) h2,h2⟩
 by_cases hji:j=i
 ·rw[hji,nH] at hD
  rw[hji];exact hBi D hD
 ·rw[fM _ _ hji] at hD
  exact hj j hji D hD
theorem NodeAt.B7 {H':aC}{t':Nat}{s':NS}(h:NodeAt H0 H F y p ev wv nv c t s)(i:Part){l l':List (Nat×Blk)}(hA:lM p.bag ev wv nv y c s i=Blks l)(hl:rV l)(hsub: ∀q∈l',InB l q.1)(hf:Fr (InB l) H H')(hB:Blks l' H')(hi:NInv c t' s')
  (hBi:lM p.bag ev wv nv y c s' i=Blks l')(hj: ∀j,j≠i->lM p.bag ev wv nv y c s' j=lM p.bag ev wv nv y c s j):NodeAt H0 H' F y p ev wv nv c t' s'/\Mv (Un F) (Un F) H H':=by
 obtain⟨h1,h2⟩:=h.sep.aLn i (λj _=>zF _ _ _ _ _ _ _ j) hA hl hsub hf hB
 refine⟨h.Z7 hi (h1.wI λj D hD=> ?_) h2,h2⟩
 by_cases hji:j=i
 ·rw[hji,nH] at hD
  rw[hji,hBi];exact hD
 ·rw[fM _ _ hji] at hD
  rw[hj j hji];exact hD
theorem NodeAt.Z6 {H':aC}{t':Nat}{i k:Nat}{x':Snd}(h:NodeAt H0 H F y p ev wv nv c t s)(h1:1<=i)(h2:i<c.aH)(hk:k<c.lanes)(hp:Put1 H (y.sb i k) (Go.Proofs.YtmimdleeihjdoaaGreatDoor.mA x') H')(hi:NInv c t' {s with snd:=up2 s.snd i k x'}):
  NodeAt H0 H' F y p ev wv nv c t' {s with snd:=up2 s.snd i k x'}/\Mv (Un F) (Un F) H H':=by
 refine h.B7 (.snd i k) (l:=[(y.sb i k,Go.Proofs.YtmimdleeihjdoaaGreatDoor.mA (s.snd i k))]) (l':=[(y.sb i k,Go.Proofs.YtmimdleeihjdoaaGreatDoor.mA x')]) (by simp only[lM];rw[if_pos ⟨h1,h2,hk⟩]) Gg ?_ ?_ ?_ hi ?_ ?_
 ·intro q hq
  simp only[aOq,aOx,or_false] at hq;subst hq
  exact⟨_,aOf ..,rfl⟩
 ·exact⟨hp.le,λb hb hn=>hp.keep b hb λhh=>hn ⟨_,aOf ..,hh.symm⟩⟩
 ·intro q hq
  simp only[aOq,aOx,or_false] at hq;subst hq;exact hp.at_
 ·simp only[lM]
  rw[if_pos ⟨h1,h2,hk⟩,up2,if_pos ⟨rfl,rfl⟩]
 ·intro j hj
  cases j with
  |snd i' k'=>
   have e:up2 s.snd i k x' i' k'=s.snd i' k':=if_neg λhh=>hj (by rw[hh.1,hh.2])
   simp only[lM];rw[e]
  |_=>rfl
theorem NodeAt.O3 {H':aC}{t':Nat}{i k:Nat}{x':Rcv}(h:NodeAt H0 H F y p ev wv nv c t s)(h1:1<=i)(h2:i<c.aH)(hk:k<c.lanes)(hp:Put1 H (y.rb i k) (Go.Proofs.YtmimdleeihjdoaaGreatDoor.jA x' c.room) H')(hi:NInv c t' {s with rcv:=up2 s.rcv i k x'}):
  NodeAt H0 H' F y p ev wv nv c t' {s with rcv:=up2 s.rcv i k x'}/\Mv (Un F) (Un F) H H':=by
 refine h.B7 (.rcv i k) (l:=[(y.rb i k,Go.Proofs.YtmimdleeihjdoaaGreatDoor.jA (s.rcv i k) c.room)]) (l':=[(y.rb i k,Go.Proofs.YtmimdleeihjdoaaGreatDoor.jA x' c.room)]) (by simp only[lM];rw[if_pos ⟨h1,h2,hk⟩]) Gg ?_ ?_ ?_ hi ?_ ?_
 ·intro q hq
  simp only[aOq,aOx,or_false] at hq;subst hq
  exact⟨_,aOf ..,rfl⟩
 ·exact⟨hp.le,λb hb hn=>hp.keep b hb λhh=>hn ⟨_,aOf ..,hh.symm⟩⟩
 ·intro q hq
  simp only[aOq,aOx,or_false] at hq;subst hq;exact hp.at_
 ·simp only[lM]
  rw[if_pos ⟨h1,h2,hk⟩,up2,if_pos ⟨rfl,rfl⟩]
 ·intro j hj
  cases j with
  |rcv i' k'=>
   have e:up2 s.rcv i k x' i' k'=s.rcv i' k':=if_neg λhh=>hj (by rw[hh.1,hh.2])
   simp only[lM];rw[e]
  |_=>rfl
end
def vK:Value:= .agg #[.pointer none,.pointer none]
def fO (a b:Value):Blk:= .cells [a,b] 172 .fix
section
variable {H0 H : aC} {F : Part → Nat → Prop} {y : Lay} {p : PlanD} {ev wv nv : Value} {c : Cfg} {t : Nat} {s : NS} {m : Nat}
theorem Gh:bld prog 172 []=some vK:=rfl
theorem zG {b:Nat}{a0 b0:Value}(a1 b1:Value)(h:H[b]? =some (fO a0 b0))(ha:dR [a1,b1]=true):stN 2 (.pointer (some ⟨b,0,none⟩)) (.agg #[a1,b1]) H=some (undef,H.set b (fO a1 b1)):=yU h (by decide) rfl rfl (aOb 2) ha
theorem tY {b:Nat}{a0 b0:Value}(h:H[b]? =some (fO a0 b0)):ldN 2 (.pointer (some ⟨b,0,none⟩)) H=some (.agg #[a0,b0],H)/\ld1 (.pointer (some ⟨b,0,none⟩)) H=some (a0,H)/\ld1 (.pointer (some ⟨b,1,none⟩)) H=some (b0,H):=⟨yT h (aOb 2),cT h rfl,cT h rfl⟩
theorem aAc (h:NodeAt H0 H F y p ev wv nv c t s)(hm:0<m)(i k:Int)(hno: ¬(1<=i/\i<c.aH/\0<=k/\k<c.lanes)): ∃H',lvl prog pkN m (.func 111) [pt y.nb,.int .i64 i,.int .i64 k] H=some (.tuple #[vK,.bool false],H')/\Ext H H':=by
 refine k8 (cJ rfl) (by omega) ?_
 rw[W7];have e0: ∀H:aC,H++[Blk.cells [Value.pointer none,.pointer none] 172 .fix]=H++[fO (.pointer none) (.pointer none)]:=λ_=>rfl
 have h1:=h.fR (H':=H++[fO (.pointer none) (.pointer none)]) (Fr.app _ _ _);have l13:=h1.ld 13 (iJ y c) rfl;have l3:=h1.ld 3 (.int .i64 c.lanes) rfl;have e1:bX (iJ y c)=some (.int .i64 c.aH):=rfl;have st:stN 2 (.pointer (some ⟨H.length,0,none⟩)) vK (H++[fO (.pointer none) (.pointer none)])=some (undef,H++[fO (.pointer none) (.pointer none)]):=by
  rw[vK,zG _ _ (dK _ _) rfl,nL]
 have ld:=(tY (dK H (fO (.pointer none) (.pointer none)))).1;have fin: ∃H',(some (Value.tuple #[.agg #[.pointer none,.pointer none],.bool false],H++[fO (.pointer none) (.pointer none)]):Option (Value×aC))=some (.tuple #[vK,.bool false],H')/\Ext H H':=⟨_,rfl,Fr.app _ _ _⟩;by_cases c1:i<1
 ·simp -implicitDefEqProofs only[gsR,e0,aOQ c1,Gh,st,ld]
  exact fin
 ·by_cases c2:(c.aH:Int)<=i
  ·simp -implicitDefEqProofs only[gsR,e0,aOR c1,l13,e1,aOQ c2,Gh,st,ld]
   exact fin
  ·by_cases c3:k<0
   ·simp -implicitDefEqProofs only[gsR,e0,aOR c1,l13,e1,aOR c2,aOQ c3,Gh,st,ld]
    exact fin
   ·have c4:(c.lanes:Int)<=k:=by omega
    simp -implicitDefEqProofs only[gsR,e0,aOR c1,l13,e1,aOR c2,aOR c3,l3,aOQ c4,Gh,st,ld];exact fin
theorem O5 (h:NodeAt H0 H F y p ev wv nv c t s)(hm:0<m){i k:Nat}(h1:1<=i)(h2:i<c.aH)(hk:k<c.lanes): ∃H',lvl prog pkN m (.func 111) [pt y.nb,.int .i64 i,.int .i64 k] H=some (.tuple #[.agg #[pt (y.sb i k),pt (y.rb i k)],.bool true],H')/\Ext H H':=by
 refine k8 (cJ rfl) (by omega) ?_
 rw[W7];have e0: ∀H:aC,H++[Blk.cells [Value.pointer none,.pointer none] 172 .fix]=H++[fO (.pointer none) (.pointer none)]:=λ_=>rfl
 have g1:=h.fR (H':=H++[fO (.pointer none) (.pointer none)]) (Fr.app _ _ _);have l13:=g1.ld 13 (iJ y c) rfl;have l3:=g1.ld 3 (.int .i64 c.lanes) rfl;have e1:bX (iJ y c)=some (.int .i64 c.aH):=rfl;obtain⟨b,o,a1,a2⟩:=g1.xA h2;obtain⟨_,_,a3,_⟩:=a2 _ (.inl g1);obtain⟨b',o',a4,a5,_,_⟩:=g1.B8 h1 h2 hk;have a5:ldN 2 (.pointer (some ⟨b',o',none⟩)) (H++[fO (.pointer none) (.pointer none)])=some (.agg #[pt (y.sb i k),pt (y.rb i k)],H++[fO (.pointer none) (.pointer none)]):=a5;have st:stN 2 (.pointer (some ⟨H.length,0,none⟩)) (.agg #[pt (y.sb i k),pt (y.rb i k)]) (H++[fO (.pointer none) (.pointer none)])=some (undef,H++[fO (pt (y.sb i k)) (pt (y.rb i k))]):=by
  rw[zG _ _ (dK _ _) rfl,nL]
 have ld:=(tY (dK H (fO (pt (y.sb i k)) (pt (y.rb i k))))).1;have c1:decide ((i:Int)<1)=false:=by rw[decide_eq_false_iff_not];omega
 have c2:decide ((c.aH:Int)<=(i:Int))=false:=by rw[decide_eq_false_iff_not];omega
 have c3:decide ((k:Int)<0)=false:=by rw[decide_eq_false_iff_not];omega
 have c4:decide ((c.lanes:Int)<=(k:Int))=false:=by rw[decide_eq_false_iff_not];omega
 simp -implicitDefEqProofs only[gsR,e0,c1,l13,e1,c2,c3,l3,c4,a1,a3,a4,a5,st,ld]
 exact⟨_,rfl,Fr.app _ _ _⟩
theorem pE (a b:Value):ext 0 (.tuple #[a,b])=some a/\ext 1 (.tuple #[a,b])=some b:=⟨rfl,rfl⟩
theorem aAe (h:NodeAt H0 H F y p ev wv nv c t s)(hm:1<m){i k:Nat}(h1:1<=i)(h2:i<c.aH)(hk:k<c.lanes): ∃H',lvl prog pkN m (.func 46) [pt y.nb,.int .i64 i,.int .i64 k] H=some (pt (y.sb i k),H')/\Ext H H':=by
 obtain⟨H1,g1,x1⟩:=O5 h (m:=m-1) (by omega) h1 h2 hk
 have e0: ∀H:aC,H++[Blk.cells [Value.pointer none,.pointer none] 172 .fix]=H++[fO (.pointer none) (.pointer none)]:=λ_=>rfl
 have st:stN 2 (.pointer (some ⟨H1.length,0,none⟩)) (.agg #[pt (y.sb i k),pt (y.rb i k)]) (H1++[fO (.pointer none) (.pointer none)])=some (undef,H1++[fO (pt (y.sb i k)) (pt (y.rb i k))]):=by
  rw[zG _ _ (dK _ _) rfl,nL]
 have ld:=(tY (dK H1 (fO (pt (y.sb i k)) (pt (y.rb i k))))).2.1;refine k8 (cJ rfl) (by omega) ⟨H1++[fO (pt (y.sb i k)) (pt (y.rb i k))],?_,x1.tr (Fr.app _ _ _)⟩
 rw[Xn];simp -implicitDefEqProofs only[gsR,g1,pE,e0,st,ld]
theorem aLY (h:NodeAt H0 H F y p ev wv nv c t s)(hm:1<m){i k:Nat}(h1:1<=i)(h2:i<c.aH)(hk:k<c.lanes): ∃H',lvl prog pkN m (.func 55) [pt y.nb,.int .i64 i,.int .i64 k] H=some (pt (y.rb i k),H')/\Ext H H':=by
 obtain⟨H1,g1,x1⟩:=O5 h (m:=m-1) (by omega) h1 h2 hk
 have e0: ∀H:aC,H++[Blk.cells [Value.pointer none,.pointer none] 172 .fix]=H++[fO (.pointer none) (.pointer none)]:=λ_=>rfl
 have st:stN 2 (.pointer (some ⟨H1.length,0,none⟩)) (.agg #[pt (y.sb i k),pt (y.rb i k)]) (H1++[fO (.pointer none) (.pointer none)])=some (undef,H1++[fO (pt (y.sb i k)) (pt (y.rb i k))]):=by
  rw[zG _ _ (dK _ _) rfl,nL]
 have ld:=(tY (dK H1 (fO (pt (y.sb i k)) (pt (y.rb i k))))).2.2;refine k8 (cJ rfl) (by omega) ⟨H1++[fO (pt (y.sb i k)) (pt (y.rb i k))],?_,x1.tr (Fr.app _ _ _)⟩
 rw[aI8];simp -implicitDefEqProofs only[gsR,g1,pE,e0,st,ld]
theorem aL0 (h:NodeAt H0 H F y p ev wv nv c t s)(hm:1<m)(i k:Int)(hno: ¬(1<=i/\i<c.aH/\0<=k/\k<c.lanes)): ∃H',lvl prog pkN m (.func 46) [pt y.nb,.int .i64 i,.int .i64 k] H=some (.pointer none,H')/\Ext H H':=by
 obtain⟨H1,g1,x1⟩:=aAc h (m:=m-1) (by omega) i k hno
 have e0: ∀H:aC,H++[Blk.cells [Value.pointer none,.pointer none] 172 .fix]=H++[fO (.pointer none) (.pointer none)]:=λ_=>rfl
 have st:stN 2 (.pointer (some ⟨H1.length,0,none⟩)) vK (H1++[fO (.pointer none) (.pointer none)])=some (undef,H1++[fO (.pointer none) (.pointer none)]):=by
  rw[vK,zG _ _ (dK _ _) rfl,nL]
 have ld:=(tY (dK H1 (fO (.pointer none) (.pointer none)))).2.1;refine k8 (cJ rfl) (by omega) ⟨H1++[fO (.pointer none) (.pointer none)],?_,x1.tr (Fr.app _ _ _)⟩
 rw[Xn];simp -implicitDefEqProofs only[gsR,g1,pE,e0,st,ld]
theorem Gi (h:NodeAt H0 H F y p ev wv nv c t s)(hm:0<m):lvl prog pkN m (.func 39) [pt y.nb] H=some (pt y.hb,H):=by
 refine dA (cJ rfl) (by omega) ?_
 rw[aI1];simp -implicitDefEqProofs only[gsR,h.ld 14 (pt y.hb) rfl]
theorem aLZ (h:NodeAt H0 H F y p ev wv nv c t s)(hm:0<m):lvl prog pkN m (.func 93) [pt y.nb] H=some (pt y.rg,H):=by
 refine dA (cJ rfl) (by omega) ?_
 rw[aJd];simp -implicitDefEqProofs only[gsR,h.ld 15 (pt y.rg) rfl]
def fiI (l:List Nat)(z:Int):Int:=match l.findIdx? (λw:Nat=>decide ((w:Int)=z)) with
 |some j=>(j:Int)
 |none=> -1
theorem aLV {l:List Nat}{z:Int}{i:Nat}(hi:i<l.length)(h1:(l.getD i 0:Int)=z)(h2: ∀j,j<i->(l.getD j 0:Int)≠z):fiI l z=i:=by
 have:l.findIdx? (λw:Nat=>decide ((w:Int)=z))=some i:=by
  rw[List.findIdx?_eq_some_iff_getElem];refine⟨hi,?_,λj hj=> ?_⟩
  ·rw[aOa,aN8 hi] at h1
   simpa using h1
  ·have:=h2 j hj
   rw[aOa,aN8 (by omega)] at this
   simpa using this
 unfold fiI;rw[this]
theorem aLW {l:List Nat}{z:Int}(h: ∀j,j<l.length->(l.getD j 0:Int)≠z):fiI l z= -1:=by
 have:l.findIdx? (λw:Nat=>decide ((w:Int)=z))=none:=by
  rw[List.findIdx?_eq_none_iff];intro x hx;obtain⟨j,hj,rfl⟩:=List.mem_iff_getElem.mp hx;have:=h j hj;rw[aOa,aN8 hj] at this;simpa using this
 unfold fiI;rw[this]
def nP (y:Lay)(c:Cfg)(i:Nat):Blk:= .cells (fQ y c i) 167 .fix
theorem aL2 (hm:0<m){cb:Nat}{z:Int}(i:Nat)(hc:H[cb]? =some (.cells [.int .i64 z] 3 .fix)):lvl prog pkN m (.func 236) [.agg ⟨fQ y c i⟩,pt cb] H=some (.bool ((kM c i:Int)==z),H++[nP y c i]):=by
 refine dA (cJ rfl) (by omega) ?_
 rw[aIR];have e0:H++[Blk.cells (Value.cells (.agg ⟨fQ y c i⟩)).toList 167 .fix]=H++[nP y c i]:=rfl;have l0:ld1 (.pointer (some ⟨H.length,0,none⟩)) (H++[nP y c i])=some (.int .i64 (kM c i),H++[nP y c i]):=cT (dK _ _) rfl;have l1:ld1 (pt cb) (H++[nP y c i])=some (.int .i64 z,H++[nP y c i]):=cT (nK hc _) rfl;simp -implicitDefEqProofs only[gsR,e0,l0,l1]
theorem aL1 (hm:0<m){cb:Nat}{z:Int}(i:Nat)(hc:H[cb]? =some (.cells [.int .i64 z] 3 .fix)):lvl prog pkN m (.func 115) [.agg ⟨fQ y c i⟩,pt cb] H=some (.bool ((kM c i:Int)==z),H++[nP y c i]):=by
 refine dA (cJ rfl) (by omega) ?_
 rw[aIi];have e0:H++[Blk.cells (Value.cells (.agg ⟨fQ y c i⟩)).toList 167 .fix]=H++[nP y c i]:=rfl;have l0:ld1 (.pointer (some ⟨H.length,0,none⟩)) (H++[nP y c i])=some (.int .i64 (kM c i),H++[nP y c i]):=cT (dK _ _) rfl;have l1:ld1 (pt cb) (H++[nP y c i])=some (.int .i64 z,H++[nP y c i]):=cT (nK hc _) rfl;simp -implicitDefEqProofs only[gsR,e0,l0,l1]
theorem aLX {fid:FuncId}{cb:Nat}{z:Int}{v:Value}(hf: ∀(H:aC)(i:Nat),H[cb]? =some (.cells [.int .i64 z] 3 .fix)->lvl prog pkN m (.func fid) [.agg ⟨fQ y c i⟩,pt cb] H=some (.bool ((kM c i:Int)==z),H++[nP y c i]))
  (hb:c.by'.length<=5): ∀(q i k:Nat)(H:aC),c.by'.length-i=q->i<=c.by'.length->q<k->Rs (fQ y c) 167 H v ((List.range c.aH).drop 1)->H[cb]? =some (.cells [.int .i64 z] 3 .fix)->(∀j,j<i->(c.by'.getD j 0:Int)≠z)-> ∀(x2 x3 x4 x5 x6 x9 bK bM aR aN aM aP aZ bG aQ:Value),
  ∃H2,aI k (aK prog (lvl prog pkN m) (aI m) Mk) (Fc (lvl prog pkN m) (aI m)) [v,(.func (.func fid) #[] #[pt cb]),x2,x3,x4,x5,x6,(.int .i64 c.by'.length),(.int .i64 (i:Nat)),x9,bK,bM,aR,aN,aM,aP,aZ,bG,aQ] H=some (.int .i64 (fiI c.by' z),H2)/\Ext H H2:=by
 intro q;induction q with
 |zero=>
  intro i k H hq hi hk hv hc hno;intros;obtain⟨k,rfl⟩: ∃k',k=k'+1:=⟨k-1,by omega⟩
  have c1:decide ((i:Int)<(c.by'.length:Int))=false:=by rw[decide_eq_false_iff_not];omega
  rw[aI,W8];simp -implicitDefEqProofs only[gsR,c1];rw[aIf];rw[aLW λj hj=>hno j (by omega)]
  simp -implicitDefEqProofs only[gsR]
  exact⟨_,rfl,Fr.nF _ _⟩
 |succ q ih=>
  intro i k H hq hi hk hv hc hno;intros;obtain⟨k,rfl⟩: ∃k',k=k'+1:=⟨k-1,by omega⟩
  have c1:decide ((i:Int)<(c.by'.length:Int))=true:=by rw[decide_eq_true_eq];omega
  have hx:((List.range c.aH).drop 1)[i]? =some (i+1):=by
   rw[List.getElem?_drop,aOO (by unfold Cfg.aH;omega),Nat.add_comm]
  obtain⟨b,o,a1,_,a3⟩:=hv.iS (Ca y c) hx .i64;have a3:=(a3 H rfl).1;have hcall:=hf H (i+1) hc;have hto:kM c (i+1)=c.by'.getD i 0:=by unfold kM;rw[if_neg (by omega)];rfl
  rw[hto] at hcall;have e9:=oK i (by omega)
  have hcv:n9 (lvl prog pkN m) (.func (.func fid) #[] #[pt cb]) [.agg ⟨fQ y c (i+1)⟩] H=some (.bool ((c.by'.getD i 0:Int)==z),H++[nP y c (i+1)]):=hcall;rw[aI,W8];by_cases he:(c.by'.getD i 0:Int)=z
  ·have c2:((c.by'.getD i 0:Int)==z)=true:=by simpa using he
   rw[c2] at hcv;simp -implicitDefEqProofs only[gsR,c1,a1,a3,hcv];rw[aIh];rw[aLV (by omega) he hno]
   simp -implicitDefEqProofs only[gsR]
   exact⟨_,rfl,Fr.app _ _ _⟩
  ·have c2:((c.by'.getD i 0:Int)==z)=false:=by simpa using he
   rw[c2] at hcv;simp -implicitDefEqProofs only[gsR,c1,a1,a3,hcv,cI,e9];obtain⟨H2,g1,g2⟩:=ih (i+1) k (H++[nP y c (i+1)]) (by omega) (by omega) (by omega) (hv.ext (Fr.app _ _ _)) (nK hc _) (λj hj=>by
    by_cases hji:j=i
    ·rw[hji];exact he
    ·exact hno j (by omega)) ..
   exact⟨H2,g1,(show Ext H (H++[nP y c (i+1)]) from Fr.app _ _ _).tr g2⟩
theorem aAd {fid:FuncId}{cb:Nat}{z:Int}{v:Value}(hm:20<m)(hf: ∀(H:aC)(i:Nat),H[cb]? =some (.cells [.int .i64 z] 3 .fix)->lvl prog pkN (m-1) (.func fid) [.agg ⟨fQ y c i⟩,pt cb] H=some (.bool ((kM c i:Int)==z),H++[nP y c i]))
  (hb:c.by'.length<=5)(hv:Rs (fQ y c) 167 H v ((List.range c.aH).drop 1))(hc:H[cb]? =some (.cells [.int .i64 z] 3 .fix)): ∃H2,lvl prog pkN m (.func 114) [v,.func (.func fid) #[] #[pt cb]] H=some (.int .i64 (fiI c.by' z),H2)/\Ext H H2:=by
 refine k8 (cJ rfl) (by omega) ?_
 rw[aIg];have hl:=hv.kC;have:((List.range c.aH).drop 1).length=c.by'.length:=by simp[Cfg.aH]
 rw[this] at hl;simp -implicitDefEqProofs only[gsR,hl];exact aLX hf hb c.by'.length 0 (m-1) H (by omega) (by omega) (by omega) hv hc (λj hj=>by omega) ..
theorem aLU:prog.cellsOf 167=3:=by kernel_rfl
theorem NodeAt.aAb (h:NodeAt H0 H F y p ev wv nv c t s): ∃v,slc prog 3 (iJ y c) (some (.int .i64 1)) none none H=some (v,H)/\Rs (fQ y c) 167 H v ((List.range c.aH).drop 1):=by
 have hne:List.range c.aH≠[]:=by unfold Cfg.aH;simp
 obtain⟨v',g1,g2,_⟩:=h.Z5.Dm (P:=prog) (Ca y c) aLU hne (l:=1) (r:=c.aH) (lo:=some (.int .i64 1)) (hi:=none) (nT 0 .i64 1) (by rw[aOB];rfl) (by unfold Cfg.aH;omega) (by rw[aOB];exact aOb _)
 rw[List.take_of_length_le (by rw[aOB];exact aOb _)] at g2
 exact⟨v',g1,g2⟩
end
section
variable {H0 H : aC} {F : Part → Nat → Prop} {y : Lay} {p : PlanD} {ev wv nv : Value} {c : Cfg} {t : Nat} {s : NS} {m : Nat}
def xD (z:Int):Blk:= .cells [.int .i64 z] 3 .fix
theorem aAf (h:NodeAt H0 H F y p ev wv nv c t s)(hm:40<m)(d:Nat)(hd:d<c.nodes): ∃H',lvl prog pkN m (.func 178) [pt y.nb,.int .i64 d] H=some (.int .i64 (c.port d:Nat),H')/\Ext H H':=by
 have hport:c.port d=if d=c.me then 0 else match c.by'.findIdx? λw:Nat=>decide ((w:Int)=nx p c.me d) with
   |some j=>j+1
   |none=>0:=by
  have:=congrArg Cfg.port h.hc;have h2:=congrArg Cfg.by' h.hc;rw[this,h2];rfl
 refine k8 (cJ rfl) (by omega) ?_
 rw[aIs];have l12:=h.ld 12 (.int .i64 c.me) rfl;by_cases hme:d=c.me
 ·have c1:((d:Int)==(c.me:Int))=true:=by rw[hme];simp
  rw[if_pos hme] at hport;rw[hport];simp -implicitDefEqProofs only[gsR,l12,c1]
  exact⟨_,rfl,Fr.nF _ _⟩
 ·have c1:((d:Int)==(c.me:Int))=false:=by rw[beq_eq_false_iff_ne];omega
  rw[if_neg hme] at hport;obtain⟨n,hn⟩:=h.hp;have hnn:c.nodes=n:=by
   have:=congrArg Cfg.nodes h.hc;rw[this];show p.nodes.toNat=n
   rw[hn.hn];simp
  have hmen:c.me<n:=by rw[<-hnn];exact h.ok.me
  obtain⟨row,hrow⟩: ∃row,p.next[c.me]? =some row:=⟨_,aN8 (by rw[hn.nl];exact hmen)⟩
  have l11:=h.ld 11 nv rfl;obtain⟨pp,u,r1,r2,r3⟩:=(h.plan.ext h.ext).n.D6 hrow .i64;have hrl:row.length=n:=hn.rl _ (aOg hrow);have hx:row[d]? =some (nx p c.me d):=by
   unfold nx;rw[aOz,aOz,aOa,aOa,hrow,aOA];rw[aN8 (by rw[hrl];omega)]
   rfl
  obtain⟨b,o,i1,_,i3⟩:=r3.iS iQ hx .i64;have i3:=(i3 H rfl).2.1 0 _ rfl;have i3:ld1 (.pointer (some ⟨b,o,none⟩)) H=some (.int .i64 (nx p c.me d),H):=i3;have e0: ∀H:aC,H++[Blk.cells [Value.int .i64 0] 3 .fix]=H++[xD 0]:=λ_=>rfl
  have st:stN 1 (.pointer (some ⟨H.length,0,none⟩)) (.int .i64 (nx p c.me d)) (H++[xD 0])=some (undef,H++[xD (nx p c.me d)]):=by
   rw[lQ (dK H (xD 0)) (by decide) (by simp),nL]
   rfl
  obtain⟨H1,hH1⟩: ∃H1,H1=H++[xD (nx p c.me d)]:=⟨_,rfl⟩;have x1:Ext H H1:=by rw[hH1];exact Fr.app _ _ _
  have h1:=h.fR x1;have l13:=h1.ld 13 (iJ y c) rfl;obtain⟨v,t1,t2⟩:=h1.aAb;obtain⟨H2,g1,g2⟩:=aAd (m:=m-1) (fid:=236) (cb:=H.length) (z:=nx p c.me d) (by omega) (λG i hG=>aL2 (by omega) i hG) h.ok.by' t2 (by rw[hH1];exact dK _ _)
  have e1:IntKind.i64.wrap (fiI c.by' (nx p c.me d)+1)=(c.port d:Nat):=by
   rw[hport];unfold fiI;cases hf:c.by'.findIdx? λw:Nat=>decide ((w:Int)=nx p c.me d) with
   |none=>rfl
   |some j=>
    have:=(List.findIdx?_eq_some_iff_getElem.mp hf).1;have:=h.ok.by';exact oK j (by omega)
  simp -implicitDefEqProofs only[gsR,l12,c1,l11,r1,r2,i1,i3,e0,st,<-hH1,l13,t1,g1,cI,e1]
  exact⟨_,rfl,x1.tr g2⟩
theorem aL4 (x:Pkt):(qF c x s).2={s with hL:=(qF c x s).2.hL}:=by
 unfold qF;split
 ·rfl
 ·split<;>rfl
theorem aL3 {D:aC}{hb:Nat}(hm:2<m)(x:Pkt)(hq: ∀k:Int,(fP s.hL k).length<=c.queue)(h8:c.queue<=8)(h:HostAt D hb s.hL s.hG c.lanes c.queue):
  ∃r D',lvl prog pkN m (.func 94) [pt hb,x.dG] D=some (r,D')/\(r= .int .u16 (qF c x s).1/\HostAt D' hb (qF c x s).2.hL s.hG c.lanes c.queue):=by
 obtain⟨w0,w1,w2,cv,h⟩:=h;unfold qF;by_cases h1:0<=x.lane/\x.lane<c.lanes
 ·rw[if_neg (not_not_intro h1)]
  by_cases h2:(fP s.hL x.lane).length=c.queue
  ·rw[if_pos h2]
   exact⟨_,_,aJY h hm x h1 h2,rfl,HostAt.ext ⟨w0,w1,w2,cv,h⟩ (Fr.app _ _ _)⟩
  ·rw[if_neg h2]
   obtain⟨H',g1,g2⟩:=aJ0 h hm x h1 h2 (kH (n:=1000) (by decide) (by have:=hq x.lane;omega))
   exact⟨_,_,g1,rfl,g2⟩
 ·rw[if_pos h1]
  exact⟨_,_,aJZ h hm x h1,rfl,HostAt.ext ⟨w0,w1,w2,cv,h⟩ (Fr.app _ _ _)⟩
theorem NodeAt.Gj {H':aC}{F':Nat->Prop}{t':Nat}{L G:List Pkt}(h:NodeAt H0 H F y p ev wv nv c t s)(hB:Has (λD=>HostAt D y.hb L G c.lanes c.queue) F' H')(hm:Mv (F .host) F' H H')(hi:NInv c t' {s with hL:=L,hG:=G}):
  NodeAt H0 H' (updI F .host F') y p ev wv nv c t' {s with hL:=L,hG:=G}/\Mv (Un F) (Un (updI F .host F')) H H':=
 h.Z4 .host hB hm hi (λD hD=>hD) λj hj D hD=>by
  cases j with
  |host=>exact absurd rfl hj
  |_=>exact hD
theorem NodeAt.O6 {H':aC}{F':Nat->Prop}{t':Nat}{L:List (Go.Abs.hZ×Pkt)}(h:NodeAt H0 H F y p ev wv nv c t s)(hB:Has (λD=>RingsN D y.rg L (c.aH*c.lanes*c.room) c.aH c.lanes) F' H')(hm:Mv (F .rings) F' H H')(hi:NInv c t' {s with rL:=L}):
  NodeAt H0 H' (updI F .rings F') y p ev wv nv c t' {s with rL:=L}/\Mv (Un F) (Un (updI F .rings F')) H H':=
 h.Z4 .rings hB hm hi (λD hD=>hD) λj hj D hD=>by
  cases j with
  |rings=>exact absurd rfl hj
  |_=>exact hD
theorem Has.vL {A B:aC->Prop}{F:Nat->Prop}{H:aC}(h:Has A F H)(hAB: ∀D,A D->B D):Has B F H:=⟨hAB _ h.at_,h.lt⟩
theorem Cb (h:NodeAt H0 H F y p ev wv nv c t s)(hm:10<m)(x:Pkt)(hb:0<=x.body/\x.body<4294967296): ∃H' F',lvl prog pkN m (.func 38) [pt y.nb,x.dG] H=some (.int .u16 (nW c x s).1,H')/\NodeAt H0 H' F' y p ev wv nv c t (nW c x s).2/\Mv (Un F) (Un F') H H':=by
 have hinv:=h.inv.aJ6 h.ok hb;obtain⟨H1,hH1⟩: ∃H1,H1=H++[dS x]:=⟨_,rfl⟩;have x1:Ext H H1:=by rw[hH1];exact Fr.app _ _ _
 have h1:=h.fR x1;have b1:H1[H.length]? =some (dS x):=by rw[hH1];exact dK _ _
 have e0:H++[Blk.cells (Value.cells x.dG).toList 31 .fix]=H1:=by rw[hH1];rfl
 have l0:ld1 (.pointer (some ⟨H.length,0,none⟩)) H1=some (.int .i64 x.src,H1):=cT b1 rfl;have l1:ld1 (.pointer (some ⟨H.length,1,none⟩)) H1=some (.int .i64 x.dst,H1):=cT b1 rfl;have l4:=(pR b1).2;have n1:=h1.ld 1 (.int .i64 c.nodes) rfl;have n12:=h1.ld 12 (.int .i64 c.me) rfl;have n14:=h1.ld 14 (pt y.hb) rfl;have mvx:Mv (Un F) (Un F) H H1:=Mv.pK x1 _;by_cases hno:x.src≠c.me∨x.dst<0∨(c.nodes:Int)<=x.dst∨x.dst=c.me
 ·have hr:nW c x s=(1,s):=by unfold nW;rw[if_pos hno]
  rw[hr];refine⟨H1,F,dA (cJ rfl) (by omega) ?_,h1,mvx⟩
  rw[Xl];by_cases c1:x.src=c.me
  ·have c1':(x.src !=(c.me:Int))=false:=by simp[c1]
   by_cases c2:x.dst<0
   ·simp -implicitDefEqProofs only[gsR,e0,l0,n12,c1',l1,aOQ c2]
    rfl
   ·by_cases c3:(c.nodes:Int)<=x.dst
    ·simp -implicitDefEqProofs only[gsR,e0,l0,n12,c1',l1,aOR c2,n1,aOQ c3]
     rfl
    ·have c4:x.dst=c.me:=by
      rcases hno with h|h|h|h
      ·exact absurd c1 h
      ·exact absurd h c2
      ·exact absurd h c3
      ·exact h
     have c4':(x.dst==(c.me:Int))=true:=by simp[c4]
     simp -implicitDefEqProofs only[gsR,e0,l0,n12,c1',l1,aOR c2,n1,aOR c3,c4'];rfl
  ·have c1':(x.src !=(c.me:Int))=true:=by simpa using c1
   simp -implicitDefEqProofs only[gsR,e0,l0,n12,c1'];rfl
 ·have hr:nW c x s=qF c x s:=by unfold nW;rw[if_neg hno]
  rw[hr] at hinv⊢;rw[aL4] at hinv⊢;obtain⟨r,H2,F',g1,g2,g3⟩:=(h1.sep.own .host).yI rR (n:=m-1) (λD hD=>aL3 (m:=m-1) (by omega) x h1.inv.hQ h.ok.queue.2 hD)
  obtain⟨hrv,_⟩:=g2.at_;obtain⟨k1,k2⟩:=h1.Gj (Has.vL g2 λD hD=>hD.2) g3 hinv
  have c1:(x.src !=(c.me:Int))=false:=by
   simp only[bne_eq_false_iff_eq];exact Classical.byContradiction λhh=>hno (.inl hh)
  have c2:decide (x.dst<0)=false:=by rw[decide_eq_false_iff_not];exact λhh=>hno (.inr (.inl hh))
  have c3:decide ((c.nodes:Int)<=x.dst)=false:=by rw[decide_eq_false_iff_not];exact λhh=>hno (.inr (.inr (.inl hh)))
  have c4:(x.dst==(c.me:Int))=false:=by rw[beq_eq_false_iff_ne];exact λhh=>hno (.inr (.inr (.inr hh)))
  refine⟨H2,_,dA (cJ rfl) (by omega) ?_,k1,mvx.pL k2⟩
  rw[Xl];have g1:lvl prog pkN (m-1) (.func 94) [pt y.hb,x.dG] H1=some (.int .u16 (qF c x s).1,H2):=by rw[<-hrv];exact g1
  simp -implicitDefEqProofs only[gsR,e0,l0,n12,c1,l1,c2,n1,c3,c4,n14,l4,g1]
end
theorem aMa (a b c d:UInt8):fA [a,b,c,d]<4294967296:=Nz 4 _ rfl
theorem aAg (a b:UInt8):fA [a,b]<65536:=Nz 2 _ rfl
theorem aL9 {bs:List UInt8}{f:Frm}(h:mQ bs=some f):f.ok:=by
 have h1:(iZ bs).ok:=⟨UInt8.toNat_lt _,UInt8.toNat_lt _,aAg _ _,by show 0<256;decide,by show 0<256;decide,by show 0<4294967296;decide⟩
 have h2:(nB bs).ok:=⟨UInt8.toNat_lt _,UInt8.toNat_lt _,aAg _ _,UInt8.toNat_lt _,UInt8.toNat_lt _,aMa _ _ _ _⟩;unfold mQ u9 at h
 split at h
 ·split at h
  ·cases h;exact h1
  ·cases h
 ·split at h
  ·split at h
   ·cases h;exact h2
   ·cases h
  ·cases h
theorem aMb {α:Type}(f:Nat->Nat->α)(i k:Nat):up2 f i k (f i k)=f:=by
 funext j l
 unfold up2;split
 ·rename_i h
  rw[h.1,h.2]
 ·rfl
theorem vM (b:Nat)(H':aC):chk (some (pt b,H')) (pt b)=true:=by simp[chk,veq]
theorem aAi (x:Pkt)(H':aC):chk (some (x.dG,H')) x.dG=true:=by simp[chk,veq,tE,Pkt.dG,Pkt.oW]
theorem aAh {n:Nat}(h:n≠0):((n:Int)!=0)=true:=by
 rw[bne_iff_ne];omega
theorem aL5 {room:Nat}{x:Rcv}{s:Nat}:(x.kQ room s).1≠0->(x.kQ room s).2=x:=by
 unfold Rcv.kQ
 generalize dT x.n s=w
 by_cases c1:w<x.n
 ·simp only[if_pos c1]
  exact λ_=>trivial
 ·by_cases c2:x.lY room<=w
  ·simp only[if_neg c1,if_pos c2]
   exact λ_=>trivial
  ·simp only[if_neg c1,if_neg c2]
   exact λh=>absurd rfl h
theorem aL7 {c:Cfg}{s:NS}{i:Nat}{f:Frm}(hn: ¬c.nodes<=max f.src f.dst)(h0:((s.rcv i f.lane).kQ c.room f.seq).1=0):
  qZ c i f s=(0,{s with rcv:=up2 s.rcv i f.lane ((s.rcv i f.lane).kQ c.room f.seq).2,rL:=s9 c s.rL ((i:Int),(c.port f.dst:Int),(f.lane:Int)) ⟨f.src,f.dst,f.lane,f.body⟩}):=by
 unfold qZ;rw[if_neg hn]
 generalize (s.rcv i f.lane).kQ c.room f.seq=q at*
 obtain⟨e,r⟩:=q;simp only at h0;subst h0;rfl
theorem aL6 {c:Cfg}{s:NS}{i:Nat}{f:Frm}(hn: ¬c.nodes<=max f.src f.dst)(h0:((s.rcv i f.lane).kQ c.room f.seq).1≠0):
  qZ c i f s=(((s.rcv i f.lane).kQ c.room f.seq).1,s):=by
 unfold qZ;rw[if_neg hn]
 generalize (s.rcv i f.lane).kQ c.room f.seq=q at*
 obtain⟨e,r⟩:=q;cases e with
 |zero=>exact absurd rfl h0
 |succ e=>rfl
section
variable {H0 H : aC} {F : Part → Nat → Prop} {y : Lay} {p : PlanD} {ev wv nv : Value} {c : Cfg} {t : Nat} {s : NS} {m : Nat}
theorem aL8 (h:NodeAt H0 H F y p ev wv nv c t s)(ht:t<1000000000)(hm:200<m){i:Nat}{f:Frm}(h1:1<=i)(h2:i<c.aH)(hl:f.lane<c.lanes)(hf:f.ok):
  ∃H' F',lvl prog pkN m (.func 119) [pt y.nb,.int .i64 i,.agg #[pt (y.sb i f.lane),pt (y.rb i f.lane)],frV f] H=some (.int .u16 (qZ c i f s).1,H')/\NodeAt H0 H' F' y p ev wv nv c (t+1) (qZ c i f s).2/\Mv (Un F) (Un F') H H':=by
 have hinv:=h.inv.aJ4 h.ok i f hl hf.body;have hm0:0<m:=by omega
 have fs:=hf.src;have fd:=hf.dst;have fl:=hf.lane;have fq:=hf.seq;obtain⟨H1,hH1⟩: ∃H1,H1=H++[fO (pt (y.sb i f.lane)) (pt (y.rb i f.lane))]:=⟨_,rfl⟩;obtain⟨H2,hH2⟩: ∃H2,H2=H1++[frB f]:=⟨_,rfl⟩;have x1:Ext H H1:=by rw[hH1];exact Fr.app _ _ _
 have x2:Ext H1 H2:=by rw[hH2];exact Fr.app _ _ _
 have g2:=(h.fR x1).fR x2;have mv2:Mv (Un F) (Un F) H H2:=Mv.pK (x1.tr x2) _;have e1:H++[Blk.cells (Value.cells (.agg #[pt (y.sb i f.lane),pt (y.rb i f.lane)])).toList 172 .fix]=H1:=by rw[hH1];rfl
 have e2:H1++[Blk.cells (Value.cells (frV f)).toList 71 .fix]=H2:=by rw[hH2];rfl
 have bl:H2[H.length]? =some (fO (pt (y.sb i f.lane)) (pt (y.rb i f.lane))):=by
  have:H1[H.length]? =some (fO (pt (y.sb i f.lane)) (pt (y.rb i f.lane))):=by rw[hH1];exact dK _ _
  rw[x2.2 _ (dC this) id,this]
 have bf:H2[H1.length]? =some (frB f):=by rw[hH2];exact dK _ _
 obtain⟨l0,l1,l2,l3,l4,l5,l6⟩:=mR bf;have n1:=g2.ld 1 (.int .i64 c.nodes) rfl;have ec:IntKind.i64.wrap (max (f.src:Int) (f.dst:Int))=max (f.src:Int) (f.dst:Int):=dM (by omega) (by omega)
 by_cases c1:c.nodes<=max f.src f.dst
 ·have hr:qZ c i f s=(30,s):=by unfold qZ;rw[if_pos c1]
  rw[hr];have c1':decide ((c.nodes:Int)<=max (f.src:Int) (f.dst:Int))=true:=by rw[decide_eq_true_eq];omega
  refine⟨H2,F,dA (cJ rfl) (by omega) ?_,{g2 with inv:=g2.inv.rT (Nat.le_succ t)},mv2⟩
  rw[Ml];simp -implicitDefEqProofs only[gsR,e1,e2,l3,l4,wW,eZ _ _ u8U iU,ec,n1,c1'];rfl
 ·have c1':decide ((c.nodes:Int)<=max (f.src:Int) (f.dst:Int))=false:=by rw[decide_eq_false_iff_not];omega
  have lr:=(tY bl).2.2;obtain⟨H3,r1,r2⟩:=aJA (m:=m-1) (by omega) (g2.Gc h1 h2 hl) (g2.Gd ht i f.lane) f.seq fq
  have hri:NInv c (t+1) {s with rcv:=up2 s.rcv i f.lane ((s.rcv i f.lane).kQ c.room f.seq).2}:=
   {g2.inv.rT (t':=t+1) (by omega) with rcv:=y9 (g2.inv.rT (t':=t+1) (by omega)).rcv ((g2.inv.rcv i f.lane).Yk h.ok.room.2 f.seq)}
  obtain⟨g3,mv3⟩:=g2.O3 h1 h2 hl r2 hri;by_cases c2:((s.rcv i f.lane).kQ c.room f.seq).1=0
  ·have c2':((((s.rcv i f.lane).kQ c.room f.seq).1:Int)!=0)=false:=by rw[c2];rfl
   have hr:=aL7 (c:=c) (s:=s) (i:=i) c1 c2;rw[hr] at hinv⊢;obtain⟨x,hx⟩: ∃x:Pkt,x=⟨f.src,f.dst,f.lane,f.body⟩:=⟨_,rfl⟩;obtain⟨H4,hH4⟩: ∃H4,H4=H3++[dS x]:=⟨_,rfl⟩;have x4:Ext H3 H4:=by rw[hH4];exact Fr.app _ _ _
   have g4:=g3.fR x4;have b4:H4[H3.length]? =some (dS x):=by rw[hH4];exact dK _ _
   have bf3:H3[H1.length]? =some (frB f):=by
    rw[mv3.keep _ (dC bf) (λhu=> ?_),bf]
    have h3:=h.sep.pM _ hu;have:=x1.1;omega
   obtain⟨k0,k1,k2,k3,k4,k5,k6⟩:=mR bf3;have eb:bld prog 31 [(0,.int .i64 f.src),(1,.int .i64 f.dst),(2,.int .i64 f.lane),(3,.int .u32 f.body)]=some x.dG:=by rw[hx];rfl
   have ez: ∀H:aC,H++[Blk.cells [Value.int .i64 0,.int .i64 0,.int .i64 0,.int .u32 0] 31 .fix]=H++[dS pk0]:=λ_=>rfl
   have st:stN 4 (.pointer (some ⟨H3.length,0,none⟩)) x.dG (H3++[dS pk0])=some (undef,H4):=by rw[Fy x (dK _ _),nL,hH4]
   have q1:ld1 (.pointer (some ⟨H3.length,1,none⟩)) H4=some (.int .i64 f.dst,H4):=cT b4 (by rw[hx];rfl)
   have n15:=g4.ld 15 (pt y.rg) rfl;have hdn:f.dst<c.nodes:=by omega
   obtain⟨H5,t1,x5⟩:=aAf g4 (m:=m-1) (by omega) f.dst hdn
   have g5:=g4.fR x5;have n15':=g5.ld 15 (pt y.rg) rfl;have b5:H5[H3.length]? =some (dS x):=by rw[x5.2 _ (dC b4) id,b4]
   have q2:ld1 (.pointer (some ⟨H3.length,2,none⟩)) H5=some (.int .i64 f.lane,H5):=cT b5 (by rw[hx];rfl)
   have q2':ld1 (.pointer (some ⟨H3.length,2,none⟩)) H4=some (.int .i64 f.lane,H4):=cT b4 (by rw[hx];rfl)
   have q3:=(pR b5).2;have q3':=(pR b4).2;obtain⟨r,H6,F',p1,p2,p3⟩:=(g5.sep.own .rings).yI rR (n:=m-1) (λD hD=>Zh (m:=m-1) hD (by omega) ((i:Int),(c.port f.dst:Int),(f.lane:Int)) x)
   have hpw:(if Bt ((i:Int),(c.port f.dst:Int),(f.lane:Int)) c.aH c.lanes=true/\s.rL.length<c.aH*c.lanes*c.room then s.rL++[(((i:Int),(c.port f.dst:Int),(f.lane:Int)),x)] else s.rL)=s9 c s.rL ((i:Int),(c.port f.dst:Int),(f.lane:Int)) ⟨f.src,f.dst,f.lane,f.body⟩:=by
    rw[hx];rfl
   obtain⟨k1',k2'⟩:=g5.O6 (Has.vL p2 λD hD=>by rw[<-hpw];exact hD) p3 hinv
   refine⟨H6,_,dA (cJ rfl) (by omega) ?_,k1',((mv2.pL mv3).pL (Mv.pK (x4.tr x5) _)).pL k2'⟩
   rw[Ml];have es:IntKind.i64.wrap (f.src:Int)=f.src:=yS _ (by omega)
   have ed:IntKind.i64.wrap (f.dst:Int)=f.dst:=yS _ (by omega)
   have el:IntKind.i64.wrap (f.lane:Int)=f.lane:=yS _ (by omega)
   have p1:lvl prog pkN (m-1) (.func 177) [pt y.rg,.int .i64 i,.int .i64 (c.port f.dst:Nat),.int .i64 f.lane,x.dG] H5=some (r,H6):=p1;simp -implicitDefEqProofs only[gsR,e1,e2,l3,l4,wW,eZ _ _ u8U iU,ec,n1,c1',lr,l2,r1,c2',k3,k4,k1,k5,es,ed,el,eb,ez,st,n15,q1,t1,n15',vM,q2,q2',B6,q3,q3',aAi,p1];rfl
  ·have hsame:=aL5 c2
   have hr:=aL6 (c:=c) (s:=s) (i:=i) c1 c2;obtain⟨e,he⟩: ∃e,e=((s.rcv i f.lane).kQ c.room f.seq).1:=⟨_,rfl⟩;rw[<-he] at hr r1 c2;have c2':=aAh c2;rw[hr];rw[hsame,aMb] at g3;refine⟨H3,F,dA (cJ rfl) hm0 ?_,g3,mv2.pL mv3⟩;rw[Ml];simp -implicitDefEqProofs only[gsR,e1,e2,l3,l4,wW,eZ _ _ u8U iU,ec,n1,c1',lr,l2,r1,c2']
end
section
variable {H0 H : aC} {F : Part → Nat → Prop} {y : Lay} {p : PlanD} {ev wv nv : Value} {c : Cfg} {t : Nat} {s : NS} {m : Nat}
theorem Cc (H:aC):H++[Blk.cells [Value.int .u8 0,.int .u8 0,.int .u16 0,.int .u8 0,.int .u8 0,.int .u32 0] 71 .fix]=H++[zfB]:=rfl
theorem Cd (H:aC):H++[Blk.cells [Value.pointer none,.pointer none] 172 .fix]=H++[fO (.pointer none) (.pointer none)]:=rfl
theorem Ce (H:aC)(f:Frm):stN 6 (.pointer (some ⟨H.length,0,none⟩)) (frV f) (H++[zfB])=some (undef,H++[frB f]):=by
 rw[Fh f (dK H zfB),nL]
theorem O7 (H:aC)(a b:Value)(ha:dR [a,b]=true):stN 2 (.pointer (some ⟨H.length,0,none⟩)) (.agg #[a,b]) (H++[fO (.pointer none) (.pointer none)])=some (undef,H++[fO a b]):=by
 rw[zG a b (dK _ _) ha,nL]
theorem aMd {bs:List UInt8}{f:Frm}(h:mQ bs=some f):nN bs= .tuple #[frV f,.int .u16 0]:=by
 unfold nN;rw[h]
theorem aMc {bs:List UInt8}(h:mQ bs=none):nN bs= .tuple #[frV Frm.oE,.int .u16 30]:=by
 unfold nN;rw[h]
theorem zH (h:NodeAt H0 H F y p ev wv nv c t s)(ht:t<1000000000)(hm:400<m)(fr:Int){u:Value}{bs:List UInt8}(hu:Bs H u bs):
  ∃H' F',lvl prog pkN m (.func 49) [pt y.nb,.int .i64 fr,u] H=some (.int .u16 (kR c fr bs s).1,H')/\NodeAt H0 H' F' y p ev wv nv c (t+1) (kR c fr bs s).2/\Mv (Un F) (Un F') H H':=by
 have hm0:0<m:=by omega
 have hmono:=h.inv.rT (Nat.le_succ t);obtain⟨H1,hH1⟩: ∃H1,H1=H++[xD fr]:=⟨_,rfl⟩;have x1:Ext H H1:=by rw[hH1];exact Fr.app _ _ _
 have g1:=h.fR x1;have b1:H1[H.length]? =some (xD fr):=by rw[hH1];exact dK _ _
 have e0:H++[Blk.cells (Value.cells (.int .i64 fr)).toList 3 .fix]=H1:=by rw[hH1];rfl
 have l13:=g1.ld 13 (iJ y c) rfl;obtain⟨v,t1,t2⟩:=g1.aAb;obtain⟨H2,i1,x2⟩:=aAd (m:=m-1) (fid:=115) (cb:=H.length) (z:=fr) (by omega) (λG i hG=>aL1 (by omega) i hG) h.ok.by' t2 b1
 have g2:=g1.fR x2;cases hfi:c.by'.findIdx? λw:Nat=>decide ((w:Int)=fr) with
 |none=>
  have hr:kR c fr bs s=(1,s):=by unfold kR;rw[hfi]
  have hf:fiI c.by' fr= -1:=by unfold fiI;rw[hfi]
  have e1:IntKind.i64.wrap ((-1:Int)+1)=0:=rfl;have c1:((0:Int)==0)=true:=rfl;rw[hf] at i1;rw[hr];refine⟨H2,F,dA (cJ rfl) hm0 ?_,{g2 with inv:=hmono},Mv.pK (x1.tr x2) _⟩;rw[yQ];simp -implicitDefEqProofs only[gsR,e0,l13,t1,i1,cI,e1,c1];rfl
 |some j=>
  have hjl:=(List.findIdx?_eq_some_iff_getElem.mp hfi).1;have hf:fiI c.by' fr=(j:Int):=by unfold fiI;rw[hfi]
  have h5:=h.ok.by';have e1:IntKind.i64.wrap ((j:Int)+1)=((j+1:Nat):Int):=oK j (by omega)
  have c1:(((j+1:Nat):Int)==0)=false:=by rw[beq_eq_false_iff_ne];omega
  have hp1:1<=j+1:=by omega
  have hp2:j+1<c.aH:=by unfold Cfg.aH;omega
  rw[hf] at i1;obtain⟨H3,d1,x3⟩:=aJT (m:=m-1) (by omega) (hu.ext (x1.tr x2))
  have g3:=g2.fR x3;cases hdec:mQ bs with
  |none=>
   have hr:kR c fr bs s=(30,s):=by unfold kR;rw[hfi];simp only;rw[hdec]
   rw[aMc hdec] at d1;have c2:((30:Int)!=0)=true:=rfl;rw[hr];have x4:Ext H3 (H3++[frB Frm.oE]):=Fr.app _ _ _;refine⟨H3++[frB Frm.oE],F,dA (cJ rfl) hm0 ?_,{g3.fR x4 with inv:=hmono},Mv.pK (((x1.tr x2).tr x3).tr x4) _⟩;rw[yQ];simp -implicitDefEqProofs only[gsR,e0,l13,t1,i1,cI,e1,c1,d1,pE,Cc,Ce,c2];rfl
  |some f=>
   have hok:=aL9 hdec;have fl:=hok.lane;rw[aMd hdec] at d1;have c2:((0:Int)!=0)=false:=rfl;obtain⟨H4,hH4⟩: ∃H4,H4=H3++[frB f]:=⟨_,rfl⟩;have x4:Ext H3 H4:=by rw[hH4];exact Fr.app _ _ _
   have g4:=g3.fR x4;have b4:H4[H3.length]? =some (frB f):=by rw[hH4];exact dK _ _
   have l4:=(mR b4).2.1;have el:IntKind.i64.wrap (f.lane:Int)=f.lane:=yS _ (by omega)
   by_cases hl:c.lanes<=f.lane
   ·have hr:kR c fr bs s=(30,s):=by unfold kR;rw[hfi];simp only;rw[hdec];simp only;rw[if_pos hl]
    obtain⟨H5,n1,x5⟩:=aAc g4 (m:=m-1) (by omega) ((j+1:Nat):Int) (f.lane:Int) (by omega)
    have x6:Ext H5 (H5++[fO (.pointer none) (.pointer none)]):=Fr.app _ _ _;rw[hr];refine⟨H5++[fO (.pointer none) (.pointer none)],F,dA (cJ rfl) hm0 ?_,{(g4.fR x5).fR x6 with inv:=hmono},Mv.pK (((((x1.tr x2).tr x3).tr x4).tr x5).tr x6) _⟩;rw[yQ];have st:=O7 H5 (.pointer none) (.pointer none) rfl;simp -implicitDefEqProofs only[gsR,e0,l13,t1,i1,cI,e1,c1,d1,pE,Cc,Ce,c2,<-hH4,l4,eZ _ _ u8U iU,el,n1,Cd,vK,st];rfl
   ·have hlt:f.lane<c.lanes:=by omega
    obtain⟨H5,n1,x5⟩:=O5 g4 (m:=m-1) (by omega) hp1 hp2 hlt
    obtain⟨H6,hH6⟩: ∃H6,H6=H5++[fO (pt (y.sb (j+1) f.lane)) (pt (y.rb (j+1) f.lane))]:=⟨_,rfl⟩;have x6:Ext H5 H6:=by rw[hH6];exact Fr.app _ _ _
    have g6:=(g4.fR x5).fR x6;have b6:H6[H5.length]? =some (fO (pt (y.sb (j+1) f.lane)) (pt (y.rb (j+1) f.lane))):=by rw[hH6];exact dK _ _
    obtain⟨q0,q1,q2⟩:=tY b6;have b46:H6[H3.length]? =some (frB f):=by rw[(x5.tr x6).2 _ (dC b4) id,b4]
    obtain⟨k0,k1,k2,k3,k4,k5,k6⟩:=mR b46;have st:=O7 H5 (pt (y.sb (j+1) f.lane)) (pt (y.rb (j+1) f.lane)) rfl;have mv6:Mv (Un F) (Un F) H H6:=Mv.pK (((((x1.tr x2).tr x3).tr x4).tr x5).tr x6) _;by_cases hk2:f.kind=2
    ·have hr:kR c fr bs s=(0,{s with snd:=up2 s.snd (j+1) f.lane ((s.snd (j+1) f.lane).qD f.seq)}):=by unfold kR;rw[hfi];simp only;rw[hdec];simp only;rw[if_neg hl,if_pos hk2]
     have c3:((f.kind:Int)==2)=true:=by rw[hk2];rfl
     obtain⟨H7,w,s1,s2⟩:=aJF (m:=m-1) (by omega) (g6.B9 hp1 hp2 hlt) (g6.Ge ht _ _) f.seq hok.seq
     have hri:NInv c (t+1) {s with snd:=up2 s.snd (j+1) f.lane ((s.snd (j+1) f.lane).qD f.seq)}:=
      {hmono with snd:=y9 hmono.snd (((h.inv.snd _ _).aKb _).N8 (Nat.le_succ t))}
     obtain⟨g7,mv7⟩:=g6.Z6 hp1 hp2 hlt s2 hri;rw[hr];refine⟨H7,F,dA (cJ rfl) hm0 ?_,g7,mv6.pL mv7⟩;rw[yQ];simp -implicitDefEqProofs only[gsR,e0,l13,t1,i1,cI,e1,c1,d1,pE,Cc,Ce,c2,<-hH4,l4,eZ _ _ u8U iU,el,n1,Cd,st,<-hH6,k0,c3,q1,k2,s1];rfl
    ·have c3:((f.kind:Int)==2)=false:=by rw[beq_eq_false_iff_ne];omega
     by_cases hk3:f.kind=3
     ·have hr:kR c fr bs s=(0,{s with rcv:=up2 s.rcv (j+1) f.lane ((s.rcv (j+1) f.lane).pO c.room f.seq)}):=by unfold kR;rw[hfi];simp only;rw[hdec];simp only;rw[if_neg hl,if_neg hk2,if_pos hk3]
      have c4:((f.kind:Int)==3)=true:=by rw[hk3];rfl
      obtain⟨H7,w,s1,s2⟩:=aJC (m:=m-1) (by omega) (g6.Gc hp1 hp2 hlt) (g6.Gd ht _ _) f.seq hok.seq
      have hri:NInv c (t+1) {s with rcv:=up2 s.rcv (j+1) f.lane ((s.rcv (j+1) f.lane).pO c.room f.seq)}:=
       {hmono with rcv:=y9 hmono.rcv ((h.inv.rcv _ _).aKa h.ok.room.2 _)}
      obtain⟨g7,mv7⟩:=g6.O3 hp1 hp2 hlt s2 hri;rw[hr];refine⟨H7,F,dA (cJ rfl) hm0 ?_,g7,mv6.pL mv7⟩;rw[yQ];simp -implicitDefEqProofs only[gsR,e0,l13,t1,i1,cI,e1,c1,d1,pE,Cc,Ce,c2,<-hH4,l4,eZ _ _ u8U iU,el,n1,Cd,st,<-hH6,k0,c3,c4,q2,k2,s1];rfl
     ·have c4:((f.kind:Int)==3)=false:=by rw[beq_eq_false_iff_ne];omega
      have hr:kR c fr bs s=qZ c (j+1) f s:=by unfold kR;rw[hfi];simp only;rw[hdec];simp only;rw[if_neg hl,if_neg hk2,if_neg hk3]
      obtain⟨H7,F',s1,g7,mv7⟩:=aL8 g6 ht (m:=m-1) (by omega) hp1 hp2 hlt hok
      rw[hr];refine⟨H7,F',dA (cJ rfl) hm0 ?_,g7,mv6.pL mv7⟩;rw[yQ];simp -implicitDefEqProofs only[gsR,e0,l13,t1,i1,cI,e1,c1,d1,pE,Cc,Ce,c2,<-hH4,l4,eZ _ _ u8U iU,el,n1,Cd,st,<-hH6,k0,c3,c4,q0,k6,s1]
end
theorem aMk {H H':aC}{a n ports lanes p s mb:Nat}{L:List Rg.En}{l:List Rg.jZ}{top free:Int}{fl:List Nat}{f:Rg.kS->Option Value}(h:Rg.RI H a L n ports lanes p s mb l top free fl f)(hk: ∀(b:Nat)(x:Blk),H[b]? =some x->x≠ .dead->H'[b]? =some x):Rg.RI H' a L n ports lanes p s mb l top free fl f:=by
 refine⟨hk _ _ h.hd (λhd=>by cases hd),⟨⟨hk _ _ h.pool.pool.hp (λhd=>by cases hd),hk _ _ h.pool.pool.hs (λhd=>by cases hd),λi q x d hi=>hk _ _ (h.pool.pool.hq i q x d hi) (λhd=>by cases hd)⟩,h.pool.chain,h.pool.nodup,h.pool.full,h.pool.cnt,h.pool.len⟩,
  h.len,h.cnt,h.nd,h.full,?_,h.no,λw v hv=>⟨?_,(h.yes w v hv).2⟩,h.sep,h.b1,h.b2⟩
 ·obtain⟨es,c,h1,h2⟩:=h.mp
  exact⟨es,c,hk _ _ h1 (λhd=>by cases hd),h2⟩
 ·refine(h.yes w v hv).1.sO λb hb=> ?_
  obtain⟨xs,hx⟩:=(h.yes w v hv).1.blk hb;rw[hx];exact hk _ _ hx (λhd=>by cases hd)
theorem RingsN.aMh {D H:aC}{a cap ports lanes:Nat}{L:List (Go.Abs.hZ×Pkt)}(hs:Sub D H)(h:RingsN D a L cap ports lanes):RingsN H a L cap ports lanes:=by
 obtain⟨Le,⟨p,s,mb,l,top,free,fl,f,hi⟩,h2⟩:=h
 exact⟨Le,⟨p,s,mb,l,top,free,fl,f,aMk hi hs.2⟩,h2⟩
theorem HostAt.aMe {D H:aC}{a lanes queue:Nat}{L G:List Pkt}(hs:Sub D H)(h:HostAt D a L G lanes queue):HostAt H a L G lanes queue:=by
 obtain⟨w0,w1,w2,cv,h⟩:=h;have key: ∀w (xs:List Pkt),Pq D w xs->Pq H w xs:=λw xs hw=>hw.wX λb hb=>by
  obtain⟨cs,hc⟩:=hw.blk hb;rw[hc];exact hs.2 b _ hc (λhd=>by cases hd)
 exact⟨w0,w1,w2,cv,hs.2 a _ h.blk (λhd=>by cases hd),h.lanes,h.queue,λk hk=>key _ _ (h.q k hk),key _ _ h.came,h.apart,h.apartC⟩
section
variable {H0 H : aC} {F : Part → Nat → Prop} {y : Lay} {p : PlanD} {ev wv nv : Value} {c : Cfg} {t : Nat} {s : NS} {m : Nat}
theorem NodeAt.aMg (h:NodeAt H0 H F y p ev wv nv c t s):RingsN H y.rg s.rL (c.aH*c.lanes*c.room) c.aH c.lanes:=RingsN.aMh (Do _ _) (h.sep.own .rings).at_
theorem NodeAt.aAj (h:NodeAt H0 H F y p ev wv nv c t s):HostAt H y.hb s.hL s.hG c.lanes c.queue:=HostAt.aMe (Do _ _) (h.sep.own .host).at_
theorem aAk (h:NodeAt H0 H F y p ev wv nv c t s)(hm:0<m)(i o k:Nat):lvl prog pkN m (.func 159) [pt y.rg,.int .i64 i,.int .i64 o,.int .i64 k] H=some (.int .i64 (pP s.rL i o k),H):=aK4 h.aMg hm i o k
theorem aMj {i o:Nat}(hi:i<c.aH)(ho:o<c.aH)(h3:c.lanes<=3)(ht:t<1000000000)(hm:10<m): ∀(q k l:Nat)(H:aC),c.lanes-k=q->k<=c.lanes->q<l->NodeAt H0 H F y p ev wv nv c t s-> ∀(x3 x4 x5 x6 x8 x9 bK bM aR aP aZ bG aQ bC bJ bL bI bE aS aT aU aV aW aX aY bA bB bN bO bP bQ bR bS bT bU bV bY cE cG cH cL cQ cU cV:Value),
  ∃H2,aI l (aK prog (lvl prog pkN m) (aI m) Ms) (Mt (lvl prog pkN m) (aI m)) [(pt y.nb),(.int .i64 (i:Nat)),(.int .i64 (o:Nat)),x3,x4,x5,x6,(.int .u16 (dB (iX c s i o) k:Nat)),x8,x9,bK,bM,aR,(.int .i64 c.lanes),(.int .i64 (k:Nat)),aP,aZ,bG,aQ,bC,bJ,bL,bI,bE,aS,aT,aU,aV,aW,aX,aY,bA,bB,bN,bO,bP,bQ,bR,bS,bT,bU,bV,bY,cE,cG,cH,cL,cQ,cU,cV] H=some (.int .u16 (dB (iX c s i o) c.lanes:Nat),H2)/\Ext H H2:=by
 intro q;induction q with
 |zero=>
  intro k l H hq hk hl h;intros;obtain⟨l,rfl⟩: ∃l',l=l'+1:=⟨l-1,by omega⟩
  have hke:k=c.lanes:=by omega
  have c1:decide ((k:Int)<(c.lanes:Int))=false:=by rw[decide_eq_false_iff_not];omega
  rw[aI,Xe];simp -implicitDefEqProofs only[gsR,c1];rw[aIE];simp -implicitDefEqProofs only[gsR]
  exact⟨_,by rw[hke],Fr.nF _ _⟩
 |succ q ih=>
  intro k l H hq hk hl h;intros;obtain⟨l,rfl⟩: ∃l',l=l'+1:=⟨l-1,by omega⟩
  have hkl:k<c.lanes:=by omega
  have c1:decide ((k:Int)<(c.lanes:Int))=true:=by rw[decide_eq_true_eq];omega
  have l15:=h.ld 15 (pt y.rg) rfl;have r1:=aAk h (m:=m) (by omega) i o k
  have e9:=oK k (by omega)
  rw[aI,Xe];by_cases hz:pP s.rL i o k=0
  ·have c2:(((pP s.rL i o k:Nat):Int)==0)=true:=by rw[hz];rfl
   have hno:iX c s i o k=false:=by unfold iX;rw[hz];simp
   simp -implicitDefEqProofs only[gsR,c1,l15,r1,c2,cI,e9];rw[<-F8 hno];exact ih (k+1) l H (by omega) (by omega) (by omega) h ..
  ·have c2:(((pP s.rL i o k:Nat):Int)==0)=false:=by rw[beq_eq_false_iff_ne];omega
   obtain⟨s1,s2⟩:=vI (a:=dB (iX c s i o) k) (i:=k) (rB _ (by omega)) (by omega)
   by_cases ho0:o=0
   ·have c3:((o:Int)==0)=true:=by rw[ho0];rfl
    have hyes:iX c s i o k=true:=by unfold iX;simp[hkl,ho0];rw[<-ho0];omega
    simp -implicitDefEqProofs only[gsR,c1,l15,r1,c2,c3,s1,s2,cI,e9];rw[<-F9 hyes];exact ih (k+1) l H (by omega) (by omega) (by omega) h ..
   ·have c3:((o:Int)==0)=false:=by rw[beq_eq_false_iff_ne];omega
    have l13:=h.ld 13 (iJ y c) rfl;obtain⟨b,oo,a1,a2⟩:=h.xA ho;obtain⟨_,_,a3,_⟩:=a2 _ (.inl h);obtain⟨b',o',a4,_,a5,_⟩:=h.B8 (by omega) ho hkl
    have u1:=X5 (m:=m) (by omega) (h.B9 (by omega) ho hkl) (h.Ge ht o k)
    obtain⟨H1,hH1⟩: ∃H1,H1=H++[Blk.cells [.int .u64 (s.snd o k).s,.int .u64 (s.snd o k).l] 202 .fix]:=⟨_,rfl⟩;rw[<-hH1] at u1;have x1:Ext H H1:=by rw[hH1];exact Fr.app _ _ _
    by_cases hu:0<(s.snd o k).oX
    ·have c4:decide (0<((s.snd o k).oX:Int))=true:=by rw[decide_eq_true_eq];omega
     have hyes:iX c s i o k=true:=by unfold iX;simp[hkl,hu];omega
     simp -implicitDefEqProofs only[gsR,Nat.add_zero,c1,l15,r1,c2,c3,l13,a1,a3,a4,a5,u1,c4,s1,s2,cI,e9];rw[<-F9 hyes];obtain⟨H2,k1,k2⟩:=ih (k+1) l H1 (by omega) (by omega) (by omega) (h.fR x1) ..
     exact⟨H2,k1,x1.tr k2⟩
    ·have c4:decide (0<((s.snd o k).oX:Int))=false:=by rw[decide_eq_false_iff_not];omega
     have hno:iX c s i o k=false:=by unfold iX;simp[hkl,hu,ho0]
     simp -implicitDefEqProofs only[gsR,Nat.add_zero,c1,l15,r1,c2,c3,l13,a1,a3,a4,a5,u1,c4,cI,e9];rw[<-F8 hno];obtain⟨H2,k1,k2⟩:=ih (k+1) l H1 (by omega) (by omega) (by omega) (h.fR x1) ..
     exact⟨H2,k1,x1.tr k2⟩
theorem aAl (h:NodeAt H0 H F y p ev wv nv c t s)(ht:t<1000000000)(hm:20<m){i o:Nat}(hi:i<c.aH)(ho:o<c.aH): ∃H2,lvl prog pkN m (.func 183) [pt y.nb,.int .i64 i,.int .i64 o] H=some (.int .u16 (dB (iX c s i o) c.lanes:Nat),H2)/\Ext H H2:=by
 refine k8 (cJ rfl) (by omega) ?_
 rw[aIF];have l3:=h.ld 3 (.int .i64 c.lanes) rfl;simp -implicitDefEqProofs only[gsR,l3];exact aMj hi ho h.ok.lanes.2 ht (by omega) c.lanes 0 (m-1) H (by omega) (by omega) (by have:=h.ok.lanes;omega) h ..
theorem NodeAt.aMf (h:NodeAt H0 H F y p ev wv nv c t s){b:Nat}(hb: ¬Un F b)(hb0:H0.length<=b)(x:Blk):NodeAt H0 (H.set b x) F y p ev wv nv c t s:=by
 have hm:Mv (λa=>a=b) (λa=>a=b) H (H.set b x):=⟨by simp,λ_ h=> .inl h,λa _ ha=>aN7 λhh=>ha hh.symm⟩
 refine {h with ext:=⟨by simp;exact h.ext.1,λa ha _=> ?_⟩,sep:=h.sep.wJ (zF _ _ _ _ _ _ _) hm λa ha hh=>hb (by rw[<-hh];exact ha)}
 rw[aN7 (by omega),h.ext.2 a ha id]
def kV (c:Cfg)(s:NS)(i o:Nat):List Nat:=(List.range c.aH).map λj=>if j<i then dB (oG c s j) c.aH else if j=i then dB (oG c s i) o else 0
theorem tZ (c:Cfg)(s:NS)(i o:Nat):(kV c s i o).length=c.aH:=by simp[kV]
theorem xE {c:Cfg}{s:NS}{i o j:Nat}(hj:j<c.aH):(kV c s i o)[j]? =some (if j<i then dB (oG c s j) c.aH else if j=i then dB (oG c s i) o else 0):=by simp[kV,hj]
theorem aMl (c:Cfg)(s:NS)(i:Nat):kV c s i c.aH=kV c s (i+1) 0:=by
 unfold kV;refine List.map_congr_left λj hj=> ?_
 by_cases h1:j<i
 ·rw[if_pos h1,if_pos (by omega)]
 ·by_cases h2:j=i
  ·rw[if_neg h1,if_pos h2,if_pos (by omega),h2]
  ·rw[if_neg h1,if_neg h2,if_neg (by omega)]
   split<;>rfl
theorem aMm (c:Cfg)(s:NS):kV c s 0 0=List.replicate c.aH 0:=by
 apply aOI;intro j;by_cases hj:j<c.aH
 ·rw[xE hj,List.getElem?_replicate_of_lt hj,if_neg (by omega)]
  split<;>rfl
 ·rw[aOh (by rw[tZ];omega),aOh (by simp;omega)]
theorem aAm {c:Cfg}{s:NS}{i o v:Nat}(hi:i<c.aH)(hv:dB (oG c s i) (o+1)=v):kV c s i (o+1)=(kV c s i o).set i v:=by
 apply aOI;intro j;by_cases hj:j<c.aH
 ·by_cases hij:i=j
  ·subst hij
   rw[aOc (by rw[tZ];exact hi),xE hj,if_neg (by omega),if_pos rfl,hv]
  ·rw[aN7 hij,xE hj,xE hj,if_neg (show¬j=i by omega),if_neg (show¬j=i by omega)]
 ·rw[aOh (by rw[tZ];omega),aOh (by rw[List.length_set,tZ];omega)]
theorem aMo (c:Cfg)(s:NS):kL (kV c s c.aH 0)=oG c s:=by
 funext i k
 unfold kL;by_cases hi:i<c.aH
 ·rw[aOa,xE hi,if_pos hi,aOA,lA]
  unfold oG;cases decide (k<c.aH)<;>simp
 ·rw[aOa,aOh (by rw[tZ];omega)]
  unfold oG;simp[hi]
theorem aMn {c:Cfg}{s:NS}(h6:c.aH<=16): ∀z∈kV c s c.aH 0,z<65536:=λz hz=>by
 unfold kV at hz;obtain⟨j,hj,rfl⟩:=aOK.mp hz;rw[if_pos (aOL.mp hj)];exact rB _ h6
theorem aMi {c:Cfg}{s:NS}{i o:Nat}(hi:i<c.aH)(ho:o<c.aH):oG c s i o=oB (iX c s i o) c.lanes:=by
 unfold oG oB;simp[hi,ho]
end
section
variable {H0 H : aC} {F : Part → Nat → Prop} {y : Lay} {p : PlanD} {ev wv nv : Value} {c : Cfg} {t : Nat} {s : NS} {m : Nat}
theorem aMp {Ha:aC}{i:Nat}(hi:i<c.aH)(hun: ¬Un F Ha.length)(hb0:H0.length<=Ha.length)(ht:t<1000000000)(hm:30<m)(h6:c.aH<=6){K:Ex->K (Value×aC)}{Q:aC->Value->Prop}
  (hK: ∀H',NodeAt H0 H' F y p ev wv nv c t s->H'[Ha.length]? =some (iB (kV c s i c.aH))->Ext Ha H'-> ∀(x1 x2 x4 x5 x6 x7 x8 x9 bK bM aR aN aM aP aQ bC bJ bL bI bE aS aT aU aV aW aX aY bA bB bN bO bP bQ bR bS bT bU bV bY cE:Value),∃H2 r,Mb (lvl prog pkN m) (aI m) K (pt y.nb) x1 x2 (eE Ha.length c.aH) x4 x5 x6 x7 x8 x9 bK bM aR aN aM aP (.int .i64 c.aH) (.int .i64 (i:Nat)) aQ bC bJ bL bI bE aS aT aU aV aW aX aY bA bB bN bO bP bQ bR bS bT bU bV bY cE H'=some (r,H2)/\Q H2 r):
  ∀(q o k:Nat)(H:aC),c.aH-o=q->o<=c.aH->q<k->NodeAt H0 H F y p ev wv nv c t s->H[Ha.length]? =some (iB (kV c s i o))->Ext Ha H-> ∀(x1 x2 x5 x6 x7 x8 x9 bK bM aR aN aM aP aQ bC bJ bL bI bE aU aV aW aX aY bA bB bN bO bP bQ bR bS bT bU bV bY cE:Value),
  ∃H2 r,aI k (aK prog (lvl prog pkN m) (aI m) Ma) (Md (lvl prog pkN m) (aI m) K) [(pt y.nb),x1,x2,(eE Ha.length c.aH),(.int .i64 (i:Nat)),x5,x6,x7,x8,x9,bK,bM,aR,aN,aM,aP,(.int .i64 c.aH),(.int .i64 (i:Nat)),aQ,bC,bJ,bL,bI,bE,(.int .i64 c.aH),(.int .i64 (o:Nat)),aU,aV,aW,aX,aY,bA,bB,bN,bO,bP,bQ,bR,bS,bT,bU,bV,bY,cE] H=some (r,H2)/\Q H2 r:=by
 intro q;induction q with
 |zero=>
  intro o k H hq ho hk h hb he;intros;obtain⟨k,rfl⟩: ∃k',k=k'+1:=⟨k-1,by omega⟩
  have hoe:o=c.aH:=by omega
  subst hoe;have c1:decide ((c.aH:Int)<(c.aH:Int))=false:=by simp
  rw[aI,W4];simp -implicitDefEqProofs only[gsR,c1];rw[aIb];exact hK H h hb he ..
 |succ q ih=>
  intro o k H hq ho hk h hb he;intros;obtain⟨k,rfl⟩: ∃k',k=k'+1:=⟨k-1,by omega⟩
  have hol:o<c.aH:=by omega
  have c1:decide ((o:Int)<(c.aH:Int))=true:=by rw[decide_eq_true_eq];omega
  obtain⟨H1,m1,x1⟩:=aAl h ht (m:=m) (by omega) hi hol
  have h1:=h.fR x1;have b1:H1[Ha.length]? =some (iB (kV c s i o)):=by rw[x1.2 _ (dC hb) id,hb]
  have e9:=oK o (by omega)
  have hask:=aMi (c:=c) (s:=s) hi hol;rw[aI,W4];by_cases hz:dB (iX c s i o) c.lanes=0
  ·have c2:(((dB (iX c s i o) c.lanes:Nat):Int)!=0)=false:=by rw[hz];rfl
   have hno:oG c s i o=false:=by rw[hask];exact(zC _ _).mp hz
   have hr:kV c s i (o+1)=kV c s i o:=by
    rw[aAm hi (F8 hno)];apply aOI;intro j;by_cases hij:i=j
    ·subst hij
     rw[aOc (by rw[tZ];exact hi),xE hi,if_neg (by omega),if_pos rfl]
    ·rw[aN7 hij]
   simp -implicitDefEqProofs only[gsR,c1,m1,c2,cI,e9];exact ih (o+1) k H1 (by omega) (by omega) (by omega) h1 (by rw[hr];exact b1) (he.tr x1) ..
  ·have c2:(((dB (iX c s i o) c.lanes:Nat):Int)!=0)=true:=aAh hz
   have hyes:oG c s i o=true:=by
    rw[hask];cases hw:oB (iX c s i o) c.lanes with
    |true=>rfl
    |false=>exact absurd ((zC _ _).mpr hw) hz
   obtain⟨a1,a2⟩:=Gb (c:=c.aH) b1 (tZ _ _ _ _) hi;have a1:bH 1 (eE Ha.length c.aH) (.int .i64 (i:Int))=some (.pointer (some ⟨Ha.length,i,none⟩)):=a1;have hv:(kV c s i o).getD i 0=dB (oG c s i) o:=by rw[aOa,xE hi,if_neg (by omega),if_pos rfl];rfl
   rw[hv] at a2;obtain⟨s1,s2⟩:=vI (a:=dB (oG c s i) o) (i:=o) (rB _ (by omega)) (by omega)
   have st:=Zz (dB (oG c s i) o|||2 ^ o) b1 (i:=i) (by rw[tZ];exact hi)
   rw[<-aAm hi (F9 hyes)] at st;simp -implicitDefEqProofs only[gsR,c1,m1,c2,a1,a2,s1,s2,st,cI,e9];refine ih (o+1) k _ (by omega) (by omega) (by omega) (h1.aMf hun hb0 _) (iT b1) ?_ ..
   have he1:=he.tr x1
   exact⟨by simp;exact he1.1,λb hb hn=>by rw[aN7 (by omega),he1.2 b hb id]⟩
theorem aMr {Ha:aC}(hun: ¬Un F Ha.length)(hb0:H0.length<=Ha.length)(ht:t<1000000000)(hm:40<m)(h6:c.aH<=6):
  ∀(q i k:Nat)(H:aC),c.aH-i=q->i<=c.aH->q<k->NodeAt H0 H F y p ev wv nv c t s->H[Ha.length]? =some (iB (kV c s i 0))->Ext Ha H-> ∀(x1 x2 x4 x5 x6 x7 x8 x9 bK bM aR aN aM aP aQ bC bJ bL bI bE aS aT aU aV aW aX aY bA bB bN bO bP bQ bR bS bT bU bV bY cE:Value),
  ∃H2 r,aI k (aK prog (lvl prog pkN m) (aI m) L9) (Mc (lvl prog pkN m) (aI m)) [(pt y.nb),x1,x2,(eE Ha.length c.aH),x4,x5,x6,x7,x8,x9,bK,bM,aR,aN,aM,aP,(.int .i64 c.aH),(.int .i64 (i:Nat)),aQ,bC,bJ,bL,bI,bE,aS,aT,aU,aV,aW,aX,aY,bA,bB,bN,bO,bP,bQ,bR,bS,bT,bU,bV,bY,cE] H=some (r,H2)/\(r=eE Ha.length c.aH/\H2[Ha.length]? =some (iB (kV c s c.aH 0))/\Ext Ha H2/\NodeAt H0 H2 F y p ev wv nv c t s):=by
 intro q;induction q with
 |zero=>
  intro i k H hq hi hk h hb he;intros;obtain⟨k,rfl⟩: ∃k',k=k'+1:=⟨k-1,by omega⟩
  have hie:i=c.aH:=by omega
  subst hie;have c1:decide ((c.aH:Int)<(c.aH:Int))=false:=by simp
  rw[aI,W0];simp -implicitDefEqProofs only[gsR,c1];rw[aIa];simp -implicitDefEqProofs only[gsR]
  exact⟨_,_,rfl,rfl,hb,he,h⟩
 |succ q ih=>
  intro i k H hq hi hk h hb he;intros;obtain⟨k,rfl⟩: ∃k',k=k'+1:=⟨k-1,by omega⟩
  have hil:i<c.aH:=by omega
  have c1:decide ((i:Int)<(c.aH:Int))=true:=by rw[decide_eq_true_eq];omega
  have l13:=h.ld 13 (iJ y c) rfl;have e1:bX (iJ y c)=some (.int .i64 c.aH):=rfl;rw[aI,W0];simp -implicitDefEqProofs only[gsR,c1,l13,e1];refine aMp hil hun hb0 ht (by omega) h6 ?_ c.aH 0 m H (by omega) (by omega) (by omega) h hb he ..
  intro H' h' hb' he';intros;have e9:=oK i (by omega)
  unfold Mb;simp -implicitDefEqProofs only[gsR,cI,e9];rw[aMl] at hb';exact ih (i+1) k H' (by omega) (by omega) (by omega) h' hb' he' ..
theorem aMq (h:NodeAt H0 H F y p ev wv nv c t s)(ht:t<1000000000)(hm:50<m): ∃H2,lvl prog pkN m (.func 100) [pt y.nb] H=some (eE H.length c.aH,H2)/\H2[H.length]? =some (iB (kV c s c.aH 0))/\Ext H H2:=by
 have h6:c.aH<=6:=by have:=h.ok.by';unfold Cfg.aH;omega
 have main: ∃H2 r,lvl prog pkN m (.func 100) [pt y.nb] H=some (r,H2)/\(r=eE H.length c.aH/\H2[H.length]? =some (iB (kV c s c.aH 0))/\Ext H H2/\NodeAt H0 H2 F y p ev wv nv c t s):=by
  refine iP (cJ rfl) (by omega) ?_
  rw[aIc];have l13:=h.ld 13 (iJ y c) rfl;have e1:bX (iJ y c)=some (.int .i64 c.aH):=rfl;have mk:=wC (H:=H) 23 1 2 [.int .u16 0] .i64 .i64 (c.aH:Int) (by omega) (by omega) (by omega) rfl
  have hz:H++[Blk.cells (List.replicate (c.aH:Int).toNat [Value.int .u16 0]).flatten 23 .row]=H++[iB (kV c s 0 0)]:=by
   have: ∀n,(List.replicate n [Value.int .u16 0]).flatten=List.replicate n (.int .u16 0):=by
    intro n;induction n with
    |zero=>rfl
    |succ n ih=>rw[List.replicate_succ,aOH,ih];rfl
   rw[aOz,this,aMm,iB,List.map_replicate];rfl
  rw[hz,aOz] at mk;have x1:Ext H (H++[iB (kV c s 0 0)]):=Fr.app _ _ _;have h1:=h.fR x1;have l13':=h1.ld 13 (iJ y c) rfl;simp -implicitDefEqProofs only[gsR,l13,e1,mk,l13'];exact aMr (λhu=>by have:=h.sep.pM _ hu;omega) h.ext.1 ht (by omega) h6 c.aH 0 (m-1) _ (by omega) (by omega) (by omega) h1 (dK _ _) x1 ..
 obtain⟨H2,r,g1,rfl,g2,g3,_⟩:=main
 exact⟨H2,g1,g2,g3⟩
theorem aAp (L:List (Go.Abs.hZ×Pkt))(i o k:Nat):pP L i o k<=L.length:=by
 unfold pP pC;rw[aOk];exact List.length_filter_le _ _
def uA (L:List (Go.Abs.hZ×Pkt))(k o:Nat):Nat:=((List.range o).map λo=>pP L 0 o k).sum
theorem aAo (L:List (Go.Abs.hZ×Pkt))(k o:Nat):uA L k (o+1)=uA L k o+pP L 0 o k:=by
 unfold uA;rw[aOG,List.map_append,List.sum_append];simp
theorem aAn (L:List (Go.Abs.hZ×Pkt))(k:Nat): ∀o,uA L k o<=o*L.length
 |0=>by simp[uA]
 |o+1=>by
  have:=aAn L k o;have:=aAp L 0 o k;rw[aAo,Nat.succ_mul];omega
theorem aAq (h:c.ok):c.aH*c.lanes*c.room<=144:=by
 have h1:c.aH<=6:=by have:=h.by';unfold Cfg.aH;omega
 have h2:=h.lanes.2;have h3:=h.room.2
 calc c.aH*c.lanes*c.room<=6*3*8:=Nat.mul_le_mul (Nat.mul_le_mul h1 h2) h3
  _=144:=rfl
theorem aMs {kk:Nat}(hm:30<m){K:Ex->K (Value×aC)}{Q:aC->Value->Prop}(h:NodeAt H0 H F y p ev wv nv c t s)
  (hK: ∀(x1 x4 x5 x6 x7 x8 x9 bK aN aM aP aZ bG aQ bC bJ bL bI bE aS aT aU aV aW aX aY bA bB bN bO bP bQ bR bS bT bU bV bY cE cG cH cL cQ cU cV cM cN cO cR cY cW cX cZ dD dH dE dI:Value),∃H2 r,Ff (lvl prog pkN m) (aI m) K (pt y.nb) x1 (.int .i64 (kk:Nat)) (.int .i64 (yV c s.rL kk:Nat)) x4 x5 x6 x7 x8 x9 bK (.int .i64 c.lanes) (.int .i64 (kk:Nat)) aN aM aP aZ bG aQ bC bJ bL bI bE aS aT aU aV aW aX aY bA bB bN bO bP bQ bR bS bT bU bV bY cE cG cH cL cQ cU cV cM cN cO cR cY cW cX cZ dD dH dE dI H=some (r,H2)/\Q H2 r):
  ∀(q o k:Nat),c.aH-o=q->o<=c.aH->q<k-> ∀(x1 x4 x5 x6 x7 x8 x9 bK aN aM aP aZ bG aQ bL bI bE aS aT aU aV aW aX aY bA bB bN bO bP bQ bR bS bT bU bV bY cE cG cH cL cQ cU cV cM cN cO cR cY cW cX cZ dD dH dE dI:Value),
  ∃H2 r,aI k (aK prog (lvl prog pkN m) (aI m) Nb) (Nd (lvl prog pkN m) (aI m) K) [(pt y.nb),x1,(.int .i64 (kk:Nat)),(.int .i64 (uA s.rL kk o:Nat)),x4,x5,x6,x7,x8,x9,bK,(.int .i64 c.lanes),(.int .i64 (kk:Nat)),aN,aM,aP,aZ,bG,aQ,(.int .i64 c.aH),(.int .i64 (o:Nat)),bL,bI,bE,aS,aT,aU,aV,aW,aX,aY,bA,bB,bN,bO,bP,bQ,bR,bS,bT,bU,bV,bY,cE,cG,cH,cL,cQ,cU,cV,cM,cN,cO,cR,cY,cW,cX,cZ,dD,dH,dE,dI] H=some (r,H2)/\Q H2 r:=by
 intro q;induction q with
 |zero=>
  intro o k hq ho hk;intros;obtain⟨k,rfl⟩: ∃k',k=k'+1:=⟨k-1,by omega⟩
  have hoe:o=c.aH:=by omega
  subst hoe;have c1:decide ((c.aH:Int)<(c.aH:Int))=false:=by simp
  rw[aI,Xp];simp -implicitDefEqProofs only[gsR,c1];rw[aJi];exact hK ..
 |succ q ih=>
  intro o k hq ho hk;intros;obtain⟨k,rfl⟩: ∃k',k=k'+1:=⟨k-1,by omega⟩
  have h6:c.aH<=6:=by have:=h.ok.by';unfold Cfg.aH;omega
  have c1:decide ((o:Int)<(c.aH:Int))=true:=by rw[decide_eq_true_eq];omega
  have l15:=h.ld 15 (pt y.rg) rfl;have r1:=aAk h (m:=m) (by omega) 0 o kk
  have e9:=oK o (by omega)
  have hrl:=aOm h.inv.rN (aAq h.ok);have hb1:uA s.rL kk o<=6*144:=aOm (aAn _ _ _) (Nat.mul_le_mul (by omega) hrl)
  have hb2:=aAp s.rL 0 o kk;have e8:IntKind.i64.wrap ((uA s.rL kk o:Nat)+((pP s.rL 0 o kk:Nat):Int))=(uA s.rL kk (o+1):Nat):=by
   rw[aAo,dM (by omega) (by omega)]
   omega
  have r1:lvl prog pkN m (.func 159) [pt y.rg,.int .i64 0,.int .i64 o,.int .i64 kk] H=some (.int .i64 (pP s.rL 0 o kk),H):=r1;rw[aI,Xp];simp -implicitDefEqProofs only[gsR,c1,l15,r1,cI,e8,e9];exact ih (o+1) k (by omega) (by omega) (by omega) ..
def aMu (w:List Pkt):Value:=match w with
 |[]=> .tuple #[pk0.dG,.bool false]
 |x::_=> .tuple #[x.dG,.bool true]
def xG (L:List Pkt)(k:Nat):List Pkt:=if fP L k=[] then L else q8 L k
theorem aMt {D:aC}{hb:Nat}(hm:3<m){k:Nat}(hk:k<c.lanes)(h:HostAt D hb s.hL s.hG c.lanes c.queue):
  ∃r D',lvl prog pkN m (.func 176) [pt hb,.int .i64 k] D=some (r,D')/\(r=aMu (fP s.hL k)/\HostAt D' hb (xG s.hL k) s.hG c.lanes c.queue):=by
 obtain⟨w0,w1,w2,cv,h⟩:=h;cases hw:fP s.hL k with
 |nil=>
  obtain⟨H',g1,g2⟩:=aLb h hm k hk hw
  exact⟨_,_,g1,rfl,by unfold xG;rw[if_pos hw];exact g2⟩
 |cons x xs=>
  obtain⟨H',g1,g2⟩:=aLc h hm k hk hw
  exact⟨_,_,g1,rfl,by unfold xG;rw[if_neg (by rw[hw];simp)];exact g2⟩
end
end Go.Proofs.YtmimdleeihjdoaaGreatDoor
