/-
  PARTS OF THIS CLAIM'S PROOF, laid together by a program of mine.
-/
import Derived.Test.YtmimdleeihjdoaaGreatDoorAbsM2
import Derived.Test.YtmimdleeihjdoaaGreatDoorAbsM1
import Derived.Calls
import Derived.LoopN
import Derived.Orders
import Derived.Laws.Sem
import Derived.Laws.Tables
import Derived.Laws.Cells
import Derived.Laws.StructEq
import Derived.Laws.Append
import Derived.Laws.MakeOwn
import Derived.Laws.Slices
import Derived.Lib.UnsafeStr
import Derived.Laws.BytesString
import Derived.Laws.BytesArg
import Derived.Laws.Pointers
import Derived.Lib.SliceRun
import Derived.Laws.Cover3
import Derived.MapKept
import Derived.WideKeyRuns
import Derived.Scope
import Derived.Test.YtmimdleeihjdoaaGreatDoorProg
import Derived.KernelRfl
import Derived.Test.YtmimdleeihjdoaaGreatDoorAbsM5
import Derived.ProofKit
import Derived.RowKit
import Derived.RowKit3
import Derived.ChangeSame
import Derived.OpenShut
import Derived.Deep.Slices
import Derived.SizedLaws
import Derived.Test.YtmimdleeihjdoaaGreatDoorAbsM4
import Derived.Test.YtmimdleeihjdoaaGreatDoorAbsM3
import Derived.Sort.Grow
import Derived.Ground.NamesProg
import Derived.Shelf.Sort.Plain
import Derived.Shelf.Slices.In.SortNone
set_option linter.unusedVariables false
set_option linter.unusedSimpArgs false
set_option maxRecDepth 100000
noncomputable section
namespace Go.Proofs.YtmimdleeihjdoaaGreatDoor
open Go.Proofs.Tryz
open Go.Abs
variable (O:aC)(L:LV)(k:KV)(N P Q R S T U V W X Y Z a b c d e f g i j l m n o p q r s t u v w x y z A B C D E F G H I J zz zy zx zw zv zu zt zs zr zq zp zo zn zm zl zk zj zi zh zg zf ze zd zc zb za yz yy yx yw yv yu yt ys yr yq yp yo yn ym yl yk yj yi yh yg yf ye yd yc yb ya xz xy xx xw xv xu xt xs xr xq xp xo xn xm xl xk xj xi xh xg xf xe xd xc xb xa wz wy wx ww wv wu wt ws wr wq wp wo wn wm wl wk wj wi wh wg wf we wd wc wb wa vz:Value)(h:aA)
theorem aJo:bX prog O L 92 [N,P,Q] h=ob (O (.func 171) [Q] h) λaa h=>ob (M.aB (bin prog .eql 270 aa (.pointer none)) h) λab h=>ob (gd ab false (M.cB N) h) λac h=>ob (gd ab false (M.aB (bin prog .lss 3 ac (.int .i64 1))) h) λad h=>ob (M.aB (cJ ab (.bool true) ad) h) λae h=>ob (gd ae false (M.cB N) h) λaf h=>ob (gd ae false (M.aB (bin prog .gtr 3 af (.int .i64 16))) h) λag h=>ob (M.aB (cJ ae (.bool true) ag) h) λah h=>ob (gd ah false (M.cB P) h) λai h=>ob (gd ah false (M.aB (bin prog .lss 3 ai (.int .i64 1))) h) λaj h=>ob (M.aB (cJ ah (.bool true) aj) h) λak h=>ob (gd ak false (M.cB P) h) λal h=>ob (gd ak false (M.aB (bin prog .gtr 3 al (.int .i64 3))) h) λam h=>ob (M.aB (cJ ak (.bool true) am) h) λan h=>aJ an (some (aG [(.pointer none)],h)) (ob (pE h) λao h=>ob (M.aB (bld prog 274 [(0,aa),(1,ao),(2,N),(3,P)]) h) λap h=>ob (cL 274 (Value.cells ap).toList .fix h) λaq h=>some (aG [aq],h)):=by kernel_rfl
theorem aJj:bX prog O L 159 [N,P,Q,R] h=ob (M.aB (aK N) h) λaa h=>ob (M.aB (aE 1 aa) h) λab h=>ob (ld1 ab h) λac h=>ob (M.aB (bld prog 307 [(0,P),(1,Q),(2,R)]) h) λad h=>ob (mM (.str [true,true,true]) (.slice none 0 0) false ac ad h) λae h=>ob (M.aB (bJ ae) h) λaf h=>some (aG [af],h):=by kernel_rfl
def Ml:Code:=bU [1,1,1,0,1,0,0] (b9 prog 171)
def Mm:KV:=(dO 0 (eC prog O L (bU [1,1,1,1] (b9 prog 171)) (eG prog Tryz.f171)))
theorem aJk:Mm O L (.exit 0) [a,b,c,d,e,f,g,i,j,l,m,n,o,p,q,r,s,t,u,v,w,x,y,z,A,B,C,D,E,F,G,H,I,J,zz,zy,zx,zw,zv,zu,zt,zs,zr] h=ob (M.aB (aK d) h) λaa h=>ob (M.aB (aE 0 aa) h) λab h=>ob (ld1 ab h) λac h=>ob (M.aB (bin prog .sub 3 a (.int .i64 1)) h) λad h=>ob (M.aB (aQ 2 ac ad) h) λae h=>ob (M.aB (aE 1 ae) h) λaf h=>ob (stN 1 af (.int .i64 (-1)) h) λag h=>some (aG [d],h):=by kernel_rfl
theorem Wh:aI prog O L Ml k [a,b,c,d,e,f,g,i,j,l,m,n,o,p,q,r,s,t,u,v,w,x,y,z,A,B,C,D,E,F,G,H,I,J,zz,zy,zx,zw,zv,zu,zt,zs,zr] h=ob (M.aB (bin prog .lss 3 x w) h) λaa h=>aJ aa (ob (M.aB (aK d) h) λab h=>ob (M.aB (aE 0 ab) h) λac h=>ob (ld1 ac h) λad h=>ob (M.aB (bin prog .add 3 x (.int .i64 1)) h) λae h=>ob (M.aB (aQ 2 ad x) h) λaf h=>ob (M.aB (aE 1 af) h) λag h=>ob (stN 1 ag ae h) λah h=>ob (M.aB (bin prog .add 3 x (.int .i64 1)) h) λai h=>k .normal [a,b,c,d,x,f,g,i,j,l,m,n,o,p,q,r,s,t,u,v,w,ai,aa,x,d,ab,ac,ad,x,x,ae,af,ag,ai,zz,zy,zx,zw,zv,zu,zt,zs,zr] h) (k (.exit 0) [a,b,c,d,e,f,g,i,j,l,m,n,o,p,q,r,s,t,u,v,w,x,aa,z,A,B,C,D,E,F,G,H,I,J,zz,zy,zx,zw,zv,zu,zt,zs,zr] h):=by kernel_rfl
theorem aJl:bX prog O L 171 [N] h=ob (M.aB (bin prog .lss 3 N (.int .i64 1)) h) λaa h=>ob (gd aa false (M.cB N) h) λab h=>ob (gd aa false (M.aB (bin prog .gtr 3 ab (.int .i64 200))) h) λac h=>ob (M.aB (cJ aa (.bool true) ac) h) λad h=>aJ ad (some (aG [(.pointer none)],h)) (ob (kF 330 2 16 [(.pointer none),(.int .i64 0)] N N h) λae h=>ob (M.aB (bld prog 327 [(0,ae),(2,N)]) h) λaf h=>ob (cL 327 (Value.cells af).toList .fix h) λag h=>ob (M.aB (aK ag) h) λah h=>ob (M.aB (aE 0 ah) h) λai h=>ob (ld1 ai h) λaj h=>ob (M.aB (bJ aj) h) λak h=>L (aI prog O L Ml) (Mm O L) [N,undef,(.pointer none),ag,undef,N,aa,aa,ab,ac,ad,N,ae,N,af,ag,ag,ah,ai,aj,ak,(.int .i64 0),undef,undef,undef,undef,undef,undef,undef,undef,undef,undef,undef,undef,undef,undef,undef,undef,undef,undef,undef,undef,undef] h):=by kernel_rfl
theorem Mn:bX prog O L 177 [N,P,Q,R,S] h=ob (cL 31 (Value.cells S).toList .fix h) λaa h=>ob (M.aB (bld prog 307 [(0,P),(1,Q),(2,R)]) h) λab h=>ob (cL 307 [(.int .i64 0),(.int .i64 0),(.int .i64 0)] .fix h) λac h=>ob (stN 3 ac ab h) λad h=>ob (ldN 3 ac h) λae h=>ob (O (.func 234) [N,ae] h) λaf h=>ob (M.aB (un prog .not af) h) λag h=>aJ ag (some (aG [(.bool false)],h)) (ob (M.aB (aK N) h) λah h=>ob (M.aB (aE 0 ah) h) λai h=>ob (ld1 ai h) λaj h=>ifB (true) (ob (ldN 4 aa h) λak h=>ifB (true) (ob (O (.func 235) [aj,ak] h) λal h=>ifB (true) (ob (M.aB (ext 0 al) h) λam h=>ob (M.aB (ext 1 al) h) λan h=>aJ an (ob (M.aB (aK N) h) λao h=>ob (M.aB (aE 1 ao) h) λap h=>ob (ld1 ap h) λaq h=>ifB (true) (ob (ldN 3 ac h) λar h=>ifB (true) (ob (dL 3 1 1 [(.int .i64 0)] [(0,am)] h) λau h=>ob (qU (.str [true,true,true]) (.slice none 0 0) aq ar h) λav h=>ifB (true) (ob (M.aB (ext 0 av) h) λaw h=>ob (app 3 1 8 aw au h) λax h=>ifB (true) (ob (M.aB (ext 1 av) h) λay h=>ob (qS aq ay ax h) λaz h=>ifB (true) (some (aG [an],h))))))) (some (aG [an],h)))))):=by kernel_rfl
theorem Mo:bX prog O L 185 [N,P,Q,R] h=ob (cL 31 [(.int .i64 0),(.int .i64 0),(.int .i64 0),(.int .u32 0)] .fix h) λaa h=>ob (O (.func 242) [N,P,Q,R] h) λab h=>ob (M.aB (ext 0 ab) h) λac h=>ob (M.aB (ext 1 ab) h) λad h=>ob (cL 31 [(.int .i64 0),(.int .i64 0),(.int .i64 0),(.int .u32 0)] .fix h) λae h=>ob (stN 4 ae ac h) λaf h=>aJ ad (ob (M.aB (bld prog 307 [(0,P),(1,Q),(2,R)]) h) λag h=>ob (cL 307 [(.int .i64 0),(.int .i64 0),(.int .i64 0)] .fix h) λah h=>ob (stN 3 ah ag h) λai h=>ob (M.aB (aK N) h) λaj h=>ob (M.aB (aE 0 aj) h) λak h=>ob (ld1 ak h) λal h=>ifB (true) (ob (M.aB (aK N) h) λam h=>ob (M.aB (aE 1 am) h) λan h=>ob (ld1 an h) λao h=>ifB (true) (ob (ldN 3 ah h) λap h=>ifB (true) (ob (mM (.str [true,true,true]) (.slice none 0 0) false ao ap h) λaq h=>ifB (true) (ob (M.aB (aQ 1 aq (.int .i64 0)) h) λar h=>ob (ld1 ar h) λau h=>ifB (true) (ob (O (.func 243) [al,au] h) λav h=>ifB (true) (ob (M.aB (aK N) h) λaw h=>ob (M.aB (aE 1 aw) h) λax h=>ob (ld1 ax h) λay h=>ifB (true) (ob (ldN 3 ah h) λaz h=>ifB (true) (ob (M.aB (aK N) h) λba h=>ob (M.aB (aE 1 ba) h) λbb h=>ob (ld1 bb h) λbc h=>ifB (true) (ob (ldN 3 ah h) λbd h=>ifB (true) (ob (mM (.str [true,true,true]) (.slice none 0 0) false bc bd h) λbe h=>ifB (true) (ob (slc prog 1 be (some (.int .i64 1)) none none h) λbf h=>ifB (true) (ob (rK (.str [true,true,true]) ay az bf h) λbg h=>ifB (true) (ob (M.aB (aK N) h) λbh h=>ob (M.aB (aE 1 bh) h) λbi h=>ob (ld1 bi h) λbj h=>ifB (true) (ob (ldN 3 ah h) λbk h=>ifB (true) (ob (mM (.str [true,true,true]) (.slice none 0 0) false bj bk h) λbl h=>ifB (true) (ob (M.aB (bJ bl) h) λbm h=>ob (M.aB (bin prog .eql 3 bm (.int .i64 0)) h) λbn h=>aJ bn (ob (M.aB (aK N) h) λbo h=>ob (M.aB (aE 1 bo) h) λbp h=>ob (ld1 bp h) λbq h=>ifB (true) (ob (ldN 3 ah h) λbr h=>ifB (true) (ob (rJ (.str [true,true,true]) bq br h) λbs h=>ifB (true) (ob (ldN 4 ae h) λbt h=>ob (stN 4 aa bt h) λbu h=>ob (ldN 4 aa h) λw45 _=>some (aG [w45,ad],h))))) (ob (ldN 4 ae h) λbv h=>ob (stN 4 aa bv h) λbw h=>ob (ldN 4 aa h) λw48 _=>some (aG [w48,ad],h))))))))))))))))))) (ob (ldN 4 ae h) λbx h=>ob (stN 4 aa bx h) λbz h=>ob (ldN 4 aa h) λw51 _=>some (aG [w51,ad],h)):=by kernel_rfl
theorem Wi:bX prog O L 213 [N,P] h=ob (cL 31 [(.int .i64 0),(.int .i64 0),(.int .i64 0),(.int .u32 0)] .fix h) λaa h=>ob (O (.func 254) [N,P] h) λab h=>ob (M.aB (bin prog .neq 348 ab (.pointer none)) h) λac h=>aJ ac (ob (M.aB (aK ab) h) λad h=>ob (M.aB (aE 0 ad) h) λae h=>ob (ld1 ae h) λaf h=>ob (M.aB (aK af) h) λag h=>ob (ldN 4 ag h) λah h=>ob (stN 4 aa ah h) λai h=>ob (ldN 4 aa h) λw9 _=>some (aG [w9,(.bool true)],h)) (ob (M.aB (bld prog 31 []) h) λaj h=>ob (stN 4 aa aj h) λak h=>ob (ldN 4 aa h) λw12 _=>some (aG [w12,(.bool false)],h)):=by kernel_rfl
theorem aJm:bX prog O L 234 [N,P] h=ob (cL 307 (Value.cells P).toList .fix h) λaa h=>ob (M.aB (aE 0 aa) h) λab h=>ob (ld1 ab h) λac h=>ifB (true) (ob (M.aB (aE 1 aa) h) λad h=>ob (ld1 ad h) λae h=>ifB (true) (ob (M.aB (aE 2 aa) h) λaf h=>ob (ld1 af h) λag h=>ifB (true) (ob (M.aB (lJ prog false [ac,ae,ag]) h) λah h=>ob (M.aB (bin prog .geq 3 ah (.int .i64 0)) h) λai h=>ob (gd ai true (M.aB (aE 0 aa)) h) λaj h=>ob (gd ai true (ld1 aj) h) λak h=>ifB (true) (ob (gd ai true (M.aB (aE 1 aa)) h) λal h=>ob (gd ai true (ld1 al) h) λam h=>ifB (true) (ob (gd ai true (M.aB (lJ prog true [ak,am])) h) λan h=>ob (gd ai true (M.cB N) h) λao h=>ob (gd ai true (M.aB (aK ao)) h) λap h=>ob (gd ai true (M.aB (aE 2 ap)) h) λaq h=>ob (gd ai true (ld1 aq) h) λar h=>ifB (true) (ob (gd ai true (M.aB (bin prog .lss 3 an ar)) h) λau h=>ob (M.aB (cJ ai au (.bool false)) h) λav h=>ob (gd av true (M.aB (aE 2 aa)) h) λaw h=>ob (gd av true (ld1 aw) h) λax h=>ifB (true) (ob (gd av true (M.cB N) h) λay h=>ob (gd av true (M.aB (aK ay)) h) λaz h=>ob (gd av true (M.aB (aE 3 az)) h) λba h=>ob (gd av true (ld1 ba) h) λbb h=>ifB (true) (ob (gd av true (M.aB (bin prog .lss 3 ax bb)) h) λbc h=>ob (M.aB (cJ av bc (.bool false)) h) λbd h=>some (aG [bd],h))))))))):=by kernel_rfl
theorem Wj:bX prog O L 235 [N,P] h=ob (cL 31 (Value.cells P).toList .fix h) λaa h=>ob (M.aB (aK N) h) λab h=>ob (M.aB (aE 1 ab) h) λac h=>ob (ld1 ac h) λad h=>ob (M.aB (bin prog .eql 3 ad (.int .i64 (-1))) h) λae h=>aJ ae (some (aG [(.int .i64 0),(.bool false)],h)) (ob (M.aB (aK N) h) λaf h=>ob (M.aB (aE 0 af) h) λag h=>ob (ld1 ag h) λah h=>ob (M.aB (aQ 2 ah ad) h) λai h=>ob (M.aB (aK ai) h) λaj h=>ob (M.aB (aE 1 aj) h) λak h=>ob (ld1 ak h) λal h=>ob (M.aB (aK ai) h) λam h=>ob (M.aB (aE 0 am) h) λan h=>ob (stN 1 an aa h) λao h=>ob (M.aB (aK N) h) λap h=>ob (M.aB (aE 1 ap) h) λaq h=>ob (stN 1 aq al h) λar h=>ob (M.aB (aK N) h) λau h=>ob (M.aB (aE 2 au) h) λav h=>ob (ld1 av h) λaw h=>ob (M.aB (bin prog .sub 3 aw (.int .i64 1)) h) λax h=>ob (M.aB (aK N) h) λay h=>ob (M.aB (aE 2 ay) h) λaz h=>ob (stN 1 az ax h) λba h=>some (aG [ad,(.bool true)],h)):=by kernel_rfl
theorem Wk:bX prog O L 242 [N,P,Q,R] h=ob (cL 31 [(.int .i64 0),(.int .i64 0),(.int .i64 0),(.int .u32 0)] .fix h) λaa h=>ob (M.aB (aK N) h) λab h=>ob (M.aB (aE 1 ab) h) λac h=>ob (ld1 ac h) λad h=>ob (M.aB (bld prog 307 [(0,P),(1,Q),(2,R)]) h) λae h=>ob (mM (.str [true,true,true]) (.slice none 0 0) false ad ae h) λaf h=>ob (M.aB (bJ af) h) λag h=>ob (M.aB (bin prog .eql 3 ag (.int .i64 0)) h) λah h=>aJ ah (ob (M.aB (bld prog 31 []) h) λai h=>ob (stN 4 aa ai h) λaj h=>ob (ldN 4 aa h) λw10 _=>some (aG [w10,(.bool false)],h)) (ob (M.aB (aK N) h) λak h=>ob (M.aB (aE 0 ak) h) λal h=>ob (ld1 al h) λam h=>ifB (true) (ob (M.aB (aQ 1 af (.int .i64 0)) h) λan h=>ob (ld1 an h) λao h=>ifB (true) (ob (O (.func 213) [am,ao] h) λap h=>ifB (true) (ob (M.aB (ext 0 ap) h) λaq h=>ob (M.aB (ext 1 ap) h) λar h=>ob (stN 4 aa aq h) λau h=>ifB (true) (ob (ldN 4 aa h) λw20 _=>some (aG [w20,ar],h)))))):=by kernel_rfl
theorem aJn:bX prog O L 243 [N,P] h=ob (O (.func 254) [N,P] h) λaa h=>ob (M.aB (bin prog .eql 348 aa (.pointer none)) h) λab h=>aJ ab (some (aG [(.bool false)],h)) (ob (M.aB (aK N) h) λac h=>ob (M.aB (aE 1 ac) h) λad h=>ob (ld1 ad h) λae h=>ob (M.aB (aK aa) h) λaf h=>ob (M.aB (aE 0 af) h) λag h=>ob (stN 1 ag (.pointer none) h) λah h=>ob (M.aB (aK aa) h) λai h=>ob (M.aB (aE 1 ai) h) λaj h=>ob (stN 1 aj ae h) λak h=>ob (M.aB (aK N) h) λal h=>ob (M.aB (aE 1 al) h) λam h=>ob (stN 1 am P h) λan h=>ob (M.aB (aK N) h) λao h=>ob (M.aB (aE 2 ao) h) λap h=>ob (ld1 ap h) λaq h=>ob (M.aB (bin prog .add 3 aq (.int .i64 1)) h) λar h=>ob (M.aB (aK N) h) λau h=>ob (M.aB (aE 2 au) h) λav h=>ob (stN 1 av ar h) λaw h=>some (aG [(.bool true)],h)):=by kernel_rfl
theorem Wl:bX prog O L 254 [N,P] h=ob (M.aB (bin prog .lss 3 P (.int .i64 0)) h) λaa h=>ob (gd aa false (M.cB P) h) λab h=>ob (gd aa false (M.cB N) h) λac h=>ob (gd aa false (M.aB (aK ac)) h) λad h=>ob (gd aa false (M.aB (aE 0 ad)) h) λae h=>ob (gd aa false (ld1 ae) h) λaf h=>ob (gd aa false (M.aB (bJ af)) h) λag h=>ob (gd aa false (M.aB (bin prog .geq 3 ab ag)) h) λah h=>ob (M.aB (cJ aa (.bool true) ah) h) λai h=>ob (gd ai false (M.cB N) h) λaj h=>ob (gd ai false (M.aB (aK aj)) h) λak h=>ob (gd ai false (M.aB (aE 0 ak)) h) λal h=>ob (gd ai false (ld1 al) h) λam h=>ob (gd ai false (M.cB P) h) λan h=>ob (gd ai false (M.aB (aQ 2 am an)) h) λao h=>ob (gd ai false (M.aB (aE 0 ao)) h) λap h=>ob (gd ai false (ld1 ap) h) λaq h=>ob (gd ai false (M.aB (bin prog .eql 328 aq (.pointer none))) h) λar h=>ob (M.aB (cJ ai (.bool true) ar) h) λau h=>aJ au (some (aG [(.pointer none)],h)) (ob (M.aB (aK N) h) λav h=>ob (M.aB (aE 0 av) h) λaw h=>ob (ld1 aw h) λax h=>ob (M.aB (aQ 2 ax P) h) λay h=>some (aG [ay],h)):=by kernel_rfl
end Go.Proofs.YtmimdleeihjdoaaGreatDoor
end
namespace Go.Proofs.YtmimdleeihjdoaaGreatDoor.Rg
open Go.Proofs.Tryz
open Go.Abs
theorem n73 (a:Addr):bin prog .neq 348 (.pointer (some a)) (.pointer none)=some (.bool true):=aBC 348 330 (by kernel_rfl) a
theorem aJy:bin prog .neq 348 (.pointer none) (.pointer none)=some (.bool false):=aBD 348 330 (by kernel_rfl)
theorem e73 (a:Addr):bin prog .eql 348 (.pointer (some a)) (.pointer none)=some (.bool false):=Bx 348 330 (by kernel_rfl) a
theorem e70 (a:Addr):bin prog .eql 328 (.pointer (some a)) (.pointer none)=some (.bool false):=Bx 328 31 (by kernel_rfl) a
theorem aJr:bin prog .eql 328 (.pointer none) (.pointer none)=some (.bool true):=Pz 328 31 (by kernel_rfl)
theorem e22 (a:Addr):bin prog .eql 270 (.pointer (some a)) (.pointer none)=some (.bool false):=Bx 270 327 (by kernel_rfl) a
def pkB (x:Pkt):Blk:= .cells x.oE 31 .fix
abbrev iX:=Option (Nat×Pkt)×Int
def wE (x:Option (Nat×Pkt)):Value:= .pointer (x.map λb=>⟨b.1,0,none⟩)
def rC (x:iX):List Value:=[wE x.1,.int .i64 x.2]
def mK (l:List iX):Blk:= .cells (l.map rC).flatten 330 .row
def oG (s n:Nat)(top free:Int):Blk:= .cells [.slice (some ⟨s,0,none⟩) n n,.int .i64 top,.int .i64 free] 327 .fix
structure IsPool (H:aA)(p s:Nat)(l:List iX)(top free:Int):Prop where
 hp:H[p]? =some (oG s l.length top free)
 hs:H[s]? =some (mK l)
 hq: ∀(i q:Nat)(x:Pkt)(d:Int),l[i]? =some (some (q,x),d)->H[q]? =some (pkB x)
theorem D8 (l:List iX): ∀r∈l.map rC,r.length=2:=by
 intro r hr;simp only[aNc] at hr;obtain⟨x,_,rfl⟩:=hr;rfl
theorem Ws (l:List iX):(l.map rC).flatten.length=l.length*2:=by
 rw[rT _ (D8 l)];simp
theorem Wu (l:List iX)(i j:Nat)(v:Value)(x y:iX)(hi:l[i]? =some x)(hj:j<2)(hv:(rC x).set j v=rC y):(l.map rC).flatten.set (i*2+j) v=((l.set i y).map rC).flatten:=by
 have:=Gw (l.map rC) (D8 l) i j [v] (rC x) (by simp[hi]) (by simp;omega)
 simp only[eD] at this;rw[this,hv,List.map_set]
variable {pr : gO} {H : aA} {p s : Nat} {l : List iX} {top free : Int}
@[simp] theorem aMy (i:Nat):ldC (some (mK l)) (i*2) H=xC ((l[i]?).map λx=>wE x.1) H:=by
 have:=Bz _ (D8 l) i 0 (by decide)
 simp only[Nat.add_zero] at this;unfold mK;rw[sT,this,aMM];cases l[i]? <;>rfl
@[simp] theorem aJw (i:Nat):ldC (some (mK l)) (i*2+1) H=xC ((l[i]?).map λx=> .int .i64 x.2) H:=by
 have:=Bz _ (D8 l) i 1 (by decide)
 unfold mK;rw[sT,this,aMM];cases l[i]? <;>rfl
theorem Wy (b i:Nat)(a:Option Addr)(x:iX)(q:Option (Nat×Pkt))(hi:l[i]? =some x)(hq: .pointer a=wE q):stC (some (mK l)) b (i*2) [.pointer a] H=some (undef,H.set b (mK (l.set i (q,x.2)))):=by
 have hl:i<l.length:=(aMz.mp hi).1;unfold mK;rw[Gx _ _ _ _ _ rfl (by rw[Ws];simp;omega)]
 have:=Wu l i 0 (.pointer a) x (q,x.2) hi (by decide) (by rw[hq];rfl)
 simp only[eD];rw[<-this,Nat.add_zero]
theorem Mt (b i:Nat)(d:Int)(x:iX)(hi:l[i]? =some x):stC (some (mK l)) b (i*2+1) [.int .i64 d] H=some (undef,H.set b (mK (l.set i (x.1,d)))):=by
 have hl:i<l.length:=(aMz.mp hi).1;unfold mK;rw[Gx _ _ _ _ _ rfl (by rw[Ws];simp;omega)]
 have:=Wu l i 1 (.int .i64 d) x (x.1,d) hi (by decide) (by rfl)
 simp only[eD];rw[<-this]
@[simp] theorem D6 (n:Nat):ldC (some (oG s n top free)) 0 H=some (.slice (some ⟨s,0,none⟩) n n,H):=rfl
@[simp] theorem Wp (n:Nat):ldC (some (oG s n top free)) 1 H=some (.int .i64 top,H):=rfl
@[simp] theorem Wq (n:Nat):ldC (some (oG s n top free)) 2 H=some (.int .i64 free,H):=rfl
@[simp] theorem Ww (b n:Nat)(d:Int):stC (some (oG s n top free)) b 1 [.int .i64 d] H=some (undef,H.set b (oG s n d free)):=rfl
@[simp] theorem Wx (b n:Nat)(d:Int):stC (some (oG s n top free)) b 2 [.int .i64 d] H=some (undef,H.set b (oG s n top d)):=rfl
@[simp] theorem aJv (x:Pkt):Bw (some (pkB x)) 4 0 H=some (x.dB,H):=rfl
theorem D9 (b:Nat)(y:Pkt):stN 4 (.pointer (some ⟨b,0,none⟩)) y.dB H=stC H[b]? b 0 y.oE H:=mE 4 b 0 _ rfl
@[simp] theorem Wv (b:Nat)(x y:Pkt):stC (some (pkB x)) b 0 y.oE H=some (undef,H.set b (pkB y)):=rfl
theorem wD:Blk.cells [.int .i64 0,.int .i64 0,.int .i64 0,.int .u32 0] 31 .fix=pkB pk0:=rfl
theorem Wr:bld prog 31 []=some pk0.dB:=by kernel_rfl
theorem Ms (H:aA)(a b:Blk):(H++[a]).set H.length b=H++[b]:=by simp
theorem aJp (hn:pr (.func 254)=none)(h:IsPool H p s l top free){m:Nat}(hm:0<m)(i:Int)(hi:i<0∨(l.length:Int)<=i∨ ∃d,l[i.toNat]? =some (none,d)):
  lvl prog pr m (.func 254) [.pointer (some ⟨p,0,none⟩),.int .i64 i] H=some (.pointer none,H):=by
 have hp:=h.hp;have hs:=h.hs;refine cX hn hm ?_;rw[Wl];by_cases h0:i<0
 ·simp -implicitDefEqProofs [h0]
 ·by_cases h1:(l.length:Int)<=i
  ·simp -implicitDefEqProofs [h0,h1,hp,hs]
  ·obtain⟨d,hd⟩: ∃d,l[i.toNat]? =some (none,d):=by
    rcases hi with hi|hi|hi
    ·exact absurd hi h0
    ·exact absurd hi h1
    ·exact hi
   simp -implicitDefEqProofs (disch:=first|omega|simp) [-getElem?_pos,h0,h1,hp,hs,hd,wE,aJr]
theorem Wn (hn:pr (.func 254)=none)(h:IsPool H p s l top free){m:Nat}(hm:0<m)(i:Nat)(q:Nat×Pkt)(d:Int)(hi:l[i]? =some (some q,d)):
  lvl prog pr m (.func 254) [.pointer (some ⟨p,0,none⟩),.int .i64 i] H=some (.pointer (some ⟨s,i*2,none⟩),H):=by
 have hp:=h.hp;have hs:=h.hs;have hl:i<l.length:=(aMz.mp hi).1;refine cX hn hm ?_;rw[Wl];have h0: ¬(i:Int)<0:=by omega
 have h1: ¬(l.length:Int)<=i:=by omega
 simp -implicitDefEqProofs (disch:=first|omega|simp) [-getElem?_pos,h0,h1,hp,hs,hi,wE,e70]
theorem IsPool.app (h:IsPool H p s l top free)(G:aA):IsPool (H++G) p s l top free:=by
 have up: ∀(b:Nat)(x:Blk),H[b]? =some x->(H++G)[b]? =some x:=λb x hb=>by
  rw[aMC (aMz.mp hb).1,hb]
 exact⟨up _ _ h.hp,up _ _ h.hs,λi q x d hi=>up _ _ (h.hq i q x d hi)⟩
theorem aMx (hn:pr (.func 254)=none)(hn':pr (.func 213)=none)(h:IsPool H p s l top free){m:Nat}(hm:1<m)(i:Int)(hi:i<0∨(l.length:Int)<=i∨ ∃d,l[i.toNat]? =some (none,d)):
  lvl prog pr m (.func 213) [.pointer (some ⟨p,0,none⟩),.int .i64 i] H=some (.tuple #[pk0.dB,.bool false],H++[pkB pk0]):=by
 refine cX hn' (by omega) ?_
 rw[Wi];have hc:=aJp hn (h.app [pkB pk0]) (m:=m-1) (by omega) i hi
 simp -implicitDefEqProofs [wD,hc,aJy,Wr,D9,Ms]
theorem aJu (hn:pr (.func 254)=none)(hn':pr (.func 213)=none)(h:IsPool H p s l top free){m:Nat}(hm:1<m)(i q:Nat)(x:Pkt)(d:Int)(hi:l[i]? =some (some (q,x),d)):
  lvl prog pr m (.func 213) [.pointer (some ⟨p,0,none⟩),.int .i64 i] H=some (.tuple #[x.dB,.bool true],H++[pkB x]):=by
 refine cX hn' (by omega) ?_
 rw[Wi];have h':=h.app [pkB pk0];have hc:=Wn hn h' (m:=m-1) (by omega) i _ d hi
 have hs:=h'.hs;have hq:=h'.hq i q x d hi;simp -implicitDefEqProofs [wD,hc,n73,hs,hq,hi,wE,D9,Ms]
theorem IsPool.ps (h:IsPool H p s l top free):p≠s:=by
 intro e;have h1:=h.hp;have h2:=h.hs;rw[e,h2] at h1;simp[mK,oG] at h1
theorem IsPool.Mp (h:IsPool H p s l top free):p<H.length:=(aMz.mp h.hp).1
theorem IsPool.sl (h:IsPool H p s l top free):s<H.length:=(aMz.mp h.hs).1
theorem IsPool.qs (h:IsPool H p s l top free){q:Nat}{x:Pkt}(hq:H[q]? =some (pkB x)):q≠p/\q≠s:=by
 constructor
 ·intro e
  have h1:=h.hp;rw[<-e,hq] at h1;simp[pkB,oG] at h1
 ·intro e
  have h1:=h.hs;rw[<-e,hq] at h1;simp[pkB,mK] at h1
theorem IsPool.Wm (h:IsPool H p s l top free)(l':List iX)(hl:l'.length=l.length)(top' free':Int)
  (hq: ∀(i q:Nat)(x:Pkt)(d:Int),l'[i]? =some (some (q,x),d)->H[q]? =some (pkB x)):IsPool ((H.set s (mK l')).set p (oG s l.length top' free')) p s l' top' free':=by
 have h1:=h.ps;have h2:=h.Mp;have h3:=h.sl;refine⟨?_,?_,?_⟩
 ·rw[hl,aMF (by simpa using h2)]
 ·rw[aMA (by omega),aMF (by omega)]
 ·intro i q x d hi
  have hb:=hq i q x d hi;obtain⟨h4,h5⟩:=h.qs hb;rw[aMA (by omega),aMA (by omega),hb]
theorem aJq (hn:pr (.func 254)=none)(hn':pr (.func 243)=none)(h:IsPool H p s l top free){m:Nat}(hm:1<m)(i:Nat)(q:Nat×Pkt)(d:Int)(hi:l[i]? =some (some q,d))(hf0:0<=free)(hf1:free<1000):
  lvl prog pr m (.func 243) [.pointer (some ⟨p,0,none⟩),.int .i64 i] H=some (.bool true,(H.set s (mK (l.set i (none,top)))).set p (oG s l.length i (free+1))):=by
 refine cX hn' (by omega) ?_
 rw[aJn];have hc:=Wn hn h (m:=m-1) (by omega) i q d hi
 have hp:=h.hp;have hs:=h.hs;have h1:=h.ps;have h2:=h.Mp;have h3:=h.sl;have hl:i<l.length:=(aMz.mp hi).1;have w:IntKind.i64.wrap (free+1)=free+1:=dJ (by omega) (by omega)
 have s0:=λH=>Wy (H:=H) (l:=l) s i none (some q,d) none hi rfl
 have s1:=λH=>Mt (H:=H) (l:=l.set i (none,d)) s i top (none,d) (by simp[hl])
 simp -implicitDefEqProofs (disch:=first|omega|(simp;omega)) only[hc,e73,hp,hs,s0,s1,w,cH,List.set_set,ob_some,iteV_false,iteV_true,r_opt,r_nil,r_fAddr,jO,Wp,Wq,B1,P5,aMU,Nat.add_zero,aMF,aMA,ne_eq,Ww,Wx,oneOf_one]
theorem aJB (hn:pr (.func 235)=none)(h:IsPool H p s l (-1) free){m:Nat}(hm:0<m)(x:Pkt):
  lvl prog pr m (.func 235) [.pointer (some ⟨p,0,none⟩),x.dB] H=some (.tuple #[.int .i64 0,.bool false],H++[pkB x]):=by
 refine cX hn (by omega) ?_
 rw[Wj];have hp:=(h.app [pkB x]).hp;have e:Blk.cells (Value.cells x.dB).toList 31 .fix=pkB x:=rfl;simp -implicitDefEqProofs [e,hp]
theorem aJC (hn:pr (.func 235)=none)(k:Nat)(h:IsPool H p s l k free){m:Nat}(hm:0<m)(x:Pkt)(q:Option (Nat×Pkt))(d:Int)(hk:l[k]? =some (q,d))(hf0: -10<=free)(hf1:free<1000):
  lvl prog pr m (.func 235) [.pointer (some ⟨p,0,none⟩),x.dB] H=
   some (.tuple #[.int .i64 k,.bool true],((H++[pkB x]).set s (mK (l.set k (some (H.length,x),d)))).set p (oG s l.length d (free-1))):=by
 refine cX hn (by omega) ?_
 rw[Wj];have h':=h.app [pkB x];have hp:=h'.hp;have hs:=h'.hs;have h1:=h'.ps;have h2:=h'.Mp;have h3:=h'.sl;have h4:p<H.length+1:=by simpa using h2
 have h5:s<H.length+1:=by simpa using h3
 have hl:k<l.length:=(aMz.mp hk).1;have w:IntKind.i64.wrap (free-1)=free-1:=dJ (by omega) (by omega)
 have e:Blk.cells (Value.cells x.dB).toList 31 .fix=pkB x:=rfl;have e2:((k:Int)== -1)=false:=by simp
 have e3:((l[k]?).map λx=>Value.int .i64 x.2)=some (.int .i64 d):=by rw[hk];rfl
 have s0:=λH'=>Wy (H:=H') (l:=l) s k (some ⟨H.length,0,none⟩) (q,d) (some (H.length,x)) hk rfl
 simp -implicitDefEqProofs (disch:=first|omega|(simp;omega)) only[e,e2,e3,hp,hs,s0,w,b_eql,gJ,x_newB,List.set_set,ob_some,iteV_false,iteV_true,r_opt,r_nil,r_fAddr,pL,jO,D6,Wp,Wq,aJw,vI,B1,P5,aMU,Nat.add_zero,aMF,aMA,ne_eq,Ww,Wx,oneOf_two,aM1]
def iY (n i:Nat):List iX:=(List.range n).map λj=>(none,if j<i then(j:Int)+1 else 0)
def kE (n:Nat):List iX:=(List.range n).map λj=>(none,if j+1<n then(j:Int)+1 else -1)
theorem yG (n i j:Nat)(h:j<n):(iY n i)[j]? =some (none,if j<i then(j:Int)+1 else 0):=by simp[iY,h]
theorem aJt (n i:Nat):(iY n i).set i (none,(i:Int)+1)=iY n (i+1):=by
 apply aNa;intro j;by_cases hj:j<n
 ·by_cases e:i=j
  ·subst e
   rw[aMF (by simpa[iY] using hj),yG _ _ _ hj,if_pos (by omega)]
  ·rw[aMA e,yG _ _ _ hj,yG _ _ _ hj]
   by_cases h:j<i
   ·rw[if_pos h,if_pos (by omega)]
   ·rw[if_neg h,if_neg (by omega)]
 ·rw[aMK (by simp[iY];omega),aMK (by simp[iY];omega)]
theorem aJs (n:Nat)(h:0<n):(iY n n).set (n-1) (none, -1)=kE n:=by
 apply aNa;intro j;by_cases hj:j<n
 ·have e2:(kE n)[j]? =some (none,if j+1<n then(j:Int)+1 else -1):=by simp[kE,hj]
  by_cases e:n-1=j
  ·subst e
   rw[aMF (by simpa[iY] using hj),e2,if_neg (by omega)]
  ·rw[aMA e,yG _ _ _ hj,e2,if_pos hj,if_pos (by omega)]
 ·rw[aMK (by simp[iY];omega),aMK (by simp[kE];omega)]
def lH (H:aA)(l:List iX):aA:=H++[mK l,oG H.length l.length 0 l.length]
theorem D5 (l:List iX):(lH H l)[H.length+1]? =some (oG H.length l.length 0 l.length):=by simp[lH]
theorem Mq (l:List iX):(lH H l)[H.length]? =some (mK l):=by simp[lH]
theorem Wo (l l':List iX)(h:l'.length=l.length):(lH H l).set H.length (mK l')=lH H l':=by simp[lH,h]
theorem aJz (n:Nat)(h200:n<=200)(h1:0<n)(O:aC)(L:aD (Value×aA)): ∀(r i m:Nat),n-i=r->i<=n->r<m-> ∀(x1 x2 x4 x5 x6 x7 x8 x9 bI cA aP aN aL aM aR aS aO bC bG bE aT aU aV aW aX aY aZ bA bB bK bL bM bN bO bP bQ bR bS bT:Value),
  aH m (aI prog O L Ml) (Mm O L) [.int .i64 n,x1,x2,.pointer (some ⟨H.length+1,0,none⟩),x4,x5,x6,x7,x8,x9,bI,cA,aP,aN,aL,aM,aR,aS,aO,bC,.int .i64 n,.int .i64 i,bG,bE,aT,aU,aV,aW,aX,aY,aZ,bA,bB,bK,bL,bM,bN,bO,bP,bQ,bR,bS,bT] (lH H (iY n i))=some (.pointer (some ⟨H.length+1,0,none⟩),lH H (kE n)):=by
 intro r;induction r with
 |zero=>
  intro i m hr hi hm x1 x2 x4 x5 x6 x7 x8 x9 bI cA aP aN aL aM aR aS aO bC bG bE aT aU aV aW aX aY aZ bA bB bK bL bM bN bO bP bQ bR bS bT;obtain⟨m,rfl⟩: ∃k,m=k+1:=⟨m-1,by omega⟩
  obtain rfl:i=n:=by omega
  rw[dS,Wh];have e:decide ((i:Int)<i)=false:=by simp
  have s1:=λH'=>Mt (H:=H') (l:=iY i i) H.length (i-1) (-1) (none,((i-1:Nat):Int)+1) (by rw[yG _ _ _ (by omega),if_pos (by omega)])
  have w:IntKind.i64.wrap ((i:Int)-1)=((i-1:Nat):Int):=by rw[dJ (by omega) (by omega)];omega
  have hl:(iY i i).length=i:=by simp[iY]
  simp -implicitDefEqProofs only[b_lss,e,r_opt,ob_some,iteV_false,again_exit];rw[aJk];simp -implicitDefEqProofs (disch:=first|omega|(simp[iY];omega)|simp[iY,kE]) only[r_opt,ob_some,r_nil,r_fAddr,jO,D5,D6,gJ,w,pL,aMU,Nat.add_zero,B1,Mq,s1,aM1,aJs,hl,Wo,oneOf_one]
 |succ r ih=>
  intro i m hr hi hm x1 x2 x4 x5 x6 x7 x8 x9 bI cA aP aN aL aM aR aS aO bC bG bE aT aU aV aW aX aY aZ bA bB bK bL bM bN bO bP bQ bR bS bT;obtain⟨m,rfl⟩: ∃k,m=k+1:=⟨m-1,by omega⟩
  rw[dS,Wh];have e:decide ((i:Int)<n)=true:=by simp;omega
  have s1:=λH'=>Mt (H:=H') (l:=iY n i) H.length i ((i:Int)+1) (none,0) (by rw[yG _ _ _ (by omega),if_neg (by omega)])
  have w:IntKind.i64.wrap ((i:Int)+1)=((i+1:Nat):Int):=by rw[dJ (by omega) (by omega)];omega
  have w':((i+1:Nat):Int)=(i:Int)+1:=by omega
  have hl:(iY n i).length=n:=by simp[iY]
  simp -implicitDefEqProofs (disch:=first|omega|(simp[iY];omega)|simp[iY]) only[b_lss,e,r_opt,ob_some,iteV_true,again_normal,r_nil,r_fAddr,jO,D5,D6,cH,w,pL,aMU,Nat.add_zero,B1,Mq,w',s1,aM1,aJt,hl,Wo,oneOf_one]
  rw[<-w'];exact ih (i+1) m (by omega) (by omega) (by omega) _ _ _ _ _ _ _ _ _ _ _ _ _ _ _ _ _ _ _ _ _ _ _ _ _ _ _ _ _ _ _ _ _ _ _ _ _ _ _
theorem D7 (n:Nat):(kE n).length=n:=by simp[kE]
theorem Mr (n j:Nat)(h:j<n):(kE n)[j]? =some (none,if j+1<n then(j:Int)+1 else -1):=by simp[kE,h]
theorem aJA (hn:pr (.func 171)=none)(n:Nat)(h1:0<n)(h200:n<=200){m:Nat}(hm:210<m):
  lvl prog pr m (.func 171) [.int .i64 n] H=some (.pointer (some ⟨H.length+1,0,none⟩),lH H (kE n)):=by
 refine cX hn (by omega) ?_
 rw[aJl];have e1:decide ((n:Int)<1)=false:=by simp;omega
 have e2:decide ((200:Int)<n)=false:=by simp;omega
 have e3:bld prog 327 [(0,.slice (some ⟨H.length,0,none⟩) n n),(2,.int .i64 n)]=some (.agg #[.slice (some ⟨H.length,0,none⟩) n n,.int .i64 0,.int .i64 n]):=by kernel_rfl
 have e4:H++[Blk.cells (List.replicate n [.pointer none,.int .i64 0]).flatten 330 .row]++[Blk.cells [.slice (some ⟨H.length,0,none⟩) n n,.int .i64 0,.int .i64 n] 327 .fix]=lH H (iY n 0):=by
  have:(iY n 0).map rC=List.replicate n [.pointer none,.int .i64 0]:=by
   apply aNa;intro j;by_cases hj:j<n
   ·simp[iY,hj,rC,wE]
   ·rw[aMK (by simp[iY];omega),aMK (by simp;omega)]
  have hl:(iY n 0).length=n:=by simp[iY]
  simp[lH,mK,this,oG,hl]
 have e5:(Value.agg #[Value.slice (some ⟨H.length,0,none⟩) n n,.int .i64 0,.int .i64 n]).cells.toList=[Value.slice (some ⟨H.length,0,none⟩) n n,.int .i64 0,.int .i64 n]:=rfl;have e6: ∀b c:Blk,(H++[b]++[c])[H.length+1]? =some c:=λb c=>by simp
 have hl:(iY n 0).length=n:=by simp[iY]
 have ms:=vJ (H:=H) 330 2 16 [.pointer none,.int .i64 0] .i64 .i64 n (by omega) (by omega) (by omega) rfl
 rw[aM1] at ms;simp -implicitDefEqProofs (disch:=first|omega|rfl) only[b_lss,b_gtr,e1,e2,r_opt,ob_some,r_gdff,r_ret,pick_f,iteV_false,ms,aM1,e3,e5,x_newB,aML,aMV,List.length_nil,aMU,r_nil,r_fAddr,jO,e4,D5,D6,hl,tT]
 exact aJz n h200 h1 _ _ n 0 (m-1) (by omega) (by omega) (by omega) ..
theorem aJx (n:Nat):IsPool (lH H (kE n)) (H.length+1) H.length (kE n) 0 n:=by
 refine⟨?_,Mq _,λi q x d hi=> ?_⟩
 ·rw[D5,D7]
 ·by_cases hl:i<n
  ·rw[Mr n i hl] at hi
   simp at hi
  ·rw[aMK (by simp[kE];omega)] at hi
   cases hi
structure More (p s:Nat)(H H':aA):Prop where
 len:H.length<=H'.length
 same: ∀b,b<H.length->b≠p->b≠s->H'[b]? =H[b]?
theorem aJG {pr:gO}{H:aA}{p s:Nat}{l:List iX}{top free:Int}(hn:pr (.func 254)=none)(hn':pr (.func 243)=none)(h:IsPool H p s l top free){m:Nat}(hm:1<m)(i:Nat)(q:Nat×Pkt)(d:Int)(hi:l[i]? =some (some q,d))(hf0:0<=free)(hf1:free<1000):
  ∃H',lvl prog pr m (.func 243) [.pointer (some ⟨p,0,none⟩),.int .i64 i] H=some (.bool true,H')/\IsPool H' p s (l.set i (none,top)) i (free+1)/\More p s H H':=by
 refine⟨_,aJq hn hn' h hm i q d hi hf0 hf1,?_,by simp,?_⟩
 ·refine h.Wm _ (by simp) _ _ λj q y d hj=> ?_
  by_cases ej:i=j
  ·subst ej
   have hl:i<l.length:=(aMz.mp hi).1;rw[aMF hl] at hj;simp at hj
  ·rw[aMA ej] at hj
   exact h.hq j q y d hj
 ·intro b hb h1 h2
  rw[aMA (by omega),aMA (by omega)]
theorem W4: ∀(n:Nat)(l:List Nat),l.Nodup->(∀x∈l,x<n)->l.length<=n
 |0,l,_,h=>by
  cases l with
  |nil=>exact aME _
  |cons a _=>exact absurd (h a (by simp)) (by omega)
 |n+1,l,hd,h=>by
  have:=W4 n (l.erase n) (hd.erase n) λx hx=>by
   rw[hd.mem_erase_iff] at hx;have:=h x hx.2;have:=hx.1;omega
  rw[List.length_erase] at this
  split at this<;>omega
def FreeL (l:List iX):Int->List Nat->Prop
 |top,[]=>top= -1
 |top,k::ks=>top=(k:Int)/\ ∃d,l[k]? =some (none,d)/\FreeL l d ks
theorem FreeL.Mu {l:List iX}{i:Nat}{x:iX}: ∀(fl:List Nat)(top:Int),FreeL l top fl->i∉fl->FreeL (l.set i x) top fl
 |[],_,h,_=>h
 |k::ks,top,⟨h1,d,h2,h3⟩,hi=>by
  simp only[aMS,not_or] at hi
  exact⟨h1,d,by rw[aMA hi.1];exact h2,FreeL.Mu ks d h3 hi.2⟩
structure Model (H:aA)(p s:Nat)(l:List iX)(top free:Int)(fl:List Nat):Prop where
 pool:IsPool H p s l top free
 chain:FreeL l top fl
 nodup:fl.Nodup
 full: ∀i,i∈fl↔ ∃d,l[i]? =some (none,d)
 cnt:free=fl.length
 len:l.length<=200
section
variable {pr : gO} {H : aA} {p s : Nat} {l : List iX} {top free : Int} {fl : List Nat}
theorem Model.Wz (h:Model H p s l top free fl):fl.length<=200:=by
 refine aMP (W4 l.length fl h.nodup λx hx=> ?_) h.len
 obtain⟨d,hd⟩:=(h.full x).mp hx
 exact(aMz.mp hd).1
theorem Model.app (h:Model H p s l top free fl)(G:aA):Model (H++G) p s l top free fl:=⟨h.pool.app G,h.chain,h.nodup,h.full,h.cnt,h.len⟩
theorem Model.aJD (hn:pr (.func 254)=none)(hn':pr (.func 243)=none)(h:Model H p s l top free fl){m:Nat}(hm:1<m)(i:Nat)(q:Nat×Pkt)(d:Int)(hi:l[i]? =some (some q,d)):
  ∃H',lvl prog pr m (.func 243) [.pointer (some ⟨p,0,none⟩),.int .i64 i] H=some (.bool true,H')/\Model H' p s (l.set i (none,top)) i (free+1) (i::fl)/\More p s H H':=by
 have hl:=h.Wz;have hc:=h.cnt;obtain⟨H',e,hp,hm'⟩:=aJG hn hn' h.pool hm i q d hi (by omega) (by omega)
 have hlt:i<l.length:=(aMz.mp hi).1;have hni:i∉fl:=λhh=>by
  obtain⟨d',hd⟩:=(h.full i).mp hh;rw[hi] at hd;simp at hd
 refine⟨H',e,⟨hp,⟨rfl,top,aMF hlt,h.chain.Mu _ _ hni⟩,List.nodup_cons.mpr ⟨hni,h.nodup⟩,λj=> ?_,by rw[hc];simp,by simpa using h.len⟩,hm'⟩
 by_cases ej:i=j
 ·subst ej
  rw[aMF hlt];simp
 ·rw[aMA ej,aMS,<-h.full j]
  constructor
  ·rintro (h1|h1)
   ·exact absurd h1.symm ej
   ·exact h1
  ·exact .inr
theorem Model.aJE (hn:pr (.func 235)=none){k:Nat}{ks:List Nat}(h:Model H p s l top free (k::ks)){m:Nat}(hm:0<m)(x:Pkt):
  ∃H' q d,lvl prog pr m (.func 235) [.pointer (some ⟨p,0,none⟩),x.dB] H=some (.tuple #[.int .i64 k,.bool true],H')/\Model H' p s (l.set k (some (q,x),d)) d (free-1) ks/\k<l.length/\
   H.length<=H'.length/\ ∀b,b<H.length->b≠p->b≠s->H'[b]? =H[b]? :=by
 obtain⟨ht,d,hk,hc⟩:=h.chain;have hp:=h.pool;have hcnt:=h.cnt;have hfl:=h.Wz;simp only[aMV] at hcnt hfl;rw[ht] at hp;have hlt:k<l.length:=(aMz.mp hk).1;have hnd:=List.nodup_cons.mp h.nodup;have e:=aJC hn k hp hm x none d hk (by omega) (by omega)
 refine⟨_,H.length,d,e,⟨?_,hc.Mu _ _ hnd.1,hnd.2,λj=> ?_,by omega,by simpa using h.len⟩,hlt,by simp,?_⟩
 ·have h':=hp.app [pkB x]
  refine h'.Wm _ (by simp) _ _ λj q y d' hj=> ?_
  by_cases ej:k=j
  ·subst ej
   rw[aMF hlt] at hj;simp only[aM0,Prod.mk.injEq] at hj;obtain⟨⟨rfl,rfl⟩,_⟩:=hj;simp
  ·rw[aMA ej] at hj
   exact h'.hq j q y d' hj
 ·by_cases ej:k=j
  ·subst ej
   rw[aMF hlt];simp[hnd.1]
  ·rw[aMA ej,<-h.full j,aMS]
   constructor
   ·exact .inr
   ·rintro (h1|h1)
    ·exact absurd h1.symm ej
    ·exact h1
 ·intro b hb h1 h2
  rw[aMA (by omega),aMA (by omega),aMC hb]
theorem Model.aJF (hn:pr (.func 235)=none)(h:Model H p s l top free []){m:Nat}(hm:0<m)(x:Pkt):
  lvl prog pr m (.func 235) [.pointer (some ⟨p,0,none⟩),x.dB] H=some (.tuple #[.int .i64 0,.bool false],H++[pkB x]):=by
 have ht:top= -1:=h.chain;have hp:=h.pool;rw[ht] at hp;exact aJB hn hp hm x
end
theorem W0 (n:Nat): ∀(r k:Nat),k+r=n->FreeL (kE n) (if k<n then(k:Int) else -1) (List.range' k r)
 |0,k,h=>by
  rw[if_neg (by omega)]
  rfl
 |r+1,k,h=>by
  rw[if_pos (by omega),List.range'_succ]
  refine⟨rfl,_,Mr n k (by omega),?_⟩
  exact W0 n r (k+1) (by omega)
theorem aJH {H:aA}(n:Nat)(h0:0<n)(hn:n<=200):Model (lH H (kE n)) (H.length+1) H.length (kE n) 0 n (List.range n):=by
 refine⟨aJx n,?_,List.nodup_range,λi=> ?_,by simp,by rw[D7];exact hn⟩
 ·have:=W0 n n 0 (by omega)
  rw[<-List.range_eq_range'] at this;rw[if_pos h0] at this;exact this
 ·rw[aNd]
  constructor
  ·intro h
   exact⟨_,Mr n i h⟩
  ·rintro ⟨d,hd⟩
   have:=(aMz.mp hd).1;rw[D7] at this;exact this
end Go.Proofs.YtmimdleeihjdoaaGreatDoor.Rg
namespace Go.Abs
section
variable {κ : Type} [DecidableEq κ]
theorem W7 {α β:Type}(g:α->β): ∀(l:List α)(i:Nat),(l.map g).eraseIdx i=(l.eraseIdx i).map g
 |[],_=>rfl
 |a::l,0=>rfl
 |a::l,i+1=>by simp[W7 g l i]
structure KeyC (kt:KeyT)(enc:κ->Value):Prop where
 eq: ∀a b:κ,j7 kt (enc a) (enc b)=some (decide (a=b))
def lI (enc:κ->Value)(e:κ×Value×Nat):Ent:=⟨enc e.1,e.2.1,e.2.2⟩
def upd (f:κ->Option Value)(k:κ)(v:Option Value):κ->Option Value:=λk'=>if k'=k then v else f k'
structure MapI (enc:κ->Value)(es:List (κ×Value×Nat))(clock:Nat)(f:κ->Option Value):Prop where
 keys:(es.map (·.1)).Nodup
 born:(es.map (·.2.2)).Nodup
 lt: ∀e∈es,e.2.2<clock
 no: ∀k,f k=none↔ ∀e∈es,e.1≠k
 yes: ∀(e:κ×Value×Nat),e∈es->f e.1=some e.2.1
def IsMap (enc:κ->Value)(H:aA)(mb:Nat)(f:κ->Option Value):Prop:= ∃es clock,H[mb]? =some (.map (es.map (lI enc)) clock)/\MapI enc es clock f
variable {kt : KeyT} {enc : κ → Value} {H : aA} {mb : Nat} {f : κ → Option Value}
theorem MapI.Ea {es:List (κ×Value×Nat)}{clock:Nat}(h:MapI enc es clock f){k:κ}{v:Value}(hf:f k=some v): ∃(i:Nat)(b:Nat),es[i]? =some (k,v,b):=by
 by_cases hx: ∀e∈es,e.1≠k
 ·rw[(h.no k).mpr hx] at hf
  cases hf
 ·simp only[Classical.not_forall] at hx
  obtain⟨e,he,hk⟩:=hx;have hk:e.1=k:=Classical.not_not.mp hk;have:=h.yes e he;rw[hk,hf] at this;cases this;obtain⟨i,hi⟩:=List.getElem?_of_mem he
  exact⟨i,e.2.2,by rw[hi,<-hk]⟩
theorem Mx (hk:KeyC kt enc)(k:κ): ∀(es:List (κ×Value×Nat))(j:Nat),(∀e∈es,e.1≠k)->lS kt (enc k) (es.map (lI enc)) j=some none
 |[],j,_=>rfl
 |e::es,j,h=>by
  have h1:j7 kt (enc k) (lI enc e).key=some false:=by
   show j7 kt (enc k) (enc e.1)=some false
   rw[hk.eq,decide_eq_false (λhh=>h e (by simp) hh.symm)]
  simp only[aM4,lS,h1];exact Mx hk k es (j+1) λe' he'=>h e' (by simp[he'])
theorem Am (hk:KeyC kt enc): ∀(es:List (κ×Value×Nat))(i j:Nat)(e:κ×Value×Nat),(es.map (·.1)).Nodup->es[i]? =some e->lS kt (enc e.1) (es.map (lI enc)) j=some (some (j+i,lI enc e))
 |[],i,j,e,_,h=>by simp at h
 |x::es,i,j,e,hn,h=>by
  simp only[aM4,List.nodup_cons] at hn;cases i with
  |zero=>
   simp only[List.getElem?_cons_zero,aM0] at h;subst h;have h1:j7 kt (enc x.1) (lI enc x).key=some true:=by
    show j7 kt (enc x.1) (enc x.1)=some true
    rw[hk.eq,decide_eq_true rfl]
   simp only[aM4,lS,h1,Nat.add_zero]
  |succ i=>
   simp only[List.getElem?_cons_succ] at h;have hne:e.1≠x.1:=λhh=>hn.1 (by rw[<-hh];exact List.mem_map_of_mem (aMJ h))
   have h1:j7 kt (enc e.1) (lI enc x).key=some false:=by
    show j7 kt (enc e.1) (enc x.1)=some false
    rw[hk.eq,decide_eq_false hne]
   simp only[aM4,lS,h1];rw[Am hk es i (j+1) e hn.2 h]
   congr 3
   omega
theorem An (hk:KeyC kt enc)(k:κ):j7 kt (enc k) (enc k)=some true:=by rw[hk.eq,decide_eq_true rfl]
theorem IsMap.W5 {H':aA}(h:IsMap enc H mb f)(hk:H'[mb]? =H[mb]?):IsMap enc H' mb f:=by
 obtain⟨es,c,h1,h2⟩:=h
 exact⟨es,c,by rw[hk,h1],h2⟩
theorem IsMap.Al (hk:KeyC kt enc)(h:IsMap enc H mb f)(k:κ)(z:Value):mM kt z false (.map (some mb)) (enc k) H=some ((f k).getD z,H):=by
 obtain⟨es,c,h1,h2⟩:=h;unfold mM;rw[if_pos (An hk k)];simp only;rw[h1];simp only;cases hf:f k with
 |none=>
  rw[Mx hk k es 0 ((h2.no k).mp hf)];rfl
 |some v=>
  obtain⟨i,b,hi⟩:=h2.Ea hf;rw[Am hk es i 0 _ h2.keys hi];rfl
theorem MapI.Mw {es:List (κ×Value×Nat)}{clock:Nat}(h:MapI enc es clock f){k:κ}{v0 v:Value}{i b:Nat}(hi:es[i]? =some (k,v0,b)):MapI enc (es.set i (k,v,b)) clock (upd f k (some v)):=by
 have hlt:=(aMz.mp hi).1;have hmap1:(es.set i (k,v,b)).map (·.1)=es.map (·.1):=by
  rw[List.map_set];apply aNa;intro j;by_cases hj:i=j
  ·subst hj
   rw[aMF (by simpa using hlt),aMM,hi]
   rfl
  ·rw[aMA hj]
 have hmap2:(es.set i (k,v,b)).map (·.2.2)=es.map (·.2.2):=by
  rw[List.map_set];apply aNa;intro j;by_cases hj:i=j
  ·subst hj
   rw[aMF (by simpa using hlt),aMM,hi]
   rfl
  ·rw[aMA hj]
 refine⟨by rw[hmap1];exact h.keys,by rw[hmap2];exact h.born,λe he=> ?_,λk'=> ?_,λe he=> ?_⟩
 ·rcases List.mem_or_eq_of_mem_set he with he|rfl
  ·exact h.lt e he
  ·have:=h.lt _ (aMJ hi)
   exact this
 ·unfold upd
  by_cases hk:k'=k
  ·rw[if_pos hk]
   constructor
   ·intro hh;cases hh
   ·intro hh
    exact absurd hk.symm (hh (k,v,b) (aMJ (aMF hlt)))
  ·rw[if_neg hk,h.no k']
   have key: ∀e,e∈es.map (·.1)↔e∈(es.set i (k,v,b)).map (·.1):=λe=>by rw[hmap1]
   constructor
   ·intro hh e he hek
    have:=(key e.1).mpr (List.mem_map_of_mem he);obtain⟨e',he',hee⟩:=aNc.mp this;exact hh e' he' (by rw[hee,hek])
   ·intro hh e he hek
    have:=(key e.1).mp (List.mem_map_of_mem he);obtain⟨e',he',hee⟩:=aNc.mp this;exact hh e' he' (by rw[hee,hek])
 ·unfold upd
  obtain⟨j,hj⟩:=List.getElem?_of_mem he;by_cases hij:i=j
  ·subst hij
   rw[aMF hlt] at hj;cases hj;rw[if_pos rfl]
  ·rw[aMA hij] at hj
   have hne:e.1≠k:=λhh=>by
    have h1:(es.map (·.1))[i]? =some k:=by rw[aMM,hi];rfl
    have h2:(es.map (·.1))[j]? =some k:=by rw[aMM,hj,<-hh];rfl
    have l1:=(aMz.mp h1);have l2:=(aMz.mp h2);exact hij ((List.getElem_inj h.keys).mp (l1.2.trans l2.2.symm))
   rw[if_neg hne];exact h.yes e (aMJ hj)
theorem MapI.aJN {es:List (κ×Value×Nat)}{clock:Nat}(h:MapI enc es clock f){k:κ}(v:Value)(hf:f k=none):MapI enc (es++[(k,v,clock)]) (clock+1) (upd f k (some v)):=by
 have hno:=(h.no k).mp hf;refine⟨?_,?_,λe he=> ?_,λk'=> ?_,λe he=> ?_⟩
 ·rw[List.map_append,List.nodup_append]
  refine⟨h.keys,by simp,λa ha b hb hab=> ?_⟩
  obtain⟨e,he,rfl⟩:=aNc.mp ha;simp at hb;exact hno e he (hab.trans hb)
 ·rw[List.map_append,List.nodup_append]
  refine⟨h.born,by simp,λa ha b hb hab=> ?_⟩
  obtain⟨e,he,rfl⟩:=aNc.mp ha;have:=h.lt e he;simp at hb;omega
 ·rcases List.mem_append.mp he with he|he
  ·have:=h.lt e he
   omega
  ·rw[List.mem_singleton] at he
   subst he;simp
 ·unfold upd
  by_cases hk:k'=k
  ·rw[if_pos hk]
   constructor
   ·intro hh;cases hh
   ·intro hh
    exact absurd hk.symm (hh (k,v,clock) (by simp))
  ·rw[if_neg hk,h.no k']
   constructor
   ·intro hh e he hek
    rcases List.mem_append.mp he with he|he
    ·exact hh e he hek
    ·rw[List.mem_singleton] at he
     subst he;exact hk hek.symm
   ·intro hh e he
    exact hh e (by simp[he])
 ·unfold upd
  rcases List.mem_append.mp he with he|he
  ·rw[if_neg (hno e he)]
   exact h.yes e he
  ·rw[List.mem_singleton] at he
   subst he;rw[if_pos rfl]
theorem MapI.aJM {es:List (κ×Value×Nat)}{clock:Nat}(h:MapI enc es clock f){k:κ}{v0:Value}{i b:Nat}(hi:es[i]? =some (k,v0,b)):MapI enc (es.eraseIdx i) clock (upd f k none):=by
 have hsub:=List.eraseIdx_sublist es i;have hlt:=(aMz.mp hi).1;have hin: ∀e,e∈es.eraseIdx i↔e∈es/\e.1≠k:=by
  intro e;constructor
  ·intro he
   refine⟨hsub.subset he,λhek=> ?_⟩
   obtain⟨j,hj⟩:=List.getElem?_of_mem he;rw[List.getElem?_eraseIdx] at hj;obtain⟨j',hj',hne⟩: ∃j':Nat,es[j']? =some e/\j'≠i:=by
    by_cases hji:j<i
    ·rw[if_pos hji] at hj
     exact⟨j,hj,by omega⟩
    ·rw[if_neg hji] at hj
     exact⟨j+1,hj,by omega⟩
   have h1:(es.map (·.1))[i]? =some k:=by rw[aMM,hi];rfl
   have h2:(es.map (·.1))[j']? =some k:=by rw[aMM,hj',<-hek];rfl
   have l1:=(aMz.mp h1);have l2:=(aMz.mp h2);exact hne ((List.getElem_inj h.keys).mp (l2.2.trans l1.2.symm))
  ·rintro ⟨he,hek⟩
   obtain⟨j,hj⟩:=List.getElem?_of_mem he;have hne:j≠i:=by
    rintro rfl
    rw[hi] at hj;cases hj;exact hek rfl
   by_cases hji:j<i
   ·exact aMJ (i:=j) (by rw[List.getElem?_eraseIdx,if_pos hji,hj])
   ·refine aMJ (i:=j-1) ?_
    rw[List.getElem?_eraseIdx,if_neg (by omega),show j-1+1=j by omega,hj]
 refine⟨(hsub.map _).nodup h.keys,(hsub.map _).nodup h.born,λe he=>h.lt e ((hin e).mp he).1,λk'=> ?_,λe he=> ?_⟩
 ·unfold upd
  by_cases hk:k'=k
  ·rw[if_pos hk]
   exact⟨λ_ e he hek=>((hin e).mp he).2 (hek.trans hk),λ_=>rfl⟩
  ·rw[if_neg hk,h.no k']
   constructor
   ·intro hh e he
    exact hh e ((hin e).mp he).1
   ·intro hh e he hek
    exact hh e ((hin e).mpr ⟨he,by rw[hek];exact hk⟩) hek
 ·unfold upd
  rw[if_neg ((hin e).mp he).2];exact h.yes e ((hin e).mp he).1
theorem Eb (es:List (κ×Value×Nat))(i:Nat)(e:κ×Value×Nat):(es.map (lI enc)).set i (lI enc e)=(es.set i e).map (lI enc):=by rw[List.map_set]
theorem IsMap.aJL (hk:KeyC kt enc)(h:IsMap enc H mb f)(k:κ)(v:Value)(hf:f k≠none): ∃X,rK kt (.map (some mb)) (enc k) v H=some (undef,H.set mb X)/\IsMap enc (H.set mb X) mb (upd f k (some v))/\ ∃es c,X= .map es c:=by
 obtain⟨es,c,h1,h2⟩:=h;obtain⟨v0,hv0⟩:=Option.ne_none_iff_exists'.mp hf;obtain⟨i,b,hi⟩:=h2.Ea hv0;have hlt:=(aMz.mp h1).1;refine⟨.map ((es.set i (k,v,b)).map (lI enc)) c,?_,⟨_,c,by rw[aMF hlt],h2.Mw hi⟩,_,_,rfl⟩
 unfold rK;rw[if_pos (An hk k)];simp only;rw[h1];simp only;have:=Am hk es i 0 _ h2.keys hi;simp only at this;rw[this];simp only[aMU];rw[<-Eb];rfl
theorem IsMap.aJI (hk:KeyC kt enc)(h:IsMap enc H mb f)(k:κ)(hf:f k≠none): ∃X,rJ kt (.map (some mb)) (enc k) H=some (.tuple #[],H.set mb X)/\IsMap enc (H.set mb X) mb (upd f k none)/\ ∃es c,X= .map es c:=by
 obtain⟨es,c,h1,h2⟩:=h;obtain⟨v0,hv0⟩:=Option.ne_none_iff_exists'.mp hf;obtain⟨i,b,hi⟩:=h2.Ea hv0;have hlt:=(aMz.mp h1).1;refine⟨.map ((es.eraseIdx i).map (lI enc)) c,?_,⟨_,c,by rw[aMF hlt],h2.aJM hi⟩,_,_,rfl⟩
 unfold rJ;rw[if_pos (An hk k)];simp only;rw[h1];simp only;have:=Am hk es i 0 _ h2.keys hi;simp only at this;rw[this];simp only[aMU];rw[W7]
theorem W6 (es:List (κ×Value×Nat))(hn:(es.map (·.2.2)).Nodup){i:Nat}{e:κ×Value×Nat}(hi:es[i]? =some e):(es.map (lI enc)).findIdx? (λx=>(x.born:Int)==(e.2.2:Int))=some i:=by
 have hlt:=(aMz.mp hi).1;have he:=(aMz.mp hi).2;rw[List.findIdx?_eq_some_iff_getElem];refine⟨by simpa using hlt,?_,λj hji=> ?_⟩
 ·simp[lI,he]
 ·have hne:es[j].2.2≠e.2.2:=λhh=>by
   have h1:(es.map (·.2.2))[i]'(by simpa using hlt)=e.2.2:=by simp[he]
   have h2:(es.map (·.2.2))[j]'(by simp;omega)=e.2.2:=by simp[hh]
   have:=(List.getElem_inj hn).mp (h1.trans h2.symm);omega
  simp[lI];omega
theorem IsMap.aJJ (hk:KeyC kt enc)(h:IsMap enc H mb f)(k:κ)(z:Value): ∃(b:Nat)(X:Blk),qU kt z (.map (some mb)) (enc k) H=some (.tuple #[(f k).getD z,.int .i64 b],H.set mb X)/\(∃es c,X= .map es c)/\
  ∀(H2:aA)(v:Value),H2[mb]? =some X-> ∃X',qS (.map (some mb)) (.int .i64 b) v H2=some (undef,H2.set mb X')/\IsMap enc (H2.set mb X') mb (upd f k (some v))/\ ∃es c,X'= .map es c:=by
 obtain⟨es,c,h1,h2⟩:=h;cases hf:f k with
 |none=>
  refine⟨c,.map ((es++[(k,z,c)]).map (lI enc)) (c+1),?_,⟨_,_,rfl⟩,λH2 v hX=> ?_⟩
  ·unfold qU
   rw[if_pos (An hk k)];simp only;rw[h1];simp only;rw[Mx hk k es 0 ((h2.no k).mp hf)];simp[lI]
  ·have hp:=h2.aJN z hf
   have hi:(es++[(k,z,c)])[es.length]? =some (k,z,c):=by simp
   have hlt:=(aMz.mp hX).1;have hs:=hp.Mw (v:=v) hi;have hup:upd (upd f k (some z)) k (some v)=upd f k (some v):=by
    funext k'
    unfold upd
    split<;>rfl
   rw[hup] at hs;refine⟨.map (((es++[(k,z,c)]).set es.length (k,v,c)).map (lI enc)) (c+1),?_,⟨_,_,by rw[aMF hlt],hs⟩,_,_,rfl⟩
   unfold qS;simp only;rw[hX];simp only;have:=W6 (enc:=enc) (es++[(k,z,c)]) hp.born hi;simp only at this;rw[this];simp only;rw[aMM,hi];simp only[Option.map_some];rw[<-Eb];rfl
 |some v0=>
  obtain⟨i,b,hi⟩:=h2.Ea hf;have hset:es.set i (k,v0,b)=es:=by
   apply aNa;intro j;by_cases hj:i=j
   ·subst hj
    rw[aMF (aMz.mp hi).1,hi]
   ·rw[aMA hj]
  refine⟨b,.map (es.map (lI enc)) c,?_,⟨_,_,rfl⟩,λH2 v hX=> ?_⟩
  ·unfold qU
   rw[if_pos (An hk k)];simp only;rw[h1];simp only;have:=Am hk es i 0 _ h2.keys hi;simp only at this;rw[this];simp only[aMU];have e1:(⟨enc k,(lI enc (k,v0,b)).val,(lI enc (k,v0,b)).born⟩:Ent)=lI enc (k,v0,b):=rfl;rw[e1,Eb,hset];rfl
  ·have hlt:=(aMz.mp hX).1
   refine⟨.map ((es.set i (k,v,b)).map (lI enc)) c,?_,⟨_,c,by rw[aMF hlt],h2.Mw hi⟩,_,_,rfl⟩
   unfold qS;simp only;rw[hX];simp only;have:=W6 (enc:=enc) es h2.born hi;simp only at this;rw[this];simp only;rw[aMM,hi];simp only[Option.map_some];rw[<-Eb];rfl
theorem IsMap.aJK (H:aA):IsMap enc (H++[.map [] 0]) H.length (λ_=>none):=
 ⟨[],0,by simp,⟨by simp,by simp,by simp,λk=>by simp,λe he=>by simp at he⟩⟩
end
end Go.Abs
namespace Go.Proofs.YtmimdleeihjdoaaGreatDoor.Rg
open Go.Proofs.Tryz
open Go.Abs
abbrev jY:=Int×Int×Int
def mL (w:jY):Value:= .agg #[.int .i64 w.1,.int .i64 w.2.1,.int .i64 w.2.2]
abbrev kW:KeyT:= .str [true,true,true]
theorem uO:KeyC kW mL:=⟨λa b=>by
 obtain⟨a1,a2,a3⟩:=a;obtain⟨b1,b2,b3⟩:=b;have h:((a1,a2,a3)=(b1,b2,b3))=(a1=b1/\a2=b2/\a3=b3):=by simp
 simp[j7,mL,eqT];by_cases h1:a1=b1<;>by_cases h2:a2=b2<;>by_cases h3:a3=b3<;>simp[h1,h2,h3]⟩
theorem bW (a b c:Int):bld prog 307 [(0,.int .i64 a),(1,.int .i64 b),(2,.int .i64 c)]=some (mL (a,b,c)):=rfl
theorem szI:prog.cellsOf 3=1:=by kernel_rfl
def AR (x:Blk):Prop:=match x with
 | .map _ _=>True
 | .dead=>True
 | .cells _ e k=>(e=327/\k= .fix)∨(e=330/\k= .row)∨(e=3/\k= .row)
def AS (x:Blk):Prop:=AR x∨match x with
 | .cells _ e k=>(e=31/\k= .fix)∨(e=274/\k= .fix)
 |_=>False
abbrev En:=jY×Nat×Pkt
def qOf (L:List En)(w:jY):List Nat:=(L.filter λe=>decide (e.1=w)).map (·.2.1)
def nH (L:List En)(w:jY):List Pkt:=(L.filter λe=>decide (e.1=w)).map (·.2.2)
def lY (k:Nat):Value:= .int .i64 k
theorem M1 (L:List En)(w:jY):(qOf L w).length=(nH L w).length:=by simp[qOf,nH]
structure RI (H:aA)(a:Nat)(L:List En)(n ports lanes:Nat)(p s mb:Nat)(l:List iX)(top free:Int)(fl:List Nat)(f:jY->Option Value):Prop where
 hd:H[a]? =some (.cells [.pointer (some ⟨p,0,none⟩),.map (some mb),.int .i64 ports,.int .i64 lanes] 274 .fix)
 pool:Model H p s l top free fl
 len:l.length=n
 cnt:L.length+fl.length=n
 nd:(L.map (·.2.1)).Nodup
 full: ∀e∈L,∃q d,l[e.2.1]? =some (some (q,e.2.2),d)
 mp:IsMap mL H mb f
 no: ∀w,f w=none->qOf L w=[]
 yes: ∀w v,f w=some v->RowO 3 H v ((qOf L w).map lY)/\qOf L w≠[]
 sep: ∀w w' v v' b,f w=some v->f w'=some v'->w≠w'->cG v b-> ¬cG v' b
 b1:1<=n/\n<=200
 b2:ports<=16/\lanes<=3
def IsRings (H:aA)(a:Nat)(L:List En)(n ports lanes:Nat):Prop:= ∃p s mb l top free fl f,RI H a L n ports lanes p s mb l top free fl f
section
variable {H H' : aA} {a n ports lanes p s mb : Nat} {L : List En} {l : List iX} {top free : Int} {fl : List Nat} {f : jY → Option Value}
theorem RI.Ec (h:RI H a L n ports lanes p s mb l top free fl f)(hk: ∀(b:Nat)(x:Blk),H[b]? =some x->AS x->H'[b]? =some x):RI H' a L n ports lanes p s mb l top free fl f:=by
 refine⟨hk _ _ h.hd (.inr (.inr ⟨rfl,rfl⟩)),⟨⟨hk _ _ h.pool.pool.hp (.inl (.inl ⟨rfl,rfl⟩)),hk _ _ h.pool.pool.hs (.inl (.inr (.inl ⟨rfl,rfl⟩))),λi q x d hi=>hk _ _ (h.pool.pool.hq i q x d hi) (.inr (.inl ⟨rfl,rfl⟩))⟩,h.pool.chain,h.pool.nodup,h.pool.full,h.pool.cnt,h.pool.len⟩,
  h.len,h.cnt,h.nd,h.full,?_,h.no,λw v hv=>⟨?_,(h.yes w v hv).2⟩,h.sep,h.b1,h.b2⟩
 ·obtain⟨es,c,h1,h2⟩:=h.mp
  exact⟨es,c,hk _ _ h1 (.inl trivial),h2⟩
 ·refine(h.yes w v hv).1.rY λb hb=> ?_
  obtain⟨xs,hx⟩:=(h.yes w v hv).1.blk hb;rw[hx];exact hk _ _ hx (.inl (.inr (.inr ⟨rfl,rfl⟩)))
theorem RI.app (h:RI H a L n ports lanes p s mb l top free fl f)(G:aA):RI (H++G) a L n ports lanes p s mb l top free fl f:=h.Ec λb x hx _=>(Ch.app (λ_=>False) H G).2 b x hx id
theorem IsRings.app (h:IsRings H a L n ports lanes)(G:aA):IsRings (H++G) a L n ports lanes:=by
 obtain⟨p,s,mb,l,top,free,fl,f,hi⟩:=h
 exact⟨p,s,mb,l,top,free,fl,f,hi.app G⟩
theorem RI.ld0 (h:RI H a L n ports lanes p s mb l top free fl f):ld1 (.pointer (some ⟨a,0,none⟩)) H=some (.pointer (some ⟨p,0,none⟩),H):=by rw[jO,h.hd];rfl
theorem RI.ld1 (h:RI H a L n ports lanes p s mb l top free fl f):ld1 (.pointer (some ⟨a,1,none⟩)) H=some (.map (some mb),H):=by rw[jO,h.hd];rfl
theorem RI.ld2 (h:RI H a L n ports lanes p s mb l top free fl f):Go.Abs.ld1 (.pointer (some ⟨a,2,none⟩)) H=some (.int .i64 ports,H):=by rw[jO,h.hd];rfl
theorem RI.ld3 (h:RI H a L n ports lanes p s mb l top free fl f):Go.Abs.ld1 (.pointer (some ⟨a,3,none⟩)) H=some (.int .i64 lanes,H):=by rw[jO,h.hd];rfl
end
theorem M0 (L:List En)(e:En)(w:jY):qOf (e::L) w=if e.1=w then e.2.1::qOf L w else qOf L w:=by
 unfold qOf;by_cases h:e.1=w<;>simp[h]
theorem W8 (L:List En)(e:En)(w:jY):nH (e::L) w=if e.1=w then e.2.2::nH L w else nH L w:=by
 unfold nH;by_cases h:e.1=w<;>simp[h]
theorem Mz (L:List En)(e:En)(w:jY):qOf (L++[e]) w=if e.1=w then qOf L w++[e.2.1] else qOf L w:=by
 unfold qOf;by_cases h:e.1=w<;>simp[List.filter_append,h]
def mT (L:List En)(w:jY):List En:=L.eraseP λe=>decide (e.1=w)
theorem Ao (w w':jY): ∀L:List En,qOf (mT L w) w'=if w=w' then(qOf L w').tail else qOf L w'
 |[]=>by simp[mT,qOf]
 |e::L=>by
  have ih:=Ao w w' L;unfold mT at ih⊢;by_cases h:e.1=w
  ·simp only[List.eraseP_cons,h,decide_true,cond_true,M0]
   by_cases hw:w=w'
   ·simp[hw]
   ·simp[hw]
  ·simp only[List.eraseP_cons,h,decide_false,cond_false,M0,ih]
   by_cases hw:w=w'
   ·subst hw
    simp[h]
   ·simp[hw]
theorem My {w:jY}: ∀{L:List En}{k:Nat}{ks:List Nat},qOf L w=k::ks-> ∃x xs,nH L w=x::xs/\(w,k,x)∈L/\L.length=(mT L w).length+1/\ ∀e,e∈mT L w->e∈L/\((L.map (·.2.1)).Nodup->e.2.1≠k)
 |[],k,ks,h=>by simp[qOf] at h
 |e::L,k,ks,h=>by
  obtain⟨we,ke,xe⟩:=e;rw[M0] at h;by_cases hw:we=w
  ·subst hw
   simp only[if_pos] at h;cases h;refine⟨xe,nH L we,by rw[W8];simp,by simp,by simp[mT],λe he=> ?_⟩
   have he':e∈L:=by simpa[mT] using he
   refine⟨by simp[he'],λhn=> ?_⟩
   simp only[aM4,List.nodup_cons] at hn;intro hh;exact hn.1 (by rw[<-hh];exact List.mem_map_of_mem he')
  ·simp only[hw,if_false] at h
   obtain⟨x,xs,h1,h2,h3,h4⟩:=My h;refine⟨x,xs,by rw[W8];simp[hw,h1],by simp[h2],by simp[mT,hw] at h3 ⊢; omega,λe he=> ?_⟩
   have he':e=(we,ke,xe)∨e∈mT L w:=by
    simp only[mT,List.eraseP_cons,hw,decide_false,cond_false] at he;simpa[mT] using he
   rcases he' with rfl|he'
   ·refine⟨by simp,λhn=> ?_⟩
    simp only[aM4,List.nodup_cons] at hn;intro hh;exact hn.1 (by rw[show ke=k from hh];exact List.mem_map_of_mem h2)
   ·obtain⟨g1,g2⟩:=h4 e he'
    refine⟨by simp[g1],λhn=> ?_⟩
    simp only[aM4,List.nodup_cons] at hn;exact g2 hn.2
abbrev pk8:gO:=pkN
theorem bRg (p mb:Nat)(a b:Int):bld prog 274 [(0,.pointer (some ⟨p,0,none⟩)),(1,.map (some mb)),(2,.int .i64 a),(3,.int .i64 b)]=some (.agg #[.pointer (some ⟨p,0,none⟩),.map (some mb),.int .i64 a,.int .i64 b]):=rfl
theorem aJP (H:aA):pE H=some (.map (some H.length),H++[.map [] 0]):=rfl
theorem aJO (H:aA)(k:Int):dL 3 1 1 [.int .i64 0] [(0,.int .i64 k)] H=some (.slice (some ⟨H.length,0,none⟩) 1 1,H++[.cells [.int .i64 k] 3 .row]):=rfl
theorem M3 (a b c:Int):lJ prog false [.int .i64 a,.int .i64 b,.int .i64 c]=some (.int .i64 (min (min a b) c)):=by
 simp[lJ,dP,gN,pur,Builtin.min_,Builtin.min2,pure,bind,Sem.bind]
 split<;>split<;>omega
theorem M2 (a b:Int):lJ prog true [.int .i64 a,.int .i64 b]=some (.int .i64 (max a b)):=by
 simp[lJ,dP,gN,pur,Builtin.max_,Builtin.max2,pure,bind,Sem.bind]
 split<;>omega
def qM (w:jY)(ports lanes:Nat):Bool:=decide (0<=min (min w.1 w.2.1) w.2.2)&&decide (max w.1 w.2.1<(ports:Int))&&decide (w.2.2<(lanes:Int))
theorem Model.W9 {H H':aA}{p s:Nat}{l:List iX}{top free:Int}{fl:List Nat}(h:Model H p s l top free fl)
  (hk: ∀(b:Nat)(cs:List Value)(e:TypeId)(k:Kind),H[b]? =some (.cells cs e k)->(e=327/\k= .fix)∨(e=330/\k= .row)∨(e=31/\k= .fix)->H'[b]? =some (.cells cs e k)):Model H' p s l top free fl:=
 ⟨⟨hk _ _ _ _ h.pool.hp (.inl ⟨rfl,rfl⟩),hk _ _ _ _ h.pool.hs (.inr (.inl ⟨rfl,rfl⟩)),λi q x d hi=>hk _ _ _ _ (h.pool.hq i q x d hi) (.inr (.inr ⟨rfl,rfl⟩))⟩,h.chain,h.nodup,h.full,h.cnt,h.len⟩
section
variable {H : aA} {a n ports lanes m : Nat} {L : List En}
theorem aJR (hm:300<m)(po la sl:Nat)(h:1<=po/\po<=16/\1<=la/\la<=3/\1<=sl/\sl<=200): ∃a H',lvl prog pk8 m (.func 92) [.int .i64 po,.int .i64 la,.int .i64 sl] H=some (.pointer (some ⟨a,0,none⟩),H')/\Ext H H'/\IsRings H' a [] sl po la/\H.length<=a:=by
 have g:=aJA (H:=H) (pr:=pk8) (cF rfl) sl (by omega) (by omega) (m:=m-1) (by omega)
 have hM:=((aJH (H:=H) sl (by omega) (by omega)).app [Blk.map [] 0]).app [.cells [.pointer (some ⟨H.length+1,0,none⟩),.map (some (lH H (kE sl)).length),.int .i64 po,.int .i64 la] 274 .fix]
 have e1:decide ((po:Int)<1)=false:=decide_eq_false (by omega)
 have e2:decide (16<(po:Int))=false:=decide_eq_false (by omega)
 have e3:decide ((la:Int)<1)=false:=decide_eq_false (by omega)
 have e4:decide (3<(la:Int))=false:=decide_eq_false (by omega)
 have hl:(lH H (kE sl)).length=H.length+2:=by simp[lH]
 refine⟨(lH H (kE sl)++[Blk.map [] 0]).length,lH H (kE sl)++[Blk.map [] 0]++[Blk.cells [.pointer (some ⟨H.length+1,0,none⟩),.map (some (lH H (kE sl)).length),.int .i64 po,.int .i64 la] 274 .fix],cX (cF rfl) (by omega) ?_,?_,
  ⟨H.length+1,H.length,(lH H (kE sl)).length,kE sl,0,sl,List.range sl,λ_=>none,by simp,hM,D7 sl,by simp,by simp,by simp,?_,λw _=>rfl,by simp,by simp,by omega,by omega⟩,by simp[hl];omega⟩
 ·rw[aJo]
  simp -implicitDefEqProofs only[g,e22,b_lss,b_gtr,e1,e2,e3,e4,r_opt,r_ret,ob_some,r_gdff,r_gdff2,pick_f,iteV_false,aJP,bRg,x_newB,oneOf_one];rfl
 ·unfold lH
  rw[aMG,aMG];exact Fr.app _ _ _
 ·have h0:=IsMap.aJK (enc:=mL) (lH H (kE sl))
  refine h0.W5 ?_;rw[aMC (by simp)]
theorem Xb (h:IsRings H a L n ports lanes)(hm:0<m)(w:jY):lvl prog pk8 m (.func 234) [.pointer (some ⟨a,0,none⟩),mL w] H=some (.bool (qM w ports lanes),H++[.cells [.int .i64 w.1,.int .i64 w.2.1,.int .i64 w.2.2] 307 .fix]):=by
 obtain⟨p,s,mb,l,top,free,fl,f,hi⟩:=h;have hi':=hi.app [.cells [.int .i64 w.1,.int .i64 w.2.1,.int .i64 w.2.2] 307 .fix];have l2:=hi'.ld2;have l3:=hi'.ld3;have x0:ld1 (.pointer (some ⟨H.length,0,none⟩)) (H++[.cells [.int .i64 w.1,.int .i64 w.2.1,.int .i64 w.2.2] 307 .fix])=some (.int .i64 w.1,H++[.cells [.int .i64 w.1,.int .i64 w.2.1,.int .i64 w.2.2] 307 .fix]):=by rw[jO,tU];rfl
 have x1:ld1 (.pointer (some ⟨H.length,1,none⟩)) (H++[.cells [.int .i64 w.1,.int .i64 w.2.1,.int .i64 w.2.2] 307 .fix])=some (.int .i64 w.2.1,H++[.cells [.int .i64 w.1,.int .i64 w.2.1,.int .i64 w.2.2] 307 .fix]):=by rw[jO,tU];rfl
 have x2:ld1 (.pointer (some ⟨H.length,2,none⟩)) (H++[.cells [.int .i64 w.1,.int .i64 w.2.1,.int .i64 w.2.2] 307 .fix])=some (.int .i64 w.2.2,H++[.cells [.int .i64 w.1,.int .i64 w.2.1,.int .i64 w.2.2] 307 .fix]):=by rw[jO,tU];rfl
 have hc:(Value.cells (mL w)).toList=[.int .i64 w.1,.int .i64 w.2.1,.int .i64 w.2.2]:=rfl;refine cX (cF rfl) (by omega) ?_
 rw[aJm];unfold qM;rw[hc];by_cases h1:0<=min (min w.1 w.2.1) w.2.2
 ·have e1:decide (0<=min (min w.1 w.2.1) w.2.2)=true:=decide_eq_true h1
  by_cases h2:max w.1 w.2.1<(ports:Int)
  ·have e2:decide (max w.1 w.2.1<(ports:Int))=true:=decide_eq_true h2
   simp -implicitDefEqProofs only[x_newB,r_fAddr,r_nil,aMU,Nat.add_zero,x0,x1,x2,l2,l3,M3,M2,b_geq,b_lss,e1,e2,r_opt,r_ret,ob_some,ifB_true,r_gdt,r_gdt2,pick_t,oneOf_one,aMW]
  ·have e2:decide (max w.1 w.2.1<(ports:Int))=false:=decide_eq_false h2
   simp -implicitDefEqProofs only[x_newB,r_fAddr,r_nil,aMU,Nat.add_zero,x0,x1,x2,l2,l3,M3,M2,b_geq,b_lss,e1,e2,r_opt,r_ret,ob_some,ifB_true,r_gdt,r_gdt2,r_gdft,r_gdft2,r_gdu,r_gdu2,pick_t,pick_f,oneOf_one,aMW,Bool.false_and]
 ·have e1:decide (0<=min (min w.1 w.2.1) w.2.2)=false:=decide_eq_false h1
  simp -implicitDefEqProofs only[x_newB,r_fAddr,r_nil,aMU,Nat.add_zero,x0,x1,x2,l2,l3,M3,M2,b_geq,b_lss,e1,r_opt,r_ret,ob_some,ifB_true,r_gdft,r_gdft2,r_gdu,r_gdu2,pick_f,oneOf_one,Bool.false_and]
theorem aJQ (h:IsRings H a L n ports lanes)(hm:0<m)(i o k:Int):lvl prog pk8 m (.func 159) [.pointer (some ⟨a,0,none⟩),.int .i64 i,.int .i64 o,.int .i64 k] H=some (.int .i64 (qOf L (i,o,k)).length,H):=by
 obtain⟨p,s,mb,l,top,free,fl,f,hi⟩:=h;have l1:=hi.ld1;have g:=hi.mp.Al uO (i,o,k) (.slice none 0 0);refine cX (cF rfl) (by omega) ?_
 rw[aJj];cases hf:f (i,o,k) with
 |none=>
  rw[hf] at g;simp only[Option.getD_none] at g;rw[hi.no _ hf];simp -implicitDefEqProofs only[r_nil,r_fAddr,aMU,l1,bW,g,Gv,r_opt,ob_some,oneOf_one];rfl
 |some v=>
  rw[hf] at g;simp only[aM2] at g;have hl:=(hi.yes _ v hf).1.Hq;rw[aMN] at hl;simp -implicitDefEqProofs only[r_nil,r_fAddr,aMU,l1,bW,g,hl,r_opt,ob_some,oneOf_one]
theorem M4 (H:aA)(x:Pkt):stN 4 (.pointer (some ⟨H.length,0,none⟩)) x.dB (H++[pkB pk0])=some (undef,H++[pkB x]):=by
 rw[D9,tU,Wv,Ms]
theorem uP {H:aA}{b:Nat}{x:Pkt}(h:H[b]? =some (pkB x)):ldN 4 (.pointer (some ⟨b,0,none⟩)) H=some (x.dB,H):=by
 rw[qZ,h,aJv]
theorem M5 {H:aA}{b:Nat}{y x:Pkt}(h:H[b]? =some (pkB y)):stN 4 (.pointer (some ⟨b,0,none⟩)) x.dB H=some (undef,H.set b (pkB x)):=by
 rw[D9,h,Wv]
def tD (ps:List Pkt):Value:= .tuple #[(ps.headD pk0).dB,.bool (!ps.isEmpty)]
theorem Xa (h:IsRings H a L n ports lanes)(hm:10<m)(i o k:Int): ∃H',lvl prog pk8 m (.func 242) [.pointer (some ⟨a,0,none⟩),.int .i64 i,.int .i64 o,.int .i64 k] H=some (tD (nH L (i,o,k)),H')/\Ext H H':=by
 obtain⟨p,s,mb,l,top,free,fl,f,hi⟩:=h;have hi1:=hi.app [pkB pk0];have l1:=hi1.ld1;have l0:=hi1.ld0;have g:=hi1.mp.Al uO (i,o,k) (.slice none 0 0);cases hf:f (i,o,k) with
 |none=>
  rw[hf] at g;simp only[Option.getD_none] at g;have hq:=hi.no _ hf;have hp:nH L (i,o,k)=[]:=aMR.mp (by rw[<-M1,hq];rfl)
  rw[hp];refine⟨H++[pkB pk0],cX (cF rfl) (by omega) ?_,Fr.app _ _ _⟩
  rw[Wk];have e1:((0:Int)==0)=true:=rfl;have hl:ldN 4 (.pointer (some ⟨H.length,0,none⟩)) (H++[pkB pk0])=some (pk0.dB,H++[pkB pk0]):=uP (by simp)
  simp -implicitDefEqProofs only[wD,x_newB,r_nil,r_fAddr,aMU,l1,bW,g,Gv,b_eql,e1,Wr,M4,hl,r_opt,ob_some,iteV_true,oneOf_two];rfl
 |some v=>
  rw[hf] at g;simp only[aM2] at g;obtain⟨hr,hne⟩:=hi1.yes _ v hf;obtain⟨k0,ks,hq⟩: ∃k0 ks,qOf L (i,o,k)=k0::ks:=by
   cases hx:qOf L (i,o,k) with
   |nil=>exact absurd hx hne
   |cons a b=>exact⟨a,b,rfl⟩
  obtain⟨x,xs,hp,hin,hlen,hrest⟩:=My hq;rw[hq] at hr;rw[hp];have hl:=hr.Hq;obtain⟨bb,oo,g1,g2,g3⟩:=hr.Q1 (i:=0) (x:=lY k0) rfl .i64;obtain⟨q,d,hslot⟩:=hi.full _ hin;have hg:=aJu (pr:=pk8) (cF rfl) (cF rfl) hi1.pool.pool (m:=m-1) (by omega) k0 q x d hslot
  have e1:((((k0::ks).map lY).length:Int)==0)=false:=by simp;omega
  have hst:stN 4 (.pointer (some ⟨H.length,0,none⟩)) x.dB (H++[pkB pk0]++[pkB x])=some (undef,H++[pkB x]++[pkB x]):=by
   rw[M5 (y:=pk0) (by rw[aMC (by simp)];simp)]
   simp
  have hld:ldN 4 (.pointer (some ⟨H.length,0,none⟩)) (H++[pkB x]++[pkB x])=some (x.dB,H++[pkB x]++[pkB x]):=uP (by rw[aMC (by simp)];simp)
  refine⟨H++[pkB x]++[pkB x],cX (cF rfl) (by omega) ?_,by rw[aMG];exact Fr.app _ _ _⟩
  rw[Wk];have g1':aQ 1 v (.int .i64 0)=some (.pointer (some ⟨bb,oo,none⟩)):=g1;have hk0:lY k0= .int .i64 k0:=rfl;simp -implicitDefEqProofs only[wD,x_newB,r_nil,r_fAddr,aMU,Nat.add_zero,l0,l1,bW,g,hl,b_eql,e1,g1',g3 _ rfl,hk0,hg,ext_0,ext_1,hst,hld,r_opt,ob_some,ifB_true,iteV_false,oneOf_two];rfl
end
theorem M6 (w:jY)(H:aA):stN 3 (.pointer (some ⟨H.length,0,none⟩)) (mL w) (H++[.cells [.int .i64 0,.int .i64 0,.int .i64 0] 307 .fix])=some (undef,H++[.cells [.int .i64 w.1,.int .i64 w.2.1,.int .i64 w.2.2] 307 .fix]):=by
 have hc:(Value.cells (mL w)).toList=[.int .i64 w.1,.int .i64 w.2.1,.int .i64 w.2.2]:=rfl;rw[mE 3 _ _ _ rfl,tU,hc,nK _ _ _ _ _ _ (by decide) (by simp) rfl]
 simp[eD]
theorem yH {H:aA}{b:Nat}{w:jY}(h:H[b]? =some (.cells [.int .i64 w.1,.int .i64 w.2.1,.int .i64 w.2.2] 307 .fix)):ldN 3 (.pointer (some ⟨b,0,none⟩)) H=some (mL w,H):=by
 rw[qZ,h,rS _ _ _ _ _ (by simp)]
 rfl
section
variable {H : aA} {a n ports lanes m : Nat} {L : List En}
theorem RI.Xc {H1:aA}{p s mb:Nat}{l:List iX}{top free:Int}{fl:List Nat}{f:jY->Option Value}(hi:RI H a L n ports lanes p s mb l top free fl f)(hs: ∀b,b<H.length->b≠p->b≠s->H1[b]? =H[b]?):
  (∀(b:Nat)(x:Blk),H[b]? =some x->(∀cs,x≠ .cells cs 327 .fix)->(∀cs,x≠ .cells cs 330 .row)->H1[b]? =some x):=by
 intro b x hx h1 h2;have hlt:=(aMz.mp hx).1;have hp:b≠p:=λhh=>by
  subst hh;rw[hi.pool.pool.hp] at hx;cases hx;exact h1 _ rfl
 have hss:b≠s:=λhh=>by
  subst hh;rw[hi.pool.pool.hs] at hx;cases hx;exact h2 _ rfl
 rw[hs b hlt hp hss,hx]
theorem aJS (h:IsRings H a L n ports lanes)(hm:100<m)(w:jY)(x:Pkt)(hno:qM w ports lanes=false∨n<=L.length):
  ∃H',lvl prog pk8 m (.func 177) [.pointer (some ⟨a,0,none⟩),.int .i64 w.1,.int .i64 w.2.1,.int .i64 w.2.2,x.dB] H=some (.bool false,H')/\Ext H H':=by
 obtain⟨hw,hH⟩: ∃WB:Blk,WB= .cells [.int .i64 w.1,.int .i64 w.2.1,.int .i64 w.2.2] 307 .fix:=⟨_,rfl⟩;have h2:=(h.app [pkB x]).app [hw];have hr:=Xb h2 (m:=m-1) (by omega) w
 have hx:Blk.cells (Value.cells x.dB).toList 31 .fix=pkB x:=rfl;have hb:=bW w.1 w.2.1 w.2.2;have hst:=M6 w (H++[pkB x]);rw[<-hH] at hst hr;have hld:ldN 3 (.pointer (some ⟨(H++[pkB x]).length,0,none⟩)) (H++[pkB x]++[hw])=some (mL w,H++[pkB x]++[hw]):=yH (by rw[tU,hH])
 cases hv:qM w ports lanes with
 |false=>
  rw[hv] at hr;refine⟨H++[pkB x]++[hw]++[hw],cX (cF rfl) (by omega) ?_,by rw[aMG,aMG];exact Fr.app _ _ _⟩
  rw[Mn];simp -implicitDefEqProofs only[x_newB,hx,hb,hst,hld,hr,u_not,Bool.not_false,r_opt,ob_some,iteV_true,oneOf_one]
 |true=>
  have hcnt:n<=L.length:=by
   rcases hno with hno|hno
   ·rw[hv] at hno;cases hno
   ·exact hno
  rw[hv] at hr;obtain⟨p,s,mb,l,top,free,fl,f,hi⟩:=h2.app [hw];have hfl:fl=[]:=by
   have:=hi.cnt;exact aMR.mp (by omega)
  subst hfl;have hp:=hi.pool.aJF (pr:=pk8) (cF rfl) (m:=m-1) (by omega) x
  have l0:=hi.ld0;have hldx:ldN 4 (.pointer (some ⟨H.length,0,none⟩)) (H++[pkB x]++[hw]++[hw])=some (x.dB,H++[pkB x]++[hw]++[hw]):=uP (by rw[aMG,aMG,aMT (aME _)];simp)
  refine⟨H++[pkB x]++[hw]++[hw]++[pkB x],cX (cF rfl) (by omega) ?_,by rw[aMG,aMG,aMG];exact Fr.app _ _ _⟩
  rw[Mn];simp -implicitDefEqProofs only[x_newB,hx,hb,hst,hld,hr,u_not,Bool.not_true,r_opt,ob_some,ifB_true,iteV_false,r_nil,r_fAddr,aMU,l0,hldx,hp,ext_0,ext_1,oneOf_one]
theorem aJT (h:IsRings H a L n ports lanes)(hm:100<m)(w:jY)(x:Pkt)(hv:qM w ports lanes=true)(hn:L.length<n):
    ∃H' k,lvl prog pk8 m (.func 177) [.pointer (some ⟨a,0,none⟩),.int .i64 w.1,.int .i64 w.2.1,.int .i64 w.2.2,x.dB] H=some (.bool true,H')/\Ch AR H H'/\IsRings H' a (L++[(w,k,x)]) n ports lanes:=by
  obtain⟨hw,hH⟩: ∃WB:Blk,WB= .cells [.int .i64 w.1,.int .i64 w.2.1,.int .i64 w.2.2] 307 .fix:=⟨_,rfl⟩;have h2:=(h.app [pkB x]).app [hw];have hr:=Xb h2 (m:=m-1) (by omega) w
  have hx:Blk.cells (Value.cells x.dB).toList 31 .fix=pkB x:=rfl;have hb:=bW w.1 w.2.1 w.2.2;have hst:=M6 w (H++[pkB x]);rw[<-hH] at hst hr;have hld:ldN 3 (.pointer (some ⟨(H++[pkB x]).length,0,none⟩)) (H++[pkB x]++[hw])=some (mL w,H++[pkB x]++[hw]):=yH (by rw[tU,hH])
  rw[hv] at hr;obtain⟨H0,hH0⟩: ∃H0,H0=H++[pkB x]++[hw]++[hw]:=⟨_,rfl⟩;have hc0:Ch AR H H0:=by rw[hH0,aMG,aMG];exact Ch.app _ _ _
  have h3:=h2.app [hw];rw[<-hH0] at h3 hr;obtain⟨p,s,mb,l,top,free,fl,f,hi⟩:=h3;have hWat:H0[(H++[pkB x]).length]? =some hw:=by rw[hH0,aMC (by simp),aMT (aME _)];simp
  obtain⟨k,ks,rfl⟩: ∃k ks,fl=k::ks:=by
    cases fl with
    |nil=>have:=hi.cnt;simp at this;omega
    |cons k ks=>exact⟨k,ks,rfl⟩
  obtain⟨H1,q,d,hp,hM1,hkl,hlen1,hsame⟩:=hi.pool.aJE (pr:=pk8) (cF rfl) (m:=m-1) (by omega) x
  have keep1:=hi.Xc hsame;have l0:=hi.ld0;have hldx:ldN 4 (.pointer (some ⟨H.length,0,none⟩)) H0=some (x.dB,H0):=uP (by rw[hH0,aMG,aMG,aMT (aME _)];simp)
  have hd1:=keep1 _ _ hi.hd (λcs hh=>by cases hh) (λcs hh=>by cases hh)
  have l1:ld1 (.pointer (some ⟨a,1,none⟩)) H1=some (.map (some mb),H1):=by rw[jO,hd1];rfl
  have hW1:H1[(H++[pkB x]).length]? =some hw:=keep1 _ _ hWat (λcs hh=>by rw[hH] at hh;cases hh) (λcs hh=>by rw[hH] at hh;cases hh)
  have hld1:ldN 3 (.pointer (some ⟨(H++[pkB x]).length,0,none⟩)) H1=some (mL w,H1):=yH (by rw[hW1,hH])
  have hm1:IsMap mL H1 mb f:=by
    obtain⟨es,c,e1,e2⟩:=hi.mp
    exact⟨es,c,keep1 _ _ e1 (λcs hh=>by cases hh) (λcs hh=>by cases hh),e2⟩
  have hq1: ∀w' v,f w'=some v->RowO 3 H1 v ((qOf L w').map lY):=λw' v hf=>by
    have:=(hi.yes w' v hf).1;refine this.rY λb hb=> ?_
    obtain⟨xs,hxs⟩:=this.blk hb;rw[hxs,keep1 _ _ hxs (λcs hh=>by cases hh) (λcs hh=>by cases hh)]
  have hc1:Ch AR H0 H1:=⟨hlen1,λb y hy hn'=>keep1 b y hy (λcs hh=>hn' (by rw[hh];exact .inl ⟨rfl,rfl⟩)) (λcs hh=>hn' (by rw[hh];exact .inr (.inl ⟨rfl,rfl⟩)))⟩
  -- the slot's number, in a row of its own
  obtain⟨H2,hH2⟩: ∃H2,H2=H1++[Blk.cells [lY k] 3 .row]:=⟨_,rfl⟩;have hbi:dL 3 1 1 [.int .i64 0] [(0,.int .i64 (k:Nat))] H1=some (.slice (some ⟨H1.length,0,none⟩) 1 1,H2):=by rw[hH2];exact aJO H1 k
  have hm2:IsMap mL H2 mb f:=hm1.W5 (by
    obtain⟨es,c,e1,e2⟩:=hm1;rw[hH2,aMC (aMz.mp e1).1])
  obtain⟨born,X,hent,⟨xe,xc,hX⟩,hstore⟩:=hm2.aJJ uO w (.slice none 0 0);obtain⟨H3,hH3⟩: ∃H3,H3=H2.set mb X:=⟨_,rfl⟩;rw[<-hH3] at hent;have hmblk: ∃es c,H2[mb]? =some (.map es c):=by
    obtain⟨es,c,e1,e2⟩:=hm2
    exact⟨_,_,e1⟩
  have hmlt:mb<H2.length:=by
    obtain⟨es,c,e1⟩:=hmblk
    exact(aMz.mp e1).1
  have hlen2:H2.length=H1.length+1:=by rw[hH2];simp
  have hlen3:H3.length=H1.length+1:=by rw[hH3];simp[hlen2]
  -- cells of H1 in H3
  have k13: ∀(b:Nat)(cs:List Value)(e:TypeId)(kk:Kind),H1[b]? =some (.cells cs e kk)->H3[b]? =some (.cells cs e kk):=by
    intro b cs e kk hb;have hlt:=(aMz.mp hb).1;have hb2:H2[b]? =some (.cells cs e kk):=by rw[hH2,aMC hlt,hb]
    have hne:b≠mb:=λhh=>by
      subst hh;obtain⟨es,c,e1⟩:=hmblk;rw[hb2] at e1;cases e1
    rw[hH3,oY hne,hb2]
  have hX3:H3[mb]? =some X:=by rw[hH3,aMF hmlt]
  have hsrcb:H3[H1.length]? =some (.cells [lY k] 3 .row):=by
    have hb2:H2[H1.length]? =some (.cells [lY k] 3 .row):=by rw[hH2];simp
    have hne:H1.length≠mb:=λhh=>by
      obtain⟨es,c,e1⟩:=hmblk;rw[<-hh,hb2] at e1;cases e1
    rw[hH3,oY hne,hb2]
  have hsl:lT (.slice (some ⟨H1.length,0,none⟩) 1 1)=some 1:=rfl;have hsc:iS 1 (.slice (some ⟨H1.length,0,none⟩) 1 1) 1 H3=some [lY k]:=by simp[iS,hsrcb]
  have hall:dK [lY k]=true:=rfl;have hqlen:(qOf L w).length<=200:=by
    have h1:(qOf L w).length<=L.length:=by simp[qOf,List.length_filter_le]
    have:=hi.cnt;have:=hi.b1;omega
  -- the queue grows
  obtain⟨v',H4,happ,hrow,hl4,hsame4,hhome,hnew⟩: ∃v' H4,app 3 1 8 ((f w).getD (.slice none 0 0)) (.slice (some ⟨H1.length,0,none⟩) 1 1) H3=some (v',H4)/\RowO 3 H4 v' ((qOf L w).map lY++[lY k])/\H3.length<=H4.length/\
      (∀b,b<H3.length-> ¬(∃v,f w=some v/\cG v b)->H4[b]? =H3[b]?)/\(∀b,cG v' b->(∃v,f w=some v/\cG v b)∨(H3.length<=b/\b<H4.length))/\True:=by
    cases hf:f w with
    |none=>
      obtain⟨g1,g2⟩:=aCX (e:=3) (H:=H3) (by':=8) hsl hsc (by decide)
      refine⟨_,_,g1,by rw[hi.no w hf];exact g2,by simp,λb hb _=>aMC hb,?_,trivial⟩
      rintro b ⟨oo,nn,cc,hh⟩
      cases hh;exact .inr ⟨aME _,by simp⟩
    |some v=>
      have hr3:RowO 3 H3 v ((qOf L w).map lY):=(hq1 w v hf).rY λb hb=>by
        obtain⟨xs,hxs⟩:=(hq1 w v hf).blk hb;rw[hxs,k13 _ _ _ _ hxs]
      obtain⟨v',H4,g1,g2,g3,g4,g5,g6⟩:=hr3.aCV (by':=8) hsl hsc (by simp[iZ];omega) hall
      exact⟨v',H4,g1,g2,g3,λb hb hn=>g4 b hb λhh=>hn ⟨v,rfl,hh⟩,λb hb=>(g5 b hb).imp (λhh=>⟨v,rfl,hh⟩) id,trivial⟩
  have hnomb: ¬ ∃v,f w=some v/\cG v mb:=by
    rintro ⟨v,hf,hh⟩
    obtain⟨xs,hxs⟩:=(hq1 w v hf).blk hh;obtain⟨es,c,e1,e2⟩:=hm1;rw[hxs] at e1;cases e1
  have hX4:H4[mb]? =some X:=by rw[hsame4 mb (by omega) hnomb,hX3]
  obtain⟨X',hset,hm5,⟨ye,yc,hX'⟩⟩:=hstore H4 v' hX4
  -- what is not a map nor a row of ints stays from H1 on
  have k15: ∀(b:Nat)(cs:List Value)(e:TypeId)(kk:Kind),H1[b]? =some (.cells cs e kk)->(∀v,f w=some v-> ¬cG v b)->(H4.set mb X')[b]? =some (.cells cs e kk):=by
    intro b cs e kk hb hh;have hlt:=(aMz.mp hb).1;have h3:=k13 b cs e kk hb;have hne:b≠mb:=λhx=>by
      subst hx;rw[hX3,hX] at h3;cases h3
    rw[oY hne,hsame4 b (by omega) (λ⟨v,hf,hv⟩=>hh v hf hv),h3]
  have k15': ∀(b:Nat)(cs:List Value)(e:TypeId)(kk:Kind),H1[b]? =some (.cells cs e kk)-> ¬(e=3/\kk= .row)->(H4.set mb X')[b]? =some (.cells cs e kk):=λb cs e kk hb hne=>k15 b cs e kk hb λv hf hh=>by
    obtain⟨xs,hxs⟩:=(hq1 w v hf).blk hh;rw[hb] at hxs;cases hxs;exact hne ⟨rfl,rfl⟩
  refine⟨H4.set mb X',k,cX (cF rfl) (by omega) ?_,?_,⟨p,s,mb,l.set k (some (q,x),d),d,free-1,ks,upd f w (some v'),?_⟩⟩
  · rw[Mn]
    simp -implicitDefEqProofs only[x_newB,hx,hb,hst,hld,hr,u_not,Bool.not_true,r_opt,ob_some,ifB_true,iteV_false,iteV_true,r_nil,r_fAddr,aMU,l0,hldx,hp,ext_0,ext_1,l1,hld1,hbi,hent,happ,hset,oneOf_one]
  · refine(hc0.vM hc1).vM ⟨by simp;omega,λb y hy hn'=> ?_⟩
    cases y with
    |map es c=>exact absurd trivial hn'
    |dead=>exact absurd trivial hn'
    |cells cs e kk=>exact k15' b cs e kk hy λhh=>hn' (.inr (.inr hh))
  · refine⟨k15' _ _ _ _ hd1 (by rintro ⟨hh,_⟩;revert hh;decide),hM1.W9 λb cs e kk hb hh=>k15' b cs e kk hb (by
      rintro ⟨h1,h2⟩
      subst h1 h2;rcases hh with⟨h1,_⟩|⟨h1,_⟩|⟨h1,_⟩<;>revert h1<;>decide),by simp[hi.len],by have:=hi.cnt;simp at this ⊢; omega,?_,?_,hm5,?_,?_,?_,hi.b1,hi.b2⟩
    · rw[List.map_append,List.nodup_append]
      refine⟨hi.nd,by simp,λy hy z hz hyz=> ?_⟩
      simp at hz;obtain⟨e,he,rfl⟩:=aNc.mp hy;obtain⟨q',d',hs⟩:=hi.full e he;obtain⟨d'',hf⟩:=(hi.pool.full k).mp (by simp)
      rw[hyz,hz,hf] at hs;cases hs
    · intro e he
      rcases List.mem_append.mp he with he|he
      · obtain⟨q',d',hs⟩:=hi.full e he
        have hne:k≠e.2.1:=λhh=>by
          obtain⟨d'',hf⟩:=(hi.pool.full k).mp (by simp)
          rw[hh,hs] at hf;cases hf
        exact⟨q',d',by rw[aMA hne,hs]⟩
      · rw[List.mem_singleton] at he
        subst he
        exact⟨q,d,aMF hkl⟩
    · intro w' hw'
      unfold upd at hw';by_cases hww:w'=w
      · rw[if_pos hww] at hw'
        cases hw'
      · rw[if_neg hww] at hw'
        rw[Mz,if_neg (λhh=>hww hh.symm)]
        exact hi.no w' hw'
    · intro w' v hw'
      unfold upd at hw';by_cases hww:w'=w
      · rw[if_pos hww] at hw'
        cases hw';subst hww;rw[Mz,if_pos rfl];refine⟨?_,by simp⟩
        rw[List.map_append];refine hrow.rY λb hb=>oY λhh=> ?_
        subst hh;obtain⟨xs,hxs⟩:=hrow.blk hb;rw[hX4,hX] at hxs;cases hxs
      · rw[if_neg hww] at hw'
        rw[Mz,if_neg (λhh=>hww hh.symm)]
        refine⟨(hq1 w' v hw').rY λb hb=> ?_,(hi.yes w' v hw').2⟩
        obtain⟨xs,hxs⟩:=(hq1 w' v hw').blk hb;rw[hxs,k15 b _ _ _ hxs λv2 hf2 hh=>hi.sep w' w v v2 b hw' hf2 hww hb hh]
    · intro w1 w2 v1 v2 b hf1 hf2 hne hh1 hh2
      have old: ∀w' v,f w'=some v->cG v b->b<H1.length:=λw' v hf hh=>by
        obtain⟨xs,hxs⟩:=(hq1 w' v hf).blk hh
        exact(aMz.mp hxs).1
      unfold upd at hf1 hf2;by_cases e1:w1=w
      · rw[if_pos e1] at hf1
        cases hf1;rw[if_neg (λhh=>hne (e1.trans hh.symm))] at hf2
        rcases hhome b hh1 with⟨v,hf,hh⟩|hh
        · exact hi.sep w w2 v v2 b hf hf2 (by rw[<-e1];exact hne) hh hh2
        · have:=old w2 v2 hf2 hh2
          omega
      · rw[if_neg e1] at hf1
        by_cases e2:w2=w
        · rw[if_pos e2] at hf2
          cases hf2;rcases hhome b hh2 with⟨v,hf,hh⟩|hh
          · exact hi.sep w1 w v1 v b hf1 hf e1 hh1 hh
          · have:=old w1 v1 hf1 hh1
            omega
        · rw[if_neg e2] at hf2
          exact hi.sep w1 w2 v1 v2 b hf1 hf2 hne hh1 hh2
end
section
variable {H : aA} {a n ports lanes m : Nat} {L : List En}
theorem RI.aJU {p s mb:Nat}{l:List iX}{top free:Int}{fl:List Nat}{f:jY->Option Value}(hi:RI H a L n ports lanes p s mb l top free fl f){b:Nat}{y x:Pkt}(hb:H[b]? =some (pkB y))(hq: ∀(i q:Nat)(z:Pkt)(d:Int),l[i]? =some (some (q,z),d)->q≠b):
  RI (H.set b (pkB x)) a L n ports lanes p s mb l top free fl f:=by
 have keep: ∀(c:Nat)(z:Blk),H[c]? =some z->(∀cs,z≠ .cells cs 31 .fix)->(H.set b (pkB x))[c]? =some z:=λc z hc hz=>by
  rw[oY (λhh=>by subst hh;rw[hb] at hc;cases hc;exact hz _ rfl),hc]
 refine⟨keep _ _ hi.hd (λcs hh=>by cases hh),⟨⟨keep _ _ hi.pool.pool.hp (λcs hh=>by cases hh),keep _ _ hi.pool.pool.hs (λcs hh=>by cases hh),λi q z d hl=>by
  rw[oY (hq i q z d hl),hi.pool.pool.hq i q z d hl]⟩,hi.pool.chain,hi.pool.nodup,hi.pool.full,hi.pool.cnt,hi.pool.len⟩,hi.len,hi.cnt,hi.nd,hi.full,?_,hi.no,λw v hv=>⟨?_,(hi.yes w v hv).2⟩,hi.sep,hi.b1,hi.b2⟩
 ·obtain⟨es,c,h1,h2⟩:=hi.mp
  exact⟨es,c,keep _ _ h1 (λcs hh=>by cases hh),h2⟩
 ·refine(hi.yes w v hv).1.rY λc hc=> ?_
  obtain⟨xs,hx⟩:=(hi.yes w v hv).1.blk hc;rw[hx];exact keep _ _ hx (λcs hh=>by cases hh)
theorem aJV (h:IsRings H a L n ports lanes)(hm:100<m)(i o k:Int)(hp:nH L (i,o,k)=[]):
  ∃H',lvl prog pk8 m (.func 185) [.pointer (some ⟨a,0,none⟩),.int .i64 i,.int .i64 o,.int .i64 k] H=some (tD [],H')/\Ext H H':=by
 obtain⟨H1,g1,g2⟩:=Xa (h.app [pkB pk0]) (m:=m-1) (by omega) i o k
 rw[hp] at g1;have hv:tD []= .tuple #[pk0.dB,.bool false]:=rfl;rw[hv] at g1;have hb0:H1[H.length]? =some (pkB pk0):=by rw[g2.2 H.length (by simp) id];simp
 have hl1:H.length<H1.length:=by have:=g2.1;simp at this;omega
 have hst:stN 4 (.pointer (some ⟨H1.length,0,none⟩)) pk0.dB (H1++[pkB pk0])=some (undef,H1++[pkB pk0]):=M4 H1 pk0;have hld:ldN 4 (.pointer (some ⟨H1.length,0,none⟩)) (H1++[pkB pk0])=some (pk0.dB,H1++[pkB pk0]):=uP (by simp)
 have hb1:(H1++[pkB pk0])[H.length]? =some (pkB pk0):=by rw[aMC hl1,hb0]
 have hst2:stN 4 (.pointer (some ⟨H.length,0,none⟩)) pk0.dB (H1++[pkB pk0])=some (undef,H1++[pkB pk0]):=by
  rw[M5 (y:=pk0) hb1,Fq hb1]
 have hld2:ldN 4 (.pointer (some ⟨H.length,0,none⟩)) (H1++[pkB pk0])=some (pk0.dB,H1++[pkB pk0]):=uP hb1;refine⟨H1++[pkB pk0],cX (cF rfl) (by omega) ?_,⟨by simp;omega,λb hb _=> ?_⟩⟩
 ·rw[Mo]
  simp -implicitDefEqProofs only[wD,x_newB,g1,ext_0,ext_1,hst,hld,hst2,hld2,r_opt,ob_some,iteV_false,oneOf_two];rfl
 ·rw[aMC (by omega),g2.2 b (by simp;omega) id,aMC hb]
theorem aJW (h:IsRings H a L n ports lanes)(hm:100<m)(i o k:Int){x:Pkt}{xs:List Pkt}(hp:nH L (i,o,k)=x::xs):
    ∃H',lvl prog pk8 m (.func 185) [.pointer (some ⟨a,0,none⟩),.int .i64 i,.int .i64 o,.int .i64 k] H=some (.tuple #[x.dB,.bool true],H')/\Ch AR H H'/\IsRings H' a (mT L (i,o,k)) n ports lanes:=by
  obtain⟨H1,g1,g2⟩:=Xa (h.app [pkB pk0]) (m:=m-1) (by omega) i o k
  rw[hp] at g1;have hv:tD (x::xs)= .tuple #[x.dB,.bool true]:=rfl;rw[hv] at g1;obtain⟨w,hw⟩: ∃w:jY,w=(i,o,k):=⟨_,rfl⟩;obtain⟨p,s,mb,l,top,free,fl,f,hi0⟩:=h;have hqlt: ∀(j q:Nat)(z:Pkt)(d:Int),l[j]? =some (some (q,z),d)->q<H.length:=λj q z d hl=>(aMz.mp (hi0.pool.pool.hq j q z d hl)).1
  have hl1:H.length<H1.length:=by have:=g2.1;simp at this;omega
  have hi1:RI H1 a L n ports lanes p s mb l top free fl f:=hi0.Ec λb y hb _=>by
    have hlt:=(aMz.mp hb).1;rw[g2.2 b (by simp;omega) id,aMC hlt,hb]
  have hb0:H1[H.length]? =some (pkB pk0):=by rw[g2.2 H.length (by simp) id];simp
  obtain⟨WB,hWB⟩: ∃WB:Blk,WB= .cells [.int .i64 i,.int .i64 o,.int .i64 k] 307 .fix:=⟨_,rfl⟩;obtain⟨H5,hH5⟩: ∃H5,H5=H1++[pkB x]++[WB]:=⟨_,rfl⟩;have hst1:stN 4 (.pointer (some ⟨H1.length,0,none⟩)) x.dB (H1++[pkB pk0])=some (undef,H1++[pkB x]):=M4 H1 x;have hst2:=M6 (i,o,k) (H1++[pkB x]);simp only at hst2;rw[<-hWB,<-hH5] at hst2;have hi:RI H5 a L n ports lanes p s mb l top free fl f:=by rw[hH5];exact(hi1.app _).app _
  have hc5:Ch AR H H5:=by
    refine(Ch.app AR H [pkB pk0]).vM ((Ch.ext g2).vM ?_);rw[hH5,aMG];exact Ch.app _ _ _
  have at0:H5[H.length]? =some (pkB pk0):=by rw[hH5,aMG,aMC hl1,hb0]
  have at4:H5[H1.length]? =some (pkB x):=by rw[hH5,aMG,aMT (aME _)];simp
  have atW:H5[(H1++[pkB x]).length]? =some WB:=by rw[hH5,tU]
  have l0:=hi.ld0;have l1:=hi.ld1;have hldw:ldN 3 (.pointer (some ⟨(H1++[pkB x]).length,0,none⟩)) H5=some (mL (i,o,k),H5):=yH (by rw[atW,hWB])
  -- the queue
  obtain⟨v,hf⟩: ∃v,f w=some v:=by
    cases hf:f w with
    |some v=>exact⟨v,rfl⟩
    |none=>
      have:=hi.no w hf;have h2:=M1 L w;rw[this,hw,hp] at h2;simp at h2
  have hg:=hi.mp.Al uO w (.slice none 0 0);rw[hf] at hg;simp only[aM2] at hg;obtain⟨hr,hne⟩:=hi.yes w v hf;obtain⟨k0,ks,hq⟩: ∃k0 ks,qOf L w=k0::ks:=by
    cases hx:qOf L w with
    |nil=>exact absurd hx hne
    |cons a b=>exact⟨a,b,rfl⟩
  obtain⟨x',xs',hp',hin,hlen,hrest⟩:=My hq;rw[hw,hp] at hp';cases hp';rw[hq] at hr;obtain⟨bb,oo,a1,a2,a3⟩:=hr.Q1 (i:=0) (x:=lY k0) rfl .i64;have a1':aQ 1 v (.int .i64 0)=some (.pointer (some ⟨bb,oo,none⟩)):=a1;have hk0:lY k0= .int .i64 k0:=rfl;obtain⟨q0,d0,hslot⟩:=hi.full _ hin;obtain⟨H6,hd,hM6,hmore⟩:=hi.pool.aJD (pr:=pk8) (cF rfl) (cF rfl) (m:=m-1) (by omega) k0 (q0,x) d0 hslot
  have keep6:=hi.Xc hmore.same;have c6:Ch AR H5 H6:=⟨hmore.len,λb y hy hn'=>keep6 b y hy (λcs hh=>hn' (by rw[hh];exact .inl ⟨rfl,rfl⟩)) (λcs hh=>hn' (by rw[hh];exact .inr (.inl ⟨rfl,rfl⟩)))⟩
  have hd6:=keep6 _ _ hi.hd (λcs hh=>by cases hh) (λcs hh=>by cases hh)
  have l16:ld1 (.pointer (some ⟨a,1,none⟩)) H6=some (.map (some mb),H6):=by rw[jO,hd6];rfl
  have at06:=keep6 _ _ at0 (λcs hh=>by cases hh) (λcs hh=>by cases hh)
  have at46:=keep6 _ _ at4 (λcs hh=>by cases hh) (λcs hh=>by cases hh)
  have atW6:H6[(H1++[pkB x]).length]? =some WB:=keep6 _ _ atW (λcs hh=>by rw[hWB] at hh;cases hh) (λcs hh=>by rw[hWB] at hh;cases hh)
  have hldw6:ldN 3 (.pointer (some ⟨(H1++[pkB x]).length,0,none⟩)) H6=some (mL (i,o,k),H6):=yH (by rw[atW6,hWB])
  have hm6:IsMap mL H6 mb f:=by
    obtain⟨es,c,e1,e2⟩:=hi.mp
    exact⟨es,c,keep6 _ _ e1 (λcs hh=>by cases hh) (λcs hh=>by cases hh),e2⟩
  have hq6: ∀w' v',f w'=some v'->RowO 3 H6 v' ((qOf L w').map lY):=λw' v' hf'=>by
    have:=(hi.yes w' v' hf').1;refine this.rY λb hb=> ?_
    obtain⟨ys,hys⟩:=this.blk hb;rw[hys,keep6 _ _ hys (λcs hh=>by cases hh) (λcs hh=>by cases hh)]
  have hg6:=hm6.Al uO w (.slice none 0 0);rw[hf] at hg6;simp only[aM2] at hg6;have hr6:=hq6 w v hf;rw[hq] at hr6;obtain⟨v',hcut,hrow',hhome⟩:=RowO.aCW (P:=prog) (x:=lY k0) (cs:=ks.map lY) hr6 szI;obtain⟨X,hset,hm7,⟨xe,xc,hX⟩⟩:=hm6.aJL uO w v' (by rw[hf];simp)
  obtain⟨H7,hH7⟩: ∃H7,H7=H6.set mb X:=⟨_,rfl⟩;rw[<-hH7] at hset hm7;have hmb6: ∃es c,H6[mb]? =some (.map es c):=by
    obtain⟨es,c,e1,e2⟩:=hm6
    exact⟨_,_,e1⟩
  have k67: ∀(b:Nat)(cs:List Value)(e:TypeId)(kk:Kind),H6[b]? =some (.cells cs e kk)->H7[b]? =some (.cells cs e kk):=λb cs e kk hb=>by
    have hne:b≠mb:=λhh=>by
      subst hh;obtain⟨es,c,e1⟩:=hmb6;rw[hb] at e1;cases e1
    rw[hH7,oY hne,hb]
  have len7:H7.length=H6.length:=by rw[hH7];simp
  have l17:ld1 (.pointer (some ⟨a,1,none⟩)) H7=some (.map (some mb),H7):=by rw[jO,k67 _ _ _ _ hd6];rfl
  have hldw7:ldN 3 (.pointer (some ⟨(H1++[pkB x]).length,0,none⟩)) H7=some (mL (i,o,k),H7):=yH (by rw[hWB] at atW6;rw[k67 _ _ _ _ atW6])
  have hg7:=hm7.Al uO w (.slice none 0 0);have hupd:upd f w (some v') w=some v':=by unfold upd;rw[if_pos rfl]
  rw[hupd] at hg7;simp only[aM2] at hg7;have hlen':=hrow'.Hq;have c7:Ch AR H6 H7:=by
    obtain⟨es,c,e1⟩:=hmb6;rw[hH7];exact Ch.Q0 e1 trivial _
  -- the ending: from a heap H8 that is H7 but for the map
  have fin: ∀(H8:aA)(f8:jY->Option Value),Ch AR H7 H8->(∀(b:Nat)(cs:List Value)(e:TypeId)(kk:Kind),H6[b]? =some (.cells cs e kk)->H8[b]? =some (.cells cs e kk))->H6.length<=H8.length->IsMap mL H8 mb f8->
      (∀w',w'≠w->f8 w'=f w')->(f8 w=some v'/\ks≠[]∨f8 w=none/\ks=[])->
      ldN 4 (.pointer (some ⟨H1.length,0,none⟩)) H8=some (x.dB,H8)/\stN 4 (.pointer (some ⟨H.length,0,none⟩)) x.dB H8=some (undef,H8.set H.length (pkB x))/\ldN 4 (.pointer (some ⟨H.length,0,none⟩)) (H8.set H.length (pkB x))=some (x.dB,H8.set H.length (pkB x))/\Ch AR H (H8.set H.length (pkB x))/\IsRings (H8.set H.length (pkB x)) a (mT L w) n ports lanes:=by
    intro H8 f8 c8 k68 hl8 hm8 hoth hself;have at48:=k68 _ _ _ _ at46;have at08:=k68 _ _ _ _ at06;have at08':H8[H.length]? =some (pkB pk0):=at08;have hlt8:=(aMz.mp at08).1;refine⟨uP at48,M5 at08',uP (aMF hlt8),?_,?_⟩
    · refine⟨by simp;omega,λb y hy hn'=> ?_⟩
      have hltb:=(aMz.mp hy).1;rw[oY (by omega)]
      exact(((hc5.vM c6).vM c7).vM c8).2 b y hy hn'
    · have hRI:RI H8 a (mT L w) n ports lanes p s mb (l.set k0 (none,top)) k0 (free+1) (k0::fl) f8:=by
        refine⟨k68 _ _ _ _ hd6,hM6.W9 λb cs e kk hb _=>k68 b cs e kk hb,by simp[hi.len],by have:=hi.cnt;simp;omega,?_,?_,hm8,?_,?_,?_,hi.b1,hi.b2⟩
        · exact(List.Sublist.map _ (List.eraseP_sublist)).nodup hi.nd
        · intro e he
          obtain⟨h1,h2⟩:=hrest e he;obtain⟨q',d',hs⟩:=hi.full e h1
          exact⟨q',d',by rw[aMA (λhh=>h2 hi.nd hh.symm),hs]⟩
        · intro w' hw'
          by_cases hww:w'=w
          · subst hww
            rw[Ao,if_pos rfl,hq];rcases hself with⟨h1,_⟩|⟨_,h2⟩
            · rw[h1] at hw';cases hw'
            · exact h2
          · rw[hoth w' hww] at hw'
            rw[Ao,if_neg (λhh=>hww hh.symm)]
            exact hi.no w' hw'
        · intro w' u hw'
          by_cases hww:w'=w
          · subst hww
            rw[Ao,if_pos rfl,hq];rcases hself with⟨h1,h2⟩|⟨h1,_⟩
            · rw[h1] at hw'
              cases hw';refine⟨hrow'.rY λb hb=> ?_,h2⟩
              obtain⟨ys,hys⟩:=hrow'.blk hb;rw[hys,k68 _ _ _ _ hys]
            · rw[h1] at hw';cases hw'
          · rw[hoth w' hww] at hw'
            rw[Ao,if_neg (λhh=>hww hh.symm)]
            refine⟨(hq6 w' u hw').rY λb hb=> ?_,(hi.yes w' u hw').2⟩
            obtain⟨ys,hys⟩:=(hq6 w' u hw').blk hb;rw[hys,k68 _ _ _ _ hys]
        · intro w1 w2 v1 v2 b hf1 hf2 hne' hh1 hh2
          by_cases e1:w1=w
          · rw[hoth w2 (λhh=>hne' (e1.trans hh.symm))] at hf2
            rw[e1] at hf1;rcases hself with⟨h1,_⟩|⟨h1,_⟩
            · rw[h1] at hf1
              cases hf1;exact hi.sep w w2 v v2 b hf hf2 (by rw[<-e1];exact hne') (hhome b hh1) hh2
            · rw[h1] at hf1;cases hf1
          · rw[hoth w1 e1] at hf1
            by_cases e2:w2=w
            · rw[e2] at hf2
              rcases hself with⟨h1,_⟩|⟨h1,_⟩
              · rw[h1] at hf2
                cases hf2;exact hi.sep w1 w v1 v b hf1 hf e1 hh1 (hhome b hh2)
              · rw[h1] at hf2;cases hf2
            · rw[hoth w2 e2] at hf2
              exact hi.sep w1 w2 v1 v2 b hf1 hf2 hne' hh1 hh2
      refine⟨_,_,_,_,_,_,_,_,hRI.aJU at08' λj q z d hl=> ?_⟩
      by_cases hj:k0=j
      · subst hj
        have hlt:=(aMz.mp hslot).1;rw[aMF hlt] at hl;cases hl
      · rw[aMA hj] at hl
        have:=hqlt j q z d hl;omega
  rw[hw] at hg hg6 hset hg7;cases hks:ks with
  |nil=>
    subst hks;have e1:((([]:List Nat).map lY).length:Int)=0:=rfl;have e2:((((([]:List Nat).map lY).length:Nat):Int)==0)=true:=rfl;obtain⟨X8,hdel,hm8,⟨ye,yc,hX8⟩⟩:=hm7.aJI uO w (by rw[hupd];simp)
    have hmb7: ∃es c,H7[mb]? =some (.map es c):=by
      obtain⟨es,c,e1,e2⟩:=hm7
      exact⟨_,_,e1⟩
    obtain⟨r1,r2,r3,r4,r5⟩:=fin (H7.set mb X8) _ (by
      obtain⟨es,c,e1⟩:=hmb7;exact Ch.Q0 e1 trivial _) (λb cs e kk hb=>by
        have h7:=k67 b cs e kk hb;have hne:b≠mb:=λhh=>by
          subst hh;obtain⟨es,c,e1⟩:=hmb7;rw[h7] at e1;cases e1
        rw[oY hne,h7]) (by simp[len7]) hm8 (λw' hww=>by simp[upd,hww]) (.inr ⟨by simp[upd],rfl⟩)
    rw[hw] at hdel r5;refine⟨_,cX (cF rfl) (by omega) ?_,r4,r5⟩
    rw[Mo];simp -implicitDefEqProofs only[wD,x_newB,g1,ext_0,ext_1,hst1,bW,hst2,r_nil,r_fAddr,aMU,l0,l1,hldw,hg,a1',a3 H5 rfl,hk0,hd,l16,hldw6,hg6,hcut,hset,l17,hldw7,hg7,hlen',b_eql,e2,hdel,r1,r2,r3,r_opt,ob_some,ifB_true,iteV_true,oneOf_two]
  |cons k1 ks1=>
    subst hks;have e2:(((((k1::ks1).map lY).length:Nat):Int)==0)=false:=by simp;omega
    obtain⟨r1,r2,r3,r4,r5⟩:=fin H7 _ (Ch.aCU _ _) k67 (by omega) hm7 (λw' hww=>by simp[upd,hww]) (.inl ⟨hupd,by simp⟩)
    rw[hw] at r5;refine⟨_,cX (cF rfl) (by omega) ?_,r4,r5⟩
    rw[Mo];simp -implicitDefEqProofs only[wD,x_newB,g1,ext_0,ext_1,hst1,bW,hst2,r_nil,r_fAddr,aMU,l0,l1,hldw,hg,a1',a3 H5 rfl,hk0,hd,l16,hldw6,hg6,hcut,hset,l17,hldw7,hg7,hlen',b_eql,e2,r1,r2,r3,r_opt,ob_some,ifB_true,iteV_true,iteV_false,oneOf_two]
end
section
variable {H : aA} {a n ports lanes m : Nat} {L : List En}
theorem aJY (h:IsRings H a L n ports lanes)(hm:100<m)(w:jY)(x:Pkt): ∃H' L',lvl prog pk8 m (.func 177) [.pointer (some ⟨a,0,none⟩),.int .i64 w.1,.int .i64 w.2.1,.int .i64 w.2.2,x.dB] H=some (.bool (qM w ports lanes&&decide (L.length<n)),H')/\Ch AR H H'/\IsRings H' a L' n ports lanes/\
  ((qM w ports lanes&&decide (L.length<n))=true/\(∃k,L'=L++[(w,k,x)])∨(qM w ports lanes&&decide (L.length<n))=false/\L'=L):=by
 by_cases hv:(qM w ports lanes&&decide (L.length<n))=true
 ·rw[aMH,decide_eq_true_eq] at hv
  obtain⟨H',k,g1,g2,g3⟩:=aJT h hm w x hv.1 hv.2;rw[hv.1,decide_eq_true hv.2]
  exact⟨H',_,g1,g2,g3,.inl ⟨rfl,k,rfl⟩⟩
 ·have hf:(qM w ports lanes&&decide (L.length<n))=false:=by simpa using hv
  obtain⟨H',g1,g2⟩:=aJS h hm w x (by
   rw[Bool.and_eq_false_iff] at hf;exact hf.imp id λh=>by have:=of_decide_eq_false h;omega)
  rw[hf];have hc:Ch AR H H':=Ch.ext g2;obtain⟨p,s,mb,l,top,free,fl,f,hi⟩:=h
  exact⟨H',L,g1,hc,⟨p,s,mb,l,top,free,fl,f,hi.Ec λb x hx _=>by rw[g2.2 b (aMz.mp hx).1 id,hx]⟩,.inr ⟨rfl,rfl⟩⟩
theorem IsRings.ext {H':aA}(h:IsRings H a L n ports lanes)(he:Ext H H'):IsRings H' a L n ports lanes:=by
 obtain⟨p,s,mb,l,top,free,fl,f,hi⟩:=h
 exact⟨p,s,mb,l,top,free,fl,f,hi.Ec λb x hx _=>by rw[he.2 b (aMz.mp hx).1 id,hx]⟩
theorem aJX (h:IsRings H a L n ports lanes)(hm:100<m)(w:jY): ∃H',lvl prog pk8 m (.func 185) [.pointer (some ⟨a,0,none⟩),.int .i64 w.1,.int .i64 w.2.1,.int .i64 w.2.2] H=some (tD (nH L w),H')/\Ch AR H H'/\IsRings H' a (mT L w) n ports lanes:=by
 cases hp:nH L w with
 |nil=>
  obtain⟨H',g1,g2⟩:=aJV h hm w.1 w.2.1 w.2.2 hp;have hL:mT L w=L:=by
   unfold mT;apply List.eraseP_of_forall_not;intro e he hd;have:e∈L.filter λe=>decide (e.1=w):=List.mem_filter.mpr ⟨he,hd⟩
   have hl:(nH L w).length=0:=by rw[hp];rfl
   unfold nH at hl;rw[aMN] at hl;rw[aMR.mp hl] at this;cases this
  rw[hL]
  exact⟨H',g1,Ch.ext g2,h.ext g2⟩
 |cons x xs=>
  obtain⟨H',g1,g2,g3⟩:=aJW h hm w.1 w.2.1 w.2.2 hp
  exact⟨H',g1,g2,g3⟩
end
end Go.Proofs.YtmimdleeihjdoaaGreatDoor.Rg
namespace Go.Proofs.YtmimdleeihjdoaaGreatDoor
open Go.Proofs.Tryz
open Go.Abs
def tE (L:List Rg.En):List (Go.Abs.fM×Pkt):=L.map λe=>(e.1,e.2.2)
theorem Xd (L:List Rg.En)(w:Go.Abs.fM):Rg.nH L w=oR (tE L) w:=by
 unfold Rg.nH oR tE;induction L with
 |nil=>rfl
 |cons e L ih=>
  rw[aM4,List.filter_cons,List.filter_cons];by_cases h:e.1=w
  ·simp only[h,decide_true,if_true,aM4]
   rw[ih]
  ·simp only[h,decide_false]
   exact ih
theorem aJZ (L:List Rg.En)(w:Go.Abs.fM):tE (Rg.mT L w)=oF (tE L) w:=by
 unfold Rg.mT oF tE;induction L with
 |nil=>rfl
 |cons e L ih=>
  rw[aM4,List.eraseP_cons,List.eraseP_cons];by_cases h:e.1=w
  ·simp only[h,decide_true,if_true,cond_true]
  ·simp only[h,decide_false,cond_false,aM4]
   rw[ih]
def RingsN (D:aA)(a:Nat)(L:List (Go.Abs.fM×Pkt))(cap ports lanes:Nat):Prop:= ∃Le:List Rg.En,Rg.IsRings D a Le cap ports lanes/\tE Le=L
theorem aJ3 (w:Go.Abs.fM)(ports lanes:Nat):Rg.qM w ports lanes=Ae w ports lanes:=by
 unfold Rg.qM Ae;rw[Bool.eq_iff_iff];simp only[aMH,decide_eq_true_eq];omega
section
variable {D : aA} {m a cap ports lanes : Nat} {L : List (Go.Abs.fM × Pkt)}
theorem RingsN.ext {D':aA}(h:RingsN D a L cap ports lanes)(he:Ext D D'):RingsN D' a L cap ports lanes:=by
 obtain⟨Le,h1,h2⟩:=h
 exact⟨Le,h1.ext he,h2⟩
theorem aJ1 (hm:300<m)(po la sl:Nat)(h:1<=po/\po<=16/\1<=la/\la<=3/\1<=sl/\sl<=200): ∃a H',lvl prog pkN m (.func 92) [.int .i64 po,.int .i64 la,.int .i64 sl] D=some (.pointer (some ⟨a,0,none⟩),H')/\RingsN H' a [] sl po la/\Ext D H'/\D.length<=a:=by
 obtain⟨a,H',h1,h2,h3,h4⟩:=Rg.aJR (H:=D) hm po la sl h
 exact⟨a,H',h1,⟨[],h3,rfl⟩,h2,h4⟩
theorem aJ0 (h:RingsN D a L cap ports lanes)(hm:0<m)(i o k:Int):lvl prog pkN m (.func 159) [.pointer (some ⟨a,0,none⟩),.int .i64 i,.int .i64 o,.int .i64 k] D=some (.int .i64 (oR L (i,o,k)).length,D):=by
 obtain⟨Le,h1,rfl⟩:=h;rw[<-Xd,<-Rg.M1];exact Rg.aJQ h1 hm i o k
theorem Xe (h:RingsN D a L cap ports lanes)(hm:100<m)(w:Go.Abs.fM)(x:Pkt): ∃r H',lvl prog pkN m (.func 177) [.pointer (some ⟨a,0,none⟩),.int .i64 w.1,.int .i64 w.2.1,.int .i64 w.2.2,x.dB] D=some (r,H')/\RingsN H' a (if Ae w ports lanes=true/\L.length<cap then L++[(w,x)] else L) cap ports lanes:=by
 obtain⟨Le,h1,rfl⟩:=h;have hl:(tE Le).length=Le.length:=by simp[tE]
 obtain⟨H',L',g1,g2,g3,g4⟩:=Rg.aJY h1 hm w x;rw[aJ3,aMH,decide_eq_true_eq] at g4;refine⟨_,H',g1,⟨L',g3,?_⟩⟩;rw[hl];rcases g4 with⟨hv,k,rfl⟩|⟨hv,rfl⟩
 ·rw[if_pos hv]
  simp[tE]
 ·rw[if_neg (by intro hh;rw[hh.1,decide_eq_true hh.2] at hv;cases hv)]
theorem aJ2 (h:RingsN D a L cap ports lanes)(hm:100<m)(i o k:Int): ∃H',lvl prog pkN m (.func 185) [.pointer (some ⟨a,0,none⟩),.int .i64 i,.int .i64 o,.int .i64 k] D=some (Rg.tD (oR L (i,o,k)),H')/\RingsN H' a (oF L (i,o,k)) cap ports lanes:=by
 obtain⟨Le,h1,rfl⟩:=h;obtain⟨H',g1,g2,g3⟩:=Rg.aJX h1 hm (i,o,k);rw[<-Xd,<-aJZ]
 exact⟨H',g1,_,g3,rfl⟩
end
section
variable {D : aA} {m a lanes queue : Nat} {L G : List Pkt} {w0 w1 w2 cv : Value}
theorem aJ9:bld prog 31 []=some pk0.dB:=rfl
theorem Ee {H:aA}{b:Nat}{y:Pkt}(x:Pkt)(hb:H[b]? =some (dM y)):stN 4 (.pointer (some ⟨b,0,none⟩)) x.dB H=some (undef,H.set b (dM x)):=xY hb (by decide) rfl rfl (aME 4) rfl
theorem aJ4:prog.cellsOf 31=4:=by kernel_rfl
theorem aJ7 (h:HostI D a L G lanes queue w0 w1 w2 cv)(hm:3<m)(k:Nat)(hk:k<lanes)(hw:fA L k=[]): ∃H',lvl prog pkN m (.func 176) [.pointer (some ⟨a,0,none⟩),.int .i64 k] D=some (.tuple #[pk0.dB,.bool false],H')/\HostAt H' a L G lanes queue:=by
 refine kJ (cF rfl) (by omega) ?_
 rw[U5];obtain⟨u0,u1,u2,cu,h'⟩:HostAt (D++[dM pk0]) a L G lanes queue:=HostAt.ext ⟨w0,w1,w2,cv,h⟩ (Fr.app _ _ _);have e0: ∀H:aA,H++[Blk.cells [Value.int .i64 0,.int .i64 0,.int .i64 0,.int .u32 0] 31 .fix]=H++[dM pk0]:=λ_=>rfl
 have e1:=Mg h' (m:=m-1) (by omega) k hk
 rw[hw] at e1;have st:stN 4 (.pointer (some ⟨D.length,0,none⟩)) pk0.dB (D++[dM pk0])=some (undef,D++[dM pk0]):=by
  rw[Ee pk0 (dF _ _),mR]
 have l4:=(pC (dF D (dM pk0))).2;have c1:((([]:List Pkt).length:Int)==0)=true:=rfl;simp -implicitDefEqProofs only[gsR,e0,e1,c1,aJ9,st,l4]
 exact⟨_,rfl,_,_,_,_,h'⟩
theorem HostI.ext {D':aA}(h:HostI D a L G lanes queue w0 w1 w2 cv)(he:Ext D D'):HostI D' a L G lanes queue w0 w1 w2 cv:=
 ⟨by rw[he.2 a (dA h.blk) id,h.blk],h.lanes,h.queue,λk hk=>(h.q k hk).ext he,h.came.ext he,h.apart,h.apartC⟩
theorem aJ8 (h:HostI D a L G lanes queue w0 w1 w2 cv)(hm:3<m)(k:Nat)(hk:k<lanes){x:Pkt}{xs:List Pkt}(hw:fA L k=x::xs): ∃H',lvl prog pkN m (.func 176) [.pointer (some ⟨a,0,none⟩),.int .i64 k] D=some (.tuple #[x.dB,.bool true],H')/\HostAt H' a (qL L k) G lanes queue:=by
 have h3:k<3:=aMO hk h.lanes.2;refine kJ (cF rfl) (by omega) ?_
 rw[U5];have e0: ∀H:aA,H++[Blk.cells [Value.int .i64 0,.int .i64 0,.int .i64 0,.int .u32 0] 31 .fix]=H++[dM pk0]:=λ_=>rfl
 obtain⟨D1,hD1⟩: ∃D1,D1=D++[dM pk0]:=⟨_,rfl⟩;obtain⟨D3,hD3⟩: ∃D3,D3=D1++[dM x]:=⟨_,rfl⟩;have h1l:D1.length=D.length+1:=by rw[hD1];simp
 have i1:HostI D1 a L G lanes queue w0 w1 w2 cv:=h.ext (by rw[hD1];exact Fr.app _ _ _)
 have i3:HostI D3 a L G lanes queue w0 w1 w2 cv:=i1.ext (by rw[hD3];exact Fr.app _ _ _)
 have e1:=Mg i1 (m:=m-1) (by omega) k hk
 rw[hw] at e1;have c1:(((x::xs).length:Int)==0)=false:=by simp;omega
 have e2:=D0 3 1 a 0 .i64 k h3;rw[Nat.mul_one,aMU] at e2;have q1:=i1.q k h3;rw[hw] at q1;obtain⟨b,o,a1,_,a3⟩:=q1.rs.iQ yE (i:=0) (x:=x) rfl .i64;have a1:aQ 4 (w3 w0 w1 w2 k) (.int .i64 0)=some (.pointer (some ⟨b,o,none⟩)):=a1;have a3:=(a3 D1 rfl).1;have a3':ldN 4 (.pointer (some ⟨b,o,none⟩)) D1=some (x.dB,D1):=a3;have st0:stN 4 (.pointer (some ⟨D1.length,0,none⟩)) x.dB (D1++[dM pk0])=some (undef,D3):=by
  rw[Ee x (dF _ _),mR,hD3]
 have q3:=i3.q k h3;rw[hw] at q3;obtain⟨v',g1,g2,g3⟩:=q3.aIS (P:=prog) yE aJ4;have g1:=g1 D3 q3;have st1:stN 1 (.pointer (some ⟨a,k,none⟩)) v' D3=some (undef,D3.set a (.cells (([w0,w1,w2,cv,.int .i64 lanes,.int .i64 queue]:List Value).set k v') 178 .fix)):=sG i3.blk (by decide) (by simp;omega) g2.yD.1 g2.yD.2
 obtain⟨Y,hY⟩: ∃Y,Y=Blk.cells (([w0,w1,w2,cv,.int .i64 lanes,.int .i64 queue]:List Value).set k v') 178 .fix:=⟨_,rfl⟩;rw[<-hY] at st1;have hal:a<D.length:=dA h.blk;have b12:(D3.set a Y)[D1.length]? =some (dM x):=by rw[aMA (by omega),hD3,dF]
 have b00:(D3.set a Y)[D.length]? =some (dM pk0):=by rw[aMA (by omega),hD3,hD1,aMC (by simp),dF]
 have l12:=(pC b12).2;have st2:stN 4 (.pointer (some ⟨D.length,0,none⟩)) x.dB (D3.set a Y)=some (undef,(D3.set a Y).set D.length (dM x)):=xY b00 (by decide) rfl rfl (aME 4) rfl
 have l00:=(pC (iM (y:=dM x) b00)).2;simp -implicitDefEqProofs only[gsR,e0,<-hD1,e1,c1,e2,Ak i1 h3,a1,a3',st0,Ak i3 h3,g1,st1,l12,st2,l00];refine⟨_,rfl,?_⟩;have hE:(D3.set a Y).set D.length (dM x)=(D++[dM x]++[dM x]).set a Y:=by
  rw[List.set_comm _ _ (by omega),hD3,hD1]
  congr 1
  simp
 rw[hE,hY];have he1:Ext D (D++[dM x]):=Fr.app _ _ _;have he:Ext D (D++[dM x]++[dM x]):=he1.tr (Fr.app _ _ _);have q0:=h.q k h3;rw[hw] at q0;refine h.V9 h3 (he.zF λ_ h=>h.elim) ?_ (λb hb=> .inl (g3 b hb)) λj hj hjk=> ?_
 ·rw[D4,if_pos rfl,hw]
  refine g2.wC λb hb=> ?_
  have hb2:=(h.q k h3).uN (g3 b hb);rw[hD3,hD1,aMG,aMC hb2,aMG,aMC hb2]
 ·rw[D4,if_neg (by omega)]
theorem aKb (b o n c:Nat):bin prog .eql 42 (.slice (some ⟨b,o,none⟩) n c) (.slice none 0 0)=some (.bool false):=by
 have h1:prog.underlying 42=some (.slice 31):=by kernel_rfl
 simp[bin,dP,oL,mX,eqV,h1]
theorem aKa:bin prog .eql 42 (.slice none 0 0) (.slice none 0 0)=some (.bool true):=by
 have h1:prog.underlying 42=some (.slice 31):=by kernel_rfl
 simp[bin,dP,oL,mX,eqV,h1]
theorem aJ5 {v:Value}{xs:List Pkt}(hx:Rs Pkt.oE 31 D v xs)(hr:iZ xs.length 32=true)(hm:0<m): ∃H' u,lvl prog pkN m (.func 121) [v] D=some (u,H')/\Ext D H'/\Rw Pkt.oE 31 4 H' u xs/\New D u:=by
 rcases hx with⟨rfl,rfl⟩|⟨b,o,c,hv,hlc,hx2⟩
 ·refine⟨D,.slice none 0 0,cX (cF rfl) hm ?_,Fr.mZ _ _,Rw.lD,New.nB _⟩
  rw[U3];simp -implicitDefEqProofs only[gsR,aKa]
 ·have b0:dL 31 4 0 [.int .i64 0,.int .i64 0,.int .i64 0,.int .u32 0] [] D=some (.slice (some ⟨D.length,0,none⟩) 0 0,D++[.cells [] 31 .row]):=rfl
  have h0:Rw Pkt.oE 31 4 (D++[.cells [] 31 .row]) (.slice (some ⟨D.length,0,none⟩) 0 0) []:=⟨rfl,.inr ⟨D.length,0,[],rfl,aME _,rfl,by simp⟩⟩
  have hx:Rs Pkt.oE 31 D v xs:= .inr ⟨b,o,c,hv,hlc,hx2⟩;obtain⟨u,H',g1,g2,g3,g4⟩:=h0.xK yE Mh (by decide) (by':=32) (H0:=D) (hx.ext (Fr.app _ _ _)) (λb ⟨_,_,_,h⟩=>by cases h;exact aME _) (Fr.app _ _ _) (by simpa using hr)
  refine iK (cF rfl) hm ⟨H',u,?_,g4,g2,g3⟩;subst hv;rw[U3];simp -implicitDefEqProofs only[gsR,aKb,b0,g1]
theorem aJ6 (h:HostI D a L G lanes queue w0 w1 w2 cv)(hm:1<m)(hr:iZ G.length 32=true): ∃H' v,lvl prog pkN m (.func 52) [.pointer (some ⟨a,0,none⟩)] D=some (v,H')/\Ext D H'/\Rw Pkt.oE 31 4 H' v G/\New D v:=by
 obtain⟨H',u,g1,g2⟩:=aJ5 (D:=D) (m:=m-1) h.came.rs hr (by omega)
 refine iK (cF rfl) (by omega) ⟨H',u,?_,g2⟩
 rw[aH1];have l3:ld1 (.pointer (some ⟨a,3,none⟩)) D=some (cv,D):=cK h.blk rfl;simp -implicitDefEqProofs only[gsR,l3,g1]
end
def dT (b n:Nat):Value:= .slice (some ⟨b,0,none⟩) n n
section
variable {H : aA} {m : Nat}
theorem Xg:prog.underlying 187=some (.int .u64):=by kernel_rfl
theorem aKc (hm:1<m)(n:Nat)(hn:n<=16):lvl prog pkN m (.func 237) [.int .u64 1,.int .u64 n] H=some (.tuple #[.int .u64 0,.int .u64 n],H):=by
 have main:lvl prog pkN (m-1) (.func 273) [.int .u64 1,.int .u64 n] H=some (.tuple #[.int .u64 0,.int .u64 n],H):=by
  refine cX (cF rfl) (by omega) ?_
  rw[aHS];have p1:bin prog .and 83 (.int .u64 1) (.int .u64 4294967295)=some (.int .u64 1):=by kernel_rfl
  have p2:bin prog .shr 83 (.int .u64 1) (.int .u64 32)=some (.int .u64 0):=by kernel_rfl
  have p3:bin prog .and 83 (.int .u64 n) (.int .u64 4294967295)=some (.int .u64 n):=by
   have:=vR (P:=prog) .u64 rfl 83 (a:=n) (b:=4294967295) (by show _<18446744073709551616;omega) (by show _<18446744073709551616;omega)
   rw[show n&&&4294967295=n by rw[show(4294967295:Nat)=2 ^ 32-1 from rfl,Nat.and_two_pow_sub_one_eq_mod];exact aM7 (by omega)] at this
   exact this
  have p4:bin prog .shr 83 (.int .u64 n) (.int .u64 32)=some (.int .u64 0):=by
   have:=Cb (P:=prog) .u64 .u64 83 n 32 (by decide)
   rw[Nat.shiftRight_eq_div_pow,Nat.div_eq_of_lt (by omega)] at this
   exact this
  have q1:IntKind.u64.wrap (1*(n:Int))=n:=by rw[Int.one_mul];exact xV n (by omega)
  have q2:IntKind.u64.wrap (0*(n:Int))=0:=by rw[Int.zero_mul];rfl
  have q3:IntKind.u64.wrap (0+0)=0:=rfl;have q4:IntKind.u64.wrap (1*0)=0:=rfl;have q5:IntKind.u64.wrap (0*0)=0:=rfl;have p5:bin prog .and 83 (.int .u64 0) (.int .u64 4294967295)=some (.int .u64 0):=by kernel_rfl
  have p6:bin prog .shr 83 (.int .u64 0) (.int .u64 32)=some (.int .u64 0):=by kernel_rfl
  simp -implicitDefEqProofs only[gsR,p1,p2,p3,p4,Pu,q1,q2,cH,q3,q4,q5,p5,p6]
 refine cX (cF rfl) (by omega) ?_
 rw[aHM];simp -implicitDefEqProofs only[gsR,main]
def kO (n k:Nat):Blk:= .cells (List.replicate k (.int .i64 (-1))++List.replicate (n-k) (.int .i64 0)) 3 .row
theorem aKd (k:Nat):dK (List.replicate k (Value.int .i64 (-1)))=true:=by
 unfold dK;rw[List.all_replicate]
 split<;>rfl
theorem Xf {n k j:Nat}(hj:k+j<=n):eD (List.replicate k (Value.int .i64 (-1))++List.replicate (n-k) (.int .i64 0)) k (List.replicate j (.int .i64 (-1)))=List.replicate (k+j) (.int .i64 (-1))++List.replicate (n-(k+j)) (.int .i64 0):=by
 have:=tW (List.replicate j (Value.int .i64 (-1))) (List.replicate j (.int .i64 0)) (List.replicate k (Value.int .i64 (-1))) (List.replicate (n-(k+j)) (.int .i64 0)) (by simp)
 rw[aNf] at this;rw[show List.replicate (n-k) (Value.int .i64 0)=List.replicate j (.int .i64 0)++List.replicate (n-(k+j)) (.int .i64 0) by rw[List.replicate_append_replicate];congr 1;omega]
 rw[<-aMG,this,List.replicate_append_replicate]
theorem aKe {n k:Nat}(G:aA)(hk:k<=n)(h1:1<=k)(c:Nat):cpy 1 (.slice (some ⟨G.length,k,none⟩) (n-k) c) (.slice (some ⟨G.length,0,none⟩) k n) (G++[kO n k])=some (.int .i64 (min k (n-k):Nat),G++[kO n (k+min k (n-k))]):=by
 have hb:(G++[kO n k])[G.length]? =some (kO n k):=dF _ _;have hs:iS 1 (.slice (some ⟨G.length,0,none⟩) k n) (min k (n-k)) (G++[kO n k])=some (List.replicate (min k (n-k)) (.int .i64 (-1))):=by
  unfold iS;by_cases h0:min k (n-k)=0
  ·simp[h0]
  ·simp only
   rw[if_neg h0,hb];unfold kO;simp only;rw[if_pos (by simp;omega)]
   congr 1
   rw[List.drop_zero,List.take_append_of_le_length (by simp;omega),List.take_replicate]
   congr 1
   omega
 unfold cpy;have h2:lT (.slice (some ⟨G.length,0,none⟩) k n)=some k:=rfl;rw[h2];simp only;rw[hs];simp only;rw[hb];unfold kO;simp only;rw[if_pos ⟨by decide,by simp;omega,aKd _⟩,Xf (by omega),mR]
theorem aKg {n:Nat}(hn:n<=16){G:aA}: ∀(q k l:Nat),n-k=q->k<=n->1<=k->q<l-> ∀(x0 x1 x2 x3 x4 x5 x6 x9 bI cA aP aN aL aM aR aS aO bC bH bV bG bE aT aU aV aW aX aY aZ bA bB bK bL bM bN bO bP bQ bR bS bT cC cD cE cI cP:Value),
  aH l (aI prog (lvl prog pkN m) (aH m) K8) (K9 (lvl prog pkN m) (aH m)) [x0,x1,x2,x3,x4,x5,x6,(dT G.length n),(.int .i64 (k:Nat)),x9,bI,cA,aP,aN,aL,aM,aR,aS,aO,bC,bH,bV,bG,bE,aT,aU,aV,aW,aX,aY,aZ,bA,bB,bK,bL,bM,bN,bO,bP,bQ,bR,bS,bT,cC,cD,cE,cI,cP] (G++[kO n k])=some (dT G.length n,G++[kO n n]):=by
 intro q;induction q using Nat.strongRecOn with
 |ind q ih=>
  intro k l hq hk h1 hl;intros;obtain⟨l,rfl⟩: ∃l',l=l'+1:=⟨l-1,by omega⟩
  have e1:bJ (dT G.length n)=some (.int .i64 n):=rfl;rw[aH,aHn];by_cases hc:k=n
  ·subst hc
   have c1:decide ((k:Int)<(k:Int))=false:=by simp
   simp -implicitDefEqProofs only[gsR,e1,c1];rw[aHr];simp -implicitDefEqProofs only[gsR]
  ·have c1:decide ((k:Int)<(n:Int))=true:=by rw[decide_eq_true_eq];omega
   have hb:(G++[kO n k])[G.length]? =some (kO n k):=dF _ _;have s1:slc prog 1 (dT G.length n) (some (.int .i64 (k:Nat))) none none (G++[kO n k])=some (.slice (some ⟨G.length,k,none⟩) (n-k) (n-k),G++[kO n k]):=by
    have:=sV (P:=prog) (sz:=1) (b:=G.length) (o:=0) (len:=n) (cap:=n) (lo:=some (.int .i64 (k:Nat))) (hi:=none) (mx:=none) hb (λ_=>by kernel_rfl) (nA 0 .i64 k) rfl rfl hk (aME _) (aME _)
    rw[aMU,Nat.mul_one] at this;exact this
   have s2:slc prog 1 (dT G.length n) none (some (.int .i64 (k:Nat))) none (G++[kO n k])=some (.slice (some ⟨G.length,0,none⟩) k n,G++[kO n k]):=by
    have:=sV (P:=prog) (sz:=1) (b:=G.length) (o:=0) (len:=n) (cap:=n) (lo:=none) (hi:=some (.int .i64 (k:Nat))) (mx:=none) hb (λ_=>by kernel_rfl) rfl (nA n .i64 k) rfl (Nat.zero_le _) hk (aME _)
    rw[Nat.zero_mul] at this;exact this
   have s3:=aKe G hk h1 (n-k);have e4:IntKind.i64.wrap ((k:Int)+((min k (n-k):Nat):Int))=((k+min k (n-k):Nat):Int):=by rw[dJ (by omega) (by omega)];omega
   simp -implicitDefEqProofs only[gsR,e1,c1,s1,s2,s3,cH,e4];exact ih (n-(k+min k (n-k))) (by omega) (k+min k (n-k)) l rfl (by omega) (by omega) (by omega) ..
theorem aKf (hm:40<m)(n:Nat)(h1:1<=n)(hn:n<=16){b c:Nat}{e:TypeId}{kk:Kind}(hb:H[b]? =some (.cells [.int .i64 (-1)] e kk)):lvl prog pkN m (.func 179) [.slice (some ⟨b,0,none⟩) 1 c,.int .i64 n] H=some (dT H.length n,H++[kO n n]):=by
 refine cX (cF rfl) (by omega) ?_
 rw[aHs];have c1:decide ((n:Int)<0)=false:=by rw[decide_eq_false_iff_not];omega
 have c2:decide ((0:Int)<0)=false:=rfl;have c3:decide ((9223372036854775807:Int)<(n:Int))=false:=by rw[decide_eq_false_iff_not];omega
 have e0:bJ (.slice (some ⟨b,0,none⟩) 1 c)=some (.int .i64 1):=rfl;have e1:IntKind.u64.wrap (1:Int)=1:=rfl;have e2:IntKind.u64.wrap (n:Int)=n:=xV n (by omega)
 have e3:=aKc (H:=H) (m:=m-1) (by omega) n hn
 have x0:ext 0 (.tuple #[.int .u64 0,.int .u64 n])=some (.int .u64 0):=rfl;have x1:ext 1 (.tuple #[.int .u64 0,.int .u64 n])=some (.int .u64 n):=rfl;have e4:IntKind.i64.wrap (n:Int)=n:=xW n (by omega)
 have mk:=vJ (H:=H) 3 1 8 [.int .i64 0] .i64 .i64 (n:Int) (by omega) (by omega) (by omega) rfl
 have hz:H++[Blk.cells (List.replicate (n:Int).toNat [Value.int .i64 0]).flatten 3 .row]=H++[kO n 0]:=by
  have: ∀n,(List.replicate n [Value.int .i64 0]).flatten=List.replicate n (.int .i64 0):=by
   intro n;induction n with
   |zero=>rfl
   |succ n ih=>rw[List.replicate_succ,aM9,ih];rfl
  rw[aM1,this];rfl
 rw[hz,aM1] at mk;have cp:cpy 1 (.slice (some ⟨H.length,0,none⟩) n n) (.slice (some ⟨b,0,none⟩) 1 c) (H++[kO n 0])=some (.int .i64 (1:Nat),H++[kO n 1]):=by
  have hs:iS 1 (.slice (some ⟨b,0,none⟩) 1 c) 1 (H++[kO n 0])=some [.int .i64 (-1)]:=by
   unfold iS;simp only;rw[if_neg (by decide),nE hb]
   rfl
  unfold cpy;have h2:lT (.slice (some ⟨b,0,none⟩) 1 c)=some 1:=rfl;rw[h2];simp only;rw[Nat.min_eq_left h1,hs];simp only;rw[dF];unfold kO;simp only;rw[if_pos ⟨by decide,by simp;omega,rfl⟩]
  have:=Xf (n:=n) (k:=0) (j:=1) (by omega)
  rw[show List.replicate 1 (Value.int .i64 (-1))=[.int .i64 (-1)] from rfl] at this
  rw[this,mR];rfl
 simp -implicitDefEqProofs only[gsR,c1,c2,c3,e0,eZ _ _ iU Xg,e1,e2,e3,x0,x1,eZ _ _ Xg iU,e4,mk,cp];exact aKg hn (n-1) 1 (m-1) rfl h1 (aME _) (by omega) ..
end
end Go.Proofs.YtmimdleeihjdoaaGreatDoor
namespace Go.Abs
open Classical
def Blks (l:List (Nat×Blk))(D:aA):Prop:= ∀p∈l,D[p.1]? =some p.2
def InB (l:List (Nat×Blk))(b:Nat):Prop:= ∃p∈l,p.1=b
def rD (l:List (Nat×Blk)):Prop:= ∀p∈l,p.2≠Blk.dead
theorem Blks.dx (l:List (Nat×Blk)):DX (Blks l):=λD D' h he p hp=>by
 have h1:=h p hp;rw[he.2 p.1 (aMz.mp h1).1 id,h1]
theorem Blks.aKh {l:List (Nat×Blk)}(hl:rD l):Pos (Blks l):=λD H hs h p hp=>hs.2 p.1 p.2 (h p hp) (hl p hp)
theorem Has.inB {l:List (Nat×Blk)}{F:Nat->Prop}{H:aA}(h:Has (Blks l) F H)(hl:rD l){b:Nat}(hb:InB l b):F b:=by
 obtain⟨p,hp,rfl⟩:=hb;have h1:=h.at_ p hp;refine Classical.byContradiction λhF=> ?_
 have hlt:=(aMz.mp h1).1;rw[rZ] at hlt;rw[tY hF hlt] at h1;exact hl p hp (aNb h1).symm
theorem Has.Eh {l:List (Nat×Blk)}{F:Nat->Prop}{H:aA}(hb:Blks l H)(hF: ∀p∈l,F p.1)(hlt: ∀b,F b->b<H.length):Has (Blks l) F H:=
 ⟨λp hp=>by rw[zG (hF p hp),hb p hp],hlt⟩
theorem Mv.aKi {F:Nat->Prop}{A:Nat->Prop}{H H':aA}(h:Fr A H H')(hA: ∀b,A b->F b):Mv F F H H':=⟨h.1,λ_ hb=> .inl hb,λb hb hF=>h.2 b hb λhh=>hF (hA b hh)⟩
theorem aKk {ι α:Type}(f:ι->α)(i:ι):updI f i (f i)=f:=by
 funext j
 unfold updI;split
 ·rename_i h
  rw[h]
 ·rfl
theorem Sep.aKj {ι:Type}{A:ι->aA->Prop}{F:ι->Nat->Prop}{H H':aA}(h:Sep A F H)(i:ι)(hA: ∀j,j≠i->DX (A j)){l l':List (Nat×Blk)}(hi:A i=Blks l)(hl:rD l)(hsub: ∀p∈l',InB l p.1)(hf:Fr (InB l) H H')(hB:Blks l' H'):
  Sep (updI A i (Blks l')) F H'/\Mv (Un F) (Un F) H H':=by
 have h0:=h.own i;rw[hi] at h0;have hm:Mv (F i) (F i) H H':=Mv.aKi hf λb hb=>h0.inB hl hb
 have h1:Has (Blks l') (F i) H':=Has.Eh hB (λp hp=>h0.inB hl (hsub p hp)) λb hb=>aMO (h0.lt b hb) hf.1
 have h2:=h.Hr i hA h1 hm;rw[aKk] at h2;exact h2
theorem Sep.see {ι:Type}{A:ι->aA->Prop}{F:ι->Nat->Prop}{H:aA}(h:Sep A F H)(i:ι){l:List (Nat×Blk)}(hi:A i=Blks l)(hl:rD l):Blks l H:=by
 have h0:=h.own i;rw[hi] at h0;exact h0.aC4 (Blks.aKh hl)
theorem Sep.wF {ι:Type}{A:ι->aA->Prop}{F:ι->Nat->Prop}{H:aA}(h:Sep A F H)(i:ι){l:List (Nat×Blk)}(hi:A i=Blks l)(hl:rD l){b:Nat}{x:Blk}(hm:(b,x)∈l):H[b]? =some x:=h.see i hi hl _ hm
theorem Sep.Ei {ι:Type}{A:ι->aA->Prop}{F:ι->Nat->Prop}{H H':aA}(h:Sep A F H)(i:ι)(hA: ∀j,DX (A j))(hi: ∀b,¬F i b){B:aA->Prop}{G:Nat->Prop}(hB:Has B G H')(he:Ext H H')(hn: ∀b,G b->H.length<=b):
  Sep (updI A i B) (updI F i G) H':=by
 have hm:Mv (F i) G H H':=⟨he.1,λb hb=> .inr (hn b hb),λb hb _=>he.2 b hb id⟩
 exact(h.Hr i (λj _=>hA j) hB hm).1
theorem Has.Xh {A:aA->Prop}{H:aA}{P:Program}{pr:gO}(hp:FrP pr){n:Nat}{fn:Fn}{args:List Value}{B:Value->aA->Prop}
  (hc: ∀D:aA,D.length=H.length->(∀(b:Nat)(x:Blk),D[b]? =some x->x=Blk.dead)-> ∃r D',lvl P pr n fn args D=some (r,D')/\B r D'):
  ∃r H' G,lvl P pr n fn args H=some (r,H')/\Has (B r) G H'/\Ext H H'/\ ∀b,G b->H.length<=b:=by
 obtain⟨r,D',h1,h2⟩:=hc (rst (λ_=>False) H) (rZ _ _) λb x hb=>by
  have hlt:=(aMz.mp hb).1;rw[rZ] at hlt;rw[tY (λh=>h) hlt] at hb
  cases hb;rfl
 obtain⟨H',F',h3,rfl,h4,h5⟩:=Ra hp h1
 exact⟨r,H',F',h3,⟨h2,h5⟩,h4.Q8.2,h4.Q8.1⟩
end Go.Abs
namespace Go.Abs
theorem qN (p:Nat->Bool){n:Nat}(hn:n<=16):cW p n<65536:=aMO (zL p n) (show 2 ^ n<=2 ^ 16 from Nat.pow_le_pow_right (by omega) hn)
def eF (m:List Int)(n:Nat):Nat:=cW (λi=>decide (m.getD i 0= -1)) n
def jD (m:List Int)(n:Nat):Nat:=cW (λk=>decide ((k:Int)∉m)) n
theorem M7 (n:Nat):cW (λ_=>true) n=2 ^ n-1:=by
 induction n with
 |zero=>rfl
 |succ n ih=>
  rw[cW,ih,if_pos rfl,Nat.pow_succ];have:0<2 ^ n:=Nat.pow_pos (by omega)
  omega
theorem aKt (n:Nat):eF (List.replicate n (-1)) n=2 ^ n-1:=by
 rw[<-M7];refine Ce λi hi=> ?_
 rw[decide_eq_true_eq,aMD,List.getElem?_replicate_of_lt hi];rfl
theorem aKw (n:Nat):jD (List.replicate n (-1)) n=2 ^ n-1:=by
 rw[<-M7];refine Ce λi hi=> ?_
 rw[decide_eq_true_eq];intro h;have:=List.eq_of_mem_replicate h;omega
theorem aKs {m:List Int}{n i k:Nat}(hi:i<n)(hl:m.length=n):eF (m.set i (k:Int)) n=kK (eF m n) (2 ^ i):=by
 apply Nat.eq_of_testBit_eq;intro j;rw[Ht,eF,eF,kC,kC,Nat.testBit_two_pow];by_cases hj:i=j
 ·subst hj
  have:(m.set i (k:Int)).getD i 0=k:=by rw[aMD,aMF (by omega),aM2]
  rw[this];simp
 ·rw[aMD,aMA hj,<-aMD]
  simp[hj]
theorem aKu {m:List Int}{n i k:Nat}(hi:i<n)(hl:m.length=n)(hf:m.getD i 0= -1):jD (m.set i (k:Int)) n=kK (jD m n) (2 ^ k):=by
 apply Nat.eq_of_testBit_eq;intro j;rw[Ht,jD,jD,kC,kC,Nat.testBit_two_pow];have hi':i<m.length:=by omega
 have key:((j:Int)∈m.set i (k:Int))↔((j:Int)∈m∨j=k):=by
  constructor
  ·intro h
   rcases List.mem_or_eq_of_mem_set h with h|h
   ·exact .inl h
   ·exact .inr (by omega)
  ·intro h
   rcases h with h|h
   ·obtain⟨l,hl,he⟩:=List.mem_iff_getElem.mp h
    have hne:l≠i:=by
     intro hh;subst hh;rw[aMD,aMB hl,aM2,he] at hf;omega
    refine List.mem_iff_getElem.mpr ⟨l,by simpa using hl,?_⟩
    rw[List.getElem_set_ne (λhh=>hne hh.symm),he]
   ·subst h
    exact List.mem_set hi' _
 rw[show(decide ((j:Int)∉m.set i (k:Int)))=(decide ((j:Int)∉m)&& !decide (k=j)) by
  rw[Bool.eq_iff_iff];simp only[decide_eq_true_eq,aMH,Bool.not_eq_true',decide_eq_false_iff_not];rw[key];constructor
  ·intro h
   exact⟨λhh=>h (.inl hh),λhh=>h (.inr hh.symm)⟩
  ·rintro ⟨h1,h2⟩ h
   rcases h with h|h
   ·exact h1 h
   ·exact h2 h.symm]
 rw[Bool.and_assoc]
def jL (rows:List Nat)(i k:Nat):Bool:=(rows.getD i 0).testBit k
def grM (gr:Nat->Option Nat)(kk i:Nat):Nat:=cW (λk=>gr k==some i) kk
def grL (gr:Nat->Option Nat)(n kk:Nat):List Nat:=(List.range n).map (grM gr kk)
theorem wG (gr:Nat->Option Nat)(n kk:Nat):(grL gr n kk).length=n:=by simp[grL]
theorem Ap {gr:Nat->Option Nat}{n kk i:Nat}(hi:i<n):(grL gr n kk)[i]? =some (grM gr kk i):=by simp[grL,hi]
theorem aKp (gr:Nat->Option Nat)(n:Nat):grL gr n 0=List.replicate n 0:=by
 apply aNa;intro i;by_cases hi:i<n
 ·rw[Ap hi,List.getElem?_replicate_of_lt hi]
  rfl
 ·rw[aMK (by rw[wG];omega),aMK (by simp;omega)]
theorem Xm {gr:Nat->Option Nat}{kk i:Nat}(h:gr kk≠some i):grM gr (kk+1) i=grM gr kk i:=by
 unfold grM;rw[cW,if_neg (by simpa using h),Nat.add_zero]
theorem aKq {gr:Nat->Option Nat}{kk i:Nat}(h:gr kk=some i):grM gr (kk+1) i=grM gr kk i|||2 ^ kk:=by
 apply Nat.eq_of_testBit_eq;intro j;rw[Rk,grM,grM,kC,kC];by_cases hj:j=kk
 ·subst hj
  simp[h]
 ·by_cases hlt:j<kk
  ·simp[hlt,show j<kk+1 by omega,show¬kk=j by omega]
  ·simp[hlt,show¬j<kk+1 by omega,show¬kk=j by omega]
theorem Xk {gr:Nat->Option Nat}{n kk:Nat}(h: ∀i,i<n->gr kk≠some i):grL gr n (kk+1)=grL gr n kk:=by
 unfold grL;refine List.map_congr_left λi hi=>Xm (h i (aNd.mp hi))
theorem aKo {gr:Nat->Option Nat}{n kk i:Nat}(hi:i<n)(h:gr kk=some i):grL gr n (kk+1)=(grL gr n kk).set i (grM gr kk i|||2 ^ kk):=by
 apply aNa;intro j;by_cases hj:j<n
 ·rw[Ap hj]
  by_cases hij:i=j
  ·subst hij
   rw[aMF (by rw[wG];exact hi),aKq h]
  ·rw[aMA hij,Ap hj,Xm (by rw[h];simp;exact hij)]
 ·rw[aMK (by rw[wG];omega),aMK (by rw[List.length_set,wG];omega)]
theorem Xl (gr:Nat->Option Nat){kk:Nat}(hk:kk<=16)(i:Nat):grM gr kk i<65536:=qN _ hk
theorem aKr {rows:List Nat}{m:List Int}{G:List Nat}{n k:Nat}(hr:rows.length=n)(hk:k<n):
  nC (jL rows) m G n k=if(k:Int)∈m then none else iV (λi=>((iW rows n).getD k 0&&&eF m n).testBit i) (G.getD k 0) n:=by
 unfold nC;split
 ·rfl
 ·refine Cd λi hi=> ?_
  have hc:(iW rows n).getD k 0=cW (λi=>(rows.getD i 0).testBit k) rows.length:=by
   rw[aMD,iW,aMM,aNh hk];rfl
  rw[Nat.testBit_and,hc,eF,kC,kC,hr,decide_eq_true hi,aMW,aMW,jL,Bool.and_comm]
theorem aKv {m:List Int}{n k:Nat}(hk:k<n):(jD m n).testBit k=decide ((k:Int)∉m):=by rw[jD,kC,decide_eq_true hk,aMW]
theorem aKn {rows:List Nat}{n k:Nat}(hr:rows.length<=16)(hk:k<n):(iW rows n).getD k 0<65536:=by
 rw[aMD,iW,aMM,aNh hk];exact qN _ hr
theorem Xn {req:Nat->Nat->Bool}{m:List Int}{G:List Nat}{n k i:Nat}(h:nC req m G n k=some i):m.getD i 0= -1/\i<n:=by
 unfold nC at h
 split at h
 ·cases h
 ·have:=tZ h
  rw[aMH,decide_eq_true_eq] at this
  exact⟨this.2.1,this.1⟩
theorem aKl {req:Nat->Nat->Bool}{n:Nat}{first:Bool}{m0:List Int}{g0:List Nat}{s:Mat}{i:Nat}(hm:s.m.getD i 0=m0.getD i 0):
  acc (nC req m0 g0 n) n first s i=match iV (λk=>(grM (nC req m0 g0 n) n i).testBit k) (s.a.getD i 0) n with
   |none=>s
   |some k=>⟨s.m.set i (k:Int),if first=true then s.g.set k ((i+1)%n) else s.g,if first=true then s.a.set i ((k+1)%n) else s.a⟩:=by
 have e:iV (λk=>(grM (nC req m0 g0 n) n i).testBit k) (s.a.getD i 0) n=iV (λk=>nC req m0 g0 n k==some i) (s.a.getD i 0) n:=Cd λk hk=>by
  rw[grM,kC,decide_eq_true hk,aMW]
 rw[e];unfold acc;split
 ·rfl
 ·rename_i hn
  have:iV (λk=>nC req m0 g0 n k==some i) (s.a.getD i 0) n=none:=by
   rw[Ri];intro k hk;rw[beq_eq_false_iff_ne];intro hh;exact hn (hm.trans (Xn hh).1)
  rw[this]
theorem Xi {gr:Nat->Option Nat}{n:Nat}{first:Bool}: ∀(l:List Nat)(s:Mat),l.Nodup->(∀i∈l,i<s.m.length)->(∀i∈l,s.m.getD i 0= -1->(l.foldl (acc gr n first) s).m.getD i 0= -1)->l.foldl (acc gr n first) s=s
 |[],s,_,_,_=>rfl
 |i::l,s,hn,hl,h=>by
  rw[List.foldl_cons] at h⊢;have hi:=hl i (aMI ..);rw[List.nodup_cons] at hn;rcases Hx (gr:=gr) (n:=n) (first:=first) (s:=s) hi with h1|⟨h1,h2⟩
  ·rw[h1] at h⊢
   exact Xi l s hn.2 (λj hj=>hl j (aMQ _ hj)) λj hj=>h j (aMQ _ hj)
  ·have h3:=zK (gr:=gr) (n:=n) (first:=first) (j:=i) l (acc gr n first s i) hn.1
   exact absurd (h3.symm.trans (h i (aMI ..) h2)) h1
theorem aKy {req:Nat->Nat->Bool}{n:Nat}{first:Bool}{s:Mat}(hl:s.m.length=n)(h:eF (rnd req n first s).m n=eF s.m n):rnd req n first s=s:=by
 refine Xi _ _ List.nodup_range (λi hi=>by rw[aNd] at hi;omega) λi hi h0=> ?_
 rw[aNd] at hi;have h1:(eF (rnd req n first s).m n).testBit i=(eF s.m n).testBit i:=by rw[h]
 rw[eF,eF,kC,kC,decide_eq_true hi,aMW,aMW,decide_eq_true h0,decide_eq_true_eq] at h1;exact h1
theorem aKm (M n:Nat):M&&&(2 ^ n-1)=cW (λi=>M.testBit i) n:=by
 apply Nat.eq_of_testBit_eq;intro i;rw[Nat.testBit_and,kC,<-M7,kC,Bool.and_true,Bool.and_comm]
theorem Xj (p q:Nat->Bool)(n:Nat):cW p n&&&cW q n=cW (λi=>p i&&q i) n:=by
 apply Nat.eq_of_testBit_eq;intro i;rw[Nat.testBit_and,kC,kC,kC];cases decide (i<n)<;>simp
theorem yI (p:Nat->Bool)(n:Nat):cW p n=0↔nL p n=false:=by
 rw[aDo];constructor
 ·intro h
  cases hw:nL p n with
  |false=>rfl
  |true=>
   obtain⟨i,h1,h2⟩:=xN.mp hw;rw[h i h1] at h2;cases h2
 ·intro h i hi
  cases hp:p i with
  |false=>rfl
  |true=>
   rw[xN.mpr ⟨i,hi,hp⟩] at h;cases h
theorem aKx (p:Nat->Bool)(fr n:Nat):iV (λi=>(cW p n).testBit i) fr n=iV p fr n:=Cd λi hi=>by rw[kC,decide_eq_true hi,aMW]
theorem Ek {p:Nat->Bool}{k:Nat}(h:p k=true):cW p (k+1)=cW p k|||2 ^ k:=by
 apply Nat.eq_of_testBit_eq;intro j;rw[Rk,kC,kC];by_cases hj:j=k
 ·subst hj
  simp[h]
 ·by_cases hlt:j<k
  ·simp[hlt,show j<k+1 by omega,show¬k=j by omega]
  ·simp[hlt,show¬j<k+1 by omega,show¬k=j by omega]
theorem Ej {p:Nat->Bool}{k:Nat}(h:p k=false):cW p (k+1)=cW p k:=by rw[cW,h];simp
theorem Xo {p q:Nat->Bool}{n:Nat}(h: ∀i,i<n->p i=q i):nL p n=nL q n:=by
 rw[Bool.eq_iff_iff,xN,xN];constructor
 ·rintro ⟨i,h1,h2⟩
  exact⟨i,h1,by rw[<-h i h1];exact h2⟩
 ·rintro ⟨i,h1,h2⟩
  exact⟨i,h1,by rw[h i h1];exact h2⟩
theorem aKz {W:List Int}{s:Whl}{p q:Nat->Bool}(h: ∀i,i<W.length->p i=q i):j9 W s p=j9 W s q:=by
 have h1:nL p W.length=nL q W.length:=Xo h;have h2: ∀l:List Int,∀i,i<W.length->mG l p i=mG l q i:=λl i hi=>by unfold mG;rw[h i hi]
 have h3:lE W s p=lE W s q:=by unfold lE;rw[Xo (h2 s.l)]
 unfold j9;rw[h1,h3,Cd (h2 _)]
end Go.Abs
namespace Go.Proofs.YtmimdleeihjdoaaGreatDoor
open Go.Proofs.Tryz
open Go.Abs
def eU (zs:List Int)(rest:List Value):Blk:= .cells (zs.map (λz:Int=> .int .i64 z)++rest) 3 .row
def jE (b n c:Nat):Value:= .slice (some ⟨b,0,none⟩) n c
def qO (ww wl wc lc n:Nat)(fr:Nat):Blk:= .cells [jE ww n wc,jE wl n lc,.int .i64 fr] 266 .fix
def kP (wh ww wl wc lc:Nat)(wr lr:List Value)(W:List Int)(x:Whl):List (Nat×Blk):=
 [(wh,qO ww wl wc lc W.length x.fr),(ww,eU W wr),(wl,eU x.l lr)]
theorem Xp: ∀W:List Int,dK (W.map λz:Int=>Value.int .i64 z)=true
 |[]=>rfl
 |_::W=>Xp W
theorem Xr {ww wl wc lc n fr:Nat}{zs:List Int}{lr:List Value}:qO ww wl wc lc n fr≠eU zs lr:=λh=>by
 injection h with _ h2
 revert h2
 decide
section
variable {H : aA} {m : Nat}
theorem aKB (hm:0<m)(M i:Nat)(hM:M<65536)(hi:i<16):lvl prog pkN m (.func 240) [.int .u16 M,.int .i64 i] H=some (.bool (M.testBit i),H):=by
 refine cX (cF rfl) (by omega) ?_
 rw[aHN];have c1:decide ((0:Int)<=(i:Int))=true:=by rw[decide_eq_true_eq];omega
 have c2:decide ((i:Int)<16)=true:=by rw[decide_eq_true_eq];omega
 have e1:bin prog .shr 23 (.int .u16 (M:Int)) (.int .i64 (i:Int))=some (.int .u16 ((M>>>i:Nat):Int)):=Cb .u16 .i64 23 M i (by show i<=16;omega)
 have hlt:M>>>i<65536:=Nat.lt_of_le_of_lt (Nat.shiftRight_le M i) hM;have e2:bin prog .and 23 (.int .u16 ((M>>>i:Nat):Int)) (.int .u16 ((1:Nat):Int))=some (.int .u16 (((M>>>i)&&&1:Nat):Int)):=vR .u16 rfl 23 (by show _<65536;exact hlt) (by show(1:Nat)<65536;omega)
 have e2':bin prog .and 23 (.int .u16 ((M>>>i:Nat):Int)) (.int .u16 1)=some (.int .u16 (((M>>>i)&&&1:Nat):Int)):=e2;have e3:((((M>>>i)&&&1:Nat):Int)==1)=M.testBit i:=by
  rw[Nat.testBit,Nat.and_comm 1];rw[Nat.and_one_is_mod];rcases Nat.mod_two_eq_zero_or_one (M>>>i) with h|h<;>rw[h]<;>rfl
 simp -implicitDefEqProofs only[gsR,c1,c2,e1,e2',e3]
theorem uQ {a i:Nat}(ha:a<65536)(hi:i<16):bin prog .shl 23 (.int .u16 1) (.int .i64 (i:Int))=some (.int .u16 ((2 ^ i:Nat):Int))/\bin prog .or 23 (.int .u16 (a:Int)) (.int .u16 ((2 ^ i:Nat):Int))=some (.int .u16 ((a|||2 ^ i:Nat):Int)):=by
 have hp:=Cf hi;constructor
 ·have:=Ca (P:=prog) .u16 .i64 rfl 23 1 i (by show i<=16;omega)
  rw[Nat.one_mul] at this;rw[show(2:Nat) ^ i%2 ^ IntKind.u16.bits=2 ^ i from aM7 hp] at this
  exact this
 ·exact Hu .u16 rfl _ (by show _<65536;exact ha) (by show _<65536;exact hp)
theorem yJ {wl n c:Nat}{zs:List Int}{lr:List Value}(hb:H[wl]? =some (eU zs lr))(hn:zs.length=n){i:Nat}(hi:i<n):aQ 1 (jE wl n c) (.int .i64 (i:Int))=some (.pointer (some ⟨wl,i,none⟩))/\ld1 (.pointer (some ⟨wl,i,none⟩)) H=some (.int .i64 (zs.getD i 0),H):=by
 constructor
 ·have:=pL 1 wl 0 n c .i64 (i:Int) (by omega) (by omega)
  simpa[jE] using this
 ·refine cK hb ?_
  rw[aMC (by simp;omega),aMM,aMD,aMB (by omega)]
  rfl
theorem aKC {wl lc:Nat}{zs:List Int}{lr:List Value}(hb:H[wl]? =some (eU zs lr))(h3:zs.length<=3): ∀(q i k:Nat),zs.length-i=q->i<=zs.length->q<k-> ∀(x0 x1 x2 x4 x5 x6 x7 x8 aP aN aL aM aR aS aO bC bH bV bG bE:Value),
  aH k (aI prog (lvl prog pkN m) (aH m) Lj) (Lk (lvl prog pkN m) (aH m)) [x0,x1,x2,(.int .u16 (cW (λj=>decide (0<zs.getD j 0)) i:Nat)),x4,x5,x6,x7,x8,(jE wl zs.length lc),(.int .i64 zs.length),(.int .i64 (i:Nat)),aP,aN,aL,aM,aR,aS,aO,bC,bH,bV,bG,bE] H=some (.int .u16 (cW (λj=>decide (0<zs.getD j 0)) zs.length:Nat),H):=by
 intro q;induction q with
 |zero=>
  intro i k hq hi hk;intros;obtain⟨k,rfl⟩: ∃k',k=k'+1:=⟨k-1,by omega⟩
  have hie:i=zs.length:=by omega
  subst hie;have c1:decide ((zs.length:Int)<(zs.length:Int))=false:=by simp
  rw[aH,Va];simp -implicitDefEqProofs only[gsR,c1];rw[aHO];simp -implicitDefEqProofs only[gsR]
 |succ q ih=>
  intro i k hq hi hk;intros;obtain⟨k,rfl⟩: ∃k',k=k'+1:=⟨k-1,by omega⟩
  have c1:decide ((i:Int)<(zs.length:Int))=true:=by rw[decide_eq_true_eq];omega
  obtain⟨a1,a2⟩:=yJ (c:=lc) hb rfl (i:=i) (by omega)
  have e4:IntKind.i64.wrap ((i:Int)+1)=((i+1:Nat):Int):=by rw[dJ (by omega) (by omega)];omega
  rw[aH,Va];by_cases hp:0<zs.getD i 0
  ·obtain⟨e1,e2⟩:=uQ (a:=cW (λj=>decide (0<zs.getD j 0)) i) (i:=i) (qN _ (by omega)) (by omega)
   rw[<-Ek (p:=λj=>decide (0<zs.getD j 0)) (k:=i) (decide_eq_true hp)] at e2
   simp -implicitDefEqProofs only[gsR,c1,a1,a2,decide_eq_true hp,e1,e2,cH,e4];exact ih (i+1) k (by omega) (by omega) (by omega) ..
  ·have e2:=Ej (p:=λj=>decide (0<zs.getD j 0)) (k:=i) (decide_eq_false hp)
   simp -implicitDefEqProofs only[gsR,c1,a1,a2,decide_eq_false hp,cH,e4];rw[<-e2];exact ih (i+1) k (by omega) (by omega) (by omega) ..
theorem Xq (hm:10<m){wh ww wl wc lc n fr:Nat}{zs:List Int}{lr:List Value}(h0:H[wh]? =some (qO ww wl wc lc n fr))(hb:H[wl]? =some (eU zs lr))(hn:zs.length=n)(h3:n<=3):
  lvl prog pkN m (.func 241) [.pointer (some ⟨wh,0,none⟩)] H=some (.int .u16 (cW (λj=>decide (0<zs.getD j 0)) n:Nat),H):=by
 subst hn;refine cX (cF rfl) (by omega) ?_
 rw[aHP];have l1:ld1 (.pointer (some ⟨wh,1,none⟩)) H=some (jE wl zs.length lc,H):=cK h0 rfl;have l2:bJ (jE wl zs.length lc)=some (.int .i64 zs.length):=rfl;simp -implicitDefEqProofs only[gsR,l1,l2];exact aKC hb h3 zs.length 0 (m-1) (by omega) (by omega) (by omega) ..
theorem aKA {wl ww n lc wc:Nat}{l W:List Int}{lr wr:List Value}(hn:n=W.length)(b2:H[wl]? =some (eU l lr))(b1:H[ww]? =some (eU W wr))(hl:l.length=W.length):cpy 1 (jE wl n lc) (jE ww n wc) H=some (.int .i64 n,H.set wl (eU W lr)):=by
 subst hn;have hs:iS 1 (jE ww W.length wc) W.length H=some (W.map λz:Int=> .int .i64 z):=by
  unfold iS jE;simp only;split
  ·rename_i h0
   rw[aMR.mp h0];rfl
  ·rw[b1]
   unfold eU;simp only;rw[if_pos ⟨aME _,by simp⟩,List.drop_zero,List.take_append_of_le_length (by simp)]
   congr 1
   rw[List.take_of_length_le (by simp)]
 unfold cpy;have h2:lT (jE ww W.length wc)=some W.length:=rfl;rw[h2];simp only[jE];have hs':=hs;unfold jE at hs';rw[Nat.min_self,hs'];simp only;rw[b2];unfold eU;simp only;have:=tW (W.map λz:Int=>Value.int .i64 z) (l.map λz:Int=>Value.int .i64 z) [] lr (by simp[hl])
 rw[List.nil_append,List.nil_append,List.length_nil] at this;rw[if_pos ⟨by decide,by simp;omega,Xp W⟩,this]
def oS (o:Option Nat):Value:= .int .i64 (match o with|some k=>(k:Int)|none=> -1)
theorem Aq (k:IntKind)(n:Int)(H':aA):chk (some (Value.int k n,H')) (.int k n)=true:=by simp[chk,veq]
theorem aKD (hm:20<m){wh ww wl wc lc:Nat}{wr lr:List Value}{W:List Int}{x:Whl}(hB:Blks (kP wh ww wl wc lc wr lr W x) H)(hne:ww≠wl)(hx:WhlI W.length x)(hW: ∀y∈W,0<y/\y<=5)(h1:1<=W.length)(h3:W.length<=3)(M:Nat)(hM:M<65536):
  ∃H',lvl prog pkN m (.func 184) [.pointer (some ⟨wh,0,none⟩),.int .u16 M] H=some (oS (j9 W x λi=>M.testBit i).1,H')/\Fr (λb=>b=wh∨b=wl) H H'/\Blks (kP wh ww wl wc lc wr lr W (j9 W x λi=>M.testBit i).2) H':=by
 have b0:H[wh]? =some (qO ww wl wc lc W.length x.fr):=hB _ (aMI ..);have b1:H[ww]? =some (eU W wr):=hB (ww,eU W wr) (by simp[kP])
 have b2:H[wl]? =some (eU x.l lr):=hB (wl,eU x.l lr) (by simp[kP])
 have n01:wh≠ww:=λh=>by rw[h,b1] at b0;exact Xr (aNb b0).symm
 have n02:wh≠wl:=λh=>by rw[h,b2] at b0;exact Xr (aNb b0).symm
 obtain⟨n,hn⟩: ∃n,n=W.length:=⟨_,rfl⟩;have hxl:=hx.len;have hxf:=hx.fr;obtain⟨p,hp⟩: ∃p:Nat->Bool,p=λi=>M.testBit i:=⟨_,rfl⟩
 rw[<-hp];refine kJ (cF rfl) (by omega) ?_
 rw[aHA];have l0:ld1 (.pointer (some ⟨wh,0,none⟩)) H=some (jE ww W.length wc,H):=cK b0 rfl;have l0':bJ (jE ww W.length wc)=some (.int .i64 W.length):=rfl;have hpow:2 ^ W.length<65536:=Cf (by omega)
 have hpos:0<2 ^ W.length:=Nat.pow_pos (by omega)
 have e1:=(uQ (a:=0) (i:=W.length) (by omega) (by omega)).1
 have e2:IntKind.u16.wrap ((2 ^ W.length:Nat)-(1:Int))=((2 ^ W.length-1:Nat):Int):=by rw[zI];omega
 have e3:bin prog .and 23 (.int .u16 (M:Int)) (.int .u16 ((2 ^ W.length-1:Nat):Int))=some (.int .u16 ((cW p W.length:Nat):Int)):=by
  rw[vR .u16 rfl _ (by show _<65536;exact hM) (by show _<65536;omega),aKm,hp]
 have hml: ∀q:Nat->Bool,cW q W.length<65536:=λq=>qN q (by omega)
 by_cases ha:nL p W.length=true
 ·have c1:(((cW p W.length:Nat):Int)==0)=false:=by
   rw[beq_eq_false_iff_ne];intro h;have:=(yI p W.length).mp (by omega)
   rw[ha] at this;cases this
  have s1:=Xq (m:=m-1) (by omega) b0 b2 hxl h3
  have a1:bin prog .and 23 (.int .u16 ((cW p W.length:Nat):Int)) (.int .u16 ((cW (λj=>decide (0<x.l.getD j 0)) W.length:Nat):Int))=some (.int .u16 ((cW (mG x.l p) W.length:Nat):Int)):=by
   rw[vR .u16 rfl _ (by show _<65536;exact hml _) (by show _<65536;exact hml _),Xj]
   rfl
  obtain⟨i,hi,hil,hip,hip2⟩:=aDk (s:=x) (λy hy=>(hW y hy).1) ha
  have hres:j9 W x p=(some i,⟨(lE W x p).set i ((lE W x p).getD i 0-1),(i+1)%W.length⟩):=by
   unfold j9;rw[if_pos ha,hi]
  have hpk: ∀G:aA,lvl prog pkN (m-1) (.func 182) [.int .u16 ((cW (mG (lE W x p) p) W.length:Nat):Int),.int .i64 x.fr,.int .i64 W.length] G=some (.int .i64 i,G):=λG=>by
   rw[I5 _ (by omega),Hy (hml _) (by omega) hxf,aKx,hi]
  have e5:IntKind.i64.wrap ((i:Int)+1)=((i+1:Nat):Int):=by rw[dJ (by omega) (by omega)];omega
  have e6:bin prog .rem 3 (.int .i64 ((i+1:Nat):Int)) (.int .i64 W.length)=some (.int .i64 (((i+1)%W.length:Nat):Int)):=uF (i+1) W.length _ rfl (by omega)
  rw[hres];by_cases hc:nL (mG x.l p) W.length=true
  ·have hf:lE W x p=x.l:=by unfold lE;rw[if_pos hc]
   rw[hf] at hpk hip2⊢;have c2:(((cW (mG x.l p) W.length:Nat):Int)==0)=false:=by
    rw[beq_eq_false_iff_ne];intro h;have:=(yI (mG x.l p) W.length).mp (by omega)
    rw[hc] at this;cases this
   have l2:ld1 (.pointer (some ⟨wh,2,none⟩)) H=some (.int .i64 x.fr,H):=cK b0 rfl;have l1:ld1 (.pointer (some ⟨wh,1,none⟩)) H=some (jE wl W.length lc,H):=cK b0 rfl;obtain⟨g1,g2⟩:=yJ (c:=lc) b2 hxl hil;have hle:x.l.getD i 0<=5:=by
    have:i<x.l.length:=by omega
    rw[aMD,aMB this,aM2]
    exact(hx.wt _ (List.getElem_mem this)).2
   have e7:IntKind.i64.wrap (x.l.getD i 0-1)=x.l.getD i 0-1:=dJ (by omega) (by omega)
   have st1:stN 1 (.pointer (some ⟨wl,i,none⟩)) (.int .i64 (x.l.getD i 0-1)) H=some (undef,H.set wl (eU (x.l.set i (x.l.getD i 0-1)) lr)):=by
    rw[lG b2 (by decide) (by simp;omega),List.set_append_left _ _ (by simp;omega),<-List.map_set]
    rfl
   have b0':(H.set wl (eU (x.l.set i (x.l.getD i 0-1)) lr))[wh]? =some (qO ww wl wc lc W.length x.fr):=by rw[aMA (λh=>n02 h.symm),b0]
   have st2:stN 1 (.pointer (some ⟨wh,2,none⟩)) (.int .i64 (((i+1)%W.length:Nat):Int)) (H.set wl (eU (x.l.set i (x.l.getD i 0-1)) lr))=some (undef,(H.set wl (eU (x.l.set i (x.l.getD i 0-1)) lr)).set wh (qO ww wl wc lc W.length ((i+1)%W.length))):=lG b0' (by decide) (by simp)
   simp -implicitDefEqProofs only[gsR,l0,l0',e1,gJ,e2,e3,c1,s1,a1,c2,l2,Aq,hpk,l1,g1,g2,e7,st1,cH,e5,e6,st2];refine⟨_,rfl,⟨by simp,λb hb hbn=> ?_⟩,λq hq=> ?_⟩
   ·rw[aMA (λh=>hbn (.inl h.symm)),aMA (λh=>hbn (.inr h.symm))]
   ·simp only[kP,aMS,aMZ,or_false] at hq
    rcases hq with rfl|rfl|rfl
    ·exact iM b0'
    ·rw[aMA n01,aMA hne.symm,b1]
    ·rw[aMA n02]
     exact iM b2
  ·have hf:lE W x p=W:=by unfold lE;rw[if_neg hc]
   rw[hf] at hpk hip2⊢;have c2:(((cW (mG x.l p) W.length:Nat):Int)==0)=true:=by
    rw[beq_iff_eq];have:=(yI (mG x.l p) W.length).mpr (by simpa using hc)
    omega
   have l1:ld1 (.pointer (some ⟨wh,1,none⟩)) H=some (jE wl W.length lc,H):=cK b0 rfl;obtain⟨H1,hH1⟩: ∃H1,H1=H.set wl (eU W lr):=⟨_,rfl⟩;have cp:cpy 1 (jE wl W.length lc) (jE ww W.length wc) H=some (.int .i64 W.length,H1):=by rw[hH1];exact aKA rfl b2 b1 hxl
   have b01:H1[wh]? =some (qO ww wl wc lc W.length x.fr):=by rw[hH1,aMA (λh=>n02 h.symm),b0]
   have b11:H1[ww]? =some (eU W wr):=by rw[hH1,aMA hne.symm,b1]
   have b21:H1[wl]? =some (eU W lr):=by rw[hH1];exact iM b2
   have s2:=Xq (m:=m-1) (by omega) b01 b21 rfl h3
   have a2:bin prog .and 23 (.int .u16 ((cW p W.length:Nat):Int)) (.int .u16 ((cW (λj=>decide (0<W.getD j 0)) W.length:Nat):Int))=some (.int .u16 ((cW (mG W p) W.length:Nat):Int)):=by
    rw[vR .u16 rfl _ (by show _<65536;exact hml _) (by show _<65536;exact hml _),Xj]
    rfl
   have l2:ld1 (.pointer (some ⟨wh,2,none⟩)) H1=some (.int .i64 x.fr,H1):=cK b01 rfl;have l11:ld1 (.pointer (some ⟨wh,1,none⟩)) H1=some (jE wl W.length lc,H1):=cK b01 rfl;obtain⟨g1,g2⟩:=yJ (c:=lc) b21 rfl hil;have hle:W.getD i 0<=5:=by
    rw[aMD,aMB hil,aM2]
    exact(hW _ (List.getElem_mem hil)).2
   have e7:IntKind.i64.wrap (W.getD i 0-1)=W.getD i 0-1:=dJ (by omega) (by omega)
   have st1:stN 1 (.pointer (some ⟨wl,i,none⟩)) (.int .i64 (W.getD i 0-1)) H1=some (undef,H1.set wl (eU (W.set i (W.getD i 0-1)) lr)):=by
    rw[lG b21 (by decide) (by simp;omega),List.set_append_left _ _ (by simp;omega),<-List.map_set]
    rfl
   have b0':(H1.set wl (eU (W.set i (W.getD i 0-1)) lr))[wh]? =some (qO ww wl wc lc W.length x.fr):=by rw[aMA (λh=>n02 h.symm),b01]
   have st2:stN 1 (.pointer (some ⟨wh,2,none⟩)) (.int .i64 (((i+1)%W.length:Nat):Int)) (H1.set wl (eU (W.set i (W.getD i 0-1)) lr))=some (undef,(H1.set wl (eU (W.set i (W.getD i 0-1)) lr)).set wh (qO ww wl wc lc W.length ((i+1)%W.length))):=lG b0' (by decide) (by simp)
   simp -implicitDefEqProofs only[gsR,l0,l0',e1,gJ,e2,e3,c1,s1,a1,c2,l1,cp,s2,a2,l2,Aq,hpk,l11,g1,g2,e7,st1,cH,e5,e6,st2];refine⟨_,rfl,⟨by simp[hH1],λb hb hbn=> ?_⟩,λq hq=> ?_⟩
   ·rw[aMA (λh=>hbn (.inl h.symm)),aMA (λh=>hbn (.inr h.symm)),hH1,aMA (λh=>hbn (.inr h.symm))]
   ·simp only[kP,aMS,aMZ,or_false] at hq
    rcases hq with rfl|rfl|rfl
    ·exact iM b0'
    ·rw[aMA n01,aMA hne.symm,b11]
    ·rw[aMA n02]
     exact iM b21
 ·have c1:(((cW p W.length:Nat):Int)==0)=true:=by
   rw[beq_iff_eq];have:=(yI p W.length).mpr (by simpa using ha)
   omega
  have hres:j9 W x p=(none,x):=by
   unfold j9;rw[if_neg ha]
  rw[hres];simp -implicitDefEqProofs only[gsR,l0,l0',e1,gJ,e2,e3,c1]
  exact⟨_,rfl,Fr.mZ _ _,hB⟩
end
def tF (zs:List Nat):List Int:=zs.map λz:Nat=>(z:Int)
def fN (zs:List Nat):Blk:=eU (tF zs) []
def fO (zs:List Nat):Blk:= .cells (zs.map λz:Nat=> .int .u16 (z:Int)) 23 .row
def pV (ga aa n:Nat):Blk:= .cells [dT ga n,dT aa n] 269 .fix
def iO (ab ga aa:Nat)(g a:List Nat):List (Nat×Blk):=[(ab,pV ga aa g.length),(ga,fN g),(aa,fN a)]
def stB (mb n ins outs:Nat):Blk:= .cells [dT mb n,.int .u16 ins,.int .u16 outs] 283 .fix
theorem Xt (zs:List Nat):(tF zs).length=zs.length:=by simp[tF]
theorem aKG (zs:List Nat)(i:Nat):(tF zs).getD i 0=((zs.getD i 0:Nat):Int):=by
 unfold tF;rw[aMD,aMD,aMM];cases zs[i]? <;>rfl
theorem aKH (zs:List Nat)(i z:Nat):tF (zs.set i z)=(tF zs).set i (z:Int):=by simp[tF,List.map_set]
theorem Xs {zs:List Nat}{n i:Nat}(h: ∀z∈zs,z<n)(hi:i<zs.length):zs.getD i 0<n:=by
 rw[aMD,aMB hi];exact h _ (List.getElem_mem hi)
section
variable {H : aA} {m : Nat}
theorem El {b n:Nat}{zs:List Nat}(hb:H[b]? =some (fN zs))(hn:zs.length=n){i:Nat}(hi:i<n):aQ 1 (dT b n) (.int .i64 (i:Int))=some (.pointer (some ⟨b,i,none⟩))/\ld1 (.pointer (some ⟨b,i,none⟩)) H=some (.int .i64 (zs.getD i 0:Nat),H):=by
 have:=yJ (c:=n) hb ((Xt zs).trans hn) hi;rw[aKG] at this;exact this
theorem Em {b n c:Nat}{zs:List Nat}(hb:H[b]? =some (fO zs))(hn:zs.length=n){i:Nat}(hi:i<n):aQ 1 (.slice (some ⟨b,0,none⟩) n c) (.int .i64 (i:Int))=some (.pointer (some ⟨b,i,none⟩))/\ld1 (.pointer (some ⟨b,i,none⟩)) H=some (.int .u16 (zs.getD i 0:Nat),H):=by
 constructor
 ·have:=pL 1 b 0 n c .i64 (i:Int) (by omega) (by omega)
  simpa using this
 ·refine cK hb ?_
  rw[aMM,aMD,aMB (by omega)]
  rfl
theorem Xu {b i:Nat}{zs:List Int}{lr:List Value}(z:Int)(hb:H[b]? =some (eU zs lr))(hi:i<zs.length):stN 1 (.pointer (some ⟨b,i,none⟩)) (.int .i64 z) H=some (undef,H.set b (eU (zs.set i z) lr)):=by
 rw[lG hb (by decide) (by simp;omega),List.set_append_left _ _ (by simp;omega),<-List.map_set]
 rfl
theorem Xv {b i:Nat}{zs:List Nat}(z:Nat)(hb:H[b]? =some (fN zs))(hi:i<zs.length):stN 1 (.pointer (some ⟨b,i,none⟩)) (.int .i64 z) H=some (undef,H.set b (fN (zs.set i z))):=by
 rw[Xu (z:Int) hb (by rw[Xt];exact hi),<-aKH]
 rfl
theorem Xw {b i:Nat}{zs:List Nat}(z:Nat)(hb:H[b]? =some (fO zs))(hi:i<zs.length):stN 1 (.pointer (some ⟨b,i,none⟩)) (.int .u16 z) H=some (undef,H.set b (fO (zs.set i z))):=by
 rw[lG hb (by decide) (by simp;omega),<-List.map_set]
 rfl
theorem nU (i:Nat)(hi:i<1000):IntKind.i64.wrap ((i:Int)+1)=((i+1:Nat):Int):=by rw[dJ (by omega) (by omega)];omega
section
variable {ab ga aa sb mb cb : Nat} {rows : List Nat} {M : List Int} {g a : List Nat} {n : Nat}
theorem aKF (hB:Blks (iO ab ga aa g a) H)(hs:H[sb]? =some (stB mb n (eF M n) (jD M n)))(hc:H[cb]? =some (fO (iW rows n)))(hg:g.length=n)(hgl: ∀z∈g,z<n)(hr:rows.length=n)(hM:M.length=n)(h1:1<=n)(h16:n<=16)(hm:2<m):
  ∀(q i k:Nat),n-i=q->i<=n->q<k-> ∀(x3 x4 x5 x6 x8 x9 bI cA aP aN aS aO bC bH bV bG bE aT aU aV aW aX aY aZ bA bB bK bL bM bN bO bP bQ bR bS bT cC cD cE cI cP cR cS cM cN cO cQ cV cT cU:Value),
  aH k (aI prog (lvl prog pkN m) (aH m) La) (Lb (lvl prog pkN m) (aH m)) [(.pointer (some ⟨ab,0,none⟩)),(.pointer (some ⟨sb,0,none⟩)),(dT cb n),x3,x4,x5,x6,(dT H.length n),x8,x9,bI,cA,aP,aN,(dT cb n),(.int .i64 n),(.int .i64 (i:Nat)),aS,aO,bC,bH,bV,bG,bE,aT,aU,aV,aW,aX,aY,aZ,bA,bB,bK,bL,bM,bN,bO,bP,bQ,bR,bS,bT,cC,cD,cE,cI,cP,cR,cS,cM,cN,cO,cQ,cV,cT,cU] (H++[fO (grL (nC (jL rows) M g n) n i)])=some (dT H.length n,H++[fO (grL (nC (jL rows) M g n) n n)]):=by
 obtain⟨gr,hgr⟩: ∃gr,gr=nC (jL rows) M g n:=⟨_,rfl⟩;rw[<-hgr];have b0:H[ab]? =some (pV ga aa n):=by rw[<-hg];exact hB _ (aMI ..)
 have b1:H[ga]? =some (fN g):=hB (ga,fN g) (by simp[iO])
 intro q;induction q with
 |zero=>
  intro i k hq hi hk;intros;obtain⟨k,rfl⟩: ∃k',k=k'+1:=⟨k-1,by omega⟩
  have hie:i=n:=by omega
  subst hie;have c1:decide ((i:Int)<(i:Int))=false:=by simp
  rw[aH,U6];simp -implicitDefEqProofs only[gsR,c1];rw[aHw];simp -implicitDefEqProofs only[gsR]
 |succ q ih=>
  intro i k hq hi hk;intros;obtain⟨k,rfl⟩: ∃k',k=k'+1:=⟨k-1,by omega⟩
  have hin:i<n:=by omega
  have c1:decide ((i:Int)<(n:Int))=true:=by rw[decide_eq_true_eq];omega
  obtain⟨G,hG⟩: ∃G,G=H++[fO (grL gr n i)]:=⟨_,rfl⟩;have e0:G[ab]? =some (pV ga aa n):=by rw[hG];exact nE b0 _
  have e1:G[ga]? =some (fN g):=by rw[hG];exact nE b1 _
  have e2:G[sb]? =some (stB mb n (eF M n) (jD M n)):=by rw[hG];exact nE hs _
  have e3:G[cb]? =some (fO (iW rows n)):=by rw[hG];exact nE hc _
  have e4:G[H.length]? =some (fO (grL gr n i)):=by rw[hG];exact dF _ _
  obtain⟨a1,a2⟩:=Em (c:=n) e3 (aDl _ _) hin;have a1:aQ 1 (dT cb n) (.int .i64 (i:Int))=some (.pointer (some ⟨cb,i,none⟩)):=a1;have l1:ld1 (.pointer (some ⟨sb,1,none⟩)) G=some (.int .u16 (eF M n:Nat),G):=cK e2 rfl;have l2:ld1 (.pointer (some ⟨sb,2,none⟩)) G=some (.int .u16 (jD M n:Nat),G):=cK e2 rfl;have l0:ld1 (.pointer (some ⟨ab,0,none⟩)) G=some (dT ga n,G):=cK e0 rfl;obtain⟨a3,a4⟩:=El e1 hg hin;have hcl:(iW rows n).getD i 0<65536:=aKn (by omega) hin
  have hil:eF M n<65536:=qN _ h16;have hol:jD M n<65536:=qN _ h16;have a5:bin prog .and 23 (.int .u16 ((iW rows n).getD i 0:Nat)) (.int .u16 (eF M n:Nat))=some (.int .u16 ((iW rows n).getD i 0&&&eF M n:Nat)):=vR .u16 rfl _ (by show _<65536;exact hcl) (by show _<65536;exact hil)
  have hal:(iW rows n).getD i 0&&&eF M n<65536:=Nat.lt_of_le_of_lt Nat.and_le_left hcl;have a6:bJ (dT cb n)=some (.int .i64 n):=rfl;have hgi:g.getD i 0<n:=Xs hgl (by omega)
  have a7:lvl prog pkN m (.func 182) [.int .u16 ((iW rows n).getD i 0&&&eF M n:Nat),.int .i64 (g.getD i 0:Nat),.int .i64 n] G=some (oS (iV (λj=>((iW rows n).getD i 0&&&eF M n).testBit j) (g.getD i 0) n),G):=by
   rw[I5 _ (by omega),Hy hal h16 hgi]
   rfl
  have hgm:gr i=if(i:Int)∈M then none else iV (λj=>((iW rows n).getD i 0&&&eF M n).testBit j) (g.getD i 0) n:=by rw[hgr];exact aKr hr hin
  have e9:=nU i (by omega)
  rw[aH,U6];rw[<-hG];cases hp:iV (λj=>((iW rows n).getD i 0&&&eF M n).testBit j) (g.getD i 0) n with
  |none=>
   rw[hp] at a7 hgm;have hno:gr i=none:=by rw[hgm];split<;>rfl
   have c2:((-1:Int)!= -1)=false:=rfl;have hL:=Xk (gr:=gr) (n:=n) (kk:=i) (λj _=>by rw[hno];simp)
   simp -implicitDefEqProofs only[gsR,c1,a1,a2,l1,a5,l0,a3,a4,a6,a7,oS,c2,cH,e9];rw[hG,<-hL];exact ih (i+1) k (by omega) (by omega) (by omega) ..
  |some j=>
   rw[hp] at a7 hgm;have hjn:=(tZ hp).1;have c2:(((j:Int))!= -1)=true:=by rw[bne_iff_ne];omega
   have c3:=aKB (H:=G) (m:=m) (by omega) (jD M n) i hol (by omega)
   rw[aKv hin] at c3;by_cases hmem:(i:Int)∈M
   ·have hno:gr i=none:=by rw[hgm,if_pos hmem]
    have hL:=Xk (gr:=gr) (n:=n) (kk:=i) (λj _=>by rw[hno];simp)
    rw[decide_eq_false (not_not_intro hmem)] at c3;simp -implicitDefEqProofs only[gsR,c1,a1,a2,l1,a5,l0,a3,a4,a6,a7,oS,c2,l2,c3,cH,e9];rw[hG,<-hL];exact ih (i+1) k (by omega) (by omega) (by omega) ..
   ·have hyes:gr i=some j:=by rw[hgm,if_neg hmem]
    have hL:=aKo (n:=n) (kk:=i) hjn hyes;rw[decide_eq_true hmem] at c3;obtain⟨a8,a9⟩:=Em (c:=n) e4 (wG _ _ _) hjn;have hv:(grL gr n i).getD j 0=grM gr i j:=by rw[aMD,Ap hjn];rfl
    rw[hv] at a9;obtain⟨s1,s2⟩:=uQ (a:=grM gr i j) (i:=i) (Xl _ (by omega) _) (by omega)
    have st:=Xw (grM gr i j|||2 ^ i) e4 (i:=j) (by rw[wG];exact hjn)
    rw[<-hL] at st;have a8':aQ 1 (dT H.length n) (.int .i64 (j:Int))=some (.pointer (some ⟨H.length,j,none⟩)):=a8;simp -implicitDefEqProofs only[gsR,c1,a1,a2,l1,a5,l0,a3,a4,a6,a7,oS,c2,l2,c3,a8',a9,s1,s2,st,cH,e9];rw[hG,mR];exact ih (i+1) k (by omega) (by omega) (by omega) ..
theorem aKE (hB:Blks (iO ab ga aa g a) H)(hs:H[sb]? =some (stB mb n (eF M n) (jD M n)))(hc:H[cb]? =some (fO (iW rows n)))(hg:g.length=n)(hgl: ∀z∈g,z<n)(hr:rows.length=n)(hM:M.length=n)(h1:1<=n)(h16:n<=16)(hm:30<m):
  lvl prog pkN m (.func 181) [.pointer (some ⟨ab,0,none⟩),.pointer (some ⟨sb,0,none⟩),dT cb n] H=some (dT H.length n,H++[fO (grL (nC (jL rows) M g n) n n)]):=by
 refine cX (cF rfl) (by omega) ?_
 rw[aHx];have a6:bJ (dT cb n)=some (.int .i64 n):=rfl;have mk:=vJ (H:=H) 23 1 2 [.int .u16 0] .i64 .i64 (n:Int) (by omega) (by omega) (by omega) rfl
 have hz:H++[Blk.cells (List.replicate (n:Int).toNat [Value.int .u16 0]).flatten 23 .row]=H++[fO (grL (nC (jL rows) M g n) n 0)]:=by
  have: ∀n,(List.replicate n [Value.int .u16 0]).flatten=List.replicate n (.int .u16 0):=by
   intro n;induction n with
   |zero=>rfl
   |succ n ih=>rw[List.replicate_succ,aM9,ih];rfl
  rw[aM1,this,aKp,fO,List.map_replicate];rfl
 rw[hz,aM1] at mk;simp -implicitDefEqProofs only[gsR,a6,mk];exact aKF hB hs hc hg hgl hr hM h1 h16 (by omega) n 0 (m-1) rfl (by omega) (by omega) ..
end
end
structure RunS (H:aA)(ab ga aa sb mb cb:Nat)(rows:List Nat)(n:Nat)(s:Mat):Prop where
 arb:Blks (iO ab ga aa s.g s.a) H
 st:H[sb]? =some (stB mb n (eF s.m n) (jD s.m n))
 mt:H[mb]? =some (eU s.m [])
 cols:H[cb]? =some (fO (iW rows n))
section
variable {H : aA} {m : Nat} {ab ga aa sb mb cb : Nat} {rows : List Nat} {n : Nat} {s : Mat}
theorem RunS.ext {H':aA}(h:RunS H ab ga aa sb mb cb rows n s)(he:Ext H H'):RunS H' ab ga aa sb mb cb rows n s:=
 ⟨Blks.dx _ _ _ h.arb he,by rw[he.2 _ (dA h.st) id,h.st],by rw[he.2 _ (dA h.mt) id,h.mt],by rw[he.2 _ (dA h.cols) id,h.cols]⟩
theorem yK {zs:List Nat}{ws:List Int}{lr:List Value}:fO zs≠eU ws lr:=λh=>by
 injection h with _ h2
 revert h2
 decide
theorem M9 {mb n i o:Nat}{ws:List Int}{lr:List Value}:stB mb n i o≠eU ws lr:=λh=>by
 injection h with _ h2
 revert h2
 decide
theorem Xy {mb n i o:Nat}{zs:List Nat}:stB mb n i o≠fO zs:=λh=>by
 injection h with _ h2
 revert h2
 decide
theorem M8 {ga aa n:Nat}{ws:List Int}{lr:List Value}:pV ga aa n≠eU ws lr:=λh=>by
 injection h with _ h2
 revert h2
 decide
theorem aKJ {ga aa n mb k i o:Nat}:pV ga aa n≠stB mb k i o:=λh=>by
 injection h with _ h2
 revert h2
 decide
theorem Xx {a i:Nat}(ha:a<65536)(hi:i<16):bin prog .andNot 23 (.int .u16 (a:Int)) (.int .u16 ((2 ^ i:Nat):Int))=some (.int .u16 ((kK a (2 ^ i):Nat):Int)):=
 Rc .u16 rfl _ (by show _<65536;exact ha) (by show _<65536;exact Cf hi)
theorem RunS.aKI (h:RunS H ab ga aa sb mb cb rows n s)(hI:MatI n s)(hn:1<=n)(hne:ga≠aa)(hma:mb≠ga)(hmb:mb≠aa)(first:Bool){i k:Nat}(hi:i<n)(hk:k<n)(hf:s.m.getD i 0= -1):
  let H1:=H.set mb (eU (s.m.set i (k:Int)) [])
  let H2:=H1.set sb (stB mb n (kK (eF s.m n) (2 ^ i)) (jD s.m n))
  let H3:=H2.set sb (stB mb n (kK (eF s.m n) (2 ^ i)) (kK (jD s.m n) (2 ^ k)))
  let H4:=H3.set ga (fN (s.g.set k ((i+1)%n)))
  let H5:=H4.set aa (fN (s.a.set i ((k+1)%n)))
  H1[sb]? =some (stB mb n (eF s.m n) (jD s.m n))/\H2[sb]? =some (stB mb n (kK (eF s.m n) (2 ^ i)) (jD s.m n))/\
  RunS H3 ab ga aa sb mb cb rows n ⟨s.m.set i (k:Int),s.g,s.a⟩/\H4[aa]? =some (fN s.a)/\RunS H5 ab ga aa sb mb cb rows n ⟨s.m.set i (k:Int),s.g.set k ((i+1)%n),s.a.set i ((k+1)%n)⟩:=by
 intro H1 H2 H3 H4 H5;have b0:H[ab]? =some (pV ga aa s.g.length):=h.arb _ (aMI ..);have b1:H[ga]? =some (fN s.g):=h.arb (ga,fN s.g) (by simp[iO])
 have b2:H[aa]? =some (fN s.a):=h.arb (aa,fN s.a) (by simp[iO])
 have nsm:sb≠mb:=λhh=>by have:=h.st;rw[hh,h.mt] at this;exact M9 (aNb this).symm
 have nsg:sb≠ga:=λhh=>by have:=h.st;rw[hh,b1] at this;exact M9 (aNb this).symm
 have nsa:sb≠aa:=λhh=>by have:=h.st;rw[hh,b2] at this;exact M9 (aNb this).symm
 have nsc:sb≠cb:=λhh=>by have:=h.st;rw[hh,h.cols] at this;exact Xy (aNb this).symm
 have ncm:cb≠mb:=λhh=>by have:=h.cols;rw[hh,h.mt] at this;exact yK (aNb this).symm
 have ncg:cb≠ga:=λhh=>by have:=h.cols;rw[hh,b1] at this;exact yK (aNb this).symm
 have nca:cb≠aa:=λhh=>by have:=h.cols;rw[hh,b2] at this;exact yK (aNb this).symm
 have nam:ab≠mb:=λhh=>by have:=h.mt;rw[<-hh,b0] at this;exact M8 (aNb this)
 have nag:ab≠ga:=λhh=>by have:=b1;rw[<-hh,b0] at this;exact M8 (aNb this)
 have naa:ab≠aa:=λhh=>by have:=b2;rw[<-hh,b0] at this;exact M8 (aNb this)
 have nas:ab≠sb:=λhh=>by have:=h.st;rw[<-hh,b0] at this;exact aKJ (aNb this)
 have s1:H1[sb]? =some (stB mb n (eF s.m n) (jD s.m n)):=by rw[aMA nsm.symm,h.st]
 have s2:H2[sb]? =some (stB mb n (kK (eF s.m n) (2 ^ i)) (jD s.m n)):=iM s1;have k3: ∀b,b≠sb->b≠mb->H3[b]? =H[b]? :=λb h1 h2=>by rw[aMA h1.symm,aMA h1.symm,aMA h2.symm]
 have hins:=aKs (k:=k) hi hI.ml;have houts:=aKu (k:=k) hi hI.ml hf;have m3:H3[mb]? =some (eU (s.m.set i (k:Int)) []):=by
  rw[aMA nsm,aMA nsm];exact iM h.mt
 have s3:H3[sb]? =some (stB mb n (eF (s.m.set i (k:Int)) n) (jD (s.m.set i (k:Int)) n)):=by rw[hins,houts];exact iM s2
 have g3:H3[ga]? =some (fN s.g):=by rw[k3 ga nsg.symm hma.symm,b1]
 have a3:H3[aa]? =some (fN s.a):=by rw[k3 aa nsa.symm hmb.symm,b2]
 have r3:H3[ab]? =some (pV ga aa s.g.length):=by rw[k3 ab nas nam,b0]
 have c3:H3[cb]? =some (fO (iW rows n)):=by rw[k3 cb nsc.symm ncm,h.cols]
 have a4:H4[aa]? =some (fN s.a):=by rw[aMA hne,a3]
 have k5: ∀b,b≠ga->b≠aa->H5[b]? =H3[b]? :=λb h1 h2=>by rw[aMA h2.symm,aMA h1.symm]
 refine⟨s1,s2,⟨λp hp=> ?_,s3,m3,c3⟩,a4,⟨λp hp=> ?_,by rw[k5 sb nsg nsa,s3],by rw[k5 mb hma hmb,m3],by rw[k5 cb ncg nca,c3]⟩⟩
 ·simp only[iO,aMS,aMZ,or_false] at hp
  rcases hp with rfl|rfl|rfl
  ·exact r3
  ·exact g3
  ·exact a3
 ·simp only[iO,aMS,aMZ,or_false] at hp
  rcases hp with rfl|rfl|rfl
  ·rw[k5 ab nag naa,r3,List.length_set]
  ·rw[aMA hne.symm]
   exact iM g3
  ·exact iM a4
end
section
variable {H : aA} {m : Nat} {ab ga aa sb mb cb : Nat} {rows : List Nat} {n : Nat} {s0 : Mat}
theorem aKK {H0:aA}{rounds rd was:Nat}(hI0:MatI n s0)(h1:1<=n)(h16:n<=16)(hne:ga≠aa)(hma:mb≠ga)(hmb:mb≠aa)(hsb:H0.length<=sb)(hmb0:H0.length<=mb)(hm:2<m){K:Ex->K (Value×aA)}{Q:aA->Value->Prop}
  (hK: ∀H',RunS H' ab ga aa sb mb cb rows n (rnd (jL rows) n (rd==0) s0)->Fr (λb=>b=ga∨b=aa) H0 H'-> ∀(x1 x2 x3 x4 x5 x6 x8 cA aN aL aM aR aS aO bC bH bV bG bE aT aU aV aW aX aY aZ bA bB bK bL bM bN bO bP bQ bR bS bT cC cD cE cR cS cM cN cO cQ cV cT cU cY dD dG dE dH dQ dR dU dV dW dX dY dZ eA eH eI eJ eK eL eM eN eO eP eQ eS eT fD fE fF fG fH fI fJ fK fW fX fY fZ gA gB gC gD gE gF gG gH gI gR gS gT gU gV gW gX gY gZ hP hZ iA iB iC iD iE iF iG iH iI kR kS kV kX kY kZ k8 k9 lA lB lC:Value),∃H2 r,L1 (lvl prog pkN m) (aH m) K (.pointer (some ⟨ab,0,none⟩)) x1 x2 x3 x4 x5 x6 (.int .i64 n) x8 (.pointer (some ⟨sb,0,none⟩)) (dT cb n) cA (.int .u16 was) aN aL aM aR aS aO bC bH bV bG bE aT aU aV aW aX aY aZ bA bB bK bL bM bN bO bP bQ bR bS bT cC cD cE (.int .i64 rounds) (.int .i64 (rd:Nat)) cR cS cM cN cO cQ cV cT cU cY dD dG dE dH dQ dR dU dV dW dX dY dZ eA eH eI eJ eK eL eM eN eO eP eQ eS eT fD fE fF fG fH fI fJ fK fW fX fY fZ gA gB gC gD gE gF gG gH gI gR gS gT gU gV gW gX gY gZ hP hZ iA iB iC iD iE iF iG iH iI kR kS kV kX kY kZ k8 k9 lA lB lC H'=some (r,H2)/\Q H2 r):
  ∀(q i k:Nat)(H:aA)(gb:Nat),n-i=q->i<=n->q<k->RunS H ab ga aa sb mb cb rows n ((List.range i).foldl (acc (nC (jL rows) s0.m s0.g n) n (rd==0)) s0)->Fr (λb=>b=ga∨b=aa) H0 H->H[gb]? =some (fO (grL (nC (jL rows) s0.m s0.g n) n n))->
  ∀(x1 x2 x3 x4 x5 x6 x8 aN aL aM aR aS aO bC bH bV bG bE aT aU aV aW aX aY aZ bA bB bK bL bM bN bO bP bQ bR bS bT cC cD cE cR cS cM cN cO cQ cV cT cU dE dH dQ dR dU dV dW dX dY dZ eA eH eI eJ eK eL eM eN eO eP eQ eS eT fD fE fF fG fH fI fJ fK fW fX fY fZ gA gB gC gD gE gF gG gH gI gR gS gT gU gV gW gX gY gZ hP hZ iA iB iC iD iE iF iG iH iI kR kS kV kX kY kZ k8 k9 lA lB lC:Value),∃H2 r,aH k (aI prog (lvl prog pkN m) (aH m) Lz) (L3 (lvl prog pkN m) (aH m) K) [(.pointer (some ⟨ab,0,none⟩)),x1,x2,x3,x4,x5,x6,(.int .i64 n),x8,(.pointer (some ⟨sb,0,none⟩)),(dT cb n),(.int .i64 (rd:Nat)),(.int .u16 was),aN,aL,aM,aR,aS,aO,bC,bH,bV,bG,bE,aT,aU,aV,aW,aX,aY,aZ,bA,bB,bK,bL,bM,bN,bO,bP,bQ,bR,bS,bT,cC,cD,cE,(.int .i64 rounds),(.int .i64 (rd:Nat)),cR,cS,cM,cN,cO,cQ,cV,cT,cU,(dT gb n),(.int .i64 n),(.int .i64 (i:Nat)),dE,dH,dQ,dR,dU,dV,dW,dX,dY,dZ,eA,eH,eI,eJ,eK,eL,eM,eN,eO,eP,eQ,eS,eT,fD,fE,fF,fG,fH,fI,fJ,fK,fW,fX,fY,fZ,gA,gB,gC,gD,gE,gF,gG,gH,gI,gR,gS,gT,gU,gV,gW,gX,gY,gZ,hP,hZ,iA,iB,iC,iD,iE,iF,iG,iH,iI,kR,kS,kV,kX,kY,kZ,k8,k9,lA,lB,lC] H=some (r,H2)/\Q H2 r:=by
 intro q;induction q with
 |zero=>
  intro i k H gb hq hi hk hS hfr hgb;intros;obtain⟨k,rfl⟩: ∃k',k=k'+1:=⟨k-1,by omega⟩
  have hie:i=n:=by omega
  subst hie;have c1:decide ((i:Int)<(i:Int))=false:=by simp
  rw[aH,Vk];simp -implicitDefEqProofs only[gsR,c1];rw[aIe];exact hK H hS hfr ..
 |succ q ih=>
  intro i k H gb hq hi hk hS hfr hgb;intros;obtain⟨k,rfl⟩: ∃k',k=k'+1:=⟨k-1,by omega⟩
  have hin:i<n:=by omega
  obtain⟨gr,hgr⟩: ∃gr,gr=nC (jL rows) s0.m s0.g n:=⟨_,rfl⟩;obtain⟨s,hs⟩: ∃s,s=(List.range i).foldl (acc gr n (rd==0)) s0:=⟨_,rfl⟩;rw[<-hgr] at hS hgb ih;rw[<-hs] at hS;have hI:MatI n s:=by rw[hs];exact MatI.Mi (by omega) _ hI0
  have hmi:s.m.getD i 0=s0.m.getD i 0:=by rw[hs];exact zK _ _ (by simp)
  have hnext:(List.range (i+1)).foldl (acc gr n (rd==0)) s0=match iV (λk=>(grM gr n i).testBit k) (s.a.getD i 0) n with
   |none=>s
   |some k=>⟨s.m.set i (k:Int),if(rd==0)=true then s.g.set k ((i+1)%n) else s.g,if(rd==0)=true then s.a.set i ((k+1)%n) else s.a⟩:=by
   rw[aM8,List.foldl_append,List.foldl_cons,List.foldl_nil,<-hs,hgr];exact aKl hmi
  have c1:decide ((i:Int)<(n:Int))=true:=by rw[decide_eq_true_eq];omega
  have b0:H[ab]? =some (pV ga aa s.g.length):=hS.arb _ (aMI ..);have b1:H[ga]? =some (fN s.g):=hS.arb (ga,fN s.g) (by simp[iO])
  have b2:H[aa]? =some (fN s.a):=hS.arb (aa,fN s.a) (by simp[iO])
  rw[hI.gl] at b0;obtain⟨a1,a2⟩:=Em (c:=n) hgb (wG _ _ _) hin;have a1:aQ 1 (dT gb n) (.int .i64 (i:Int))=some (.pointer (some ⟨gb,i,none⟩)):=a1;have hv:(grL gr n n).getD i 0=grM gr n i:=by rw[aMD,Ap hin];rfl
  rw[hv] at a2;have l1:ld1 (.pointer (some ⟨ab,1,none⟩)) H=some (dT aa n,H):=cK b0 rfl;obtain⟨a3,a4⟩:=El b2 hI.al hin;have hai:s.a.getD i 0<n:=Xs hI.a (by rw[hI.al];exact hin)
  have a5:lvl prog pkN m (.func 182) [.int .u16 (grM gr n i:Nat),.int .i64 (s.a.getD i 0:Nat),.int .i64 n] H=some (oS (iV (λj=>(grM gr n i).testBit j) (s.a.getD i 0) n),H):=by
   rw[I5 _ (by omega),Hy (Xl gr h16 i) h16 hai]
   rfl
  have e9:=nU i (by omega)
  rw[aH,Vk];cases hp:iV (λk=>(grM gr n i).testBit k) (s.a.getD i 0) n with
  |none=>
   rw[hp] at a5 hnext;have c2:((-1:Int)== -1)=true:=rfl;simp -implicitDefEqProofs only[gsR,c1,a1,a2,l1,a3,a4,a5,oS,c2,cH,e9];exact ih (i+1) k H gb (by omega) (by omega) (by omega) (by rw[hnext];exact hS) hfr hgb ..
  |some j=>
   rw[hp] at a5 hnext;have hjn:=(tZ hp).1;have hjb:=(tZ hp).2;have hfree:s.m.getD i 0= -1:=by
    have:gr j=some i:=by
     rw[grM,kC,decide_eq_true hjn,aMW,beq_iff_eq] at hjb;exact hjb
    rw[hgr] at this;exact hmi.trans (Xn this).1
   have c2:((j:Int)== -1)=false:=by rw[beq_eq_false_iff_ne];omega
   obtain⟨t1,t2,t3,t4,t5⟩:=hS.aKI hI h1 hne hma hmb (rd==0) hin hjn hfree;have l2:ld1 (.pointer (some ⟨sb,0,none⟩)) H=some (dT mb n,H):=cK hS.st rfl;have i2:aQ 1 (dT mb n) (.int .i64 (i:Int))=some (.pointer (some ⟨mb,i,none⟩)):=(yJ (c:=n) hS.mt hI.ml hin).1;have st1:=Xu (i:=i) (j:Int) hS.mt (by rw[hI.ml];exact hin)
   obtain⟨H1,hH1⟩: ∃H1,H1=H.set mb (eU (s.m.set i (j:Int)) []):=⟨_,rfl⟩;rw[<-hH1] at t1 t2 t3 t4 t5 st1;have l3:ld1 (.pointer (some ⟨sb,1,none⟩)) H1=some (.int .u16 (eF s.m n:Nat),H1):=cK t1 rfl;have hil:eF s.m n<65536:=qN _ h16;have hol:jD s.m n<65536:=qN _ h16;have hi1:=(uQ (a:=0) (i:=i) (by omega) (by omega)).1
   have hj1:=(uQ (a:=0) (i:=j) (by omega) (by omega)).1
   have hi2:=Xx (i:=i) hil (by omega)
   have hj2:=Xx (i:=j) hol (by omega)
   have st2:stN 1 (.pointer (some ⟨sb,1,none⟩)) (.int .u16 (kK (eF s.m n) (2 ^ i):Nat)) H1=some (undef,H1.set sb (stB mb n (kK (eF s.m n) (2 ^ i)) (jD s.m n))):=lG t1 (by decide) (by simp)
   obtain⟨H2,hH2⟩: ∃H2,H2=H1.set sb (stB mb n (kK (eF s.m n) (2 ^ i)) (jD s.m n)):=⟨_,rfl⟩;rw[<-hH2] at t2 t3 t4 t5 st2;have l4:ld1 (.pointer (some ⟨sb,2,none⟩)) H2=some (.int .u16 (jD s.m n:Nat),H2):=cK t2 rfl;have st3:stN 1 (.pointer (some ⟨sb,2,none⟩)) (.int .u16 (kK (jD s.m n) (2 ^ j):Nat)) H2=some (undef,H2.set sb (stB mb n (kK (eF s.m n) (2 ^ i)) (kK (jD s.m n) (2 ^ j)))):=lG t2 (by decide) (by simp)
   obtain⟨H3,hH3⟩: ∃H3,H3=H2.set sb (stB mb n (kK (eF s.m n) (2 ^ i)) (kK (jD s.m n) (2 ^ j))):=⟨_,rfl⟩;rw[<-hH3] at t3 t4 t5 st3;have ngs:gb≠sb:=λhh=>by have:=hS.st;rw[<-hh,hgb] at this;exact Xy (aNb this).symm
   have ngm:gb≠mb:=λhh=>by have:=hS.mt;rw[<-hh,hgb] at this;exact yK (aNb this)
   have ngg:gb≠ga:=λhh=>by have:=b1;rw[<-hh,hgb] at this;exact yK (aNb this)
   have nga:gb≠aa:=λhh=>by have:=b2;rw[<-hh,hgb] at this;exact yK (aNb this)
   have k3: ∀b,b≠sb->b≠mb->H3[b]? =H[b]? :=λb h1 h2=>by rw[hH3,hH2,hH1,aMA h1.symm,aMA h1.symm,aMA h2.symm]
   have hl3:H3.length=H.length:=by rw[hH3,hH2,hH1];simp
   have f3:Fr (λb=>b=ga∨b=aa) H0 H3:=⟨by rw[hl3];exact hfr.1,λb hb hn=>by rw[k3 b (by omega) (by omega),hfr.2 b hb hn]⟩
   have g3:H3[gb]? =some (fO (grL gr n n)):=by rw[k3 gb ngs ngm,hgb]
   by_cases hrd:rd=0
   ·subst hrd
    have c3:(((0:Nat):Int)==0)=true:=rfl;have q0:H3[ab]? =some (pV ga aa s.g.length):=t3.arb _ (aMI ..);rw[hI.gl] at q0;have q1:H3[ga]? =some (fN s.g):=t3.arb (ga,fN s.g) (by simp[iO])
    have l5:ld1 (.pointer (some ⟨ab,0,none⟩)) H3=some (dT ga n,H3):=cK q0 rfl;have l6:ld1 (.pointer (some ⟨ab,1,none⟩)) H3=some (dT aa n,H3):=cK q0 rfl;have e10:=nU j (by omega)
    have r1:bin prog .rem 3 (.int .i64 ((i+1:Nat):Int)) (.int .i64 n)=some (.int .i64 (((i+1)%n:Nat):Int)):=uF (i+1) n _ rfl (by omega)
    have r2:bin prog .rem 3 (.int .i64 ((j+1:Nat):Int)) (.int .i64 n)=some (.int .i64 (((j+1)%n:Nat):Int)):=uF (j+1) n _ rfl (by omega)
    have i5:=(El q1 hI.gl hjn).1;have i6:=(El (b:=aa) (H:=H) b2 hI.al hin).1;have st4:=Xv (i:=j) ((i+1)%n) q1 (by rw[hI.gl];exact hjn)
    obtain⟨H4,hH4⟩: ∃H4,H4=H3.set ga (fN (s.g.set j ((i+1)%n))):=⟨_,rfl⟩;rw[<-hH4] at t4 t5 st4;have st5:=Xv (i:=i) ((j+1)%n) t4 (by rw[hI.al];exact hin)
    obtain⟨H5,hH5⟩: ∃H5,H5=H4.set aa (fN (s.a.set i ((j+1)%n))):=⟨_,rfl⟩;rw[<-hH5] at t5 st5;simp -implicitDefEqProofs only[gsR,c1,a1,a2,l1,a3,a4,a5,oS,c2,l2,i2,st1,l3,hi1,hi2,st2,l4,hj1,hj2,st3,c3,l5,l6,cH,e9,e10,r1,r2,i5,i6,st4,st5];refine ih (i+1) k H5 gb (by omega) (by omega) (by omega) (by rw[hnext];exact t5) ?_ ?_ ..
    ·refine⟨by rw[hH5,hH4];simp;exact f3.1,λb hb hn=> ?_⟩
     rw[hH5,hH4,aMA (λhh=>hn (.inr hh.symm)),aMA (λhh=>hn (.inl hh.symm)),f3.2 b hb hn]
    ·rw[hH5,hH4,aMA nga.symm,aMA ngg.symm,g3]
   ·have c3:((rd:Int)==0)=false:=by rw[beq_eq_false_iff_ne];omega
    have c4:(rd==0)=false:=by simpa using hrd
    rw[c4] at hnext;simp -implicitDefEqProofs only[gsR,c1,a1,a2,l1,a3,a4,a5,oS,c2,l2,i2,st1,l3,hi1,hi2,st2,l4,hj1,hj2,st3,c3,cH,e9];refine ih (i+1) k H3 gb (by omega) (by omega) (by omega) ?_ f3 g3 ..
    rw[c4,hnext];exact t3
end
section
variable {H : aA} {m : Nat} {ab ga aa sb mb cb : Nat} {rows : List Nat} {n : Nat}
def nV (rows:List Nat)(n:Nat)(s:Mat):Nat->Mat
 |0=>s
 |k+1=>rnd (jL rows) n (k==0) (nV rows n s k)
theorem Na {s:Mat}(h:MatI n s)(hn:1<=n): ∀k,MatI n (nV rows n s k)
 |0=>h
 |k+1=>(Na h hn k).rnd (by omega)
theorem X0 (req:Nat->Nat->Bool): ∀(k:Nat)(s:Mat),vS req n (k+1) s=rnd req n false (vS req n k s)
 |0,s=>rfl
 |k+1,s=>by
  rw[vS,X0 req k,vS]
theorem Nb (g a:List Nat): ∀k,nV rows n ⟨List.replicate n (-1),g,a⟩ (k+1)=q9 (jL rows) n (k+1) g a
 |0=>rfl
 |k+1=>by
  rw[nV,Nb g a k];unfold q9;have:(k+1==0)=false:=rfl;rw[this,show k+1+1-1=k+1 by omega,X0]
  rfl
theorem Xz {s:Mat}(h:MatI n s)(hn:1<=n){k:Nat}(he:nV rows n s (k+1)=nV rows n s k): ∀j,nV rows n s (k+j)=nV rows n s k
 |0=>rfl
 |j+1=>by
  rw[<-Nat.add_assoc,nV,Xz h hn he j];rw[nV] at he;exact aDj (by rw[(Na h hn k).ml];exact aME _) _ he
theorem aKN {H0:aA}{rounds:Nat}{g a:List Nat}(hI0:MatI n ⟨List.replicate n (-1),g,a⟩)(h1:1<=n)(h16:n<=16)(hne:ga≠aa)(hma:mb≠ga)(hmb:mb≠aa)(hsb:H0.length<=sb)(hmb0:H0.length<=mb)(hr:rows.length=n)(hrd:1<=rounds)(hr16:rounds<=16)(hm:80<m){Q:aA->Value->Prop}
  (hK: ∀H',RunS H' ab ga aa sb mb cb rows n (nV rows n ⟨List.replicate n (-1),g,a⟩ rounds)->Fr (λb=>b=ga∨b=aa) H0 H'->Q H' (dT mb n)):
  ∀(q i k:Nat)(H:aA),rounds-i=q->i<=rounds->q<k->RunS H ab ga aa sb mb cb rows n (nV rows n ⟨List.replicate n (-1),g,a⟩ i)->Fr (λb=>b=ga∨b=aa) H0 H->
  ∀(x1 x2 x3 x4 x5 x6 x8 cA aP aN aL aM aR aS aO bC bH bV bG bE aT aU aV aW aX aY aZ bA bB bK bL bM bN bO bP bQ bR bS bT cC cD cE cR cS cM cN cO cQ cV cT cU cY dD dG dE dH dQ dR dU dV dW dX dY dZ eA eH eI eJ eK eL eM eN eO eP eQ eS eT fD fE fF fG fH fI fJ fK fW fX fY fZ gA gB gC gD gE gF gG gH gI gR gS gT gU gV gW gX gY gZ hP hZ iA iB iC iD iE iF iG iH iI kR kS kV kX kY kZ k8 k9 lA lB lC:Value),∃H2 r,aH k (aI prog (lvl prog pkN m) (aH m) Ly) (L2 (lvl prog pkN m) (aH m)) [(.pointer (some ⟨ab,0,none⟩)),x1,x2,x3,x4,x5,x6,(.int .i64 n),x8,(.pointer (some ⟨sb,0,none⟩)),(dT cb n),cA,aP,aN,aL,aM,aR,aS,aO,bC,bH,bV,bG,bE,aT,aU,aV,aW,aX,aY,aZ,bA,bB,bK,bL,bM,bN,bO,bP,bQ,bR,bS,bT,cC,cD,cE,(.int .i64 rounds),(.int .i64 (i:Nat)),cR,cS,cM,cN,cO,cQ,cV,cT,cU,cY,dD,dG,dE,dH,dQ,dR,dU,dV,dW,dX,dY,dZ,eA,eH,eI,eJ,eK,eL,eM,eN,eO,eP,eQ,eS,eT,fD,fE,fF,fG,fH,fI,fJ,fK,fW,fX,fY,fZ,gA,gB,gC,gD,gE,gF,gG,gH,gI,gR,gS,gT,gU,gV,gW,gX,gY,gZ,hP,hZ,iA,iB,iC,iD,iE,iF,iG,iH,iI,kR,kS,kV,kX,kY,kZ,k8,k9,lA,lB,lC] H=some (r,H2)/\Q H2 r:=by
 have out: ∀(H:aA),RunS H ab ga aa sb mb cb rows n (nV rows n ⟨List.replicate n (-1),g,a⟩ rounds)->Fr (λb=>b=ga∨b=aa) H0 H-> ∀(x0 x1 x2 x3 x4 x5 x6 x7 x8 bI cA aP aN aL aM aR aS aO bC bH bV bG bE aT aU aV aW aX aY aZ bA bB bK bL bM bN bO bP bQ bR bS bT cC cD cE cI cP cR cS cM cN cO cQ cV cT cU cY dD dG dE dH dQ dR dU dV dW dX dY dZ eA eH eI eJ eK eL eM eN eO eP eQ eS eT fD fE fF fG fH fI fJ fK fW fX fY fZ gA gB gC gD gE gF gG gH gI gR gS gT gU gV gW gX gY gZ hP hZ iA iB iC iD iE iF iG iH iI kR kS kV kX kY kZ k8 k9 lA lB lC:Value),∃H2 r,L0 (lvl prog pkN m) (aH m) x0 x1 x2 x3 x4 x5 x6 x7 x8 (.pointer (some ⟨sb,0,none⟩)) bI cA aP aN aL aM aR aS aO bC bH bV bG bE aT aU aV aW aX aY aZ bA bB bK bL bM bN bO bP bQ bR bS bT cC cD cE cI cP cR cS cM cN cO cQ cV cT cU cY dD dG dE dH dQ dR dU dV dW dX dY dZ eA eH eI eJ eK eL eM eN eO eP eQ eS eT fD fE fF fG fH fI fJ fK fW fX fY fZ gA gB gC gD gE gF gG gH gI gR gS gT gU gV gW gX gY gZ hP hZ iA iB iC iD iE iF iG iH iI kR kS kV kX kY kZ k8 k9 lA lB lC H=some (r,H2)/\Q H2 r:=by
  intro H hS hfr;intros;have l2:ld1 (.pointer (some ⟨sb,0,none⟩)) H=some (dT mb n,H):=cK hS.st rfl;unfold L0;simp -implicitDefEqProofs only[gsR,l2]
  exact⟨_,_,rfl,hK H hS hfr⟩
 intro q;induction q with
 |zero=>
  intro i k H hq hi hk hS hfr;intros;obtain⟨k,rfl⟩: ∃k',k=k'+1:=⟨k-1,by omega⟩
  have hie:i=rounds:=by omega
  subst hie;have c1:decide ((i:Int)<(i:Int))=false:=by simp
  rw[aH,Vj];simp -implicitDefEqProofs only[gsR,c1];rw[Vl];exact out H hS hfr ..
 |succ q ih=>
  intro i k H hq hi hk hS hfr;intros;obtain⟨k,rfl⟩: ∃k',k=k'+1:=⟨k-1,by omega⟩
  have c1:decide ((i:Int)<(rounds:Int))=true:=by rw[decide_eq_true_eq];omega
  obtain⟨s0,hs0⟩: ∃s0,s0=nV rows n ⟨List.replicate n (-1),g,a⟩ i:=⟨_,rfl⟩;have hI:MatI n s0:=by rw[hs0];exact Na hI0 h1 i
  rw[<-hs0] at hS;have l1:ld1 (.pointer (some ⟨sb,1,none⟩)) H=some (.int .u16 (eF s0.m n:Nat),H):=cK hS.st rfl;have a1:=aKE (m:=m) hS.arb hS.st hS.cols hI.gl hI.g hr hI.ml h1 h16 (by omega)
  have a2:bJ (dT H.length n)=some (.int .i64 n):=rfl;rw[aH,Vj];simp -implicitDefEqProofs only[gsR,c1,l1,a1,a2];refine aKK (H0:=H0) (s0:=s0) (was:=eF s0.m n) (rd:=i) (rounds:=rounds) hI h1 h16 hne hma hmb hsb hmb0 (by omega) ?_ n 0 m _ H.length (by omega) (by omega) (by omega) (hS.ext (Fr.app _ _ _)) ⟨by have:=hfr.1;simp;omega,λb hb hn=>by rw[aMC (aMO hb hfr.1),hfr.2 b hb hn]⟩ (dF _ _) ..
  intro H' hS' hfr';intros;have l3:ld1 (.pointer (some ⟨sb,1,none⟩)) H'=some (.int .u16 (eF (rnd (jL rows) n (i==0) s0).m n:Nat),H'):=cK hS'.st rfl;have hrk:rnd (jL rows) n (i==0) s0=nV rows n ⟨List.replicate n (-1),g,a⟩ (i+1):=by rw[nV,hs0]
  have e9:=nU i (by omega)
  unfold L1;by_cases hst:eF (rnd (jL rows) n (i==0) s0).m n=eF s0.m n
  ·have c2:(((eF (rnd (jL rows) n (i==0) s0).m n:Nat):Int)==((eF s0.m n:Nat):Int))=true:=by rw[hst];simp
   have hsame:=aKy hI.ml hst;simp -implicitDefEqProofs only[gsR,l3,c2];rw[Vl];refine out H' ?_ hfr' ..;have:nV rows n ⟨List.replicate n (-1),g,a⟩ rounds=rnd (jL rows) n (i==0) s0:=by
    have:=Xz (rows:=rows) hI0 h1 (k:=i) (by rw[<-hrk,hsame,hs0]) (rounds-i)
    rw[show i+(rounds-i)=rounds by omega] at this
    rw[this,hsame,hs0]
   rw[this];exact hS'
  ·have c2:(((eF (rnd (jL rows) n (i==0) s0).m n:Nat):Int)==((eF s0.m n:Nat):Int))=false:=by rw[beq_eq_false_iff_ne];omega
   rw[hrk] at hS';simp -implicitDefEqProofs only[gsR,l3,c2,cH,e9];exact ih (i+1) k H' (by omega) (by omega) (by omega) hS' hfr' ..
theorem aKM {g a:List Nat}{qb rounds:Nat}(hB:Blks (iO ab ga aa g a) H)(hne:ga≠aa)(hg:g.length=n)(ha:a.length=n)(hgl: ∀z∈g,z<n)(hal: ∀z∈a,z<n)(h1:1<=n)(h15:n<=15)(hq:H[qb]? =some (fO rows))(hr:rows.length=n)(hrl: ∀z∈rows,z<65536)(hrd:1<=rounds)(hr16:rounds<=16)(hm:100<m):
  ∃H' mb,lvl prog pkN m (.func 99) [.pointer (some ⟨ab,0,none⟩),dT qb n,.int .i64 rounds] H=some (dT mb n,H')/\H'[mb]? =some (eU (q9 (jL rows) n rounds g a).m [])/\H.length<=mb/\Fr (λb=>b=ga∨b=aa) H H'/\Blks (iO ab ga aa (q9 (jL rows) n rounds g a).g (q9 (jL rows) n rounds g a).a) H':=by
 have main: ∃H' r,lvl prog pkN m (.func 99) [.pointer (some ⟨ab,0,none⟩),dT qb n,.int .i64 rounds] H=some (r,H')/\(r=dT (H.length+1) n/\H'[H.length+1]? =some (eU (q9 (jL rows) n rounds g a).m [])/\Fr (λb=>b=ga∨b=aa) H H'/\Blks (iO ab ga aa (q9 (jL rows) n rounds g a).g (q9 (jL rows) n rounds g a).a) H'):=by
  have h16:n<=16:=by omega
  have b0:H[ab]? =some (pV ga aa g.length):=hB _ (aMI ..);have b1:H[ga]? =some (fN g):=hB (ga,fN g) (by simp[iO])
  have b2:H[aa]? =some (fN a):=hB (aa,fN a) (by simp[iO])
  rw[hg] at b0;refine iK (cF rfl) (by omega) ?_
  rw[aIf];have l0:ld1 (.pointer (some ⟨ab,0,none⟩)) H=some (dT ga n,H):=cK b0 rfl;have e0: ∀b,bJ (dT b n)=some (.int .i64 n):=λ_=>rfl
  have c1:((n:Int)!=(n:Int))=false:=by simp
  have c2:decide ((rounds:Int)<1)=false:=by rw[decide_eq_false_iff_not];omega
  have c3:decide ((16:Int)<(rounds:Int))=false:=by rw[decide_eq_false_iff_not];omega
  have e1:=(uQ (a:=0) (i:=n) (by omega) (by omega)).1
  have hpow:2 ^ n<2 ^ 17:=Nat.pow_lt_pow_right (by omega) (by omega)
  have hpos:0<2 ^ n:=Nat.pow_pos (by omega)
  have hpl:2 ^ n<65536:=Cf (by omega)
  have e2:IntKind.u16.wrap ((2 ^ n:Nat)-(1:Int))=((2 ^ n-1:Nat):Int):=by rw[zI];omega
  have e3:dL 3 1 1 [.int .i64 0] [(0,.int .i64 (-1))] H=some (.slice (some ⟨H.length,0,none⟩) 1 1,H++[.cells [.int .i64 (-1)] 3 .row]):=rfl;obtain⟨H1,hH1⟩: ∃H1,H1=H++[Blk.cells [.int .i64 (-1)] 3 .row]:=⟨_,rfl⟩;rw[<-hH1] at e3;have h1l:H1.length=H.length+1:=by rw[hH1];simp
  have e4:=aKf (H:=H1) (m:=m-1) (by omega) n h1 h16 (c:=1) (by rw[hH1];exact dF H _)
  obtain⟨H2,hH2⟩: ∃H2,H2=H1++[kO n n]:=⟨_,rfl⟩;rw[<-hH2] at e4;have h2l:H2.length=H.length+2:=by rw[hH2];simp;omega
  have e5:bld prog 283 [(0,dT H1.length n),(1,.int .u16 (2 ^ n-1:Nat)),(2,.int .u16 (2 ^ n-1:Nat))]=some (.agg #[dT H1.length n,.int .u16 (2 ^ n-1:Nat),.int .u16 (2 ^ n-1:Nat)]):=rfl;have e6:H2++[Blk.cells (Value.cells (.agg #[dT H1.length n,.int .u16 (2 ^ n-1:Nat),.int .u16 (2 ^ n-1:Nat)])).toList 283 .fix]=H2++[stB H1.length n (2 ^ n-1) (2 ^ n-1)]:=rfl;obtain⟨H3,hH3⟩: ∃H3,H3=H2++[stB H1.length n (2 ^ n-1) (2 ^ n-1)]:=⟨_,rfl⟩;have h3l:H3.length=H.length+3:=by rw[hH3];simp;omega
  have x3:Ext H H3:=by
   have y1:Ext H H1:=by rw[hH1];exact Fr.app _ _ _
   have y2:Ext H1 H2:=by rw[hH2];exact Fr.app _ _ _
   have y3:Ext H2 H3:=by rw[hH3];exact Fr.app _ _ _
   exact(y1.tr y2).tr y3
  have hq3:H3[qb]? =some (fO rows):=by rw[x3.2 _ (dA hq) id,hq]
  have e7:lvl prog pkN (m-1) (.func 180) [dT qb n,.int .i64 n] H3=some (dT H3.length n,H3++[fO (iW rows n)]):=by
   rw[aEz _ (by omega)]
   unfold sX dT;simp only;rw[if_pos (by omega),hq3]
   unfold fO;simp only;rw[if_pos (by simp;omega),List.drop_zero,List.take_of_length_le (by simp;omega),Rl rows hrl]
   simp only[aM1]
  simp -implicitDefEqProofs only[gsR,l0,e0,c1,c2,c3,e1,gJ,e2,e3,e4,e5,e6,<-hH3,e7];have hI0:MatI n ⟨List.replicate n (-1),g,a⟩:=MatI.Wc hg ha hgl hal;have x4:Ext H (H3++[fO (iW rows n)]):=by
   have y4:Ext H3 (H3++[fO (iW rows n)]):=Fr.app _ _ _;exact x3.tr y4
  have x4':Ext H3 (H3++[fO (iW rows n)]):=Fr.app _ _ _;have hm3:H3[H1.length]? =some (eU (List.replicate n (-1)) []):=by
   have:H2[H1.length]? =some (kO n n):=by rw[hH2];exact dF _ _
   rw[hH3,nE this];unfold kO eU;rw[Nat.sub_self,List.map_replicate];rfl
  have hs3:H3[H2.length]? =some (stB H1.length n (2 ^ n-1) (2 ^ n-1)):=by rw[hH3];exact dF _ _
  have hS:RunS (H3++[fO (iW rows n)]) ab ga aa H2.length H1.length H3.length rows n ⟨List.replicate n (-1),g,a⟩:=by
   refine⟨Blks.dx _ _ _ hB x4,?_,by rw[x4'.2 _ (dA hm3) id,hm3],dF _ _⟩
   rw[x4'.2 _ (dA hs3) id,hs3];simp only;rw[aKt,aKw]
  have hgal:=dA b1;have haal:=dA b2;refine aKN (H0:=H) (rounds:=rounds) hI0 h1 h16 hne (by omega) (by omega) (by omega) (by omega) hr hrd hr16 (by omega) ?_ rounds 0 (m-1) _ (by omega) (by omega) (by omega) hS (x4.zF λ_ h=>h.elim) ..
  intro H' hS' hfr';have hmt:=hS'.mt;obtain⟨r',hr'⟩: ∃r',rounds=r'+1:=⟨rounds-1,by omega⟩
  have harb:=hS'.arb;rw[hr',Nb,<-hr',h1l] at hmt;rw[hr',Nb,<-hr'] at harb
  exact⟨by rw[h1l],hmt,hfr',harb⟩
 obtain⟨H',r,g1,rfl,g2,g3,g4⟩:=main
 exact⟨H',H.length+1,g1,g2,by omega,g3,g4⟩
theorem aKL (h1:1<=n)(h16:n<=16)(hm:0<m): ∃ab ga aa H',lvl prog pkN m (.func 91) [.int .i64 n] H=some (.pointer (some ⟨ab,0,none⟩),H')/\Blks (iO ab ga aa (List.replicate n 0) (List.replicate n 0)) H'/\ga≠aa/\Ext H H'/\H.length<=ab/\H.length<=ga/\H.length<=aa:=by
 have mk:=λH:aA=>vJ (H:=H) 3 1 8 [.int .i64 0] .i64 .i64 (n:Int) (by omega) (by omega) (by omega) rfl
 have hz: ∀H:aA,H++[Blk.cells (List.replicate (n:Int).toNat [Value.int .i64 0]).flatten 3 .row]=H++[fN (List.replicate n 0)]:=λH=>by
  have: ∀n,(List.replicate n [Value.int .i64 0]).flatten=List.replicate n (.int .i64 0):=by
   intro n;induction n with
   |zero=>rfl
   |succ n ih=>rw[List.replicate_succ,aM9,ih];rfl
  rw[aM1,this,fN,eU,tF,List.map_replicate,List.map_replicate,List.append_nil];rfl
 have mk': ∀H:aA,kF 3 1 8 [.int .i64 0] (.int .i64 (n:Int)) (.int .i64 (n:Int)) H=some (dT H.length n,H++[fN (List.replicate n 0)]):=λH=>by
  have:=mk H;rw[hz,aM1] at this;exact this
 obtain⟨H1,hH1⟩: ∃H1,H1=H++[fN (List.replicate n 0)]:=⟨_,rfl⟩;obtain⟨H2,hH2⟩: ∃H2,H2=H1++[fN (List.replicate n 0)]:=⟨_,rfl⟩;have h1l:H1.length=H.length+1:=by rw[hH1];simp
 have h2l:H2.length=H.length+2:=by rw[hH2];simp;omega
 have e5:bld prog 269 [(0,dT H.length n),(1,dT H1.length n)]=some (.agg #[dT H.length n,dT H1.length n]):=rfl;have c2:decide ((n:Int)<1)=false:=by rw[decide_eq_false_iff_not];omega
 have c3:decide ((16:Int)<(n:Int))=false:=by rw[decide_eq_false_iff_not];omega
 have e6:H2++[Blk.cells (Value.cells (.agg #[dT H.length n,dT H1.length n])).toList 269 .fix]=H2++[pV H.length H1.length n]:=rfl;have y1:Ext H H1:=by rw[hH1];exact Fr.app _ _ _
 have y2:Ext H1 H2:=by rw[hH2];exact Fr.app _ _ _
 have y3:Ext H2 (H2++[pV H.length H1.length n]):=Fr.app _ _ _;refine⟨H2.length,H.length,H1.length,H2++[pV H.length H1.length n],cX (cF rfl) (by omega) ?_,λp hp=> ?_,by omega,(y1.tr y2).tr y3,by omega,by omega,by omega⟩
 ·rw[aH6]
  simp -implicitDefEqProofs only[gsR,c2,c3,mk',<-hH1,<-hH2,e5,e6]
 ·have q1:H1[H.length]? =some (fN (List.replicate n 0)):=by rw[hH1];exact dF _ _
  have q2:H2[H1.length]? =some (fN (List.replicate n 0)):=by rw[hH2];exact dF _ _
  simp only[iO,aMS,aMZ,or_false,aNf] at hp;rcases hp with rfl|rfl|rfl
  ·exact dF _ _
  ·simp only
   rw[y3.2 _ (by rw[h2l];omega) id,y2.2 _ (by omega) id,q1]
  ·simp only
   rw[y3.2 _ (by rw[h2l,h1l];omega) id,q2]
end
end Go.Proofs.YtmimdleeihjdoaaGreatDoor
namespace Go.Proofs.YtmimdleeihjdoaaGreatDoor
open Go.Proofs.Tryz
open Go.Abs
open Classical
def iP (p:PlanD)(me:Nat):Cfg where
 nodes:=p.nodes.toNat
 lanes:=p.lanes.toNat
 room:=p.room.toNat
 queue:=p.queue.toNat
 rounds:=p.rounds.toNat
 every:=p.every.toNat
 weights:=p.weights
 start:=p.start.toNat
 me:=me
 by':=(bes p.edges me).map Int.toNat
 port:=λd=>if d=me then 0 else match ((bes p.edges me).map Int.toNat).findIdx? λw:Nat=>decide ((w:Int)=nx p me d) with
  |some j=>j+1
  |none=>0
structure Lay where
 nb:Nat
 pb:Nat
 pcap:Nat
 prest:List Value
 lb:Nat->Nat
 lcap:Nat->Nat
 lrest:Nat->List Value
 wh:Nat->Nat
 ww:Nat->Nat
 wl:Nat->Nat
 wc:Nat->Nat
 lc:Nat->Nat
 wr:Nat->List Value
 lr:Nat->List Value
 sb:Nat->Nat->Nat
 rb:Nat->Nat->Nat
 ab:Nat
 ga:Nat
 aa:Nat
 hb:Nat
 rg:Nat
inductive Part where
 |node
 |host
 |rings
 |arb
 |whl (i:Nat)
 |snd (i k:Nat)
 |rcv (i k:Nat)
abbrev pt (b:Nat):Value:= .pointer (some ⟨b,0,none⟩)
def jM (c:Cfg)(i:Nat):Nat:=if i=0 then c.me else c.by'.getD (i-1) 0
def lZ (y:Lay)(c:Cfg)(i:Nat):Value:=if i=0 then .slice none 0 0 else .slice (some ⟨y.lb i,0,none⟩) c.lanes (y.lcap i)
def fB (y:Lay)(c:Cfg)(i:Nat):List Value:=[.int .i64 (jM c i),lZ y c i,pt (y.wh i)]
def lP (y:Lay)(i k:Nat):List Value:=[pt (y.sb i k),pt (y.rb i k)]
def gL (y:Lay)(c:Cfg):Value:= .slice (some ⟨y.pb,0,none⟩) c.aF y.pcap
def Nf (bag:Int)(ev wv nv:Value)(y:Lay)(c:Cfg)(ticks:Nat):List Value:=
 [pt y.ab,.int .i64 c.nodes,ev,.int .i64 c.lanes,.int .i64 c.room,.int .i64 c.queue,.int .i64 c.rounds,.int .i64 c.every,.int .i64 bag,wv,.int .u16 c.start,nv,.int .i64 c.me,gL y c,pt y.hb,pt y.rg,.int .i64 ticks]
def uR (bag:Int)(ev wv nv:Value)(y:Lay)(c:Cfg)(ticks:Nat):Blk:= .cells (Nf bag ev wv nv y c ticks) 162 .fix
def wJ (y:Lay)(c:Cfg):Blk:= .cells (((List.range c.aF).map (fB y c)).flatten++y.prest) 167 .row
def nW (y:Lay)(c:Cfg)(i:Nat):Blk:= .cells (((List.range c.lanes).map (lP y i)).flatten++y.lrest i) 172 .row
def lQ (bag:Int)(ev wv nv:Value)(y:Lay)(c:Cfg)(ticks:Nat):List (Nat×Blk):=
 (y.nb,uR bag ev wv nv y c ticks)::(y.pb,wJ y c)::(List.range c.by'.length).map λj=>(y.lb (j+1),nW y c (j+1))
def kQ (bag:Int)(ev wv nv:Value)(y:Lay)(c:Cfg)(s:NS):Part->aA->Prop
 | .node=>Blks (lQ bag ev wv nv y c s.ticks)
 | .host=>λD=>HostAt D y.hb s.hL s.hG c.lanes c.queue
 | .rings=>λD=>RingsN D y.rg s.rL (c.aF*c.lanes*c.room) c.aF c.lanes
 | .arb=>Blks (iO y.ab y.ga y.aa s.g s.a)
 | .whl i=>Blks (if i<c.aF then kP (y.wh i) (y.ww i) (y.wl i) (y.wc i) (y.lc i) (y.wr i) (y.lr i) c.weights (s.whl i) else [])
 | .snd i k=>Blks (if 1<=i/\i<c.aF/\k<c.lanes then [(y.sb i k,lO (s.snd i k))] else [])
 | .rcv i k=>Blks (if 1<=i/\i<c.aF/\k<c.lanes then [(y.rb i k,iR (s.rcv i k) c.room)] else [])
structure LayOk (y:Lay)(c:Cfg):Prop where
 pcap:c.aF<=y.pcap
 lcap: ∀i,1<=i->i<c.aF->c.lanes<=y.lcap i
 ga:y.ga≠y.aa
 ww: ∀i,i<c.aF->y.ww i≠y.wl i
structure NodeAt (H0 H:aA)(F:Part->Nat->Prop)(y:Lay)(p:PlanD)(ev wv nv:Value)(c:Cfg)(t:Nat)(s:NS):Prop where
 ok:c.ok
 hc:c=iP p c.me
 hp: ∃n,OkP p n
 lay:LayOk y c
 ext:Ext H0 H
 old: ∀b,Un F b->H0.length<=b
 plan:PV H0 p ev wv nv
 inv:NInv c t s
 sep:Sep (kQ p.bag ev wv nv y c s) F H
theorem yL (bag:Int)(ev wv nv:Value)(y:Lay)(c:Cfg)(s:NS)(i:Part):DX (kQ bag ev wv nv y c s i):=by
 cases i with
 |host=>exact λD D' h he=>h.ext he
 |rings=>exact λD D' h he=>h.ext he
 |_=>exact Blks.dx _
theorem Et {l:List (Nat×Blk)}(h: ∀p∈l,∃cs e k,p.2= .cells cs e k):rD l:=λp hp hd=>by
 obtain⟨cs,e,k,he⟩:=h p hp;rw[he] at hd;cases hd
theorem wI {bag:Int}{ev wv nv:Value}{y:Lay}{c:Cfg}{ticks:Nat}:rD (lQ bag ev wv nv y c ticks):=Et λp hp=>by
 simp only[lQ,aMS,aNc] at hp;rcases hp with rfl|rfl|⟨j,_,rfl⟩<;>exact⟨_,_,_,rfl⟩
theorem X5 {ab ga aa:Nat}{g a:List Nat}:rD (iO ab ga aa g a):=Et λp hp=>by
 simp only[iO,aMS,aMZ,or_false] at hp;rcases hp with rfl|rfl|rfl<;>exact⟨_,_,_,rfl⟩
theorem X6 {wh ww wl wc lc:Nat}{wr lr:List Value}{W:List Int}{x:Whl}:rD (kP wh ww wl wc lc wr lr W x):=Et λp hp=>by
 simp only[kP,aMS,aMZ,or_false] at hp;rcases hp with rfl|rfl|rfl<;>exact⟨_,_,_,rfl⟩
theorem Eu {b:Nat}{cs:List Value}{e:TypeId}{k:Kind}:rD [(b,Blk.cells cs e k)]:=Et λp hp=>by
 simp only[aMS,aMZ,or_false] at hp;subst hp
 exact⟨_,_,_,rfl⟩
section
variable {H0 H : aA} {F : Part → Nat → Prop} {y : Lay} {p : PlanD} {ev wv nv : Value} {c : Cfg} {t : Nat} {s : NS}
theorem NodeAt.fS {H':aA}(h:NodeAt H0 H F y p ev wv nv c t s)(he:Ext H H'):NodeAt H0 H' F y p ev wv nv c t s:=
 {h with ext:=h.ext.tr he,sep:=h.sep.ext (yL _ _ _ _ _ _ _) he}
theorem NodeAt.nbB (h:NodeAt H0 H F y p ev wv nv c t s):H[y.nb]? =some (uR p.bag ev wv nv y c s.ticks):=h.sep.wF .node rfl wI (aMI ..)
theorem NodeAt.ld (h:NodeAt H0 H F y p ev wv nv c t s)(j:Nat)(v:Value)(hv:(Nf p.bag ev wv nv y c s.ticks)[j]? =some v):ld1 (.pointer (some ⟨y.nb,j,none⟩)) H=some (v,H):=cK h.nbB hv
theorem Au (y:Lay)(c:Cfg)(i:Nat):(fB y c i).length=3:=rfl
theorem X7 (y:Lay)(i k:Nat):(lP y i k).length=2:=rfl
theorem NodeAt.X2 (h:NodeAt H0 H F y p ev wv nv c t s):Rs (fB y c) 167 H (gL y c) (List.range c.aF):=by
 have hb:H[y.pb]? =some (wJ y c):=h.sep.wF .node rfl wI (by simp[lQ])
 refine .inr ⟨y.pb,0,y.pcap,by rw[aM3];rfl,by rw[aM3];exact h.lay.pcap,λ_=>⟨_,_,[],y.prest,rfl,λ_=>rfl,by rw[hb,List.nil_append];rfl⟩⟩
theorem NodeAt.aKO (h:NodeAt H0 H F y p ev wv nv c t s){i:Nat}(h1:1<=i)(h2:i<c.aF):Rs (lP y i) 172 H (lZ y c i) (List.range c.lanes):=by
 have hb:H[y.lb i]? =some (nW y c i):=h.sep.wF .node rfl wI (by
  simp only[lQ,aMS,aNc,aNd];exact .inr (.inr ⟨i-1,by unfold Cfg.aF at h2;omega,by rw[Nat.sub_add_cancel h1]⟩))
 unfold lZ;rw[if_neg (by omega)]
 refine .inr ⟨y.lb i,0,y.lcap i,by rw[aM3],by rw[aM3];exact h.lay.lcap i h1 h2,λ_=>⟨_,_,[],y.lrest i,rfl,λ_=>rfl,by rw[hb,List.nil_append];rfl⟩⟩
theorem NodeAt.wH (h:NodeAt H0 H F y p ev wv nv c t s){i:Nat}(hi:i<c.aF): ∃b o,aQ 3 (gL y c) (.int .i64 (i:Int))=some (.pointer (some ⟨b,o,none⟩))/\ ∀H',NodeAt H0 H' F y p ev wv nv c t s∨H'[b]? =H[b]? ->
  ldN 3 (.pointer (some ⟨b,o,none⟩)) H'=some (.agg ⟨fB y c i⟩,H')/\ld1 (.pointer (some ⟨b,o,none⟩)) H'=some (.int .i64 (jM c i),H')/\ld1 (.pointer (some ⟨b,o+1,none⟩)) H'=some (lZ y c i,H')/\ld1 (.pointer (some ⟨b,o+2,none⟩)) H'=some (pt (y.wh i),H'):=by
 obtain⟨b,o,g1,g2,g3⟩:=h.X2.iQ (Au y c) (i:=i) (x:=i) (by simp[hi]) .i64
 have hb:b=y.pb:=by
  obtain⟨o',n',c',hh⟩:=g2;unfold gL at hh;injection hh with hh;injection hh with hh;injection hh with hh;exact hh.symm
 refine⟨b,o,g1,λH' hH'=> ?_⟩
 have hsame:H'[b]? =H[b]? :=by
  rcases hH' with h'|h'
  ·have q1:H[y.pb]? =some (wJ y c):=h.sep.wF .node rfl wI (by simp[lQ])
   have q2:H'[y.pb]? =some (wJ y c):=h'.sep.wF .node rfl wI (by simp[lQ])
   rw[hb,q1,q2]
  ·exact h'
 obtain⟨q1,q2,_⟩:=g3 H' hsame
 exact⟨q1,q2 0 _ rfl,q2 1 _ rfl,q2 2 _ rfl⟩
theorem NodeAt.As (h:NodeAt H0 H F y p ev wv nv c t s){i k:Nat}(h1:1<=i)(hi:i<c.aF)(hk:k<c.lanes): ∃b o,aQ 2 (lZ y c i) (.int .i64 (k:Int))=some (.pointer (some ⟨b,o,none⟩))/\
  ldN 2 (.pointer (some ⟨b,o,none⟩)) H=some (.agg ⟨lP y i k⟩,H)/\ld1 (.pointer (some ⟨b,o,none⟩)) H=some (pt (y.sb i k),H)/\ld1 (.pointer (some ⟨b,o+1,none⟩)) H=some (pt (y.rb i k),H):=by
 obtain⟨b,o,g1,g2,g3⟩:=(h.aKO h1 hi).iQ (X7 y i) (i:=k) (x:=k) (by simp[hk]) .i64
 obtain⟨q1,q2,_⟩:=g3 H rfl
 exact⟨b,o,g1,q1,q2 0 _ rfl,q2 1 _ rfl⟩
theorem NodeAt.Er (h:NodeAt H0 H F y p ev wv nv c t s){i k:Nat}(h1:1<=i)(hi:i<c.aF)(hk:k<c.lanes):H[y.sb i k]? =some (lO (s.snd i k)):=
 h.sep.wF (.snd i k) (l:=[(y.sb i k,Go.Proofs.YtmimdleeihjdoaaGreatDoor.lO (s.snd i k))]) (by simp only[kQ];rw[if_pos ⟨h1,hi,hk⟩]) Eu (aMI ..)
theorem NodeAt.Eo (h:NodeAt H0 H F y p ev wv nv c t s){i k:Nat}(h1:1<=i)(hi:i<c.aF)(hk:k<c.lanes):H[y.rb i k]? =some (iR (s.rcv i k) c.room):=
 h.sep.wF (.rcv i k) (l:=[(y.rb i k,Go.Proofs.YtmimdleeihjdoaaGreatDoor.iR (s.rcv i k) c.room)]) (by simp only[kQ];rw[if_pos ⟨h1,hi,hk⟩]) Eu (aMI ..)
theorem NodeAt.aKP (h:NodeAt H0 H F y p ev wv nv c t s){i:Nat}(hi:i<c.aF):Blks (kP (y.wh i) (y.ww i) (y.wl i) (y.wc i) (y.lc i) (y.wr i) (y.lr i) c.weights (s.whl i)) H:=
 h.sep.see (.whl i) (by simp only[kQ];rw[if_pos hi]) X6
theorem NodeAt.Nd (h:NodeAt H0 H F y p ev wv nv c t s)(ht:t<1000000000)(i k:Nat):SndOk (s.snd i k):=by
 have:=h.inv.snd i k
 exact⟨this.le,this.wide,by have h1:=this.big;have h2:=this.wide;omega⟩
theorem NodeAt.Ep (h:NodeAt H0 H F y p ev wv nv c t s)(ht:t<1000000000)(i k:Nat):RcvOk (s.rcv i k) c.room:=by
 have:=h.inv.rcv i k
 exact⟨this.h,h.ok.room.2,by have:=this.big;omega⟩
theorem NodeAt.X4 {H':aA}{F':Part->Nat->Prop}{t':Nat}{s':NS}(h:NodeAt H0 H F y p ev wv nv c t s)(hi:NInv c t' s')(hs:Sep (kQ p.bag ev wv nv y c s') F' H')(hm:Mv (Un F) (Un F') H H'):NodeAt H0 H' F' y p ev wv nv c t' s':=
 {h with inv:=hi,sep:=hs,ext:=⟨aMP h.ext.1 hm.le,λb hb _=>by
   rw[hm.keep b (aMO hb h.ext.1) (λhu=>by have:=h.old b hu;omega),h.ext.2 b hb id]⟩,old:=λb hb=>(hm.own b hb).elim (h.old b) λhl=>aMP h.ext.1 hl}
theorem NodeAt.X1 {H':aA}{F':Nat->Prop}{t':Nat}{s':NS}(h:NodeAt H0 H F y p ev wv nv c t s)(i:Part){B:aA->Prop}(hB:Has B F' H')(hm:Mv (F i) F' H H')(hi:NInv c t' s')
  (hBi: ∀D,B D->kQ p.bag ev wv nv y c s' i D)(hj: ∀j,j≠i-> ∀D,kQ p.bag ev wv nv y c s j D->kQ p.bag ev wv nv y c s' j D):NodeAt H0 H' (updI F i F') y p ev wv nv c t' s'/\Mv (Un F) (Un (updI F i F')) H H':=by
 obtain⟨h1,h2⟩:=h.sep.Hr i (λj _=>yL _ _ _ _ _ _ _ j) hB hm
 refine⟨h.X4 hi (h1.vP λj D hD=> ?_) h2,h2⟩
 by_cases hji:j=i
 ·rw[hji,mO] at hD
  rw[hji];exact hBi D hD
 ·rw[eX _ _ hji] at hD
  exact hj j hji D hD
theorem NodeAt.Ar {H':aA}{t':Nat}{s':NS}(h:NodeAt H0 H F y p ev wv nv c t s)(i:Part){l l':List (Nat×Blk)}(hA:kQ p.bag ev wv nv y c s i=Blks l)(hl:rD l)(hsub: ∀q∈l',InB l q.1)(hf:Fr (InB l) H H')(hB:Blks l' H')(hi:NInv c t' s')
  (hBi:kQ p.bag ev wv nv y c s' i=Blks l')(hj: ∀j,j≠i->kQ p.bag ev wv nv y c s' j=kQ p.bag ev wv nv y c s j):NodeAt H0 H' F y p ev wv nv c t' s'/\Mv (Un F) (Un F) H H':=by
 obtain⟨h1,h2⟩:=h.sep.aKj i (λj _=>yL _ _ _ _ _ _ _ j) hA hl hsub hf hB
 refine⟨h.X4 hi (h1.vP λj D hD=> ?_) h2,h2⟩
 by_cases hji:j=i
 ·rw[hji,mO] at hD
  rw[hji,hBi];exact hD
 ·rw[eX _ _ hji] at hD
  rw[hj j hji];exact hD
theorem NodeAt.X3 {H':aA}{t':Nat}{i k:Nat}{x':Snd}(h:NodeAt H0 H F y p ev wv nv c t s)(h1:1<=i)(h2:i<c.aF)(hk:k<c.lanes)(hp:Put1 H (y.sb i k) (Go.Proofs.YtmimdleeihjdoaaGreatDoor.lO x') H')(hi:NInv c t' {s with snd:=up2 s.snd i k x'}):
  NodeAt H0 H' F y p ev wv nv c t' {s with snd:=up2 s.snd i k x'}/\Mv (Un F) (Un F) H H':=by
 refine h.Ar (.snd i k) (l:=[(y.sb i k,Go.Proofs.YtmimdleeihjdoaaGreatDoor.lO (s.snd i k))]) (l':=[(y.sb i k,Go.Proofs.YtmimdleeihjdoaaGreatDoor.lO x')]) (by simp only[kQ];rw[if_pos ⟨h1,h2,hk⟩]) Eu ?_ ?_ ?_ hi ?_ ?_
 ·intro q hq
  simp only[aMS,aMZ,or_false] at hq;subst hq
  exact⟨_,aMI ..,rfl⟩
 ·exact⟨hp.le,λb hb hn=>hp.keep b hb λhh=>hn ⟨_,aMI ..,hh.symm⟩⟩
 ·intro q hq
  simp only[aMS,aMZ,or_false] at hq;subst hq;exact hp.at_
 ·simp only[kQ]
  rw[if_pos ⟨h1,h2,hk⟩,up2,if_pos ⟨rfl,rfl⟩]
 ·intro j hj
  cases j with
  |snd i' k'=>
   have e:up2 s.snd i k x' i' k'=s.snd i' k':=if_neg λhh=>hj (by rw[hh.1,hh.2])
   simp only[kQ];rw[e]
  |_=>rfl
theorem NodeAt.Nc {H':aA}{t':Nat}{i k:Nat}{x':Rcv}(h:NodeAt H0 H F y p ev wv nv c t s)(h1:1<=i)(h2:i<c.aF)(hk:k<c.lanes)(hp:Put1 H (y.rb i k) (Go.Proofs.YtmimdleeihjdoaaGreatDoor.iR x' c.room) H')(hi:NInv c t' {s with rcv:=up2 s.rcv i k x'}):
  NodeAt H0 H' F y p ev wv nv c t' {s with rcv:=up2 s.rcv i k x'}/\Mv (Un F) (Un F) H H':=by
 refine h.Ar (.rcv i k) (l:=[(y.rb i k,Go.Proofs.YtmimdleeihjdoaaGreatDoor.iR (s.rcv i k) c.room)]) (l':=[(y.rb i k,Go.Proofs.YtmimdleeihjdoaaGreatDoor.iR x' c.room)]) (by simp only[kQ];rw[if_pos ⟨h1,h2,hk⟩]) Eu ?_ ?_ ?_ hi ?_ ?_
 ·intro q hq
  simp only[aMS,aMZ,or_false] at hq;subst hq
  exact⟨_,aMI ..,rfl⟩
 ·exact⟨hp.le,λb hb hn=>hp.keep b hb λhh=>hn ⟨_,aMI ..,hh.symm⟩⟩
 ·intro q hq
  simp only[aMS,aMZ,or_false] at hq;subst hq;exact hp.at_
 ·simp only[kQ]
  rw[if_pos ⟨h1,h2,hk⟩,up2,if_pos ⟨rfl,rfl⟩]
 ·intro j hj
  cases j with
  |rcv i' k'=>
   have e:up2 s.rcv i k x' i' k'=s.rcv i' k':=if_neg λhh=>hj (by rw[hh.1,hh.2])
   simp only[kQ];rw[e]
  |_=>rfl
end
def uS:Value:= .agg #[.pointer none,.pointer none]
def eY (a b:Value):Blk:= .cells [a,b] 172 .fix
section
variable {H0 H : aA} {F : Part → Nat → Prop} {y : Lay} {p : PlanD} {ev wv nv : Value} {c : Cfg} {t : Nat} {s : NS} {m : Nat}
theorem Ev:bld prog 172 []=some uS:=rfl
theorem yM {b:Nat}{a0 b0:Value}(a1 b1:Value)(h:H[b]? =some (eY a0 b0))(ha:dK [a1,b1]=true):stN 2 (.pointer (some ⟨b,0,none⟩)) (.agg #[a1,b1]) H=some (undef,H.set b (eY a1 b1)):=xY h (by decide) rfl rfl (aME 2) ha
theorem tG {b:Nat}{a0 b0:Value}(h:H[b]? =some (eY a0 b0)):ldN 2 (.pointer (some ⟨b,0,none⟩)) H=some (.agg #[a0,b0],H)/\ld1 (.pointer (some ⟨b,0,none⟩)) H=some (a0,H)/\ld1 (.pointer (some ⟨b,1,none⟩)) H=some (b0,H):=⟨xX h (aME 2),cK h rfl,cK h rfl⟩
theorem Ya (h:NodeAt H0 H F y p ev wv nv c t s)(hm:0<m)(i k:Int)(hno: ¬(1<=i/\i<c.aF/\0<=k/\k<c.lanes)): ∃H',lvl prog pkN m (.func 111) [pt y.nb,.int .i64 i,.int .i64 k] H=some (.tuple #[uS,.bool false],H')/\Ext H H':=by
 refine kJ (cF rfl) (by omega) ?_
 rw[U0];have e0: ∀H:aA,H++[Blk.cells [Value.pointer none,.pointer none] 172 .fix]=H++[eY (.pointer none) (.pointer none)]:=λ_=>rfl
 have h1:=h.fS (H':=H++[eY (.pointer none) (.pointer none)]) (Fr.app _ _ _);have l13:=h1.ld 13 (gL y c) rfl;have l3:=h1.ld 3 (.int .i64 c.lanes) rfl;have e1:bJ (gL y c)=some (.int .i64 c.aF):=rfl;have st:stN 2 (.pointer (some ⟨H.length,0,none⟩)) uS (H++[eY (.pointer none) (.pointer none)])=some (undef,H++[eY (.pointer none) (.pointer none)]):=by
  rw[uS,yM _ _ (dF _ _) rfl,mR]
 have ld:=(tG (dF H (eY (.pointer none) (.pointer none)))).1;have fin: ∃H',(some (Value.tuple #[.agg #[.pointer none,.pointer none],.bool false],H++[eY (.pointer none) (.pointer none)]):Option (Value×aA))=some (.tuple #[uS,.bool false],H')/\Ext H H':=⟨_,rfl,Fr.app _ _ _⟩;by_cases c1:i<1
 ·simp -implicitDefEqProofs only[gsR,e0,decide_eq_true c1,Ev,st,ld]
  exact fin
 ·by_cases c2:(c.aF:Int)<=i
  ·simp -implicitDefEqProofs only[gsR,e0,decide_eq_false c1,l13,e1,decide_eq_true c2,Ev,st,ld]
   exact fin
  ·by_cases c3:k<0
   ·simp -implicitDefEqProofs only[gsR,e0,decide_eq_false c1,l13,e1,decide_eq_false c2,decide_eq_true c3,Ev,st,ld]
    exact fin
   ·have c4:(c.lanes:Int)<=k:=by omega
    simp -implicitDefEqProofs only[gsR,e0,decide_eq_false c1,l13,e1,decide_eq_false c2,decide_eq_false c3,l3,decide_eq_true c4,Ev,st,ld];exact fin
theorem Ng (h:NodeAt H0 H F y p ev wv nv c t s)(hm:0<m){i k:Nat}(h1:1<=i)(h2:i<c.aF)(hk:k<c.lanes): ∃H',lvl prog pkN m (.func 111) [pt y.nb,.int .i64 i,.int .i64 k] H=some (.tuple #[.agg #[pt (y.sb i k),pt (y.rb i k)],.bool true],H')/\Ext H H':=by
 refine kJ (cF rfl) (by omega) ?_
 rw[U0];have e0: ∀H:aA,H++[Blk.cells [Value.pointer none,.pointer none] 172 .fix]=H++[eY (.pointer none) (.pointer none)]:=λ_=>rfl
 have g1:=h.fS (H':=H++[eY (.pointer none) (.pointer none)]) (Fr.app _ _ _);have l13:=g1.ld 13 (gL y c) rfl;have l3:=g1.ld 3 (.int .i64 c.lanes) rfl;have e1:bJ (gL y c)=some (.int .i64 c.aF):=rfl;obtain⟨b,o,a1,a2⟩:=g1.wH h2;obtain⟨_,_,a3,_⟩:=a2 _ (.inl g1);obtain⟨b',o',a4,a5,_,_⟩:=g1.As h1 h2 hk;have a5:ldN 2 (.pointer (some ⟨b',o',none⟩)) (H++[eY (.pointer none) (.pointer none)])=some (.agg #[pt (y.sb i k),pt (y.rb i k)],H++[eY (.pointer none) (.pointer none)]):=a5;have st:stN 2 (.pointer (some ⟨H.length,0,none⟩)) (.agg #[pt (y.sb i k),pt (y.rb i k)]) (H++[eY (.pointer none) (.pointer none)])=some (undef,H++[eY (pt (y.sb i k)) (pt (y.rb i k))]):=by
  rw[yM _ _ (dF _ _) rfl,mR]
 have ld:=(tG (dF H (eY (pt (y.sb i k)) (pt (y.rb i k))))).1;have c1:decide ((i:Int)<1)=false:=by rw[decide_eq_false_iff_not];omega
 have c2:decide ((c.aF:Int)<=(i:Int))=false:=by rw[decide_eq_false_iff_not];omega
 have c3:decide ((k:Int)<0)=false:=by rw[decide_eq_false_iff_not];omega
 have c4:decide ((c.lanes:Int)<=(k:Int))=false:=by rw[decide_eq_false_iff_not];omega
 simp -implicitDefEqProofs only[gsR,e0,c1,l13,e1,c2,c3,l3,c4,a1,a3,a4,a5,st,ld]
 exact⟨_,rfl,Fr.app _ _ _⟩
theorem oT (a b:Value):ext 0 (.tuple #[a,b])=some a/\ext 1 (.tuple #[a,b])=some b:=⟨rfl,rfl⟩
theorem aKW (h:NodeAt H0 H F y p ev wv nv c t s)(hm:1<m){i k:Nat}(h1:1<=i)(h2:i<c.aF)(hk:k<c.lanes): ∃H',lvl prog pkN m (.func 46) [pt y.nb,.int .i64 i,.int .i64 k] H=some (pt (y.sb i k),H')/\Ext H H':=by
 obtain⟨H1,g1,x1⟩:=Ng h (m:=m-1) (by omega) h1 h2 hk
 have e0: ∀H:aA,H++[Blk.cells [Value.pointer none,.pointer none] 172 .fix]=H++[eY (.pointer none) (.pointer none)]:=λ_=>rfl
 have st:stN 2 (.pointer (some ⟨H1.length,0,none⟩)) (.agg #[pt (y.sb i k),pt (y.rb i k)]) (H1++[eY (.pointer none) (.pointer none)])=some (undef,H1++[eY (pt (y.sb i k)) (pt (y.rb i k))]):=by
  rw[yM _ _ (dF _ _) rfl,mR]
 have ld:=(tG (dF H1 (eY (pt (y.sb i k)) (pt (y.rb i k))))).2.1;refine kJ (cF rfl) (by omega) ⟨H1++[eY (pt (y.sb i k)) (pt (y.rb i k))],?_,x1.tr (Fr.app _ _ _)⟩
 rw[Vg];simp -implicitDefEqProofs only[gsR,g1,oT,e0,st,ld]
theorem aKU (h:NodeAt H0 H F y p ev wv nv c t s)(hm:1<m){i k:Nat}(h1:1<=i)(h2:i<c.aF)(hk:k<c.lanes): ∃H',lvl prog pkN m (.func 55) [pt y.nb,.int .i64 i,.int .i64 k] H=some (pt (y.rb i k),H')/\Ext H H':=by
 obtain⟨H1,g1,x1⟩:=Ng h (m:=m-1) (by omega) h1 h2 hk
 have e0: ∀H:aA,H++[Blk.cells [Value.pointer none,.pointer none] 172 .fix]=H++[eY (.pointer none) (.pointer none)]:=λ_=>rfl
 have st:stN 2 (.pointer (some ⟨H1.length,0,none⟩)) (.agg #[pt (y.sb i k),pt (y.rb i k)]) (H1++[eY (.pointer none) (.pointer none)])=some (undef,H1++[eY (pt (y.sb i k)) (pt (y.rb i k))]):=by
  rw[yM _ _ (dF _ _) rfl,mR]
 have ld:=(tG (dF H1 (eY (pt (y.sb i k)) (pt (y.rb i k))))).2.2;refine kJ (cF rfl) (by omega) ⟨H1++[eY (pt (y.sb i k)) (pt (y.rb i k))],?_,x1.tr (Fr.app _ _ _)⟩
 rw[aH2];simp -implicitDefEqProofs only[gsR,g1,oT,e0,st,ld]
theorem aKX (h:NodeAt H0 H F y p ev wv nv c t s)(hm:1<m)(i k:Int)(hno: ¬(1<=i/\i<c.aF/\0<=k/\k<c.lanes)): ∃H',lvl prog pkN m (.func 46) [pt y.nb,.int .i64 i,.int .i64 k] H=some (.pointer none,H')/\Ext H H':=by
 obtain⟨H1,g1,x1⟩:=Ya h (m:=m-1) (by omega) i k hno
 have e0: ∀H:aA,H++[Blk.cells [Value.pointer none,.pointer none] 172 .fix]=H++[eY (.pointer none) (.pointer none)]:=λ_=>rfl
 have st:stN 2 (.pointer (some ⟨H1.length,0,none⟩)) uS (H1++[eY (.pointer none) (.pointer none)])=some (undef,H1++[eY (.pointer none) (.pointer none)]):=by
  rw[uS,yM _ _ (dF _ _) rfl,mR]
 have ld:=(tG (dF H1 (eY (.pointer none) (.pointer none)))).2.1;refine kJ (cF rfl) (by omega) ⟨H1++[eY (.pointer none) (.pointer none)],?_,x1.tr (Fr.app _ _ _)⟩
 rw[Vg];simp -implicitDefEqProofs only[gsR,g1,oT,e0,st,ld]
theorem Ey (h:NodeAt H0 H F y p ev wv nv c t s)(hm:0<m):lvl prog pkN m (.func 39) [pt y.nb] H=some (pt y.hb,H):=by
 refine cX (cF rfl) (by omega) ?_
 rw[aHV];simp -implicitDefEqProofs only[gsR,h.ld 14 (pt y.hb) rfl]
theorem aKV (h:NodeAt H0 H F y p ev wv nv c t s)(hm:0<m):lvl prog pkN m (.func 93) [pt y.nb] H=some (pt y.rg,H):=by
 refine cX (cF rfl) (by omega) ?_
 rw[aH7];simp -implicitDefEqProofs only[gsR,h.ld 15 (pt y.rg) rfl]
def fiI (l:List Nat)(z:Int):Int:=match l.findIdx? (λw:Nat=>decide ((w:Int)=z)) with
 |some j=>(j:Int)
 |none=> -1
theorem aKR {l:List Nat}{z:Int}{i:Nat}(hi:i<l.length)(h1:(l.getD i 0:Int)=z)(h2: ∀j,j<i->(l.getD j 0:Int)≠z):fiI l z=i:=by
 have:l.findIdx? (λw:Nat=>decide ((w:Int)=z))=some i:=by
  rw[List.findIdx?_eq_some_iff_getElem];refine⟨hi,?_,λj hj=> ?_⟩
  ·rw[aMD,aMB hi] at h1
   simpa using h1
  ·have:=h2 j hj
   rw[aMD,aMB (by omega)] at this
   simpa using this
 unfold fiI;rw[this]
theorem aKS {l:List Nat}{z:Int}(h: ∀j,j<l.length->(l.getD j 0:Int)≠z):fiI l z= -1:=by
 have:l.findIdx? (λw:Nat=>decide ((w:Int)=z))=none:=by
  rw[List.findIdx?_eq_none_iff];intro x hx;obtain⟨j,hj,rfl⟩:=List.mem_iff_getElem.mp hx;have:=h j hj;rw[aMD,aMB hj] at this;simpa using this
 unfold fiI;rw[this]
def mU (y:Lay)(c:Cfg)(i:Nat):Blk:= .cells (fB y c i) 167 .fix
theorem aKZ (hm:0<m){cb:Nat}{z:Int}(i:Nat)(hc:H[cb]? =some (.cells [.int .i64 z] 3 .fix)):lvl prog pkN m (.func 236) [.agg ⟨fB y c i⟩,pt cb] H=some (.bool ((jM c i:Int)==z),H++[mU y c i]):=by
 refine cX (cF rfl) (by omega) ?_
 rw[aHL];have e0:H++[Blk.cells (Value.cells (.agg ⟨fB y c i⟩)).toList 167 .fix]=H++[mU y c i]:=rfl;have l0:ld1 (.pointer (some ⟨H.length,0,none⟩)) (H++[mU y c i])=some (.int .i64 (jM c i),H++[mU y c i]):=cK (dF _ _) rfl;have l1:ld1 (pt cb) (H++[mU y c i])=some (.int .i64 z,H++[mU y c i]):=cK (nE hc _) rfl;simp -implicitDefEqProofs only[gsR,e0,l0,l1]
theorem aKY (hm:0<m){cb:Nat}{z:Int}(i:Nat)(hc:H[cb]? =some (.cells [.int .i64 z] 3 .fix)):lvl prog pkN m (.func 115) [.agg ⟨fB y c i⟩,pt cb] H=some (.bool ((jM c i:Int)==z),H++[mU y c i]):=by
 refine cX (cF rfl) (by omega) ?_
 rw[aHc];have e0:H++[Blk.cells (Value.cells (.agg ⟨fB y c i⟩)).toList 167 .fix]=H++[mU y c i]:=rfl;have l0:ld1 (.pointer (some ⟨H.length,0,none⟩)) (H++[mU y c i])=some (.int .i64 (jM c i),H++[mU y c i]):=cK (dF _ _) rfl;have l1:ld1 (pt cb) (H++[mU y c i])=some (.int .i64 z,H++[mU y c i]):=cK (nE hc _) rfl;simp -implicitDefEqProofs only[gsR,e0,l0,l1]
theorem aKT {fid:FuncId}{cb:Nat}{z:Int}{v:Value}(hf: ∀(H:aA)(i:Nat),H[cb]? =some (.cells [.int .i64 z] 3 .fix)->lvl prog pkN m (.func fid) [.agg ⟨fB y c i⟩,pt cb] H=some (.bool ((jM c i:Int)==z),H++[mU y c i]))
  (hb:c.by'.length<=5): ∀(q i k:Nat)(H:aA),c.by'.length-i=q->i<=c.by'.length->q<k->Rs (fB y c) 167 H v ((List.range c.aF).drop 1)->H[cb]? =some (.cells [.int .i64 z] 3 .fix)->(∀j,j<i->(c.by'.getD j 0:Int)≠z)-> ∀(x2 x3 x4 x5 x6 x9 bI cA aP aN aL aM aR aS aO:Value),
  ∃H2,aH k (aI prog (lvl prog pkN m) (aH m) K4) (Do (lvl prog pkN m) (aH m)) [v,(.func (.func fid) #[] #[pt cb]),x2,x3,x4,x5,x6,(.int .i64 c.by'.length),(.int .i64 (i:Nat)),x9,bI,cA,aP,aN,aL,aM,aR,aS,aO] H=some (.int .i64 (fiI c.by' z),H2)/\Ext H H2:=by
 intro q;induction q with
 |zero=>
  intro i k H hq hi hk hv hc hno;intros;obtain⟨k,rfl⟩: ∃k',k=k'+1:=⟨k-1,by omega⟩
  have c1:decide ((i:Int)<(c.by'.length:Int))=false:=by rw[decide_eq_false_iff_not];omega
  rw[aH,U1];simp -implicitDefEqProofs only[gsR,c1];rw[aG9];rw[aKS λj hj=>hno j (by omega)]
  simp -implicitDefEqProofs only[gsR]
  exact⟨_,rfl,Fr.mZ _ _⟩
 |succ q ih=>
  intro i k H hq hi hk hv hc hno;intros;obtain⟨k,rfl⟩: ∃k',k=k'+1:=⟨k-1,by omega⟩
  have c1:decide ((i:Int)<(c.by'.length:Int))=true:=by rw[decide_eq_true_eq];omega
  have hx:((List.range c.aF).drop 1)[i]? =some (i+1):=by
   rw[List.getElem?_drop,aNh (by unfold Cfg.aF;omega),Nat.add_comm]
  obtain⟨b,o,a1,_,a3⟩:=hv.iQ (Au y c) hx .i64;have a3:=(a3 H rfl).1;have hcall:=hf H (i+1) hc;have hto:jM c (i+1)=c.by'.getD i 0:=by unfold jM;rw[if_neg (by omega)];rfl
  rw[hto] at hcall;have e9:=nU i (by omega)
  have hcv:nJ (lvl prog pkN m) (.func (.func fid) #[] #[pt cb]) [.agg ⟨fB y c (i+1)⟩] H=some (.bool ((c.by'.getD i 0:Int)==z),H++[mU y c (i+1)]):=hcall;rw[aH,U1];by_cases he:(c.by'.getD i 0:Int)=z
  ·have c2:((c.by'.getD i 0:Int)==z)=true:=by simpa using he
   rw[c2] at hcv;simp -implicitDefEqProofs only[gsR,c1,a1,a3,hcv];rw[aHb];rw[aKR (by omega) he hno]
   simp -implicitDefEqProofs only[gsR]
   exact⟨_,rfl,Fr.app _ _ _⟩
  ·have c2:((c.by'.getD i 0:Int)==z)=false:=by simpa using he
   rw[c2] at hcv;simp -implicitDefEqProofs only[gsR,c1,a1,a3,hcv,cH,e9];obtain⟨H2,g1,g2⟩:=ih (i+1) k (H++[mU y c (i+1)]) (by omega) (by omega) (by omega) (hv.ext (Fr.app _ _ _)) (nE hc _) (λj hj=>by
    by_cases hji:j=i
    ·rw[hji];exact he
    ·exact hno j (by omega)) ..
   exact⟨H2,g1,(show Ext H (H++[mU y c (i+1)]) from Fr.app _ _ _).tr g2⟩
theorem Yb {fid:FuncId}{cb:Nat}{z:Int}{v:Value}(hm:20<m)(hf: ∀(H:aA)(i:Nat),H[cb]? =some (.cells [.int .i64 z] 3 .fix)->lvl prog pkN (m-1) (.func fid) [.agg ⟨fB y c i⟩,pt cb] H=some (.bool ((jM c i:Int)==z),H++[mU y c i]))
  (hb:c.by'.length<=5)(hv:Rs (fB y c) 167 H v ((List.range c.aF).drop 1))(hc:H[cb]? =some (.cells [.int .i64 z] 3 .fix)): ∃H2,lvl prog pkN m (.func 114) [v,.func (.func fid) #[] #[pt cb]] H=some (.int .i64 (fiI c.by' z),H2)/\Ext H H2:=by
 refine kJ (cF rfl) (by omega) ?_
 rw[aHa];have hl:=hv.jQ;have:((List.range c.aF).drop 1).length=c.by'.length:=by simp[Cfg.aF]
 rw[this] at hl;simp -implicitDefEqProofs only[gsR,hl];exact aKT hf hb c.by'.length 0 (m-1) H (by omega) (by omega) (by omega) hv hc (λj hj=>by omega) ..
theorem aKQ:prog.cellsOf 167=3:=by kernel_rfl
theorem NodeAt.X9 (h:NodeAt H0 H F y p ev wv nv c t s): ∃v,slc prog 3 (gL y c) (some (.int .i64 1)) none none H=some (v,H)/\Rs (fB y c) 167 H v ((List.range c.aF).drop 1):=by
 have hne:List.range c.aF≠[]:=by unfold Cfg.aF;simp
 obtain⟨v',g1,g2,_⟩:=h.X2.B8 (P:=prog) (Au y c) aKQ hne (l:=1) (r:=c.aF) (lo:=some (.int .i64 1)) (hi:=none) (nA 0 .i64 1) (by rw[aM3];rfl) (by unfold Cfg.aF;omega) (by rw[aM3];exact aME _)
 rw[List.take_of_length_le (by rw[aM3];exact aME _)] at g2
 exact⟨v',g1,g2⟩
end
section
variable {H0 H : aA} {F : Part → Nat → Prop} {y : Lay} {p : PlanD} {ev wv nv : Value} {c : Cfg} {t : Nat} {s : NS} {m : Nat}
def wK (z:Int):Blk:= .cells [.int .i64 z] 3 .fix
theorem Yc (h:NodeAt H0 H F y p ev wv nv c t s)(hm:40<m)(d:Nat)(hd:d<c.nodes): ∃H',lvl prog pkN m (.func 178) [pt y.nb,.int .i64 d] H=some (.int .i64 (c.port d:Nat),H')/\Ext H H':=by
 have hport:c.port d=if d=c.me then 0 else match c.by'.findIdx? λw:Nat=>decide ((w:Int)=nx p c.me d) with
   |some j=>j+1
   |none=>0:=by
  have:=congrArg Cfg.port h.hc;have h2:=congrArg Cfg.by' h.hc;rw[this,h2];rfl
 refine kJ (cF rfl) (by omega) ?_
 rw[aHm];have l12:=h.ld 12 (.int .i64 c.me) rfl;by_cases hme:d=c.me
 ·have c1:((d:Int)==(c.me:Int))=true:=by rw[hme];simp
  rw[if_pos hme] at hport;rw[hport];simp -implicitDefEqProofs only[gsR,l12,c1]
  exact⟨_,rfl,Fr.mZ _ _⟩
 ·have c1:((d:Int)==(c.me:Int))=false:=by rw[beq_eq_false_iff_ne];omega
  rw[if_neg hme] at hport;obtain⟨n,hn⟩:=h.hp;have hnn:c.nodes=n:=by
   have:=congrArg Cfg.nodes h.hc;rw[this];show p.nodes.toNat=n
   rw[hn.hn];simp
  have hmen:c.me<n:=by rw[<-hnn];exact h.ok.me
  obtain⟨row,hrow⟩: ∃row,p.next[c.me]? =some row:=⟨_,aMB (by rw[hn.nl];exact hmen)⟩
  have l11:=h.ld 11 nv rfl;obtain⟨pp,u,r1,r2,r3⟩:=(h.plan.ext h.ext).n.Cp hrow .i64;have hrl:row.length=n:=hn.rl _ (aMJ hrow);have hx:row[d]? =some (nx p c.me d):=by
   unfold nx;rw[aM1,aM1,aMD,aMD,hrow,aM2];rw[aMB (by rw[hrl];omega)]
   rfl
  obtain⟨b,o,i1,_,i3⟩:=r3.iQ gQ hx .i64;have i3:=(i3 H rfl).2.1 0 _ rfl;have i3:ld1 (.pointer (some ⟨b,o,none⟩)) H=some (.int .i64 (nx p c.me d),H):=i3;have e0: ∀H:aA,H++[Blk.cells [Value.int .i64 0] 3 .fix]=H++[wK 0]:=λ_=>rfl
  have st:stN 1 (.pointer (some ⟨H.length,0,none⟩)) (.int .i64 (nx p c.me d)) (H++[wK 0])=some (undef,H++[wK (nx p c.me d)]):=by
   rw[lG (dF H (wK 0)) (by decide) (by simp),mR]
   rfl
  obtain⟨H1,hH1⟩: ∃H1,H1=H++[wK (nx p c.me d)]:=⟨_,rfl⟩;have x1:Ext H H1:=by rw[hH1];exact Fr.app _ _ _
  have h1:=h.fS x1;have l13:=h1.ld 13 (gL y c) rfl;obtain⟨v,t1,t2⟩:=h1.X9;obtain⟨H2,g1,g2⟩:=Yb (m:=m-1) (fid:=236) (cb:=H.length) (z:=nx p c.me d) (by omega) (λG i hG=>aKZ (by omega) i hG) h.ok.by' t2 (by rw[hH1];exact dF _ _)
  have e1:IntKind.i64.wrap (fiI c.by' (nx p c.me d)+1)=(c.port d:Nat):=by
   rw[hport];unfold fiI;cases hf:c.by'.findIdx? λw:Nat=>decide ((w:Int)=nx p c.me d) with
   |none=>rfl
   |some j=>
    have:=(List.findIdx?_eq_some_iff_getElem.mp hf).1;have:=h.ok.by';exact nU j (by omega)
  simp -implicitDefEqProofs only[gsR,l12,c1,l11,r1,r2,i1,i3,e0,st,<-hH1,l13,t1,g1,cH,e1]
  exact⟨_,rfl,x1.tr g2⟩
theorem aK1 (x:Pkt):(pT c x s).2={s with hL:=(pT c x s).2.hL}:=by
 unfold pT;split
 ·rfl
 ·split<;>rfl
theorem aK0 {D:aA}{hb:Nat}(hm:2<m)(x:Pkt)(hq: ∀k:Int,(fA s.hL k).length<=c.queue)(h8:c.queue<=8)(h:HostAt D hb s.hL s.hG c.lanes c.queue):
  ∃r D',lvl prog pkN m (.func 94) [pt hb,x.dB] D=some (r,D')/\(r= .int .u16 (pT c x s).1/\HostAt D' hb (pT c x s).2.hL s.hG c.lanes c.queue):=by
 obtain⟨w0,w1,w2,cv,h⟩:=h;unfold pT;by_cases h1:0<=x.lane/\x.lane<c.lanes
 ·rw[if_neg (not_not_intro h1)]
  by_cases h2:(fA s.hL x.lane).length=c.queue
  ·rw[if_pos h2]
   exact⟨_,_,aIU h hm x h1 h2,rfl,HostAt.ext ⟨w0,w1,w2,cv,h⟩ (Fr.app _ _ _)⟩
  ·rw[if_neg h2]
   obtain⟨H',g1,g2⟩:=aIW h hm x h1 h2 (jI (n:=1000) (by decide) (by have:=hq x.lane;omega))
   exact⟨_,_,g1,rfl,g2⟩
 ·rw[if_pos h1]
  exact⟨_,_,aIV h hm x h1,rfl,HostAt.ext ⟨w0,w1,w2,cv,h⟩ (Fr.app _ _ _)⟩
theorem NodeAt.Ez {H':aA}{F':Nat->Prop}{t':Nat}{L G:List Pkt}(h:NodeAt H0 H F y p ev wv nv c t s)(hB:Has (λD=>HostAt D y.hb L G c.lanes c.queue) F' H')(hm:Mv (F .host) F' H H')(hi:NInv c t' {s with hL:=L,hG:=G}):
  NodeAt H0 H' (updI F .host F') y p ev wv nv c t' {s with hL:=L,hG:=G}/\Mv (Un F) (Un (updI F .host F')) H H':=
 h.X1 .host hB hm hi (λD hD=>hD) λj hj D hD=>by
  cases j with
  |host=>exact absurd rfl hj
  |_=>exact hD
theorem NodeAt.Nh {H':aA}{F':Nat->Prop}{t':Nat}{L:List (Go.Abs.fM×Pkt)}(h:NodeAt H0 H F y p ev wv nv c t s)(hB:Has (λD=>RingsN D y.rg L (c.aF*c.lanes*c.room) c.aF c.lanes) F' H')(hm:Mv (F .rings) F' H H')(hi:NInv c t' {s with rL:=L}):
  NodeAt H0 H' (updI F .rings F') y p ev wv nv c t' {s with rL:=L}/\Mv (Un F) (Un (updI F .rings F')) H H':=
 h.X1 .rings hB hm hi (λD hD=>hD) λj hj D hD=>by
  cases j with
  |rings=>exact absurd rfl hj
  |_=>exact hD
theorem Has.uT {A B:aA->Prop}{F:Nat->Prop}{H:aA}(h:Has A F H)(hAB: ∀D,A D->B D):Has B F H:=⟨hAB _ h.at_,h.lt⟩
theorem Av (h:NodeAt H0 H F y p ev wv nv c t s)(hm:10<m)(x:Pkt)(hb:0<=x.body/\x.body<4294967296): ∃H' F',lvl prog pkN m (.func 38) [pt y.nb,x.dB] H=some (.int .u16 (nF c x s).1,H')/\NodeAt H0 H' F' y p ev wv nv c t (nF c x s).2/\Mv (Un F) (Un F') H H':=by
 have hinv:=h.inv.aI2 h.ok hb;obtain⟨H1,hH1⟩: ∃H1,H1=H++[dM x]:=⟨_,rfl⟩;have x1:Ext H H1:=by rw[hH1];exact Fr.app _ _ _
 have h1:=h.fS x1;have b1:H1[H.length]? =some (dM x):=by rw[hH1];exact dF _ _
 have e0:H++[Blk.cells (Value.cells x.dB).toList 31 .fix]=H1:=by rw[hH1];rfl
 have l0:ld1 (.pointer (some ⟨H.length,0,none⟩)) H1=some (.int .i64 x.src,H1):=cK b1 rfl;have l1:ld1 (.pointer (some ⟨H.length,1,none⟩)) H1=some (.int .i64 x.dst,H1):=cK b1 rfl;have l4:=(pC b1).2;have n1:=h1.ld 1 (.int .i64 c.nodes) rfl;have n12:=h1.ld 12 (.int .i64 c.me) rfl;have n14:=h1.ld 14 (pt y.hb) rfl;have mvx:Mv (Un F) (Un F) H H1:=Mv.oZ x1 _;by_cases hno:x.src≠c.me∨x.dst<0∨(c.nodes:Int)<=x.dst∨x.dst=c.me
 ·have hr:nF c x s=(1,s):=by unfold nF;rw[if_pos hno]
  rw[hr];refine⟨H1,F,cX (cF rfl) (by omega) ?_,h1,mvx⟩
  rw[Ve];by_cases c1:x.src=c.me
  ·have c1':(x.src !=(c.me:Int))=false:=by simp[c1]
   by_cases c2:x.dst<0
   ·simp -implicitDefEqProofs only[gsR,e0,l0,n12,c1',l1,decide_eq_true c2]
    rfl
   ·by_cases c3:(c.nodes:Int)<=x.dst
    ·simp -implicitDefEqProofs only[gsR,e0,l0,n12,c1',l1,decide_eq_false c2,n1,decide_eq_true c3]
     rfl
    ·have c4:x.dst=c.me:=by
      rcases hno with h|h|h|h
      ·exact absurd c1 h
      ·exact absurd h c2
      ·exact absurd h c3
      ·exact h
     have c4':(x.dst==(c.me:Int))=true:=by simp[c4]
     simp -implicitDefEqProofs only[gsR,e0,l0,n12,c1',l1,decide_eq_false c2,n1,decide_eq_false c3,c4'];rfl
  ·have c1':(x.src !=(c.me:Int))=true:=by simpa using c1
   simp -implicitDefEqProofs only[gsR,e0,l0,n12,c1'];rfl
 ·have hr:nF c x s=pT c x s:=by unfold nF;rw[if_neg hno]
  rw[hr] at hinv⊢;rw[aK1] at hinv⊢;obtain⟨r,H2,F',g1,g2,g3⟩:=(h1.sep.own .host).xM rA (n:=m-1) (λD hD=>aK0 (m:=m-1) (by omega) x h1.inv.hQ h.ok.queue.2 hD)
  obtain⟨hrv,_⟩:=g2.at_;obtain⟨k1,k2⟩:=h1.Ez (Has.uT g2 λD hD=>hD.2) g3 hinv
  have c1:(x.src !=(c.me:Int))=false:=by
   simp only[bne_eq_false_iff_eq];exact Classical.byContradiction λhh=>hno (.inl hh)
  have c2:decide (x.dst<0)=false:=by rw[decide_eq_false_iff_not];exact λhh=>hno (.inr (.inl hh))
  have c3:decide ((c.nodes:Int)<=x.dst)=false:=by rw[decide_eq_false_iff_not];exact λhh=>hno (.inr (.inr (.inl hh)))
  have c4:(x.dst==(c.me:Int))=false:=by rw[beq_eq_false_iff_ne];exact λhh=>hno (.inr (.inr (.inr hh)))
  refine⟨H2,_,cX (cF rfl) (by omega) ?_,k1,mvx.o5 k2⟩
  rw[Ve];have g1:lvl prog pkN (m-1) (.func 94) [pt y.hb,x.dB] H1=some (.int .u16 (pT c x s).1,H2):=by rw[<-hrv];exact g1
  simp -implicitDefEqProofs only[gsR,e0,l0,n12,c1,l1,c2,n1,c3,c4,n14,l4,g1]
end
theorem aK7 (a b c d:UInt8):fV [a,b,c,d]<4294967296:=Md 4 _ rfl
theorem Yd (a b:UInt8):fV [a,b]<65536:=Md 2 _ rfl
theorem aK6 {bs:List UInt8}{f:Frm}(h:o7 bs=some f):f.ok:=by
 have h1:(mI bs).ok:=⟨UInt8.toNat_lt _,UInt8.toNat_lt _,Yd _ _,by show 0<256;decide,by show 0<256;decide,by show 0<4294967296;decide⟩
 have h2:(qI bs).ok:=⟨UInt8.toNat_lt _,UInt8.toNat_lt _,Yd _ _,UInt8.toNat_lt _,UInt8.toNat_lt _,aK7 _ _ _ _⟩;unfold o7 xZ at h
 split at h
 ·split at h
  ·cases h;exact h1
  ·cases h
 ·split at h
  ·split at h
   ·cases h;exact h2
   ·cases h
  ·cases h
theorem aK8 {α:Type}(f:Nat->Nat->α)(i k:Nat):up2 f i k (f i k)=f:=by
 funext j l
 unfold up2;split
 ·rename_i h
  rw[h.1,h.2]
 ·rfl
theorem uU (b:Nat)(H':aA):chk (some (pt b,H')) (pt b)=true:=by simp[chk,veq]
theorem Yf (x:Pkt)(H':aA):chk (some (x.dB,H')) x.dB=true:=by simp[chk,veq,sP,Pkt.dB,Pkt.oE]
theorem Ye {n:Nat}(h:n≠0):((n:Int)!=0)=true:=by
 rw[bne_iff_ne];omega
theorem aK2 {room:Nat}{x:Rcv}{s:Nat}:(x.jX room s).1≠0->(x.jX room s).2=x:=by
 unfold Rcv.jX
 generalize dN x.n s=w
 by_cases c1:w<x.n
 ·simp only[if_pos c1]
  exact λ_=>trivial
 ·by_cases c2:x.lM room<=w
  ·simp only[if_neg c1,if_pos c2]
   exact λ_=>trivial
  ·simp only[if_neg c1,if_neg c2]
   exact λh=>absurd rfl h
theorem aK4 {c:Cfg}{s:NS}{i:Nat}{f:Frm}(hn: ¬c.nodes<=max f.src f.dst)(h0:((s.rcv i f.lane).jX c.room f.seq).1=0):
  qK c i f s=(0,{s with rcv:=up2 s.rcv i f.lane ((s.rcv i f.lane).jX c.room f.seq).2,rL:=sK c s.rL ((i:Int),(c.port f.dst:Int),(f.lane:Int)) ⟨f.src,f.dst,f.lane,f.body⟩}):=by
 unfold qK;rw[if_neg hn]
 generalize (s.rcv i f.lane).jX c.room f.seq=q at*
 obtain⟨e,r⟩:=q;simp only at h0;subst h0;rfl
theorem aK3 {c:Cfg}{s:NS}{i:Nat}{f:Frm}(hn: ¬c.nodes<=max f.src f.dst)(h0:((s.rcv i f.lane).jX c.room f.seq).1≠0):
  qK c i f s=(((s.rcv i f.lane).jX c.room f.seq).1,s):=by
 unfold qK;rw[if_neg hn]
 generalize (s.rcv i f.lane).jX c.room f.seq=q at*
 obtain⟨e,r⟩:=q;cases e with
 |zero=>exact absurd rfl h0
 |succ e=>rfl
section
variable {H0 H : aA} {F : Part → Nat → Prop} {y : Lay} {p : PlanD} {ev wv nv : Value} {c : Cfg} {t : Nat} {s : NS} {m : Nat}
theorem aK5 (h:NodeAt H0 H F y p ev wv nv c t s)(ht:t<1000000000)(hm:200<m){i:Nat}{f:Frm}(h1:1<=i)(h2:i<c.aF)(hl:f.lane<c.lanes)(hf:f.ok):
  ∃H' F',lvl prog pkN m (.func 119) [pt y.nb,.int .i64 i,.agg #[pt (y.sb i f.lane),pt (y.rb i f.lane)],frV f] H=some (.int .u16 (qK c i f s).1,H')/\NodeAt H0 H' F' y p ev wv nv c (t+1) (qK c i f s).2/\Mv (Un F) (Un F') H H':=by
 have hinv:=h.inv.aI0 h.ok i f hl hf.body;have hm0:0<m:=by omega
 have fs:=hf.src;have fd:=hf.dst;have fl:=hf.lane;have fq:=hf.seq;obtain⟨H1,hH1⟩: ∃H1,H1=H++[eY (pt (y.sb i f.lane)) (pt (y.rb i f.lane))]:=⟨_,rfl⟩;obtain⟨H2,hH2⟩: ∃H2,H2=H1++[frB f]:=⟨_,rfl⟩;have x1:Ext H H1:=by rw[hH1];exact Fr.app _ _ _
 have x2:Ext H1 H2:=by rw[hH2];exact Fr.app _ _ _
 have g2:=(h.fS x1).fS x2;have mv2:Mv (Un F) (Un F) H H2:=Mv.oZ (x1.tr x2) _;have e1:H++[Blk.cells (Value.cells (.agg #[pt (y.sb i f.lane),pt (y.rb i f.lane)])).toList 172 .fix]=H1:=by rw[hH1];rfl
 have e2:H1++[Blk.cells (Value.cells (frV f)).toList 71 .fix]=H2:=by rw[hH2];rfl
 have bl:H2[H.length]? =some (eY (pt (y.sb i f.lane)) (pt (y.rb i f.lane))):=by
  have:H1[H.length]? =some (eY (pt (y.sb i f.lane)) (pt (y.rb i f.lane))):=by rw[hH1];exact dF _ _
  rw[x2.2 _ (dA this) id,this]
 have bf:H2[H1.length]? =some (frB f):=by rw[hH2];exact dF _ _
 obtain⟨l0,l1,l2,l3,l4,l5,l6⟩:=nT bf;have n1:=g2.ld 1 (.int .i64 c.nodes) rfl;have ec:IntKind.i64.wrap (max (f.src:Int) (f.dst:Int))=max (f.src:Int) (f.dst:Int):=dJ (by omega) (by omega)
 by_cases c1:c.nodes<=max f.src f.dst
 ·have hr:qK c i f s=(30,s):=by unfold qK;rw[if_pos c1]
  rw[hr];have c1':decide ((c.nodes:Int)<=max (f.src:Int) (f.dst:Int))=true:=by rw[decide_eq_true_eq];omega
  refine⟨H2,F,cX (cF rfl) (by omega) ?_,{g2 with inv:=g2.inv.rB (Nat.le_succ t)},mv2⟩
  rw[K5];simp -implicitDefEqProofs only[gsR,e1,e2,l3,l4,wA,eZ _ _ u8U iU,ec,n1,c1'];rfl
 ·have c1':decide ((c.nodes:Int)<=max (f.src:Int) (f.dst:Int))=false:=by rw[decide_eq_false_iff_not];omega
  have lr:=(tG bl).2.2;obtain⟨H3,r1,r2⟩:=aIu (m:=m-1) (by omega) (g2.Eo h1 h2 hl) (g2.Ep ht i f.lane) f.seq fq
  have hri:NInv c (t+1) {s with rcv:=up2 s.rcv i f.lane ((s.rcv i f.lane).jX c.room f.seq).2}:=
   {g2.inv.rB (t':=t+1) (by omega) with rcv:=yF (g2.inv.rB (t':=t+1) (by omega)).rcv ((g2.inv.rcv i f.lane).Wd h.ok.room.2 f.seq)}
  obtain⟨g3,mv3⟩:=g2.Nc h1 h2 hl r2 hri;by_cases c2:((s.rcv i f.lane).jX c.room f.seq).1=0
  ·have c2':((((s.rcv i f.lane).jX c.room f.seq).1:Int)!=0)=false:=by rw[c2];rfl
   have hr:=aK4 (c:=c) (s:=s) (i:=i) c1 c2;rw[hr] at hinv⊢;obtain⟨x,hx⟩: ∃x:Pkt,x=⟨f.src,f.dst,f.lane,f.body⟩:=⟨_,rfl⟩;obtain⟨H4,hH4⟩: ∃H4,H4=H3++[dM x]:=⟨_,rfl⟩;have x4:Ext H3 H4:=by rw[hH4];exact Fr.app _ _ _
   have g4:=g3.fS x4;have b4:H4[H3.length]? =some (dM x):=by rw[hH4];exact dF _ _
   have bf3:H3[H1.length]? =some (frB f):=by
    rw[mv3.keep _ (dA bf) (λhu=> ?_),bf]
    have h3:=h.sep.pN _ hu;have:=x1.1;omega
   obtain⟨k0,k1,k2,k3,k4,k5,k6⟩:=nT bf3;have eb:bld prog 31 [(0,.int .i64 f.src),(1,.int .i64 f.dst),(2,.int .i64 f.lane),(3,.int .u32 f.body)]=some x.dB:=by rw[hx];rfl
   have ez: ∀H:aA,H++[Blk.cells [Value.int .i64 0,.int .i64 0,.int .i64 0,.int .u32 0] 31 .fix]=H++[dM pk0]:=λ_=>rfl
   have st:stN 4 (.pointer (some ⟨H3.length,0,none⟩)) x.dB (H3++[dM pk0])=some (undef,H4):=by rw[Ee x (dF _ _),mR,hH4]
   have q1:ld1 (.pointer (some ⟨H3.length,1,none⟩)) H4=some (.int .i64 f.dst,H4):=cK b4 (by rw[hx];rfl)
   have n15:=g4.ld 15 (pt y.rg) rfl;have hdn:f.dst<c.nodes:=by omega
   obtain⟨H5,t1,x5⟩:=Yc g4 (m:=m-1) (by omega) f.dst hdn
   have g5:=g4.fS x5;have n15':=g5.ld 15 (pt y.rg) rfl;have b5:H5[H3.length]? =some (dM x):=by rw[x5.2 _ (dA b4) id,b4]
   have q2:ld1 (.pointer (some ⟨H3.length,2,none⟩)) H5=some (.int .i64 f.lane,H5):=cK b5 (by rw[hx];rfl)
   have q2':ld1 (.pointer (some ⟨H3.length,2,none⟩)) H4=some (.int .i64 f.lane,H4):=cK b4 (by rw[hx];rfl)
   have q3:=(pC b5).2;have q3':=(pC b4).2;obtain⟨r,H6,F',p1,p2,p3⟩:=(g5.sep.own .rings).xM rA (n:=m-1) (λD hD=>Xe (m:=m-1) hD (by omega) ((i:Int),(c.port f.dst:Int),(f.lane:Int)) x)
   have hpw:(if Ae ((i:Int),(c.port f.dst:Int),(f.lane:Int)) c.aF c.lanes=true/\s.rL.length<c.aF*c.lanes*c.room then s.rL++[(((i:Int),(c.port f.dst:Int),(f.lane:Int)),x)] else s.rL)=sK c s.rL ((i:Int),(c.port f.dst:Int),(f.lane:Int)) ⟨f.src,f.dst,f.lane,f.body⟩:=by
    rw[hx];rfl
   obtain⟨k1',k2'⟩:=g5.Nh (Has.uT p2 λD hD=>by rw[<-hpw];exact hD) p3 hinv
   refine⟨H6,_,cX (cF rfl) (by omega) ?_,k1',((mv2.o5 mv3).o5 (Mv.oZ (x4.tr x5) _)).o5 k2'⟩
   rw[K5];have es:IntKind.i64.wrap (f.src:Int)=f.src:=xW _ (by omega)
   have ed:IntKind.i64.wrap (f.dst:Int)=f.dst:=xW _ (by omega)
   have el:IntKind.i64.wrap (f.lane:Int)=f.lane:=xW _ (by omega)
   have p1:lvl prog pkN (m-1) (.func 177) [pt y.rg,.int .i64 i,.int .i64 (c.port f.dst:Nat),.int .i64 f.lane,x.dB] H5=some (r,H6):=p1;simp -implicitDefEqProofs only[gsR,e1,e2,l3,l4,wA,eZ _ _ u8U iU,ec,n1,c1',lr,l2,r1,c2',k3,k4,k1,k5,es,ed,el,eb,ez,st,n15,q1,t1,n15',uU,q2,q2',Aq,q3,q3',Yf,p1];rfl
  ·have hsame:=aK2 c2
   have hr:=aK3 (c:=c) (s:=s) (i:=i) c1 c2;obtain⟨e,he⟩: ∃e,e=((s.rcv i f.lane).jX c.room f.seq).1:=⟨_,rfl⟩;rw[<-he] at hr r1 c2;have c2':=Ye c2;rw[hr];rw[hsame,aK8] at g3;refine⟨H3,F,cX (cF rfl) hm0 ?_,g3,mv2.o5 mv3⟩;rw[K5];simp -implicitDefEqProofs only[gsR,e1,e2,l3,l4,wA,eZ _ _ u8U iU,ec,n1,c1',lr,l2,r1,c2']
end
section
variable {H0 H : aA} {F : Part → Nat → Prop} {y : Lay} {p : PlanD} {ev wv nv : Value} {c : Cfg} {t : Nat} {s : NS} {m : Nat}
theorem Aw (H:aA):H++[Blk.cells [Value.int .u8 0,.int .u8 0,.int .u16 0,.int .u8 0,.int .u8 0,.int .u32 0] 71 .fix]=H++[zfB]:=rfl
theorem Ax (H:aA):H++[Blk.cells [Value.pointer none,.pointer none] 172 .fix]=H++[eY (.pointer none) (.pointer none)]:=rfl
theorem Ay (H:aA)(f:Frm):stN 6 (.pointer (some ⟨H.length,0,none⟩)) (frV f) (H++[zfB])=some (undef,H++[frB f]):=by
 rw[Dw f (dF H zfB),mR]
theorem Ni (H:aA)(a b:Value)(ha:dK [a,b]=true):stN 2 (.pointer (some ⟨H.length,0,none⟩)) (.agg #[a,b]) (H++[eY (.pointer none) (.pointer none)])=some (undef,H++[eY a b]):=by
 rw[yM a b (dF _ _) ha,mR]
theorem aLa {bs:List UInt8}{f:Frm}(h:o7 bs=some f):mS bs= .tuple #[frV f,.int .u16 0]:=by
 unfold mS;rw[h]
theorem aK9 {bs:List UInt8}(h:o7 bs=none):mS bs= .tuple #[frV Frm.nO,.int .u16 30]:=by
 unfold mS;rw[h]
theorem aLb (h:NodeAt H0 H F y p ev wv nv c t s)(ht:t<1000000000)(hm:400<m)(fr:Int){u:Value}{bs:List UInt8}(hu:Bs H u bs):
  ∃H' F',lvl prog pkN m (.func 49) [pt y.nb,.int .i64 fr,u] H=some (.int .u16 (nS c fr bs s).1,H')/\NodeAt H0 H' F' y p ev wv nv c (t+1) (nS c fr bs s).2/\Mv (Un F) (Un F') H H':=by
 have hm0:0<m:=by omega
 have hmono:=h.inv.rB (Nat.le_succ t);obtain⟨H1,hH1⟩: ∃H1,H1=H++[wK fr]:=⟨_,rfl⟩;have x1:Ext H H1:=by rw[hH1];exact Fr.app _ _ _
 have g1:=h.fS x1;have b1:H1[H.length]? =some (wK fr):=by rw[hH1];exact dF _ _
 have e0:H++[Blk.cells (Value.cells (.int .i64 fr)).toList 3 .fix]=H1:=by rw[hH1];rfl
 have l13:=g1.ld 13 (gL y c) rfl;obtain⟨v,t1,t2⟩:=g1.X9;obtain⟨H2,i1,x2⟩:=Yb (m:=m-1) (fid:=115) (cb:=H.length) (z:=fr) (by omega) (λG i hG=>aKY (by omega) i hG) h.ok.by' t2 b1
 have g2:=g1.fS x2;cases hfi:c.by'.findIdx? λw:Nat=>decide ((w:Int)=fr) with
 |none=>
  have hr:nS c fr bs s=(1,s):=by unfold nS;rw[hfi]
  have hf:fiI c.by' fr= -1:=by unfold fiI;rw[hfi]
  have e1:IntKind.i64.wrap ((-1:Int)+1)=0:=rfl;have c1:((0:Int)==0)=true:=rfl;rw[hf] at i1;rw[hr];refine⟨H2,F,cX (cF rfl) hm0 ?_,{g2 with inv:=hmono},Mv.oZ (x1.tr x2) _⟩;rw[xU];simp -implicitDefEqProofs only[gsR,e0,l13,t1,i1,cH,e1,c1];rfl
 |some j=>
  have hjl:=(List.findIdx?_eq_some_iff_getElem.mp hfi).1;have hf:fiI c.by' fr=(j:Int):=by unfold fiI;rw[hfi]
  have h5:=h.ok.by';have e1:IntKind.i64.wrap ((j:Int)+1)=((j+1:Nat):Int):=nU j (by omega)
  have c1:(((j+1:Nat):Int)==0)=false:=by rw[beq_eq_false_iff_ne];omega
  have hp1:1<=j+1:=by omega
  have hp2:j+1<c.aF:=by unfold Cfg.aF;omega
  rw[hf] at i1;obtain⟨H3,d1,x3⟩:=aIP (m:=m-1) (by omega) (hu.ext (x1.tr x2))
  have g3:=g2.fS x3;cases hdec:o7 bs with
  |none=>
   have hr:nS c fr bs s=(30,s):=by unfold nS;rw[hfi];simp only;rw[hdec]
   rw[aK9 hdec] at d1;have c2:((30:Int)!=0)=true:=rfl;rw[hr];have x4:Ext H3 (H3++[frB Frm.nO]):=Fr.app _ _ _;refine⟨H3++[frB Frm.nO],F,cX (cF rfl) hm0 ?_,{g3.fS x4 with inv:=hmono},Mv.oZ (((x1.tr x2).tr x3).tr x4) _⟩;rw[xU];simp -implicitDefEqProofs only[gsR,e0,l13,t1,i1,cH,e1,c1,d1,oT,Aw,Ay,c2];rfl
  |some f=>
   have hok:=aK6 hdec;have fl:=hok.lane;rw[aLa hdec] at d1;have c2:((0:Int)!=0)=false:=rfl;obtain⟨H4,hH4⟩: ∃H4,H4=H3++[frB f]:=⟨_,rfl⟩;have x4:Ext H3 H4:=by rw[hH4];exact Fr.app _ _ _
   have g4:=g3.fS x4;have b4:H4[H3.length]? =some (frB f):=by rw[hH4];exact dF _ _
   have l4:=(nT b4).2.1;have el:IntKind.i64.wrap (f.lane:Int)=f.lane:=xW _ (by omega)
   by_cases hl:c.lanes<=f.lane
   ·have hr:nS c fr bs s=(30,s):=by unfold nS;rw[hfi];simp only;rw[hdec];simp only;rw[if_pos hl]
    obtain⟨H5,n1,x5⟩:=Ya g4 (m:=m-1) (by omega) ((j+1:Nat):Int) (f.lane:Int) (by omega)
    have x6:Ext H5 (H5++[eY (.pointer none) (.pointer none)]):=Fr.app _ _ _;rw[hr];refine⟨H5++[eY (.pointer none) (.pointer none)],F,cX (cF rfl) hm0 ?_,{(g4.fS x5).fS x6 with inv:=hmono},Mv.oZ (((((x1.tr x2).tr x3).tr x4).tr x5).tr x6) _⟩;rw[xU];have st:=Ni H5 (.pointer none) (.pointer none) rfl;simp -implicitDefEqProofs only[gsR,e0,l13,t1,i1,cH,e1,c1,d1,oT,Aw,Ay,c2,<-hH4,l4,eZ _ _ u8U iU,el,n1,Ax,uS,st];rfl
   ·have hlt:f.lane<c.lanes:=by omega
    obtain⟨H5,n1,x5⟩:=Ng g4 (m:=m-1) (by omega) hp1 hp2 hlt
    obtain⟨H6,hH6⟩: ∃H6,H6=H5++[eY (pt (y.sb (j+1) f.lane)) (pt (y.rb (j+1) f.lane))]:=⟨_,rfl⟩;have x6:Ext H5 H6:=by rw[hH6];exact Fr.app _ _ _
    have g6:=(g4.fS x5).fS x6;have b6:H6[H5.length]? =some (eY (pt (y.sb (j+1) f.lane)) (pt (y.rb (j+1) f.lane))):=by rw[hH6];exact dF _ _
    obtain⟨q0,q1,q2⟩:=tG b6;have b46:H6[H3.length]? =some (frB f):=by rw[(x5.tr x6).2 _ (dA b4) id,b4]
    obtain⟨k0,k1,k2,k3,k4,k5,k6⟩:=nT b46;have st:=Ni H5 (pt (y.sb (j+1) f.lane)) (pt (y.rb (j+1) f.lane)) rfl;have mv6:Mv (Un F) (Un F) H H6:=Mv.oZ (((((x1.tr x2).tr x3).tr x4).tr x5).tr x6) _;by_cases hk2:f.kind=2
    ·have hr:nS c fr bs s=(0,{s with snd:=up2 s.snd (j+1) f.lane ((s.snd (j+1) f.lane).qJ f.seq)}):=by unfold nS;rw[hfi];simp only;rw[hdec];simp only;rw[if_neg hl,if_pos hk2]
     have c3:((f.kind:Int)==2)=true:=by rw[hk2];rfl
     obtain⟨H7,w,s1,s2⟩:=aIz (m:=m-1) (by omega) (g6.Er hp1 hp2 hlt) (g6.Nd ht _ _) f.seq hok.seq
     have hri:NInv c (t+1) {s with snd:=up2 s.snd (j+1) f.lane ((s.snd (j+1) f.lane).qJ f.seq)}:=
      {hmono with snd:=yF hmono.snd (((h.inv.snd _ _).aI7 _).Mk (Nat.le_succ t))}
     obtain⟨g7,mv7⟩:=g6.X3 hp1 hp2 hlt s2 hri;rw[hr];refine⟨H7,F,cX (cF rfl) hm0 ?_,g7,mv6.o5 mv7⟩;rw[xU];simp -implicitDefEqProofs only[gsR,e0,l13,t1,i1,cH,e1,c1,d1,oT,Aw,Ay,c2,<-hH4,l4,eZ _ _ u8U iU,el,n1,Ax,st,<-hH6,k0,c3,q1,k2,s1];rfl
    ·have c3:((f.kind:Int)==2)=false:=by rw[beq_eq_false_iff_ne];omega
     by_cases hk3:f.kind=3
     ·have hr:nS c fr bs s=(0,{s with rcv:=up2 s.rcv (j+1) f.lane ((s.rcv (j+1) f.lane).o8 c.room f.seq)}):=by unfold nS;rw[hfi];simp only;rw[hdec];simp only;rw[if_neg hl,if_neg hk2,if_pos hk3]
      have c4:((f.kind:Int)==3)=true:=by rw[hk3];rfl
      obtain⟨H7,w,s1,s2⟩:=aIw (m:=m-1) (by omega) (g6.Eo hp1 hp2 hlt) (g6.Ep ht _ _) f.seq hok.seq
      have hri:NInv c (t+1) {s with rcv:=up2 s.rcv (j+1) f.lane ((s.rcv (j+1) f.lane).o8 c.room f.seq)}:=
       {hmono with rcv:=yF hmono.rcv ((h.inv.rcv _ _).aI6 h.ok.room.2 _)}
      obtain⟨g7,mv7⟩:=g6.Nc hp1 hp2 hlt s2 hri;rw[hr];refine⟨H7,F,cX (cF rfl) hm0 ?_,g7,mv6.o5 mv7⟩;rw[xU];simp -implicitDefEqProofs only[gsR,e0,l13,t1,i1,cH,e1,c1,d1,oT,Aw,Ay,c2,<-hH4,l4,eZ _ _ u8U iU,el,n1,Ax,st,<-hH6,k0,c3,c4,q2,k2,s1];rfl
     ·have c4:((f.kind:Int)==3)=false:=by rw[beq_eq_false_iff_ne];omega
      have hr:nS c fr bs s=qK c (j+1) f s:=by unfold nS;rw[hfi];simp only;rw[hdec];simp only;rw[if_neg hl,if_neg hk2,if_neg hk3]
      obtain⟨H7,F',s1,g7,mv7⟩:=aK5 g6 ht (m:=m-1) (by omega) hp1 hp2 hlt hok
      rw[hr];refine⟨H7,F',cX (cF rfl) hm0 ?_,g7,mv6.o5 mv7⟩;rw[xU];simp -implicitDefEqProofs only[gsR,e0,l13,t1,i1,cH,e1,c1,d1,oT,Aw,Ay,c2,<-hH4,l4,eZ _ _ u8U iU,el,n1,Ax,st,<-hH6,k0,c3,c4,q0,k6,s1]
end
theorem aLi {H H':aA}{a n ports lanes p s mb:Nat}{L:List Rg.En}{l:List Rg.iX}{top free:Int}{fl:List Nat}{f:Rg.jY->Option Value}(h:Rg.RI H a L n ports lanes p s mb l top free fl f)(hk: ∀(b:Nat)(x:Blk),H[b]? =some x->x≠ .dead->H'[b]? =some x):Rg.RI H' a L n ports lanes p s mb l top free fl f:=by
 refine⟨hk _ _ h.hd (λhd=>by cases hd),⟨⟨hk _ _ h.pool.pool.hp (λhd=>by cases hd),hk _ _ h.pool.pool.hs (λhd=>by cases hd),λi q x d hi=>hk _ _ (h.pool.pool.hq i q x d hi) (λhd=>by cases hd)⟩,h.pool.chain,h.pool.nodup,h.pool.full,h.pool.cnt,h.pool.len⟩,
  h.len,h.cnt,h.nd,h.full,?_,h.no,λw v hv=>⟨?_,(h.yes w v hv).2⟩,h.sep,h.b1,h.b2⟩
 ·obtain⟨es,c,h1,h2⟩:=h.mp
  exact⟨es,c,hk _ _ h1 (λhd=>by cases hd),h2⟩
 ·refine(h.yes w v hv).1.rY λb hb=> ?_
  obtain⟨xs,hx⟩:=(h.yes w v hv).1.blk hb;rw[hx];exact hk _ _ hx (λhd=>by cases hd)
theorem RingsN.aLf {D H:aA}{a cap ports lanes:Nat}{L:List (Go.Abs.fM×Pkt)}(hs:Sub D H)(h:RingsN D a L cap ports lanes):RingsN H a L cap ports lanes:=by
 obtain⟨Le,⟨p,s,mb,l,top,free,fl,f,hi⟩,h2⟩:=h
 exact⟨Le,⟨p,s,mb,l,top,free,fl,f,aLi hi hs.2⟩,h2⟩
theorem HostAt.aLc {D H:aA}{a lanes queue:Nat}{L G:List Pkt}(hs:Sub D H)(h:HostAt D a L G lanes queue):HostAt H a L G lanes queue:=by
 obtain⟨w0,w1,w2,cv,h⟩:=h;have key: ∀w (xs:List Pkt),Pq D w xs->Pq H w xs:=λw xs hw=>hw.wC λb hb=>by
  obtain⟨cs,hc⟩:=hw.blk hb;rw[hc];exact hs.2 b _ hc (λhd=>by cases hd)
 exact⟨w0,w1,w2,cv,hs.2 a _ h.blk (λhd=>by cases hd),h.lanes,h.queue,λk hk=>key _ _ (h.q k hk),key _ _ h.came,h.apart,h.apartC⟩
section
variable {H0 H : aA} {F : Part → Nat → Prop} {y : Lay} {p : PlanD} {ev wv nv : Value} {c : Cfg} {t : Nat} {s : NS} {m : Nat}
theorem NodeAt.aLe (h:NodeAt H0 H F y p ev wv nv c t s):RingsN H y.rg s.rL (c.aF*c.lanes*c.room) c.aF c.lanes:=RingsN.aLf (B9 _ _) (h.sep.own .rings).at_
theorem NodeAt.Yg (h:NodeAt H0 H F y p ev wv nv c t s):HostAt H y.hb s.hL s.hG c.lanes c.queue:=HostAt.aLc (B9 _ _) (h.sep.own .host).at_
theorem Yh (h:NodeAt H0 H F y p ev wv nv c t s)(hm:0<m)(i o k:Nat):lvl prog pkN m (.func 159) [pt y.rg,.int .i64 i,.int .i64 o,.int .i64 k] H=some (.int .i64 (pA s.rL i o k),H):=aJ0 h.aLe hm i o k
theorem aLh {i o:Nat}(hi:i<c.aF)(ho:o<c.aF)(h3:c.lanes<=3)(ht:t<1000000000)(hm:10<m): ∀(q k l:Nat)(H:aA),c.lanes-k=q->k<=c.lanes->q<l->NodeAt H0 H F y p ev wv nv c t s-> ∀(x3 x4 x5 x6 x8 x9 bI cA aP aM aR aS aO bC bH bV bG bE aT aU aV aW aX aY aZ bA bB bK bL bM bN bO bP bQ bR bS bT cC cD cE cI cP cR cS:Value),
  ∃H2,aH l (aI prog (lvl prog pkN m) (aH m) Lc) (Ld (lvl prog pkN m) (aH m)) [(pt y.nb),(.int .i64 (i:Nat)),(.int .i64 (o:Nat)),x3,x4,x5,x6,(.int .u16 (cW (iN c s i o) k:Nat)),x8,x9,bI,cA,aP,(.int .i64 c.lanes),(.int .i64 (k:Nat)),aM,aR,aS,aO,bC,bH,bV,bG,bE,aT,aU,aV,aW,aX,aY,aZ,bA,bB,bK,bL,bM,bN,bO,bP,bQ,bR,bS,bT,cC,cD,cE,cI,cP,cR,cS] H=some (.int .u16 (cW (iN c s i o) c.lanes:Nat),H2)/\Ext H H2:=by
 intro q;induction q with
 |zero=>
  intro k l H hq hk hl h;intros;obtain⟨l,rfl⟩: ∃l',l=l'+1:=⟨l-1,by omega⟩
  have hke:k=c.lanes:=by omega
  have c1:decide ((k:Int)<(c.lanes:Int))=false:=by rw[decide_eq_false_iff_not];omega
  rw[aH,U7];simp -implicitDefEqProofs only[gsR,c1];rw[aHy];simp -implicitDefEqProofs only[gsR]
  exact⟨_,by rw[hke],Fr.mZ _ _⟩
 |succ q ih=>
  intro k l H hq hk hl h;intros;obtain⟨l,rfl⟩: ∃l',l=l'+1:=⟨l-1,by omega⟩
  have hkl:k<c.lanes:=by omega
  have c1:decide ((k:Int)<(c.lanes:Int))=true:=by rw[decide_eq_true_eq];omega
  have l15:=h.ld 15 (pt y.rg) rfl;have r1:=Yh h (m:=m) (by omega) i o k
  have e9:=nU k (by omega)
  rw[aH,U7];by_cases hz:pA s.rL i o k=0
  ·have c2:(((pA s.rL i o k:Nat):Int)==0)=true:=by rw[hz];rfl
   have hno:iN c s i o k=false:=by unfold iN;rw[hz];simp
   simp -implicitDefEqProofs only[gsR,c1,l15,r1,c2,cH,e9];rw[<-Ej hno];exact ih (k+1) l H (by omega) (by omega) (by omega) h ..
  ·have c2:(((pA s.rL i o k:Nat):Int)==0)=false:=by rw[beq_eq_false_iff_ne];omega
   obtain⟨s1,s2⟩:=uQ (a:=cW (iN c s i o) k) (i:=k) (qN _ (by omega)) (by omega)
   by_cases ho0:o=0
   ·have c3:((o:Int)==0)=true:=by rw[ho0];rfl
    have hyes:iN c s i o k=true:=by unfold iN;simp[hkl,ho0];rw[<-ho0];omega
    simp -implicitDefEqProofs only[gsR,c1,l15,r1,c2,c3,s1,s2,cH,e9];rw[<-Ek hyes];exact ih (k+1) l H (by omega) (by omega) (by omega) h ..
   ·have c3:((o:Int)==0)=false:=by rw[beq_eq_false_iff_ne];omega
    have l13:=h.ld 13 (gL y c) rfl;obtain⟨b,oo,a1,a2⟩:=h.wH ho;obtain⟨_,_,a3,_⟩:=a2 _ (.inl h);obtain⟨b',o',a4,_,a5,_⟩:=h.As (by omega) ho hkl
    have u1:=aID (m:=m) (by omega) (h.Er (by omega) ho hkl) (h.Nd ht o k)
    obtain⟨H1,hH1⟩: ∃H1,H1=H++[Blk.cells [.int .u64 (s.snd o k).s,.int .u64 (s.snd o k).l] 202 .fix]:=⟨_,rfl⟩;rw[<-hH1] at u1;have x1:Ext H H1:=by rw[hH1];exact Fr.app _ _ _
    by_cases hu:0<(s.snd o k).o9
    ·have c4:decide (0<((s.snd o k).o9:Int))=true:=by rw[decide_eq_true_eq];omega
     have hyes:iN c s i o k=true:=by unfold iN;simp[hkl,hu];omega
     simp -implicitDefEqProofs only[gsR,Nat.add_zero,c1,l15,r1,c2,c3,l13,a1,a3,a4,a5,u1,c4,s1,s2,cH,e9];rw[<-Ek hyes];obtain⟨H2,k1,k2⟩:=ih (k+1) l H1 (by omega) (by omega) (by omega) (h.fS x1) ..
     exact⟨H2,k1,x1.tr k2⟩
    ·have c4:decide (0<((s.snd o k).o9:Int))=false:=by rw[decide_eq_false_iff_not];omega
     have hno:iN c s i o k=false:=by unfold iN;simp[hkl,hu,ho0]
     simp -implicitDefEqProofs only[gsR,Nat.add_zero,c1,l15,r1,c2,c3,l13,a1,a3,a4,a5,u1,c4,cH,e9];rw[<-Ej hno];obtain⟨H2,k1,k2⟩:=ih (k+1) l H1 (by omega) (by omega) (by omega) (h.fS x1) ..
     exact⟨H2,k1,x1.tr k2⟩
theorem Yi (h:NodeAt H0 H F y p ev wv nv c t s)(ht:t<1000000000)(hm:20<m){i o:Nat}(hi:i<c.aF)(ho:o<c.aF): ∃H2,lvl prog pkN m (.func 183) [pt y.nb,.int .i64 i,.int .i64 o] H=some (.int .u16 (cW (iN c s i o) c.lanes:Nat),H2)/\Ext H H2:=by
 refine kJ (cF rfl) (by omega) ?_
 rw[aHz];have l3:=h.ld 3 (.int .i64 c.lanes) rfl;simp -implicitDefEqProofs only[gsR,l3];exact aLh hi ho h.ok.lanes.2 ht (by omega) c.lanes 0 (m-1) H (by omega) (by omega) (by have:=h.ok.lanes;omega) h ..
theorem NodeAt.aLd (h:NodeAt H0 H F y p ev wv nv c t s){b:Nat}(hb: ¬Un F b)(hb0:H0.length<=b)(x:Blk):NodeAt H0 (H.set b x) F y p ev wv nv c t s:=by
 have hm:Mv (λa=>a=b) (λa=>a=b) H (H.set b x):=⟨by simp,λ_ h=> .inl h,λa _ ha=>aMA λhh=>ha hh.symm⟩
 refine {h with ext:=⟨by simp;exact h.ext.1,λa ha _=> ?_⟩,sep:=h.sep.vQ (yL _ _ _ _ _ _ _) hm λa ha hh=>hb (by rw[<-hh];exact ha)}
 rw[aMA (by omega),h.ext.2 a ha id]
def jZ (c:Cfg)(s:NS)(i o:Nat):List Nat:=(List.range c.aF).map λj=>if j<i then cW (nQ c s j) c.aF else if j=i then cW (nQ c s i) o else 0
theorem tH (c:Cfg)(s:NS)(i o:Nat):(jZ c s i o).length=c.aF:=by simp[jZ]
theorem wL {c:Cfg}{s:NS}{i o j:Nat}(hj:j<c.aF):(jZ c s i o)[j]? =some (if j<i then cW (nQ c s j) c.aF else if j=i then cW (nQ c s i) o else 0):=by simp[jZ,hj]
theorem aLj (c:Cfg)(s:NS)(i:Nat):jZ c s i c.aF=jZ c s (i+1) 0:=by
 unfold jZ;refine List.map_congr_left λj hj=> ?_
 by_cases h1:j<i
 ·rw[if_pos h1,if_pos (by omega)]
 ·by_cases h2:j=i
  ·rw[if_neg h1,if_pos h2,if_pos (by omega),h2]
  ·rw[if_neg h1,if_neg h2,if_neg (by omega)]
   split<;>rfl
theorem aLk (c:Cfg)(s:NS):jZ c s 0 0=List.replicate c.aF 0:=by
 apply aNa;intro j;by_cases hj:j<c.aF
 ·rw[wL hj,List.getElem?_replicate_of_lt hj,if_neg (by omega)]
  split<;>rfl
 ·rw[aMK (by rw[tH];omega),aMK (by simp;omega)]
theorem Yj {c:Cfg}{s:NS}{i o v:Nat}(hi:i<c.aF)(hv:cW (nQ c s i) (o+1)=v):jZ c s i (o+1)=(jZ c s i o).set i v:=by
 apply aNa;intro j;by_cases hj:j<c.aF
 ·by_cases hij:i=j
  ·subst hij
   rw[aMF (by rw[tH];exact hi),wL hj,if_neg (by omega),if_pos rfl,hv]
  ·rw[aMA hij,wL hj,wL hj,if_neg (show¬j=i by omega),if_neg (show¬j=i by omega)]
 ·rw[aMK (by rw[tH];omega),aMK (by rw[List.length_set,tH];omega)]
theorem aLm (c:Cfg)(s:NS):jL (jZ c s c.aF 0)=nQ c s:=by
 funext i k
 unfold jL;by_cases hi:i<c.aF
 ·rw[aMD,wL hi,if_pos hi,aM2,kC]
  unfold nQ;cases decide (k<c.aF)<;>simp
 ·rw[aMD,aMK (by rw[tH];omega)]
  unfold nQ;simp[hi]
theorem aLl {c:Cfg}{s:NS}(h6:c.aF<=16): ∀z∈jZ c s c.aF 0,z<65536:=λz hz=>by
 unfold jZ at hz;obtain⟨j,hj,rfl⟩:=aNc.mp hz;rw[if_pos (aNd.mp hj)];exact qN _ h6
theorem aLg {c:Cfg}{s:NS}{i o:Nat}(hi:i<c.aF)(ho:o<c.aF):nQ c s i o=nL (iN c s i o) c.lanes:=by
 unfold nQ nL;simp[hi,ho]
end
section
variable {H0 H : aA} {F : Part → Nat → Prop} {y : Lay} {p : PlanD} {ev wv nv : Value} {c : Cfg} {t : Nat} {s : NS} {m : Nat}
theorem aLn {Ha:aA}{i:Nat}(hi:i<c.aF)(hun: ¬Un F Ha.length)(hb0:H0.length<=Ha.length)(ht:t<1000000000)(hm:30<m)(h6:c.aF<=6){K:Ex->K (Value×aA)}{Q:aA->Value->Prop}
  (hK: ∀H',NodeAt H0 H' F y p ev wv nv c t s->H'[Ha.length]? =some (fO (jZ c s i c.aF))->Ext Ha H'-> ∀(x1 x2 x4 x5 x6 x7 x8 x9 bI cA aP aN aL aM aO bC bH bV bG bE aT aU aV aW aX aY aZ bA bB bK bL bM bN bO bP bQ bR bS bT cC:Value),∃H2 r,Kv (lvl prog pkN m) (aH m) K (pt y.nb) x1 x2 (dT Ha.length c.aF) x4 x5 x6 x7 x8 x9 bI cA aP aN aL aM (.int .i64 c.aF) (.int .i64 (i:Nat)) aO bC bH bV bG bE aT aU aV aW aX aY aZ bA bB bK bL bM bN bO bP bQ bR bS bT cC H'=some (r,H2)/\Q H2 r):
  ∀(q o k:Nat)(H:aA),c.aF-o=q->o<=c.aF->q<k->NodeAt H0 H F y p ev wv nv c t s->H[Ha.length]? =some (fO (jZ c s i o))->Ext Ha H-> ∀(x1 x2 x5 x6 x7 x8 x9 bI cA aP aN aL aM aO bC bH bV bG bE aV aW aX aY aZ bA bB bK bL bM bN bO bP bQ bR bS bT cC:Value),
  ∃H2 r,aH k (aI prog (lvl prog pkN m) (aH m) Ku) (Kx (lvl prog pkN m) (aH m) K) [(pt y.nb),x1,x2,(dT Ha.length c.aF),(.int .i64 (i:Nat)),x5,x6,x7,x8,x9,bI,cA,aP,aN,aL,aM,(.int .i64 c.aF),(.int .i64 (i:Nat)),aO,bC,bH,bV,bG,bE,(.int .i64 c.aF),(.int .i64 (o:Nat)),aV,aW,aX,aY,aZ,bA,bB,bK,bL,bM,bN,bO,bP,bQ,bR,bS,bT,cC] H=some (r,H2)/\Q H2 r:=by
 intro q;induction q with
 |zero=>
  intro o k H hq ho hk h hb he;intros;obtain⟨k,rfl⟩: ∃k',k=k'+1:=⟨k-1,by omega⟩
  have hoe:o=c.aF:=by omega
  subst hoe;have c1:decide ((c.aF:Int)<(c.aF:Int))=false:=by simp
  rw[aH,Ux];simp -implicitDefEqProofs only[gsR,c1];rw[aG5];exact hK H h hb he ..
 |succ q ih=>
  intro o k H hq ho hk h hb he;intros;obtain⟨k,rfl⟩: ∃k',k=k'+1:=⟨k-1,by omega⟩
  have hol:o<c.aF:=by omega
  have c1:decide ((o:Int)<(c.aF:Int))=true:=by rw[decide_eq_true_eq];omega
  obtain⟨H1,m1,x1⟩:=Yi h ht (m:=m) (by omega) hi hol
  have h1:=h.fS x1;have b1:H1[Ha.length]? =some (fO (jZ c s i o)):=by rw[x1.2 _ (dA hb) id,hb]
  have e9:=nU o (by omega)
  have hask:=aLg (c:=c) (s:=s) hi hol;rw[aH,Ux];by_cases hz:cW (iN c s i o) c.lanes=0
  ·have c2:(((cW (iN c s i o) c.lanes:Nat):Int)!=0)=false:=by rw[hz];rfl
   have hno:nQ c s i o=false:=by rw[hask];exact(yI _ _).mp hz
   have hr:jZ c s i (o+1)=jZ c s i o:=by
    rw[Yj hi (Ej hno)];apply aNa;intro j;by_cases hij:i=j
    ·subst hij
     rw[aMF (by rw[tH];exact hi),wL hi,if_neg (by omega),if_pos rfl]
    ·rw[aMA hij]
   simp -implicitDefEqProofs only[gsR,c1,m1,c2,cH,e9];exact ih (o+1) k H1 (by omega) (by omega) (by omega) h1 (by rw[hr];exact b1) (he.tr x1) ..
  ·have c2:(((cW (iN c s i o) c.lanes:Nat):Int)!=0)=true:=Ye hz
   have hyes:nQ c s i o=true:=by
    rw[hask];cases hw:nL (iN c s i o) c.lanes with
    |true=>rfl
    |false=>exact absurd ((yI _ _).mpr hw) hz
   obtain⟨a1,a2⟩:=Em (c:=c.aF) b1 (tH _ _ _ _) hi;have a1:aQ 1 (dT Ha.length c.aF) (.int .i64 (i:Int))=some (.pointer (some ⟨Ha.length,i,none⟩)):=a1;have hv:(jZ c s i o).getD i 0=cW (nQ c s i) o:=by rw[aMD,wL hi,if_neg (by omega),if_pos rfl];rfl
   rw[hv] at a2;obtain⟨s1,s2⟩:=uQ (a:=cW (nQ c s i) o) (i:=o) (qN _ (by omega)) (by omega)
   have st:=Xw (cW (nQ c s i) o|||2 ^ o) b1 (i:=i) (by rw[tH];exact hi)
   rw[<-Yj hi (Ek hyes)] at st;simp -implicitDefEqProofs only[gsR,c1,m1,c2,a1,a2,s1,s2,st,cH,e9];refine ih (o+1) k _ (by omega) (by omega) (by omega) (h1.aLd hun hb0 _) (iM b1) ?_ ..
   have he1:=he.tr x1
   exact⟨by simp;exact he1.1,λb hb hn=>by rw[aMA (by omega),he1.2 b hb id]⟩
theorem aLp {Ha:aA}(hun: ¬Un F Ha.length)(hb0:H0.length<=Ha.length)(ht:t<1000000000)(hm:40<m)(h6:c.aF<=6):
  ∀(q i k:Nat)(H:aA),c.aF-i=q->i<=c.aF->q<k->NodeAt H0 H F y p ev wv nv c t s->H[Ha.length]? =some (fO (jZ c s i 0))->Ext Ha H-> ∀(x1 x2 x4 x5 x6 x7 x8 x9 bI cA aP aN aL aM aO bC bH bV bG bE aT aU aV aW aX aY aZ bA bB bK bL bM bN bO bP bQ bR bS bT cC:Value),
  ∃H2 r,aH k (aI prog (lvl prog pkN m) (aH m) Kt) (Kw (lvl prog pkN m) (aH m)) [(pt y.nb),x1,x2,(dT Ha.length c.aF),x4,x5,x6,x7,x8,x9,bI,cA,aP,aN,aL,aM,(.int .i64 c.aF),(.int .i64 (i:Nat)),aO,bC,bH,bV,bG,bE,aT,aU,aV,aW,aX,aY,aZ,bA,bB,bK,bL,bM,bN,bO,bP,bQ,bR,bS,bT,cC] H=some (r,H2)/\(r=dT Ha.length c.aF/\H2[Ha.length]? =some (fO (jZ c s c.aF 0))/\Ext Ha H2/\NodeAt H0 H2 F y p ev wv nv c t s):=by
 intro q;induction q with
 |zero=>
  intro i k H hq hi hk h hb he;intros;obtain⟨k,rfl⟩: ∃k',k=k'+1:=⟨k-1,by omega⟩
  have hie:i=c.aF:=by omega
  subst hie;have c1:decide ((c.aF:Int)<(c.aF:Int))=false:=by simp
  rw[aH,Uw];simp -implicitDefEqProofs only[gsR,c1];rw[aG4];simp -implicitDefEqProofs only[gsR]
  exact⟨_,_,rfl,rfl,hb,he,h⟩
 |succ q ih=>
  intro i k H hq hi hk h hb he;intros;obtain⟨k,rfl⟩: ∃k',k=k'+1:=⟨k-1,by omega⟩
  have hil:i<c.aF:=by omega
  have c1:decide ((i:Int)<(c.aF:Int))=true:=by rw[decide_eq_true_eq];omega
  have l13:=h.ld 13 (gL y c) rfl;have e1:bJ (gL y c)=some (.int .i64 c.aF):=rfl;rw[aH,Uw];simp -implicitDefEqProofs only[gsR,c1,l13,e1];refine aLn hil hun hb0 ht (by omega) h6 ?_ c.aF 0 m H (by omega) (by omega) (by omega) h hb he ..
  intro H' h' hb' he';intros;have e9:=nU i (by omega)
  unfold Kv;simp -implicitDefEqProofs only[gsR,cH,e9];rw[aLj] at hb';exact ih (i+1) k H' (by omega) (by omega) (by omega) h' hb' he' ..
theorem aLo (h:NodeAt H0 H F y p ev wv nv c t s)(ht:t<1000000000)(hm:50<m): ∃H2,lvl prog pkN m (.func 100) [pt y.nb] H=some (dT H.length c.aF,H2)/\H2[H.length]? =some (fO (jZ c s c.aF 0))/\Ext H H2:=by
 have h6:c.aF<=6:=by have:=h.ok.by';unfold Cfg.aF;omega
 have main: ∃H2 r,lvl prog pkN m (.func 100) [pt y.nb] H=some (r,H2)/\(r=dT H.length c.aF/\H2[H.length]? =some (fO (jZ c s c.aF 0))/\Ext H H2/\NodeAt H0 H2 F y p ev wv nv c t s):=by
  refine iK (cF rfl) (by omega) ?_
  rw[aG6];have l13:=h.ld 13 (gL y c) rfl;have e1:bJ (gL y c)=some (.int .i64 c.aF):=rfl;have mk:=vJ (H:=H) 23 1 2 [.int .u16 0] .i64 .i64 (c.aF:Int) (by omega) (by omega) (by omega) rfl
  have hz:H++[Blk.cells (List.replicate (c.aF:Int).toNat [Value.int .u16 0]).flatten 23 .row]=H++[fO (jZ c s 0 0)]:=by
   have: ∀n,(List.replicate n [Value.int .u16 0]).flatten=List.replicate n (.int .u16 0):=by
    intro n;induction n with
    |zero=>rfl
    |succ n ih=>rw[List.replicate_succ,aM9,ih];rfl
   rw[aM1,this,aLk,fO,List.map_replicate];rfl
  rw[hz,aM1] at mk;have x1:Ext H (H++[fO (jZ c s 0 0)]):=Fr.app _ _ _;have h1:=h.fS x1;have l13':=h1.ld 13 (gL y c) rfl;simp -implicitDefEqProofs only[gsR,l13,e1,mk,l13'];exact aLp (λhu=>by have:=h.sep.pN _ hu;omega) h.ext.1 ht (by omega) h6 c.aF 0 (m-1) _ (by omega) (by omega) (by omega) h1 (dF _ _) x1 ..
 obtain⟨H2,r,g1,rfl,g2,g3,_⟩:=main
 exact⟨H2,g1,g2,g3⟩
theorem Ym (L:List (Go.Abs.fM×Pkt))(i o k:Nat):pA L i o k<=L.length:=by
 unfold pA oR;rw[aMN];exact List.length_filter_le _ _
def tI (L:List (Go.Abs.fM×Pkt))(k o:Nat):Nat:=((List.range o).map λo=>pA L 0 o k).sum
theorem Yl (L:List (Go.Abs.fM×Pkt))(k o:Nat):tI L k (o+1)=tI L k o+pA L 0 o k:=by
 unfold tI;rw[aM8,List.map_append,List.sum_append];simp
theorem Yk (L:List (Go.Abs.fM×Pkt))(k:Nat): ∀o,tI L k o<=o*L.length
 |0=>by simp[tI]
 |o+1=>by
  have:=Yk L k o;have:=Ym L 0 o k;rw[Yl,Nat.succ_mul];omega
theorem Yn (h:c.ok):c.aF*c.lanes*c.room<=144:=by
 have h1:c.aF<=6:=by have:=h.by';unfold Cfg.aF;omega
 have h2:=h.lanes.2;have h3:=h.room.2
 calc c.aF*c.lanes*c.room<=6*3*8:=Nat.mul_le_mul (Nat.mul_le_mul h1 h2) h3
  _=144:=rfl
theorem aLq {kk:Nat}(hm:30<m){K:Ex->K (Value×aA)}{Q:aA->Value->Prop}(h:NodeAt H0 H F y p ev wv nv c t s)
  (hK: ∀(x1 x4 x5 x6 x7 x8 x9 bI aN aL aM aR aS aO bC bH bV bG bE aT aU aV aW aX aY aZ bA bB bK bL bM bN bO bP bQ bR bS bT cC cD cE cI cP cR cS cM cN cO cQ cV cT cU cY dD dG dE dH:Value),∃H2 r,Dq (lvl prog pkN m) (aH m) K (pt y.nb) x1 (.int .i64 (kk:Nat)) (.int .i64 (yA c s.rL kk:Nat)) x4 x5 x6 x7 x8 x9 bI (.int .i64 c.lanes) (.int .i64 (kk:Nat)) aN aL aM aR aS aO bC bH bV bG bE aT aU aV aW aX aY aZ bA bB bK bL bM bN bO bP bQ bR bS bT cC cD cE cI cP cR cS cM cN cO cQ cV cT cU cY dD dG dE dH H=some (r,H2)/\Q H2 r):
  ∀(q o k:Nat),c.aF-o=q->o<=c.aF->q<k-> ∀(x1 x4 x5 x6 x7 x8 x9 bI aN aL aM aR aS aO bV bG bE aT aU aV aW aX aY aZ bA bB bK bL bM bN bO bP bQ bR bS bT cC cD cE cI cP cR cS cM cN cO cQ cV cT cU cY dD dG dE dH:Value),
  ∃H2 r,aH k (aI prog (lvl prog pkN m) (aH m) Lv) (Lx (lvl prog pkN m) (aH m) K) [(pt y.nb),x1,(.int .i64 (kk:Nat)),(.int .i64 (tI s.rL kk o:Nat)),x4,x5,x6,x7,x8,x9,bI,(.int .i64 c.lanes),(.int .i64 (kk:Nat)),aN,aL,aM,aR,aS,aO,(.int .i64 c.aF),(.int .i64 (o:Nat)),bV,bG,bE,aT,aU,aV,aW,aX,aY,aZ,bA,bB,bK,bL,bM,bN,bO,bP,bQ,bR,bS,bT,cC,cD,cE,cI,cP,cR,cS,cM,cN,cO,cQ,cV,cT,cU,cY,dD,dG,dE,dH] H=some (r,H2)/\Q H2 r:=by
 intro q;induction q with
 |zero=>
  intro o k hq ho hk;intros;obtain⟨k,rfl⟩: ∃k',k=k'+1:=⟨k-1,by omega⟩
  have hoe:o=c.aF:=by omega
  subst hoe;have c1:decide ((c.aF:Int)<(c.aF:Int))=false:=by simp
  rw[aH,Vi];simp -implicitDefEqProofs only[gsR,c1];rw[aIc];exact hK ..
 |succ q ih=>
  intro o k hq ho hk;intros;obtain⟨k,rfl⟩: ∃k',k=k'+1:=⟨k-1,by omega⟩
  have h6:c.aF<=6:=by have:=h.ok.by';unfold Cfg.aF;omega
  have c1:decide ((o:Int)<(c.aF:Int))=true:=by rw[decide_eq_true_eq];omega
  have l15:=h.ld 15 (pt y.rg) rfl;have r1:=Yh h (m:=m) (by omega) 0 o kk
  have e9:=nU o (by omega)
  have hrl:=aMP h.inv.rN (Yn h.ok);have hb1:tI s.rL kk o<=6*144:=aMP (Yk _ _ _) (Nat.mul_le_mul (by omega) hrl)
  have hb2:=Ym s.rL 0 o kk;have e8:IntKind.i64.wrap ((tI s.rL kk o:Nat)+((pA s.rL 0 o kk:Nat):Int))=(tI s.rL kk (o+1):Nat):=by
   rw[Yl,dJ (by omega) (by omega)]
   omega
  have r1:lvl prog pkN m (.func 159) [pt y.rg,.int .i64 0,.int .i64 o,.int .i64 kk] H=some (.int .i64 (pA s.rL 0 o kk),H):=r1;rw[aH,Vi];simp -implicitDefEqProofs only[gsR,c1,l15,r1,cH,e8,e9];exact ih (o+1) k (by omega) (by omega) (by omega) ..
def aLs (w:List Pkt):Value:=match w with
 |[]=> .tuple #[pk0.dB,.bool false]
 |x::_=> .tuple #[x.dB,.bool true]
def wM (L:List Pkt)(k:Nat):List Pkt:=if fA L k=[] then L else qL L k
theorem aLr {D:aA}{hb:Nat}(hm:3<m){k:Nat}(hk:k<c.lanes)(h:HostAt D hb s.hL s.hG c.lanes c.queue):
  ∃r D',lvl prog pkN m (.func 176) [pt hb,.int .i64 k] D=some (r,D')/\(r=aLs (fA s.hL k)/\HostAt D' hb (wM s.hL k) s.hG c.lanes c.queue):=by
 obtain⟨w0,w1,w2,cv,h⟩:=h;cases hw:fA s.hL k with
 |nil=>
  obtain⟨H',g1,g2⟩:=aJ7 h hm k hk hw
  exact⟨_,_,g1,rfl,by unfold wM;rw[if_pos hw];exact g2⟩
 |cons x xs=>
  obtain⟨H',g1,g2⟩:=aJ8 h hm k hk hw
  exact⟨_,_,g1,rfl,by unfold wM;rw[if_neg (by rw[hw];simp)];exact g2⟩
end
end Go.Proofs.YtmimdleeihjdoaaGreatDoor
