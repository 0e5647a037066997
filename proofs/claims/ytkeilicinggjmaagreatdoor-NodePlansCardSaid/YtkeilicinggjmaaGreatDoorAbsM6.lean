/-
  PARTS OF THIS CLAIM'S PROOF, laid together by a program of mine.
-/
import Derived.Test.YtkeilicinggjmaaGreatDoorAbsM5
set_option linter.unusedVariables false
set_option linter.unusedSimpArgs false
set_option linter.unusedSectionVars false
set_option maxRecDepth 100000
namespace Go.Proofs.YtkeilicinggjmaaGreatDoor
open Go.Proofs.Tryz
open Go.Abs Go.Abs.M
section
variable {H : aE} {m : Nat}
theorem By.Zn (H:aE)(bs:List UInt8):By (H++[.cells ((bs.map byC).flatten) 5 .row]) (.slice (some ⟨H.length,0,none⟩) bs.length bs.length) bs:=by
 refine⟨by rw[uC];simp,.inr ⟨H.length,bs.length,[],rfl,aPS _,by simp,by simp⟩⟩
theorem By.ext {H':aE}{v:Value}{bs:List UInt8}(h:By H v bs)(he:Ext H H'):By H' v bs:=h.fG λb hb=>he.2 b (h.fY hb) id
theorem aLH (H0:aE){H:aE}(he:Ext H0 H)(n c:Nat):New H0 (.slice (some ⟨H.length,0,none⟩) n c):=λb ⟨_,_,_,h⟩=>by
 cases h;exact he.1
theorem Oy {n:Nat}(h:n<=100):j7 n 1=true:=fV (n:=100) aC h
theorem aLG (hm:100<m)(f:Frm)(hf:f.ok): ∃H' v,lvl prog pkN m (.func 48) [frV f] H=some (.tuple #[v,.int .u16 (if gA f=true then 0 else 1)],H')/\Ext H H'/\By H' v (tE f)/\New H v:=by
 have main: ∃H' r,lvl prog pkN m (.func 48) [frV f] H=some (r,H')/\ ∃v,r= .tuple #[v,.int .u16 (if gA f=true then 0 else 1)]/\Ext H H'/\By H' v (tE f)/\New H v:=by
  refine fJ (cT rfl) U ?_
  rw[aKU];have e0:(Blk.cells (Value.cells (frV f)).toList 39 .fix)=frB f:=rfl;obtain⟨l0,l1,l2,l3,l4,l5,l6⟩:=oJ (dS H (frB f));have s1:=Zm (H:=H++[frB f]) (m:=m-1) U f
  have x0:Ext H (H++[frB f]):=Fr.app _ _ _;have x1:Ext H (H++[frB f]++[frB f]):=x0.tr (Fr.app _ _ _);by_cases hs:gA f=true
  ·rw[hs] at s1
   have hb2:=nW (dS H (frB f)) (frB f);obtain⟨q0,q1,q2,q3,q4,q5,q6⟩:=oJ hb2;have e2: ∀G:aE,dG 5 1 2 [.int .u8 0] [(0,.int .u8 (f.kind:Int)),(1,.int .u8 (f.lane:Int))] G=some (.slice (some ⟨G.length,0,none⟩) 2 2,G++[.cells (([by8 f.kind,by8 f.lane].map byC).flatten) 5 .row]):=λG=>by
    rw[uC];simp only[aQi,List.map_nil,Ox,aQl hf.kind,aQl hf.lane];rfl
   obtain⟨G2,hG2⟩: ∃G2,H++[frB f]++[frB f]=G2:=⟨_,rfl⟩;rw[hG2] at s1 x1 hb2 q0 q1 q2 q3 q4 q5 q6;obtain⟨G3,hG3⟩: ∃G3,G2++[Blk.cells (([by8 f.kind,by8 f.lane].map byC).flatten) 5 .row]=G3:=⟨_,rfl⟩;have b3:By G3 (.slice (some ⟨G2.length,0,none⟩) 2 2) [by8 f.kind,by8 f.lane]:=by rw[<-hG3];exact By.Zn G2 [by8 f.kind,by8 f.lane]
   have x3:Ext H G3:=by rw[<-hG3];exact x1.tr (Fr.app _ _ _)
   have hb3:G3[H.length]? =some (frB f):=by rw[<-hG3];exact nW hb2 _
   obtain⟨p0,p1,p2,p3,p4,p5,p6⟩:=oJ hb3;have x3':Ext G2 G3:=by rw[<-hG3];exact Fr.app _ _ _
   obtain⟨G4,v4,g1,b4,n4',x4'⟩:=Bg (m:=m-1) U (H0:=G2) f.seq hf.seq b3 (aLH G2 (Fr.iQ _ _) 2 2) x3' (Oy (by simp))
   have nk:((f.kind:Int)==1)=decide (f.kind=1):=xB f.kind 1;have hb4:G4[H.length]? =some (frB f):=by rw[x4'.2 _ (dK hb2) id,hb2]
   obtain⟨t0,t1,t2,t3,t4,t5,t6⟩:=oJ hb4;by_cases hk:f.kind=1
   ·have e5:dG 5 1 2 [.int .u8 0] [(0,.int .u8 (f.src:Int)),(1,.int .u8 (f.dst:Int))] G4=some (.slice (some ⟨G4.length,0,none⟩) 2 2,G4++[.cells (([by8 f.src,by8 f.dst].map byC).flatten) 5 .row]):=by
     rw[uC];simp only[aQi,List.map_nil,Ox,aQl hf.src,aQl hf.dst];rfl
    have w5:Rs byC 5 (G4++[.cells (([by8 f.src,by8 f.dst].map byC).flatten) 5 .row]) (.slice (some ⟨G4.length,0,none⟩) 2 2) [by8 f.src,by8 f.dst]:=(By.Zn G4 [by8 f.src,by8 f.dst]).rs;obtain⟨v6,G6,g6,b6,n6,x6⟩:=(b4.tS [.cells (([by8 f.src,by8 f.dst].map byC).flatten) 5 .row]).rY Fp Zl aC (by':=1) w5 n4' (x4'.tr (Fr.app _ _ _)) (Oy (by simp[kO]))
    have hb6:G6[H.length]? =some (frB f):=by rw[x6.2 _ (dK hb2) id,hb2]
    obtain⟨r0,r1,r2,r3,r4,r5,r6⟩:=oJ hb6;have hb5:(G4++[Blk.cells (([by8 f.src,by8 f.dst].map byC).flatten) 5 .row])[H.length]? =some (frB f):=nW hb4 _;have r5':=(oJ hb5).2.2.2.2.2.1;have ck:chk (some (Value.int .u32 (f.body:Int),G4++[Blk.cells (([by8 f.src,by8 f.dst].map byC).flatten) 5 .row])) (.int .u32 (f.body:Int))=true:=by simp[chk,veq]
    obtain⟨G7,v7,g7,b7,n7,x7⟩:=aLF (m:=m-1) U f.body hf.body b6 n6 x6 (Oy (by simp[kO]))
    have hbody:rC f=[by8 f.kind,by8 f.lane]++kO f.seq++[by8 f.src,by8 f.dst]++(kO (f.body/65536)++kO f.body):=by
     unfold rC Ot;rw[if_pos hk];simp[kO]
    rw[<-hbody] at b7;have hl7:(rC f).length=10:=by rw[hbody];simp[kO]
    have s7:=Ou (H:=G7) (m:=m-1) b7.br U U U
    obtain⟨G8,v8,g8,b8,n8,x8⟩:=Bg (H:=G7++[mD (crc (rC f))]) (m:=m-1) U (crc (rC f)) (Oo _) (b7.ext (Fr.app _ _ _)) n7 (x7.tr (Fr.app _ _ _)) (by rw[hl7];decide)
    simp only[gsR,e0,l6,hG2,s1,q0,q1,e2,hG3,p2,g1,t0,nk,aQw hk,t3,t4,e5,g6,r5,r5',ck,g7,s7,g8];refine⟨_,_,rfl,_,by simp[hs],x1.tr x8,?_,λb hb=>aP3 x1.1 (n8 b hb)⟩
    unfold tE Fo Oq;rw[if_pos hs];exact b8
   ·have hbody:rC f=[by8 f.kind,by8 f.lane]++kO f.seq:=by
     unfold rC Ot;rw[if_neg hk];simp[kO]
    rw[<-hbody] at b4;have hl7:(rC f).length=4:=by rw[hbody];simp[kO]
    have s7:=Ou (H:=G4) (m:=m-1) b4.br U U U
    obtain⟨G8,v8,g8,b8,n8,x8⟩:=Bg (H:=G4++[mD (crc (rC f))]) (m:=m-1) U (crc (rC f)) (Oo _) (b4.ext (Fr.app _ _ _)) n4' (x4'.tr (Fr.app _ _ _)) (by rw[hl7];decide)
    simp only[gsR,e0,l6,hG2,s1,q0,q1,e2,hG3,p2,g1,t0,nk,aQx hk,s7,g8];refine⟨_,_,rfl,_,by simp[hs],x1.tr x8,?_,λb hb=>aP3 x1.1 (n8 b hb)⟩
    unfold tE Fo Oq;rw[if_pos hs];exact b8
  ·have hs':gA f=false:=by simpa using hs
   rw[hs'] at s1;simp only[gsR,e0,l6,s1];refine⟨_,_,rfl,_,by simp[hs],x1,?_,New.iI H⟩
   unfold tE Fo;rw[if_neg hs];exact Rw.fW
 obtain⟨H',r,h1,v,rfl,h2⟩:=main
 exact⟨H',v,h1,h2⟩
end
section
variable {H : aE} {m : Nat}
abbrev Bs (H:aE)(v:Value)(bs:List UInt8):Prop:=Rs byC 5 H v bs
theorem aLI {v:Value}{bs:List UInt8}(h:Bs H v bs):Br H v bs:=by
 rcases h with⟨h1,h2⟩|⟨b,o,cap,h1,h2,h3⟩
 ·exact .inl ⟨h2,.inl h1⟩
 ·by_cases hb:bs=[]
  ·exact .inl ⟨hb,.inr ⟨b,o,cap,by rw[h1,hb];rfl⟩⟩
  ·obtain⟨e',k,pre,post,h4,_,h5⟩:=h3 hb
   refine .inr ⟨b,o,cap,_,e',k,h1,List.length_pos_iff.mpr hb,h5,?_,?_⟩
   ·rw[uC]
    simp;omega
   ·rw[uC,<-h4,aPU,List.drop_left]
    have:bs.length=(bs.map lC).length:=by simp
    rw[this,List.take_left]
theorem Bh {v:Value}{bs:List UInt8}(h:Bs H v bs){i:Nat}{x:UInt8}(hx:bs[i]? =some x)(k:IntKind): ∃a,cB 1 v (.int k i)=some a/\ ∀H',Ext H H'->ld1 a H'=some (lC x,H'):=by
 obtain⟨b,o,h1,h2,h3⟩:=h.fZ Fp hx k;obtain⟨e',hr⟩:=h.rr (λh=>by subst h;simp at hx)
 exact⟨_,h1,λH' he=>(h3 H' (he.2 b (hr.aE1 h2) id)).2.1 0 (lC x) rfl⟩
theorem Zp (bs:List UInt8)(c:UInt8):iS (bs++[c])=iS bs*256+c.toNat:=by simp[iS]
theorem Oz: ∀(n:Nat)(bs:List UInt8),bs.length=n->iS bs<256 ^ n:=by
 intro n;induction n with
 |zero=>intro bs h;rw[aP5.mp h];decide
 |succ n ih=>
  intro bs h;have hne:bs≠[]:=λhh=>by rw[hh] at h;simp at h
  rw[<-List.dropLast_concat_getLast hne,Zp,Nat.pow_succ];have h1:=ih bs.dropLast (by simp[h])
  have h2:=(bs.getLast hne).toNat_lt;omega
theorem aLL (n c:Nat)(hc:c<256):n*256|||c=n*256+c:=by
 have:=Nat.shiftLeft_add_eq_or_of_lt (i:=8) (b:=c) hc n;rw[Nat.shiftLeft_eq] at this;exact this.symm
theorem aLM {u:Value}{bs:List UInt8}(hu:Bs H u bs)(h4:bs.length<=4): ∀(q i k:Nat),bs.length-i=q->i<=bs.length->q<k->
  ∀x0 x1 x2 x4 x5 x9 bG b9 aS aP aQ aO aT aU aR:Value,aJ k (aM prog (lvl prog pkN m) (aJ m) Nl) (Nm (lvl prog pkN m) (aJ m)) [x0,x1,x2,(.int .u32 (iS (bs.take i))),x4,x5,u,(.I bs.length),(.I i),x9,bG,b9,aS,aP,aQ,aO,aT,aU,aR] H=some (.int .u32 (iS bs),H):=by
 intro q;induction q with
 |zero=>
  intro i k hq hi hk x0 x1 x2 x4 x5 x9 bG b9 aS aP aQ aO aT aU aR;obtain⟨k,rfl⟩: ∃k',k=k'+1:=⟨k-1,by omega⟩
  have hi8:i=bs.length:=U
  subst hi8;have c1:decide ((bs.length:Int)<(bs.length:Int))=false:=by simp
  rw[aJ,Yo];simp only[gsR,c1];rw[aKq];simp only[gsR,List.take_length]
 |succ q ih=>
  intro i k hq hi hk x0 x1 x2 x4 x5 x9 bG b9 aS aP aQ aO aT aU aR;obtain⟨k,rfl⟩: ∃k',k=k'+1:=⟨k-1,by omega⟩
  have c1:decide ((i:Int)<(bs.length:Int))=true:=by rw[decide_eq_true_eq];omega
  have hx:bs[i]? =some bs[i]:=aPP U
  obtain⟨a,a1,a2⟩:=Bh hu hx .i64;have a2:=a2 H (Fr.iQ _ _);have hb:=Oz i (bs.take i) (by simp;omega)
  have hb3:iS (bs.take i)<16777216:=aP2 hb (Nat.pow_le_pow_right (n:=256) (i:=i) (j:=3) U U)
  have hc:=bs[i].toNat_lt;have e1:bin prog .shl 37 (.int .u32 (iS (bs.take i):Int)) (.int .u64 8)=some (.int .u32 ((iS (bs.take i)*256:Nat):Int)):=by
   have:=C8 (P:=prog) .u32 .u64 rfl 37 (iS (bs.take i)) 8 aC
   rw[show iS (bs.take i)*2 ^ 8%2 ^ IntKind.u32.bits=iS (bs.take i)*256 from by show iS (bs.take i)*256%4294967296=_;omega] at this
   exact this
  have e2:dQ prog 5 37 (lC bs[i]) H=some (.int .u32 (bs[i].toNat:Int),H):=by
   show dQ prog 5 37 (.int .u8 bs[i].toNat) H=_
   rw[fI _ _ u8U pS,Y9 _ U]
  have e3:bin prog .or 37 (.int .u32 ((iS (bs.take i)*256:Nat):Int)) (.int .u32 (bs[i].toNat:Int))=some (.int .u32 (iS (bs.take (i+1)):Int)):=by
   rw[Jt .u32 rfl _ (a:=iS (bs.take i)*256) (b:=bs[i].toNat) (by show _<4294967296;omega) (by show _<4294967296;omega),aLL _ _ hc,List.take_add_one,hx]
   rw[show(some bs[i]).toList=[bs[i]] from rfl,Zp]
  have e4:=aA (i:=i) U
  rw[aJ,Yo];simp only[gsR,c1,a1,a2,e1,e2,e3,cO,e4];exact ih (i+1) k U U U _ _ _ _ _ _ _ _ _ _ _ _ _ _ _
theorem O0 {u:Value}{bs:List UInt8}(hu:Bs H u bs)(h4:bs.length<=4)(hm:10<m):lvl prog pkN m (.func 136) [u] H=some (.int .u32 (iS bs),H):=by
 refine dI (cT rfl) U ?_
 rw[aKr];simp only[gsR,hu.fD];exact aLM hu h4 bs.length 0 (m-1) U U U _ _ _ _ _ _ _ _ _ _ _ _ _ _ _
def zfB:Blk:=frB Frm.oE
def nM (bs:List UInt8):Value:=match pN bs with
 |some f=> .tuple #[frV f,.int .u16 0]
 |none=> .tuple #[frV Frm.oE,.int .u16 30]
theorem aLJ:prog.cellsOf 5=1:=by kernel_rfl
theorem Ft {b:Nat}{f:Frm}(g:Frm)(hb:H[b]? =some (frB f)):stN 6 (.Q b 0) (frV g) H=some (undef,H.set b (frB g)):=yZ hb aC rfl rfl (aPS 6) rfl
theorem y8 (a b:Bool):bin prog .neq 4 (.bool a) (.bool b)=some (.bool (a !=b)):=by
 cases a<;>cases b<;>rfl
theorem y9 {H G:aE}{b:Nat}(he:Ext H G)(hb:H.length<=b)(y:Blk):Ext H (G.set b y):=⟨by simp[he.1],λc hc _=>by rw[aPO U,he.2 c hc id]⟩
theorem Zo {G:aE}(he:Ext H G)(h0:G[H.length]? =some zfB)(h1:G[H.length+1]? =some zfB):ldN 6 (.Q (H.length+1) 0) G=some (frV Frm.oE,G)/\
  stN 6 (.Q H.length 0) (frV Frm.oE) G=some (undef,G.set H.length zfB)/\ldN 6 (.Q H.length 0) (G.set H.length zfB)=some (frV Frm.oE,G.set H.length zfB)/\Ext H (G.set H.length zfB):=
 ⟨(oJ h1).2.2.2.2.2.2,Ft Frm.oE h0,(oJ (iR h0)).2.2.2.2.2.2,y9 he (aPS _) _⟩
theorem Zq (H:aE)(X:aE):(H++[zfB]++[zfB]++X)[H.length]? =some zfB/\(H++[zfB]++[zfB]++X)[H.length+1]? =some zfB:=by
 constructor
 ·simp
 ·rw[aPU,aPU,aP7 U]
  simp
theorem aLK (hm:100<m){u:Value}{bs:List UInt8}(hu:Bs H u bs)(h6:bs.length≠6)(h12:bs.length≠12): ∃H',lvl prog pkN m (.func 87) [u] H=some (nM bs,H')/\Ext H H':=by
 refine jQ (cT rfl) U ?_
 rw[Y5];have hd:nM bs= .tuple #[frV Frm.oE,.int .u16 30]:=by
  unfold nM pN;rw[if_neg U,if_neg U]
 have e0:(Blk.cells [.int .u8 0,.int .u8 0,.int .u16 0,.int .u8 0,.int .u8 0,.int .u32 0] 39 .fix)=zfB:=rfl;have c1:((bs.length:Int)!=6)=true:=by simp;omega
 have c2:((bs.length:Int)!=12)=true:=by simp;omega
 have b2:=Zq H [];rw[List.append_nil] at b2;have x2:Ext H (H++[zfB]++[zfB]):=by rw[aPU];exact Fr.app _ _ _
 have hl2:(H++[zfB]).length=H.length+1:=by simp
 obtain⟨o1,o2,o3,o4⟩:=Zo x2 b2.1 b2.2;simp only[gsR,e0,hl2,hu.fD,c1,c2,o1,o2,o3,hd]
 exact⟨_,rfl,o4⟩
end
section
variable {H : aE} {m : Nat}
theorem aLN {bs:List UInt8}(h:bs.length=6∨bs.length=12):(bs.take 4).drop 2=[bs.getD 2 0,bs.getD 3 0]:=by
 rcases h with h|h
 ·match bs,h with
  |[a,b,c,d,e,f],_=>rfl
 ·match bs,h with
  |[a,b,c,d,e,f,g,h,i,j,k,l],_=>rfl
theorem aLO {bs:List UInt8}(h:bs.length=12):(bs.take 10).drop 6=[bs.getD 6 0,bs.getD 7 0,bs.getD 8 0,bs.getD 9 0]:=by
 match bs,h with
 |[a,b,c,d,e,f,g,h,i,j,k,l],_=>rfl
theorem Fu {bs:List UInt8}{i:Nat}(h:i<bs.length):bs[i]? =some (bs.getD i 0):=by
 rw[aPR,aPP h];rfl
theorem Zr (a:Option Addr)(n c:Nat)(G:aE):chk (some (Value.slice a n c,G)) (.slice a n c)=true:=by simp[chk,veq]
theorem Fv (x:UInt8)(G:aE):chk (some (lC x,G)) (lC x)=true:=by simp[chk,veq,lC]
theorem aLQ (x:UInt8)(n:Nat)(z:Int)(hz:z=n):bin prog .eql 5 (lC x) (.int .u8 z)=some (.bool (decide (x.toNat=n))):=by
 rw[lC,b_eql,hz,xB]
theorem aLR (a b:UInt8):iS [a,b]<65536:=by
 have:=a.toNat_lt;have:=b.toNat_lt;rw[aLn];omega
theorem bff:(false !=false)=false:=rfl
theorem btt:(true !=true)=false:=rfl
theorem Zt (hm:0<m){G:aE}{f:Frm}(he:Ext H G)(h0:G[H.length]? =some zfB)(h1:G[H.length+1]? =some (frB f)):
  ldN 6 (.Q (H.length+1) 0) G=some (frV f,G)/\lvl prog pkN m (.func 92) [frV f] G=some (.bool (gA f),G++[frB f])/\
  ldN 6 (.Q (H.length+1) 0) (G++[frB f])=some (frV f,G++[frB f])/\
  (∀g,stN 6 (.Q H.length 0) (frV g) (G++[frB f])=some (undef,(G++[frB f]).set H.length (frB g))/\ldN 6 (.Q H.length 0) ((G++[frB f]).set H.length (frB g))=some (frV g,(G++[frB f]).set H.length (frB g))/\Ext H ((G++[frB f]).set H.length (frB g))):=by
 have hx:Ext H (G++[frB f]):=he.tr (Fr.app _ _ _);have h0':(G++[frB f])[H.length]? =some (frB Frm.oE):=nW h0 _
 exact⟨(oJ h1).2.2.2.2.2.2,Zm hm f,(oJ (nW h1 _)).2.2.2.2.2.2,λg=>⟨Ft g h0',(oJ (iR h0')).2.2.2.2.2.2,y9 hx (aPS _) _⟩⟩
theorem Zs (hm:200<m){u:Value}{bs:List UInt8}(hu:Bs H u bs)(hl:bs.length=6∨bs.length=12): ∃H',lvl prog pkN m (.func 87) [u] H=some (nM bs,H')/\Ext H H':=by
  have hne:bs≠[]:=λhh=>by rw[hh] at hl;simp at hl
  obtain⟨sb,so,cap,rfl,hcap,hs⟩:=hu.aLh Fp aLJ hne;refine jQ (cT rfl) U ?_
  rw[Y5];have e0:(Blk.cells [.int .u8 0,.int .u8 0,.int .u16 0,.int .u8 0,.int .u8 0,.int .u32 0] 39 .fix)=zfB:=rfl;have hl2:(H++[zfB]).length=H.length+1:=by simp
  have x2:Ext H (H++[zfB]++[zfB]):=by rw[aPU];exact Fr.app _ _ _
  have b2:=Zq H [];rw[List.append_nil] at b2;obtain⟨G2,hG2⟩: ∃G2,H++[zfB]++[zfB]=G2:=⟨_,rfl⟩;rw[hG2] at x2 b2;have w1:IntKind.i64.wrap ((bs.length:Int)-2)=((bs.length-2:Nat):Int):=by rw[cZ U U];omega
  have f1: ∀G,Ext H G->slc prog 1 (.slice (some ⟨sb,so,none⟩) bs.length cap) none (some (.I ((bs.length-2:Nat):Int))) (some (.I ((bs.length-2:Nat):Int))) G=some (.slice (some ⟨sb,so+0*1,none⟩) (bs.length-2-0) (bs.length-2-0),G)/\Bs G (.slice (some ⟨sb,so+0*1,none⟩) (bs.length-2-0) (bs.length-2-0)) (bs.take (bs.length-2)):=λG he=>by
    have:=hs G (hu.ext he) 0 (bs.length-2) none _ _ (bs.length-2) rfl (mN _ .i64 _) (mN _ .i64 _) U U U U
    rw[List.drop_zero] at this;exact this
  have f2: ∀G,Ext H G->slc prog 1 (.slice (some ⟨sb,so,none⟩) bs.length cap) (some (.I ((bs.length-2:Nat):Int))) none none G=some (.slice (some ⟨sb,so+(bs.length-2)*1,none⟩) (bs.length-(bs.length-2)) (cap-(bs.length-2)),G)/\Bs G (.slice (some ⟨sb,so+(bs.length-2)*1,none⟩) (bs.length-(bs.length-2)) (cap-(bs.length-2))) (bs.drop (bs.length-2)):=λG he=>by
    have:=hs G (hu.ext he) (bs.length-2) bs.length _ none none cap (mN _ .i64 _) rfl rfl U U U U
    rw[List.take_length] at this;exact this
  have f3: ∀G,Ext H G->slc prog 1 (.slice (some ⟨sb,so,none⟩) bs.length cap) (some (.I 2)) (some (.I 4)) none G=some (.slice (some ⟨sb,so+2*1,none⟩) (4-2) (cap-2),G)/\Bs G (.slice (some ⟨sb,so+2*1,none⟩) (4-2) (cap-2)) [bs.getD 2 0,bs.getD 3 0]:=λG he=>by
    have:=hs G (hu.ext he) 2 4 (some (.I 2)) (some (.I 4)) none cap (mN _ .i64 2) (mN _ .i64 4) rfl U U U U
    rw[aLN hl] at this;exact this
  have q1:=(f1 G2 x2).1;have s1:=Ou (H:=G2) (m:=m-1) (aLI (f1 G2 x2).2) U (by simp;omega) (by simp;omega)
  obtain⟨G3,hG3⟩: ∃G3,G2++[mD (crc (bs.take (bs.length-2)))]=G3:=⟨_,rfl⟩;rw[hG3] at s1;have x3:Ext H G3:=by rw[<-hG3];exact x2.tr (Fr.app _ _ _)
  have b30:G3[H.length]? =some zfB:=by rw[<-hG3];exact nW b2.1 _
  have b31:G3[H.length+1]? =some zfB:=by rw[<-hG3];exact nW b2.2 _
  have q2:=(f2 G3 x3).1;have q2':=(f2 G2 x2).1;have s2:=O0 (H:=G3) (m:=m-1) (f2 G3 x3).2 (by simp;omega) U
  have cv1:IntKind.u32.wrap (crc (bs.take (bs.length-2)):Int)=(crc (bs.take (bs.length-2)):Int):=Y9 _ (by have:=Oo (bs.take (bs.length-2));omega)
  obtain⟨o1,o2,o3,o4⟩:=Zo x3 b30 b31;have ck2:chk (some (Value.slice (some ⟨sb,so+(bs.length-2)*1,none⟩) (bs.length-(bs.length-2)) (cap-(bs.length-2)),G2)) (.slice (some ⟨sb,so+(bs.length-2)*1,none⟩) (bs.length-(bs.length-2)) (cap-(bs.length-2)))=true:=Zr _ _ _ _;have c1: ∀z:Bool,((bs.length:Int)!=6)=z->z=decide (bs.length≠6):=λz hz=>by rw[<-hz];exact Bf bs.length 6
  have nn6:((bs.length:Int)!=6)=decide (bs.length≠6):=Bf bs.length 6;have nn12:((bs.length:Int)!=12)=decide (bs.length≠12):=Bf bs.length 12;have ne12:((bs.length:Int)==12)=decide (bs.length=12):=xB bs.length 12;have hlen:cH (Value.slice (some ⟨sb,so,none⟩) bs.length cap)=some (.I bs.length):=rfl;have ncr:((crc (bs.take (bs.length-2)):Int)!=(iS (bs.drop (bs.length-2)):Int))=decide (crc (bs.take (bs.length-2))≠iS (bs.drop (bs.length-2))):=Bf _ _;obtain⟨a0,i0,l0⟩:=Bh hu (Fu (bs:=bs) (i:=0) U) .i64
  obtain⟨a1,i1,l1⟩:=Bh hu (Fu (bs:=bs) (i:=1) U) .i64
  have i0':cB 1 (.slice (some ⟨sb,so,none⟩) bs.length cap) (.I 0)=some a0:=i0;have i1':cB 1 (.slice (some ⟨sb,so,none⟩) bs.length cap) (.I 1)=some a1:=i1;have k0:=aLQ (bs.getD 0 0) 1 1 rfl;have hdn:crc (bs.take (bs.length-2))≠iS (bs.drop (bs.length-2))∨decide ((bs.getD 0 0).toNat=1)≠decide (bs.length=12)->nM bs= .tuple #[frV Frm.oE,.int .u16 30]:=λhh=>by
    have:pN bs=none:=by
      unfold pN y6;rcases hl with h6|h12
      · by_cases hk:(bs.getD 0 0).toNat=1
        · rw[if_neg U,if_neg U]
        · rw[if_pos ⟨h6,hk⟩,if_neg]
          rintro ⟨h1,_⟩
          rcases hh with hh|hh
          · rw[h6] at hh
            exact hh h1
          · rw[aQx hk,aQx (show¬bs.length=12 by omega)] at hh
            exact hh rfl
      · by_cases hk:(bs.getD 0 0).toNat=1
        · rw[if_neg U,if_pos ⟨h12,hk⟩,if_neg]
          rintro ⟨h1,_⟩
          rcases hh with hh|hh
          · rw[h12] at hh
            exact hh h1
          · rw[aQw hk,aQw h12] at hh
            exact hh rfl
        · rw[if_neg U,if_neg U]
    unfold nM;rw[this]
  -- up to the second test
  by_cases hc:crc (bs.take (bs.length-2))=iS (bs.drop (bs.length-2))
  rotate_left
  · have hd:=hdn (.inl hc)
    rcases hl with h6|h12
    · have d6:decide (bs.length≠6)=false:=by simp[h6]
      simp only[gsR,e0,hl2,hG2,hlen,nn6,d6,iV,w1,q1,s1,fI _ _ nB pS,cv1,q2,q2',ck2,s2,ncr,aQw hc,o1,o2,o3,hd]
      exact⟨_,rfl,o4⟩
    · have d6:decide (bs.length≠6)=true:=by simp[h12]
      have d12:decide (bs.length≠12)=false:=by simp[h12]
      simp only[gsR,e0,hl2,hG2,hlen,nn6,nn12,d6,d12,iV,w1,q1,s1,fI _ _ nB pS,cv1,q2,q2',ck2,s2,ncr,aQw hc,o1,o2,o3,hd]
      exact⟨_,rfl,o4⟩
  have nz:decide (crc (bs.take (bs.length-2))≠iS (bs.drop (bs.length-2)))=false:=by simp[hc]
  have l0':=l0 G3 x3;have l1':=l1 G3 x3;by_cases hk:decide ((bs.getD 0 0).toNat=1)=decide (bs.length=12)
  rotate_left
  · have hd:=hdn (.inr hk)
    have hkb:(decide ((bs.getD 0 0).toNat=1)!=decide (bs.length=12))=true:=by simpa using hk
    rcases hl with h6|h12
    · have d6:decide (bs.length≠6)=false:=by simp[h6]
      simp only[gsR,e0,hl2,hG2,hlen,nn6,d6,iV,w1,q1,s1,fI _ _ nB pS,cv1,q2,q2',ck2,s2,ncr,nz,i0',l0',k0,ne12,y8,hkb,o1,o2,o3,hd]
      exact⟨_,rfl,o4⟩
    · have d6:decide (bs.length≠6)=true:=by simp[h12]
      have d12:decide (bs.length≠12)=false:=by simp[h12]
      simp only[gsR,e0,hl2,hG2,hlen,nn6,nn12,d6,d12,iV,w1,q1,s1,fI _ _ nB pS,cv1,q2,q2',ck2,s2,ncr,nz,i0',l0',k0,ne12,y8,hkb,o1,o2,o3,hd]
      exact⟨_,rfl,o4⟩
  have hkb:(decide ((bs.getD 0 0).toNat=1)!=decide (bs.length=12))=false:=by simpa using hk
  have q3:=(f3 G3 x3).1;have s3:=O0 (H:=G3) (m:=m-1) (f3 G3 x3).2 (by simp) U
  have w3:IntKind.u16.wrap (iS [bs.getD 2 0,bs.getD 3 0]:Int)=(iS [bs.getD 2 0,bs.getD 3 0]:Int):=Ju U (by have:=aLR (bs.getD 2 0) (bs.getD 3 0);omega)
  have bF:bld prog 39 [(0,lC (bs.getD 0 0)),(1,lC (bs.getD 1 0)),(2,.int .u16 (iS [bs.getD 2 0,bs.getD 3 0]))]=some (frV (nA bs)):=rfl;have bZ:bld prog 39 []=some (frV Frm.oE):=rfl;have st1:=Ft (nA bs) b31;obtain⟨G4,hG4⟩: ∃G4,G3.set (H.length+1) (frB (nA bs))=G4:=⟨_,rfl⟩;rw[hG4] at st1;have x4:Ext H G4:=by rw[<-hG4];exact y9 x3 U _
  have b40:G4[H.length]? =some zfB:=by rw[<-hG4,aPO U];exact b30
  have b41:G4[H.length+1]? =some (frB (nA bs)):=by rw[<-hG4];exact iR b31
  rcases hl with h6|h12
  · have d6:decide (bs.length≠6)=false:=by simp[h6]
    have d12:decide (bs.length=12)=false:=by simp[h6]
    have hk1: ¬(bs.getD 0 0).toNat=1:=by rw[d12] at hk;simpa using hk
    have hdec:pN bs=if gA (nA bs)=true then some (nA bs) else none:=by
      unfold pN y6;rw[if_pos ⟨h6,hk1⟩];rw[h6] at hc;by_cases hs:gA (nA bs)=true
      · rw[if_pos ⟨hc,hs⟩,if_pos hs]
      · rw[if_neg λh=>hs h.2,if_neg hs]
    obtain⟨t1,t2,t3,t4⟩:=Zt (m:=m-1) U x4 b40 b41
    by_cases hs:gA (nA bs)=true
    · obtain⟨u1,u2,u3⟩:=t4 (nA bs)
      have hd:nM bs= .tuple #[frV (nA bs),.int .u16 0]:=by unfold nM;rw[hdec,if_pos hs]
      rw[hs] at t2;simp only[gsR,e0,hl2,hG2,hlen,nn6,d6,iV,w1,q1,s1,fI _ _ nB pS,fI _ _ pS nB,cv1,q2,q2',ck2,s2,ncr,nz,i0',l0',i1',l1',k0,ne12,y8,aQx hk1,bff,q3,s3,Fv,w3,bF,st1,d12,t1,t2,t3,u1,u2,hd]
      exact⟨_,rfl,u3⟩
    · obtain⟨u1,u2,u3⟩:=t4 Frm.oE
      have hs':gA (nA bs)=false:=by simpa using hs
      have hd:nM bs= .tuple #[frV Frm.oE,.int .u16 30]:=by unfold nM;rw[hdec,if_neg hs]
      rw[hs'] at t2;simp only[gsR,e0,hl2,hG2,hlen,nn6,d6,iV,w1,q1,s1,fI _ _ nB pS,fI _ _ pS nB,cv1,q2,q2',ck2,s2,ncr,nz,i0',l0',i1',l1',k0,ne12,y8,aQx hk1,bff,q3,s3,Fv,w3,bF,st1,d12,t1,t2,bZ,u1,u2,hd]
      exact⟨_,rfl,u3⟩
  · have d6:decide (bs.length≠6)=true:=by simp[h12]
    have d12':decide (bs.length≠12)=false:=by simp[h12]
    have d12:decide (bs.length=12)=true:=by simp[h12]
    have hk1:(bs.getD 0 0).toNat=1:=by rw[d12] at hk;simpa using hk
    have hdec:pN bs=if gA (rD bs)=true then some (rD bs) else none:=by
      unfold pN y6;rw[if_neg U,if_pos ⟨h12,hk1⟩]
      rw[h12] at hc;by_cases hs:gA (rD bs)=true
      · rw[if_pos ⟨hc,hs⟩,if_pos hs]
      · rw[if_neg λh=>hs h.2,if_neg hs]
    obtain⟨a4,i4,l4⟩:=Bh hu (Fu (bs:=bs) (i:=4) U) .i64
    obtain⟨a5,i5,l5⟩:=Bh hu (Fu (bs:=bs) (i:=5) U) .i64
    have i4':cB 1 (.slice (some ⟨sb,so,none⟩) bs.length cap) (.I 4)=some a4:=i4;have i5':cB 1 (.slice (some ⟨sb,so,none⟩) bs.length cap) (.I 5)=some a5:=i5;have f4:slc prog 1 (.slice (some ⟨sb,so,none⟩) bs.length cap) (some (.I 6)) (some (.I 10)) none G4=some (.slice (some ⟨sb,so+6*1,none⟩) (10-6) (cap-6),G4)/\Bs G4 (.slice (some ⟨sb,so+6*1,none⟩) (10-6) (cap-6)) [bs.getD 6 0,bs.getD 7 0,bs.getD 8 0,bs.getD 9 0]:=by
      have:=hs G4 (hu.ext x4) 6 10 (some (.I 6)) (some (.I 10)) none cap (mN _ .i64 6) (mN _ .i64 10) rfl U U U U
      rw[aLO h12] at this;exact this
    have q4:=f4.1;have s4:=O0 (H:=G4) (m:=m-1) f4.2 (by simp) U
    have st3:stN 1 (.Q (H.length+1) 3) (lC (bs.getD 4 0)) G4=some (undef,G4.set (H.length+1) (frB {nA bs with src:=(bs.getD 4 0).toNat})):=lW b41 aC (by simp[frC])
    obtain⟨G5,hG5⟩: ∃G5,G4.set (H.length+1) (frB {nA bs with src:=(bs.getD 4 0).toNat})=G5:=⟨_,rfl⟩;rw[hG5] at st3;have x5:Ext H G5:=by rw[<-hG5];exact y9 x4 U _
    have b50:G5[H.length]? =some zfB:=by rw[<-hG5,aPO U];exact b40
    have b51:G5[H.length+1]? =some (frB {nA bs with src:=(bs.getD 4 0).toNat}):=by rw[<-hG5];exact iR b41
    have st4:stN 1 (.Q (H.length+1) 4) (lC (bs.getD 5 0)) G5=some (undef,G5.set (H.length+1) (frB {nA bs with src:=(bs.getD 4 0).toNat,dst:=(bs.getD 5 0).toNat})):=lW b51 aC (by simp[frC])
    obtain⟨G6,hG6⟩: ∃G6,G5.set (H.length+1) (frB {nA bs with src:=(bs.getD 4 0).toNat,dst:=(bs.getD 5 0).toNat})=G6:=⟨_,rfl⟩;rw[hG6] at st4;have x6:Ext H G6:=by rw[<-hG6];exact y9 x5 U _
    have b60:G6[H.length]? =some zfB:=by rw[<-hG6,aPO U];exact b50
    have b61:G6[H.length+1]? =some (frB {nA bs with src:=(bs.getD 4 0).toNat,dst:=(bs.getD 5 0).toNat}):=by rw[<-hG6];exact iR b51
    have st5:stN 1 (.Q (H.length+1) 5) (.int .u32 (iS [bs.getD 6 0,bs.getD 7 0,bs.getD 8 0,bs.getD 9 0]:Int)) G6=some (undef,G6.set (H.length+1) (frB (rD bs))):=lW b61 aC (by simp[frC])
    obtain⟨G7,hG7⟩: ∃G7,G6.set (H.length+1) (frB (rD bs))=G7:=⟨_,rfl⟩;rw[hG7] at st5;have x7:Ext H G7:=by rw[<-hG7];exact y9 x6 U _
    have b70:G7[H.length]? =some zfB:=by rw[<-hG7,aPO U];exact b60
    have b71:G7[H.length+1]? =some (frB (rD bs)):=by rw[<-hG7];exact iR b61
    have l44:=l4 G4 x4;have l54:=l5 G4 x4;have l55:=l5 G5 x5;obtain⟨t1,t2,t3,t4⟩:=Zt (m:=m-1) U x7 b70 b71
    by_cases hs:gA (rD bs)=true
    · obtain⟨u1,u2,u3⟩:=t4 (rD bs)
      have hd:nM bs= .tuple #[frV (rD bs),.int .u16 0]:=by unfold nM;rw[hdec,if_pos hs]
      rw[hs] at t2;simp only[gsR,e0,hl2,hG2,hlen,nn6,nn12,d6,d12',iV,w1,q1,s1,fI _ _ nB pS,fI _ _ pS nB,cv1,q2,q2',ck2,s2,ncr,nz,i0',l0',i1',l1',k0,ne12,y8,aQw hk1,btt,q3,s3,Fv,w3,bF,st1,d12,i4',i5',l44,l54,l55,q4,s4,st3,st4,st5,t1,t2,t3,u1,u2,hd]
      exact⟨_,rfl,u3⟩
    · obtain⟨u1,u2,u3⟩:=t4 Frm.oE
      have hs':gA (rD bs)=false:=by simpa using hs
      have hd:nM bs= .tuple #[frV Frm.oE,.int .u16 30]:=by unfold nM;rw[hdec,if_neg hs]
      rw[hs'] at t2;simp only[gsR,e0,hl2,hG2,hlen,nn6,nn12,d6,d12',iV,w1,q1,s1,fI _ _ nB pS,fI _ _ pS nB,cv1,q2,q2',ck2,s2,ncr,nz,i0',l0',i1',l1',k0,ne12,y8,aQw hk1,btt,q3,s3,Fv,w3,bF,st1,d12,i4',i5',l44,l54,l55,q4,s4,st3,st4,st5,t1,t2,bZ,u1,u2,hd]
      exact⟨_,rfl,u3⟩
theorem aLP (hm:200<m){u:Value}{bs:List UInt8}(hu:Bs H u bs): ∃H',lvl prog pkN m (.func 87) [u] H=some (nM bs,H')/\Ext H H':=by
 by_cases h6:bs.length=6
 ·exact Zs hm hu (.inl h6)
 ·by_cases h12:bs.length=12
  ·exact Zs hm hu (.inr h12)
  ·exact aLK U hu h6 h12
end
end Go.Proofs.YtkeilicinggjmaaGreatDoor
namespace Go.Abs
open M
def Rq {α:Type}(el:α->List Value)(e:TypeId)(sz:Nat)(H:aE)(v:Value)(xs:List α):Prop:=
 (v= .slice none 0 0/\xs=[])∨ ∃c pre rest cap,v= .slice (some ⟨c,pre.length,none⟩) xs.length cap/\xs.length<=cap/\rest.length=(cap-xs.length)*sz/\H[c]? =some (.cells (pre++(xs.map el).flatten++rest) e .row)
section
variable {α : Type} {el : α → List Value} {e : TypeId} {sz : Nat} {H H' : aE} {v w : Value} {xs ys : List α}
theorem Rq.Zu:Rq el e sz H (.slice none 0 0) ([]:List α):= .inl ⟨rfl,rfl⟩
theorem Rq.O1 (h:Rq el e sz H v xs):cH v=some (.int .i64 xs.length):=by
 rcases h with⟨rfl,rfl⟩|⟨c,pre,rest,cap,rfl,_⟩<;>rfl
theorem Rq.blk (h:Rq el e sz H v xs){b:Nat}(hb:cV v b): ∃cs,H[b]? =some (.cells cs e .row):=by
 rcases h with⟨rfl,rfl⟩|⟨c,pre,rest,cap,rfl,_,_,h3⟩
 ·obtain⟨_,_,_,hh⟩:=hb
  cases hh
 ·obtain⟨_,_,_,hh⟩:=hb
  cases hh
  exact⟨_,h3⟩
theorem Rq.vL (h:Rq el e sz H v xs){b:Nat}(hb:cV v b):b<H.length:=by
 obtain⟨cs,hc⟩:=h.blk hb;exact dK hc
theorem Rq.xC (h:Rq el e sz H v xs)(hk: ∀b,cV v b->H'[b]? =H[b]?):Rq el e sz H' v xs:=by
 rcases h with h|⟨c,pre,rest,cap,rfl,h1,h2,h3⟩
 ·exact .inl h
 ·exact .inr ⟨c,pre,rest,cap,rfl,h1,h2,by rw[hk c ⟨_,_,_,rfl⟩,h3]⟩
theorem Rq.ext (h:Rq el e sz H v xs)(he:Ext H H'):Rq el e sz H' v xs:=h.xC λb hb=>he.2 b (h.vL hb) id
theorem Rq.rs (h:Rq el e sz H v xs):Rs el e H v xs:=by
 rcases h with h|⟨c,pre,rest,cap,rfl,h1,h2,h3⟩
 ·exact .inl h
 ·exact .inr ⟨c,_,cap,rfl,h1,λ_=>⟨e,.row,pre,rest,rfl,λ_=>rfl,h3⟩⟩
theorem Rq.zA (h:Rq el e sz H v xs):v.cells.toList=[v]/\dV [v]=true:=by
 rcases h with⟨rfl,rfl⟩|⟨c,pre,rest,cap,rfl,_⟩<;>exact⟨rfl,rfl⟩
theorem Rq.aLS {P:Program}{x:α}(hsz: ∀x,(el x).length=sz)(he:P.cellsOf e=sz)(h:Rq el e sz H v (x::xs)): ∃v',(∀H',Rq el e sz H' v (x::xs)->slc P sz v (some (.int .i64 1)) none none H'=some (v',H'))/\Rq el e sz H v' xs/\ ∀b,cV v' b->cV v b:=by
 rcases h with⟨_,h⟩|⟨c,pre,rest,cap,rfl,h1,h2,h3⟩
 ·cases h
 ·simp only[aP9] at h1 h2
  refine⟨.slice (some ⟨c,pre.length+1*sz,none⟩) ((x::xs).length-1) (cap-1),λH' h'=> ?_,.inr ⟨c,pre++el x,rest,cap-1,by simp[hsz],by omega,by rw[h2];congr 1;omega,by rw[h3];simp⟩,?_⟩
  ·rcases h' with⟨_,h⟩|⟨c',pre',rest',cap',heq,_,_,h3'⟩
   ·cases h
   ·injection heq with a1 a2 a3
    injection a1 with a1;injection a1 with b1 b2;subst b1 a3;rw[b2];exact sY (P:=P) (H:=H') (sz:=sz) (o:=pre'.length) h3' (λ_=>he) (len:=(x::xs).length) (cap:=cap) (hi:=none) (mx:=none) (mN 0 .i64 1) rfl rfl (by simp) (by simpa using h1) (aPS _)
  ·rintro b ⟨o,n,k,hh⟩
   cases hh
   exact⟨_,_,_,rfl⟩
theorem Rq.Zv (hsz: ∀x,(el x).length=sz)(hall: ∀x,dV (el x)=true)(h0:0<sz){by':Nat}(h:Rq el e sz H v xs)(x:α)(hr:j7 (xs.length+1) by'=true):
  ∃v' H',Go.Abs.app e sz by' v (.slice (some ⟨H.length,0,none⟩) 1 1) (H++[.cells (el x) e .row])=some (v',H')/\Rq el e sz H' v' (xs++[x])/\Fr (cV v) H H'/\ ∀b,cV v' b->cV v b∨(H.length<=b/\b<H'.length):=by
 have hw:Rr el e (H++[.cells (el x) e .row]) (.slice (some ⟨H.length,0,none⟩) 1 1) [x]:=wM (el:=el) x H;have hs:jO sz (.slice (some ⟨H.length,0,none⟩) 1 1) 1 (H++[.cells (el x) e .row])=some (el x):=by
  have:=hw.Tq hsz;simpa using this
 have hl:mJ (.slice (some ⟨H.length,0,none⟩) 1 1)=some 1:=rfl;have hne:el x≠[]:=λhh=>by have:=hsz x;rw[hh] at this;simp at this;omega
 have hle:(H++[Blk.cells (el x) e .row]).length=H.length+1:=by simp
 unfold Go.Abs.app;rw[hl];simp only;rw[hs];simp only;rcases h with⟨rfl,rfl⟩|⟨c,pre,rest,cap,rfl,h1,h2,h3⟩
 ·simp only
  rw[if_neg aC,if_pos (show j7 1 by'=true from hr)]
  refine⟨_,_,rfl,.inr ⟨_,[],[],1,rfl,by simp,by simp,by rw[dS];simp⟩,⟨by simp,λb hb _=>by rw[aPU,aPQ hb]⟩,?_⟩
  rintro b ⟨o,n,k,hh⟩
  cases hh;exact .inr ⟨by simp,by simp⟩
 ·have hc:=dK h3
  have hg:(H++[Blk.cells (el x) e .row])[c]? =some (.cells (pre++(xs.map el).flatten++rest) e .row):=nW h3 _;have hf:=qV (xs.map el) (rX hsz);rw[aP1] at hf;simp only;rw[hg];simp only;by_cases hroom:xs.length+1<=cap
  ·rw[if_pos hroom,if_neg hne]
   have hrl:sz<=rest.length:=by
    rw[h2]
    calc sz=1*sz:=(Nat.one_mul sz).symm
     _<=(cap-xs.length)*sz:=Nat.mul_le_mul_right sz U
   rw[if_pos ⟨by decide,by simp only[aPZ,hf];omega,hall x⟩]
   have hset:eK (pre++(xs.map el).flatten++rest) (pre.length+xs.length*sz) (el x)=pre++((xs++[x]).map el).flatten++rest.drop sz:=by
    have:=uX (el x) (rest.take sz) (pre++(xs.map el).flatten) (rest.drop sz) (by rw[List.length_take,hsz];omega)
    rw[aPU _ (rest.take sz),List.take_append_drop,aPZ,hf] at this;rw[this];simp
   rw[hset];refine⟨_,_,rfl,.inr ⟨c,pre,rest.drop sz,cap,by simp,by simpa using hroom,?_,iR hg⟩,⟨by simp,λb hb hh=> ?_⟩,?_⟩
   ·rw[List.length_drop,h2,aPZ,List.length_singleton,show cap-xs.length=(cap-(xs.length+1))+1 by omega,Nat.succ_mul]
    omega
   ·rw[aPO (λhx=>hh (by subst hx;exact⟨_,_,_,rfl⟩)),aPQ hb]
   ·rintro b ⟨o,n,k,hh⟩
    cases hh;exact .inl ⟨_,_,_,rfl⟩
  ·rw[if_neg hroom,if_pos ⟨trivial,trivial,by simp only[aPZ,hf];omega,hr,hall x⟩]
   have hcut:((pre++(xs.map el).flatten++rest).drop pre.length).take (xs.length*sz)=(xs.map el).flatten:=by
    rw[aPU,List.drop_left,<-hf,List.take_left]
   rw[hcut];have hlen:((H++[Blk.cells (el x) e .row]).set c .dead).length=H.length+1:=by simp
   refine⟨_,_,rfl,.inr ⟨H.length+1,[],[],xs.length+1,by simp,by simp,by simp,by rw[<-hlen,dS];simp⟩,⟨by simp;omega,λb hb hh=> ?_⟩,?_⟩
   ·rw[aPQ (by rw[hlen];omega),aPO (λhx=>hh (by subst hx;exact⟨_,_,_,rfl⟩)),aPQ hb]
   ·rintro b ⟨o,n,k,hh⟩
    cases hh;exact .inr ⟨by simp,by simp⟩
end
end Go.Abs
namespace Go.Proofs.YtkeilicinggjmaaGreatDoor
open Go.Proofs.Tryz
open Go.Abs Go.Abs.M
theorem Fx (n sz b o:Nat)(k:IntKind)(i:Nat)(h1:i<n):qL n sz (.Q b o) (.int k (i:Int))=some (.Q b (o+i*sz)):=by
 simp[qL,adr,h1]
abbrev Pq (H:aE)(v:Value)(xs:List Pkt):Prop:=Rq Pkt.oT 54 4 H v xs
theorem zB (x:Pkt):x.oT.length=4:=rfl
theorem O2 (x:Pkt):dV x.oT=true:=rfl
def Bi (w0 w1 w2 cv:Value)(lanes queue:Nat):Blk:= .cells [w0,w1,w2,cv,.int .i64 lanes,.int .i64 queue] 167 .fix
def w3 (w0 w1 w2:Value)(k:Nat):Value:=if k=0 then w0 else if k=1 then w1 else w2
structure HostI (D:aE)(a:Nat)(L G:List Pkt)(lanes queue:Nat)(w0 w1 w2 cv:Value):Prop where
 blk:D[a]? =some (Bi w0 w1 w2 cv lanes queue)
 lanes:1<=lanes/\lanes<=3
 queue:1<=queue/\queue<=8
 q: ∀k,k<3->Pq D (w3 w0 w1 w2 k) (iK L k)
 came:Pq D cv G
 apart: ∀k j,k<3->j<3->k≠j-> ∀b,cV (w3 w0 w1 w2 k) b-> ¬cV (w3 w0 w1 w2 j) b
 apartC: ∀k,k<3-> ∀b,cV (w3 w0 w1 w2 k) b-> ¬cV cv b
def HostAt (D:aE)(a:Nat)(L G:List Pkt)(lanes queue:Nat):Prop:= ∃w0 w1 w2 cv,HostI D a L G lanes queue w0 w1 w2 cv
section
variable {D : aE} {m a lanes queue : Nat} {L G : List Pkt} {w0 w1 w2 cv : Value}
theorem HostAt.ext {D':aE}(h:HostAt D a L G lanes queue)(he:Ext D D'):HostAt D' a L G lanes queue:=by
 obtain⟨w0,w1,w2,cv,h⟩:=h
 exact⟨w0,w1,w2,cv,by rw[he.2 a (dK h.blk) id,h.blk],h.lanes,h.queue,λk hk=>(h.q k hk).ext he,h.came.ext he,h.apart,h.apartC⟩
theorem Fw (h:HostI D a L G lanes queue w0 w1 w2 cv)(hm:0<m)(k:Int):lvl prog pkN m (.func 118) [.Q a 0,.I k] D=some (.bool (decide (0<=k/\k<lanes)),D):=by
 refine dI (cT rfl) hm ?_;rw[aKn];have l4:ld1 (.Q a 4) D=some (.I lanes,D):=dC h.blk rfl;by_cases h0:0<=k
 ·by_cases h1:k<lanes
  ·simp only[gsR,aQw h0,l4,aQw h1,aQw (show 0<=k/\k<lanes from⟨h0,h1⟩)]
  ·simp only[gsR,aQw h0,l4,aQx h1,aQx (show¬(0<=k/\k<lanes) from λh=>h1 h.2)]
 ·simp only[gsR,aQx h0,aQx (show¬(0<=k/\k<lanes) from λh=>h0 h.1)]
theorem Bj (h:HostI D a L G lanes queue w0 w1 w2 cv){k:Nat}(hk:k<3):ld1 (.Q a k) D=some (w3 w0 w1 w2 k,D):=by
 match k,hk with
 |0,_=>exact dC h.blk rfl
 |1,_=>exact dC h.blk rfl
 |2,_=>exact dC h.blk rfl
theorem Zw (h:HostI D a L G lanes queue w0 w1 w2 cv)(hm:1<m)(k:Nat)(hk:k<lanes):lvl prog pkN m (.func 141) [.Q a 0,.I k] D=some (.I (iK L k).length,D):=by
 have h3:k<3:=aP2 hk h.lanes.2;refine dI (cT rfl) U ?_
 rw[aKz];have e1:=Fw h (m:=m-1) U (k:Int)
 have c:decide (0<=(k:Int)/\(k:Int)<lanes)=true:=by rw[decide_eq_true_eq];omega
 have e2:=Fx 3 1 a 0 .i64 k h3;rw[Nat.mul_one,aP8] at e2;simp only[gsR,e1,c,e2,Bj h h3,(h.q k h3).O1]
theorem aLT (hm:0<m)(lanes queue:Nat)(h1:1<=lanes/\lanes<=3)(h2:1<=queue/\queue<=8): ∃a H',lvl prog pkN m (.func 35) [.I lanes,.I queue] D=some (.Q a 0,H')/\HostAt H' a [] [] lanes queue/\Ext D H'/\D.length<=a:=by
 have main:lvl prog pkN m (.func 35) [.I lanes,.I queue] D=some (.Q D.length 0,D++[Bi (.slice none 0 0) (.slice none 0 0) (.slice none 0 0) (.slice none 0 0) lanes queue]):=by
  refine dI (cT rfl) hm ?_;rw[aKL];have c1:decide ((lanes:Int)<1)=false:=by rw[decide_eq_false_iff_not];omega
  have c2:decide (3<(lanes:Int))=false:=by rw[decide_eq_false_iff_not];omega
  have c3:decide ((queue:Int)<1)=false:=by rw[decide_eq_false_iff_not];omega
  have c4:decide (8<(queue:Int))=false:=by rw[decide_eq_false_iff_not];omega
  have e3:bld prog 167 [(2,.I lanes),(3,.I queue)]=some (.agg #[.slice none 0 0,.slice none 0 0,.slice none 0 0,.slice none 0 0,.I lanes,.I queue]):=rfl;simp only[gsR,c1,c2,c3,c4,e3];rfl
 have hn: ∀k b,¬cV (w3 (.slice none 0 0) (.slice none 0 0) (.slice none 0 0) k) b:=λk b hh=>by
  have:w3 (.slice none 0 0) (.slice none 0 0) (.slice none 0 0) k= .slice none 0 0:=by unfold w3;split<;>(try split)<;>rfl
  rw[this] at hh;obtain⟨_,_,_,hh⟩:=hh;cases hh
 refine⟨_,_,main,⟨_,_,_,_,dS _ _,h1,h2,λk hk=> ?_,Rq.Zu,λk j _ _ _ b hb=>absurd hb (hn k b),λk _ b hb=>absurd hb (hn k b)⟩,Fr.app _ _ _,aPS _⟩
 have:w3 (.slice none 0 0) (.slice none 0 0) (.slice none 0 0) k= .slice none 0 0:=by unfold w3;split<;>(try split)<;>rfl
 rw[this];exact Rq.Zu
end
def eJ (x:Pkt):Blk:= .cells x.oT 54 .fix
theorem aLX (w0 w1 w2:Value){k:Nat}(hk:k<3)(v:Value): ∃u0 u1 u2,(∀a b c:Value,([w0,w1,w2,a,b,c]:List Value).set k v=[u0,u1,u2,a,b,c])/\ ∀j,j<3->w3 u0 u1 u2 j=if j=k then v else w3 w0 w1 w2 j:=by
 match k,hk with
 |0,_=>exact⟨v,w1,w2,λ_ _ _=>rfl,λj hj=>by match j,hj with|0,_=>rfl|1,_=>rfl|2,_=>rfl⟩
 |1,_=>exact⟨w0,v,w2,λ_ _ _=>rfl,λj hj=>by match j,hj with|0,_=>rfl|1,_=>rfl|2,_=>rfl⟩
 |2,_=>exact⟨w0,w1,v,λ_ _ _=>rfl,λj hj=>by match j,hj with|0,_=>rfl|1,_=>rfl|2,_=>rfl⟩
theorem Zy (L:List Pkt)(x:Pkt)(k:Int):iK (L++[x]) k=if x.lane=k then iK L k++[x] else iK L k:=by
 unfold iK;rw[List.filter_append];by_cases h:x.lane=k<;>simp[h]
section
variable {D : aE} {m a lanes queue : Nat} {L G : List Pkt} {w0 w1 w2 cv : Value}
theorem HostI.Zx {D':aE}(h:HostI D a L G lanes queue w0 w1 w2 cv){k:Nat}(hk:k<3){v:Value}{L':List Pkt}(hf:Fr (cV (w3 w0 w1 w2 k)) D D')(hv:Pq D' v (iK L' k))(hn: ∀b,cV v b->cV (w3 w0 w1 w2 k) b∨(D.length<=b/\b<D'.length))
  (hL: ∀j:Nat,j<3->j≠k->iK L' j=iK L j):HostAt (D'.set a (.cells (([w0,w1,w2,cv,.I lanes,.I queue]:List Value).set k v) 167 .fix)) a L' G lanes queue:=by
 obtain⟨u0,u1,u2,e1,e2⟩:=aLX w0 w1 w2 hk v;have hna: ∀w,(∃xs:List Pkt,Pq D w xs)-> ¬cV w a:=λw ⟨xs,hw⟩ hh=>by
  obtain⟨cs,hc⟩:=hw.blk hh;rw[h.blk] at hc;cases hc
 have ha:D'[a]? =D[a]? :=hf.2 a (dK h.blk) (hna _ ⟨_,h.q k hk⟩);have hva: ¬cV v a:=λhh=>by
  obtain⟨cs,hc⟩:=hv.blk hh;rw[ha,h.blk] at hc;cases hc
 have hlt:a<D'.length:=aP2 (dK h.blk) hf.1;rw[e1];have out: ∀w (xs:List Pkt),Pq D w xs->(∀b,cV w b-> ¬cV (w3 w0 w1 w2 k) b)->Pq (D'.set a (.cells [u0,u1,u2,cv,.I lanes,.I queue] 167 .fix)) w xs:=λw xs hw hd=>hw.xC λb hb=>by
  rw[aPO (λhx=>by subst hx;exact hna w ⟨xs,hw⟩ hb),hf.2 b (hw.vL hb) (hd b hb)]
 refine⟨u0,u1,u2,cv,aPT hlt,h.lanes,h.queue,λj hj=> ?_,out cv G h.came λb hb hh=>h.apartC k hk b hh hb,λi j hi hj hij b hb hb'=> ?_,λi hi b hb hb'=> ?_⟩
 ·rw[e2 j hj]
  by_cases hjk:j=k
  ·subst hjk
   rw[if_pos rfl];exact hv.xC λb hb=>aPO (λhx=>hva (by subst hx;exact hb))
  ·rw[if_neg hjk,hL j hj hjk]
   exact out _ _ (h.q j hj) (h.apart j k hj hk hjk)
 ·rw[e2 i hi] at hb
  rw[e2 j hj] at hb';by_cases hik:i=k
  ·rw[if_pos hik] at hb
   rw[if_neg (λhh=>hij (hik.trans hh.symm))] at hb'
   rcases hn b hb with h1|h1
   ·exact h.apart k j hk hj (λhh=>hij (hik.trans hh)) b h1 hb'
   ·have:=(h.q j hj).vL hb'
    omega
  ·rw[if_neg hik] at hb
   by_cases hjk:j=k
   ·rw[if_pos hjk] at hb'
    rcases hn b hb' with h1|h1
    ·exact h.apart i k hi hk hik b hb h1
    ·have:=(h.q i hi).vL hb
     omega
   ·rw[if_neg hjk] at hb'
    exact h.apart i j hi hj hij b hb hb'
 ·rw[e2 i hi] at hb
  by_cases hik:i=k
  ·rw[if_pos hik] at hb
   rcases hn b hb with h1|h1
   ·exact h.apartC k hk b h1 hb'
   ·have:=h.came.vL hb'
    omega
  ·rw[if_neg hik] at hb
   exact h.apartC i hi b hb hb'
theorem pT {H:aE}{b:Nat}{x:Pkt}(hb:H[b]? =some (eJ x)):ld1 (.Q b 2) H=some (.I x.lane,H)/\ldN 4 (.Q b 0) H=some (x.dR,H):=⟨dC hb rfl,Bb hb (aPS 4)⟩
theorem aLV (h:HostI D a L G lanes queue w0 w1 w2 cv)(hm:2<m)(x:Pkt)(hx: ¬(0<=x.lane/\x.lane<lanes)):lvl prog pkN m (.func 63) [.Q a 0,x.dR] D=some (.int .u16 1,D++[eJ x]):=by
 refine dI (cT rfl) U ?_
 rw[Oh];have e0:(Blk.cells (Value.cells x.dR).toList 54 .fix)=eJ x:=rfl;obtain⟨l2,l4⟩:=pT (dS D (eJ x));obtain⟨u0,u1,u2,cu,h'⟩:HostAt (D++[eJ x]) a L G lanes queue:=HostAt.ext ⟨w0,w1,w2,cv,h⟩ (Fr.app _ _ _);have e1:=Fw h' (m:=m-1) U x.lane
 simp only[gsR,e0,l2,e1,aQx hx]
theorem aLU (h:HostI D a L G lanes queue w0 w1 w2 cv)(hm:2<m)(x:Pkt)(hx:0<=x.lane/\x.lane<lanes)(hq:(iK L x.lane).length=queue):lvl prog pkN m (.func 63) [.Q a 0,x.dR] D=some (.int .u16 150,D++[eJ x]):=by
 refine dI (cT rfl) U ?_
 rw[Oh];have e0:(Blk.cells (Value.cells x.dR).toList 54 .fix)=eJ x:=rfl;obtain⟨l2,l4⟩:=pT (dS D (eJ x));obtain⟨u0,u1,u2,cu,h'⟩:HostAt (D++[eJ x]) a L G lanes queue:=HostAt.ext ⟨w0,w1,w2,cv,h⟩ (Fr.app _ _ _);have e1:=Fw h' (m:=m-1) U x.lane
 obtain⟨k,hk⟩: ∃k:Nat,x.lane=k:=⟨x.lane.toNat,by omega⟩
 have h3:k<3:=by have:=h.lanes.2;omega
 have e2:=Fx 3 1 a 0 .i64 k h3;rw[Nat.mul_one,aP8,<-hk] at e2;have e3:=(h'.q k h3).O1;rw[<-hk,hq] at e3;have l5:ld1 (.Q a 5) (D++[eJ x])=some (.I queue,D++[eJ x]):=dC h'.blk rfl;have c:((queue:Int)==(queue:Int))=true:=by simp
 simp only[gsR,e0,l2,e1,aQw hx,e2,Bj h' h3,e3,l5,c]
theorem aLW (h:HostI D a L G lanes queue w0 w1 w2 cv)(hm:2<m)(x:Pkt)(hx:0<=x.lane/\x.lane<lanes)(hq:(iK L x.lane).length≠queue)(hr:j7 ((iK L x.lane).length+1) 32=true): ∃H',lvl prog pkN m (.func 63) [.Q a 0,x.dR] D=some (.int .u16 0,H')/\HostAt H' a (L++[x]) G lanes queue:=by
 refine jQ (cT rfl) U ?_
 rw[Oh];have e0:(Blk.cells (Value.cells x.dR).toList 54 .fix)=eJ x:=rfl;obtain⟨l2,l4⟩:=pT (dS D (eJ x));have hb1:=dS D (eJ x);obtain⟨u0,u1,u2,cu,h'⟩:HostAt (D++[eJ x]) a L G lanes queue:=HostAt.ext ⟨w0,w1,w2,cv,h⟩ (Fr.app _ _ _);have e1:=Fw h' (m:=m-1) U x.lane
 obtain⟨k,hk⟩: ∃k:Nat,x.lane=k:=⟨x.lane.toNat,by omega⟩
 have h3:k<3:=by have:=h.lanes.2;omega
 have e2:=Fx 3 1 a 0 .i64 k h3;rw[Nat.mul_one,aP8,<-hk] at e2;have e3:=(h'.q k h3).O1;have l5:ld1 (.Q a 5) (D++[eJ x])=some (.I queue,D++[eJ x]):=dC h'.blk rfl;have c:(((iK L (k:Int)).length:Int)==(queue:Int))=false:=by rw[<-hk];simp;omega
 obtain⟨D1,hD1⟩: ∃D1,D++[eJ x]=D1:=⟨_,rfl⟩;rw[hD1] at l2 l4 h' e1 l5 hb1;have eb:dG 54 4 1 [.I 0,.I 0,.I 0,.int .u32 0] [(0,x.dR)] D1=some (.slice (some ⟨D1.length,0,none⟩) 1 1,D1++[.cells x.oT 54 .row]):=rfl;obtain⟨v',H',g1,g2,g3,g4⟩:=(h'.q k h3).Zv zB O2 aC (by':=32) x (by rw[<-hk];exact hr)
 have hnp: ¬cV (w3 u0 u1 u2 k) D.length:=λhh=>by
  obtain⟨cs,hc⟩:=(h'.q k h3).blk hh;rw[hb1] at hc;cases hc
 have hb2:H'[D.length]? =some (eJ x):=by rw[g3.2 _ (dK hb1) hnp,hb1]
 have l2':=(pT hb2).1;have hna: ¬cV (w3 u0 u1 u2 k) a:=λhh=>by
  obtain⟨cs,hc⟩:=(h'.q k h3).blk hh;rw[h'.blk] at hc;cases hc
 have ha':H'[a]? =some (Bi u0 u1 u2 cu lanes queue):=by rw[g3.2 _ (dK h'.blk) hna,h'.blk]
 have st:stN 1 (.Q a k) v' H'=some (undef,H'.set a (.cells (([u0,u1,u2,cu,.I lanes,.I queue]:List Value).set k v') 167 .fix)):=qH ha' aC (by simp;omega) g2.zA.1 g2.zA.2
 have ck:chk (some (Value.I x.lane,H')) (.I x.lane)=true:=by simp[chk,veq]
 simp only[gsR,e0,hD1,l2,e1,aQw hx,e2,Bj h' h3,e3,l5,c,l4,eb,g1,l2',ck,st];refine⟨_,rfl,h'.Zx h3 g3 ?_ g4 λj hj hjk=> ?_⟩
 ·rw[Zy,if_pos hk]
  exact g2
 ·rw[Zy,if_neg U]
end
section
variable {D : aE} {m a lanes queue : Nat} {L G : List Pkt} {w0 w1 w2 cv : Value}
theorem aLY (h:HostI D a L G lanes queue w0 w1 w2 cv)(hm:0<m)(x:Pkt)(hr:j7 (G.length+1) 32=true): ∃H',lvl prog pkN m (.func 108) [.Q a 0,x.dR] D=some (aK [],H')/\HostAt H' a L (G++[x]) lanes queue:=by
 refine jQ (cT rfl) U ?_
 rw[aKk];have e0:(Blk.cells (Value.cells x.dR).toList 54 .fix)=eJ x:=rfl;obtain⟨l2,l4⟩:=pT (dS D (eJ x));obtain⟨u0,u1,u2,cu,h'⟩:HostAt (D++[eJ x]) a L G lanes queue:=HostAt.ext ⟨w0,w1,w2,cv,h⟩ (Fr.app _ _ _);obtain⟨D1,hD1⟩: ∃D1,D++[eJ x]=D1:=⟨_,rfl⟩;rw[hD1] at l2 l4 h';have l3:ld1 (.pointer (some ⟨a,3,none⟩)) D1=some (cu,D1):=dC h'.blk rfl;have eb:dG 54 4 1 [.int .i64 0,.int .i64 0,.int .i64 0,.int .u32 0] [(0,x.dR)] D1=some (.slice (some ⟨D1.length,0,none⟩) 1 1,D1++[.cells x.oT 54 .row]):=rfl;obtain⟨v',H',g1,g2,g3,g4⟩:=h'.came.Zv zB O2 aC (by':=32) x hr
 have hna: ¬cV cu a:=λhh=>by
  obtain⟨cs,hc⟩:=h'.came.blk hh;rw[h'.blk] at hc;cases hc
 have ha':H'[a]? =some (Bi u0 u1 u2 cu lanes queue):=by rw[g3.2 _ (dK h'.blk) hna,h'.blk]
 have st:stN 1 (.Q a 3) v' H'=some (undef,H'.set a (Bi u0 u1 u2 v' lanes queue)):=qH ha' aC (by simp) g2.zA.1 g2.zA.2
 have hva: ¬cV v' a:=λhh=>by
  obtain⟨cs,hc⟩:=g2.blk hh;rw[ha'] at hc;cases hc
 simp only[gsR,e0,hD1,l3,l4,eb,g1,st];refine⟨_,rfl,u0,u1,u2,v',iR ha',h'.lanes,h'.queue,λj hj=>(h'.q j hj).xC λb hb=> ?_,g2.xC λb hb=>aPO (λhx=>hva (by subst hx;exact hb)),h'.apart,λi hi b hb hb'=> ?_⟩
 ·have hab:a≠b:=λhx=>by
   subst hx;obtain⟨cs,hc⟩:=(h'.q j hj).blk hb;rw[h'.blk] at hc;cases hc
  rw[aPO hab,g3.2 b ((h'.q j hj).vL hb) (h'.apartC j hj b hb)]
 ·rcases g4 b hb' with h1|h1
  ·exact h'.apartC i hi b hb h1
  ·have:=(h'.q i hi).vL hb
   omega
end
end Go.Proofs.YtkeilicinggjmaaGreatDoor
namespace Go.Abs
open M
structure PkN (c:Cfg)(x:Pkt):Prop where
 src:0<=x.src/\x.src<c.nodes
 dst:0<=x.dst/\x.dst<c.nodes
 lane:0<=x.lane/\x.lane<c.lanes
 body:0<=x.body/\x.body<4294967296
structure SndI (t:Nat)(x:Snd):Prop where
 le:x.s<=x.l
 wide:x.l<=x.s+8
 big:x.s<=65536+t
structure RcvI (room t:Nat)(x:Rcv):Prop where
 h:x.h<=room
 big:x.n<=65536+9*t
structure WhlI (lanes:Nat)(x:Whl):Prop where
 len:x.l.length=lanes
 wt: ∀y∈x.l,0<=y/\y<=5
 fr:x.fr<lanes
structure NInv (c:Cfg)(t:Nat)(s:NS):Prop where
 snd: ∀i k,SndI t (s.snd i k)
 rcv: ∀i k,RcvI c.room t (s.rcv i k)
 hG:s.hG.length<=t
 ticks:s.ticks<=t
 hL: ∀x∈s.hL,PkN c x
 hQ: ∀k:Int,(iK s.hL k).length<=c.queue
 rL: ∀e∈s.rL,PkN c e.2
 rN:s.rL.length<=c.aL*c.lanes*c.room
 gl:s.g.length=c.aL
 al:s.a.length=c.aL
 g: ∀x∈s.g,x<c.aL
 a: ∀x∈s.a,x<c.aL
 whl: ∀i,WhlI c.lanes (s.whl i)
theorem SndI.O5 {t t':Nat}{x:Snd}(h:SndI t x)(ht:t<=t'):SndI t' x:=⟨h.le,h.wide,aP3 h.big U⟩
theorem RcvI.O4 {room t t':Nat}{x:Rcv}(h:RcvI room t x)(ht:t<=t'):RcvI room t' x:=⟨h.h,aP3 h.big U⟩
theorem NInv.sE {c:Cfg}{t t':Nat}{s:NS}(h:NInv c t s)(ht:t<=t'):NInv c t' s:=
 {h with snd:=λi k=>(h.snd i k).O5 ht,rcv:=λi k=>(h.rcv i k).O4 ht,hG:=aP3 h.hG ht,ticks:=aP3 h.ticks ht}
theorem SndI.aL7 {t:Nat}{x:Snd}(h:SndI t x)(limit:Nat):SndI t (x.rE limit):=by
 unfold Snd.rE;simp only;split
 ·exact h
 ·have:=h.le
  have:=h.big
  exact⟨by simp only;omega,by simp only;omega,h.big⟩
theorem SndI.aL8 {t:Nat}{x:Snd}(h:SndI t x):SndI (t+1) x.oF.2:=by
 unfold Snd.oF;split
 ·exact h.O5 U
 ·have:=h.le
  have:=h.wide;have:=h.big
  exact⟨by simp only;omega,by simp only;omega,by simp only;omega⟩
theorem RcvI.aL6 {room t:Nat}{x:Rcv}(h:RcvI room t x)(hr:room<=8)(s:Nat):RcvI room (t+1) (x.pO room s):=by
 have h1:=h.h;have h2:=h.big;unfold Rcv.pO;simp only;split
 ·exact h.O4 U
 ·rename_i hc
  unfold Rcv.mC at hc
  exact⟨h.h,by simp only;omega⟩
theorem aMb (room:Nat)(x:Rcv)(s:Nat):(x.kP room s).2=x∨ ∃w,x.n<=w/\w<x.mC room/\(x.kP room s).2=⟨w+1,x.h+1⟩:=by
 unfold Rcv.kP
 generalize dX x.n s=w
 by_cases c1:w<x.n
 ·left
  simp only[if_pos c1]
 ·by_cases c2:x.mC room<=w
  ·left
   simp only[if_neg c1,if_pos c2]
  ·right
   refine⟨w,Nat.le_of_not_lt c1,Nat.lt_of_not_le c2,?_⟩;simp only[if_neg c1,if_neg c2]
theorem aMa {n h room t w:Nat}(h1:h<=room)(h2:n<=65536+9*t)(hr:room<=8)(h3:n<=w)(h4:w<n+(room-h)):h+1<=room/\w+1<=65536+9*(t+1):=by
 generalize 65536=z at*
 omega
theorem RcvI.Z1 {room t:Nat}{x:Rcv}(h:RcvI room t x)(hr:room<=8)(s:Nat):RcvI room (t+1) (x.kP room s).2:=by
 rcases aMb room x s with h0|⟨w,h3,h4,h0⟩
 ·rw[h0]
  exact h.O4 (Nat.le_succ t)
 ·rw[h0]
  obtain⟨e1,e2⟩:=aMa h.h h.big hr h3 h4
  exact⟨e1,e2⟩
theorem RcvI.aL5 {room t:Nat}{x:Rcv}(h:RcvI room t x):RcvI room t x.uA:=⟨by have:=h.h;unfold Rcv.uA;simp only;omega,h.big⟩
theorem zC {α:Type}{P:α->Prop}{f:Nat->Nat->α}{i k:Nat}{x:α}(h: ∀i k,P (f i k))(hx:P x)(j l:Nat):P (up2 f i k x j l):=by
 unfold up2;split
 ·exact hx
 ·exact h j l
theorem aMf {α:Type}{P:α->Prop}{f:Nat->α}{i:Nat}{x:α}(h: ∀i,P (f i))(hx:P x)(j:Nat):P (up1 f i x j):=by
 unfold up1;split
 ·exact hx
 ·exact h j
theorem aMi (L:List Pkt)(x:Pkt)(k:Int):iK (L++[x]) k=if x.lane=k then iK L k++[x] else iK L k:=by
 unfold iK;rw[List.filter_append];by_cases h:x.lane=k<;>simp[h]
theorem Z2 {L:List Pkt}{k:Int}{x:Pkt}(h:x∈rG L k):x∈L:=List.mem_of_mem_eraseP h
theorem Fy (L:List Pkt)(k j:Int):iK (rG L k) j=if j=k then(iK L k).tail else iK L j:=by
 induction L with
 |nil=>simp[iK,rG]
 |cons x L ih=>
  unfold iK rG at*;by_cases hx:x.lane=k
  ·subst hx
   rw[List.eraseP_cons_of_pos (by simp)]
   by_cases hj:j=x.lane
   ·rw[if_pos hj,hj]
    simp
   ·rw[if_neg hj,List.filter_cons_of_neg (by simp;omega)]
  ·rw[List.eraseP_cons_of_neg (by simp[hx])]
   by_cases hj:j=k
   ·subst hj
    rw[if_pos rfl,List.filter_cons_of_neg (by simp[hx]),List.filter_cons_of_neg (by simp[hx]),ih,if_pos rfl]
   ·rw[if_neg hj] at ih⊢
    rw[List.filter_cons,List.filter_cons,ih]
theorem aMd {L:List (iJ×Pkt)}{w:iJ}{e:iJ×Pkt}(h:e∈oU L w):e∈L:=List.mem_of_mem_eraseP h
theorem aMc (L:List (iJ×Pkt))(w:iJ):(oU L w).length<=L.length:=(List.eraseP_sublist).length_le
theorem Z4 {c:Cfg}{L:List (iJ×Pkt)}{w:iJ}{x:Pkt}{e:iJ×Pkt}(h:e∈tH c L w x):e∈L∨e.2=x:=by
 unfold tH at h
 split at h
 ·rcases List.mem_append.mp h with h|h
  ·exact .inl h
  ·simp at h
   exact .inr (by rw[h])
 ·exact .inl h
theorem Z3 {c:Cfg}{L:List (iJ×Pkt)}{w:iJ}{x:Pkt}(h:L.length<=c.aL*c.lanes*c.room):(tH c L w x).length<=c.aL*c.lanes*c.room:=by
 unfold tH;split
 ·rename_i hc
  simp;omega
 ·exact h
theorem aMe {L:List (iJ×Pkt)}{w:iJ}{x:Pkt}(h:x∈pA L w): ∃e∈L,e.2=x/\e.1=w:=by
 unfold pA at h;obtain⟨e,h1,h2⟩:=aQq.mp h;obtain⟨h3,h4⟩:=List.mem_filter.mp h1
 exact⟨e,h3,h2,by simpa using h4⟩
section
variable {c : Cfg} {t : Nat} {s : NS}
theorem NInv.aL3 (hc:c.ok):NInv c 0 (NS.k9 c) where
 snd:=λi k=>⟨by simp[NS.k9],by have:=hc.room;simp[NS.k9];omega,by have:=hc.start;simp[NS.k9];omega⟩
 rcv:=λi k=>⟨by simp[NS.k9],by have:=hc.start;simp[NS.k9];omega⟩
 hG:=aPS _
 ticks:=aPS _
 hL:=λx hx=>by simp[NS.k9] at hx
 hQ:=λk=>by simp[NS.k9,iK]
 rL:=λx hx=>by simp[NS.k9] at hx
 rN:=by simp[NS.k9]
 gl:=by simp[NS.k9]
 al:=by simp[NS.k9]
 g:=λx hx=>by
  simp[NS.k9] at hx;unfold Cfg.aL;omega
 a:=λx hx=>by
  simp[NS.k9] at hx;unfold Cfg.aL;omega
 whl:=λi=>⟨hc.wlen,λy hy=>by have:=hc.wts y hy;omega,by have:=hc.lanes;simp[NS.k9];omega⟩
theorem NInv.aL4 (h:NInv c t s){x:Pkt}(hx:0<=x.lane/\x.lane<c.lanes->PkN c x):NInv c t (sD c x s).2:=by
 unfold Go.Abs.sD;split
 ·exact h
 ·rename_i hl
  split
  ·exact h
  ·rename_i hq
   have hl':0<=x.lane/\x.lane<c.lanes:=U
   refine {h with hL:=λy hy=> ?_,hQ:=λk=> ?_}
   ·rcases List.mem_append.mp hy with hy|hy
    ·exact h.hL y hy
    ·simp at hy
     rw[hy];exact hx hl'
   ·rw[aMi]
    split
    ·rename_i he
     subst he;have:=h.hQ x.lane;simp;omega
    ·exact h.hQ k
theorem NInv.aL2 (hc:c.ok)(h:NInv c t s){x:Pkt}(hb:0<=x.body/\x.body<4294967296):NInv c t (pQ c x s).2:=by
 unfold Go.Abs.pQ;split
 ·exact h
 ·rename_i hn
  refine h.aL4 λhl=>⟨?_,?_,hl,hb⟩
  ·have:=hc.me
   omega
  ·omega
theorem NInv.aL0 (hc:c.ok)(h:NInv c t s)(i:Nat)(f:Frm)(hl:f.lane<c.lanes)(hb:f.body<4294967296):NInv c (t+1) (rF c i f s).2:=by
 unfold rF;split
 ·exact h.sE U
 ·rename_i hm
  have hm2:=h.sE (t':=t+1) U
  have hr:=(h.rcv i f.lane).Z1 hc.room.2 f.seq;split
  ·rename_i r he
   rw[he] at hr;refine {hm2 with rcv:=zC hm2.rcv hr,rL:=λe he=> ?_,rN:=Z3 h.rN}
   rcases Z4 he with he|he
   ·exact h.rL e he
   ·rw[he]
    exact⟨⟨by simp only;omega,by simp only;omega⟩,⟨by simp only;omega,by simp only;omega⟩,⟨by simp only;omega,by simp only;omega⟩,⟨by simp only;omega,by simp only;omega⟩⟩
  ·exact hm2
theorem NInv.aL1 (hc:c.ok)(h:NInv c t s)(k:Nat):NInv c t (oH c s k):=by
 unfold Go.Abs.oH;split
 ·exact h
 ·split
  ·exact h
  ·rename_i x xs hx
   have hxm:x∈s.hL:=by
    have:x∈iK s.hL k:=by rw[hx];exact aPW ..
    exact(List.mem_filter.mp this).1
   refine {h with hL:=λy hy=>h.hL y (Z2 hy),hQ:=λj=> ?_,rL:=λe he=> ?_,rN:=Z3 h.rN}
   ·rw[Fy]
    split
    ·have:=h.hQ k
     simp;omega
    ·exact h.hQ j
   ·rcases Z4 he with he|he
    ·exact h.rL e he
    ·rw[he]
     exact h.hL x hxm
theorem aMh (hc:c.ok){w:Whl}(hw:WhlI c.lanes w)(may:Nat->Bool):WhlI c.lanes (kX c.weights w may).2:=by
 unfold kX;split
 ·rename_i ha
  split
  ·rename_i i hi
   have hfull:(lT c.weights w may).length=c.lanes/\ ∀y∈lT c.weights w may,0<=y/\y<=5:=by
    unfold lT;split
    ·exact⟨hw.len,hw.wt⟩
    ·exact⟨hc.wlen,λy hy=>by have:=hc.wts y hy;omega⟩
   have hp:=u4 hi;unfold mX at hp;rw[aPV,decide_eq_true_eq] at hp;refine⟨by simp[hfull.1],λy hy=> ?_,?_⟩
   ·rcases List.mem_or_eq_of_mem_set hy with hy|hy
    ·exact hfull.2 y hy
    ·have hi2:i<(lT c.weights w may).length:=by rw[hfull.1,<-hc.wlen];exact hp.1
     have:=hfull.2 _ (List.getElem_mem hi2);have e:(lT c.weights w may).getD i 0=(lT c.weights w may)[i]:=by rw[aPR,aPP hi2,aQg]
     rw[e] at hp hy;omega
   ·simp only
    rw[hc.wlen];exact Nat.mod_lt _ (by have:=hc.lanes;omega)
  ·exact hw
 ·exact hw
theorem aMg {c:Cfg}{w:Whl}{may:Nat->Bool}{k:Nat}{w':Whl}(h:kX c.weights w may=(some k,w')):k<c.weights.length/\may k=true:=by
 unfold kX at h
 split at h
 ·split at h
  ·rename_i i hi
   cases h;have:=u4 hi;unfold mX at this;rw[aPV] at this
   exact⟨this.1,this.2.1⟩
  ·cases h
 ·cases h
theorem aL9 {gr:Nat->Option Nat}{n:Nat}{first:Bool}{s:Mat}(i:Nat)(hn:0<n)(hm: ∀x∈s.m,x= -1∨0<=x/\x<(n:Int))(hg: ∀x∈s.g,x<n)(ha: ∀x∈s.a,x<n):
  (∀x∈(acc gr n first s i).m,x= -1∨0<=x/\x<(n:Int))/\(∀x∈(acc gr n first s i).g,x<n)/\(∀x∈(acc gr n first s i).a,x<n):=by
 unfold acc;split
 ·split
  ·exact⟨hm,hg,ha⟩
  ·rename_i k hk
   have:=(u4 hk).1;refine⟨λx hx=> ?_,λx hx=> ?_,λx hx=> ?_⟩
   ·rcases List.mem_or_eq_of_mem_set hx with hx|hx
    ·exact hm x hx
    ·right
     omega
   ·dsimp only at hx
    split at hx
    ·rcases List.mem_or_eq_of_mem_set hx with hx|hx
     ·exact hg x hx
     ·rw[hx]
      exact Nat.mod_lt _ hn
    ·exact hg x hx
   ·dsimp only at hx
    split at hx
    ·rcases List.mem_or_eq_of_mem_set hx with hx|hx
     ·exact ha x hx
     ·rw[hx]
      exact Nat.mod_lt _ hn
    ·exact ha x hx
 ·exact⟨hm,hg,ha⟩
structure MatI (n:Nat)(s:Mat):Prop where
 ml:s.m.length=n
 gl:s.g.length=n
 al:s.a.length=n
 m: ∀x∈s.m,x= -1∨0<=x/\x<(n:Int)
 g: ∀x∈s.g,x<n
 a: ∀x∈s.a,x<n
theorem MatI.acc {gr:Nat->Option Nat}{n:Nat}{first:Bool}{s:Mat}(h:MatI n s)(hn:0<n)(i:Nat):MatI n (acc gr n first s i):=by
 obtain⟨h1,h2,h3⟩:=aFf gr n first s i
 obtain⟨h4,h5,h6⟩:=aL9 (gr:=gr) (first:=first) i hn h.m h.g h.a
 exact⟨h1.trans h.ml,h2.trans h.gl,h3.trans h.al,h4,h5,h6⟩
theorem MatI.O3 {gr:Nat->Option Nat}{n:Nat}{first:Bool}(hn:0<n): ∀(l:List Nat){s:Mat},MatI n s->MatI n (l.foldl (Go.Abs.acc gr n first) s)
 |[],_,h=>h
 |i::l,_,h=>by
  rw[List.foldl_cons];exact MatI.O3 hn l (h.acc hn i)
theorem MatI.rnd {req:Nat->Nat->Bool}{n:Nat}{first:Bool}{s:Mat}(h:MatI n s)(hn:0<n):MatI n (rnd req n first s):=MatI.O3 hn _ h
theorem MatI.Zz {req:Nat->Nat->Bool}{n:Nat}(hn:0<n): ∀(k:Nat){s:Mat},MatI n s->MatI n (wR req n k s)
 |0,_,h=>h
 |k+1,_,h=>MatI.Zz hn k (h.rnd hn)
theorem MatI.Z0 {n:Nat}{g a:List Nat}(hg:g.length=n)(ha:a.length=n)(h1: ∀x∈g,x<n)(h2: ∀x∈a,x<n):MatI n ⟨List.replicate n (-1),g,a⟩:=
 ⟨by simp,hg,ha,λx hx=>by simp at hx;exact .inl hx.2,h1,h2⟩
theorem MatI.aLZ {req:Nat->Nat->Bool}{n rounds:Nat}{g a:List Nat}(hn:0<n)(hg:g.length=n)(ha:a.length=n)(h1: ∀x∈g,x<n)(h2: ∀x∈a,x<n):MatI n (rZ req n rounds g a):=
 MatI.Zz hn _ ((MatI.Z0 hg ha h1 h2).rnd hn)
end
end Go.Abs
noncomputable section
namespace Go.Proofs.YtkeilicinggjmaaGreatDoor
open Go.Proofs.Tryz
open Go.Abs Go.Abs.M
variable (O:aG)(L:LV)(k:KV)(N P Q R S T U V W X Y Z a b c d e f g i j l m n o p q r s t u v w x y z A B C D E F G H I J zz zy zx zw zv zu zt zs zr zq zp zo zn zm zl zk zj zi zh zg zf ze zd zc zb za yz yy yx yw yv yu yt ys yr yq yp yo yn ym yl yk yj yi yh yg yf ye yd yc yb ya xz xy xx xw xv xu xt xs xr xq xp xo xn xm xl xk xj xi xh xg xf xe xd xc xb xa wz wy wx ww wv wu wt ws wr wq wp wo wn wm wl wk wj wi wh wg wf we wd wc wb wa vz:Value)(h:aE)
theorem aMl:cM prog O L 41 [N,P,Q] h=ob (O (.func 84) [Q] h) λaa h=>ob (aF (bin prog .eql 177 aa (.pointer none)) h) λab h=>ob (gd ab false (cG N) h) λac h=>ob (gd ab false (aF (bin prog .lss 3 ac (.I 1))) h) λad h=>ob (aF (cL ab (.bool true) ad) h) λae h=>ob (gd ae false (cG N) h) λaf h=>ob (gd ae false (aF (bin prog .gtr 3 af (.I 16))) h) λag h=>ob (aF (cL ae (.bool true) ag) h) λah h=>ob (gd ah false (cG P) h) λai h=>ob (gd ah false (aF (bin prog .lss 3 ai (.I 1))) h) λaj h=>ob (aF (cL ah (.bool true) aj) h) λak h=>ob (gd ak false (cG P) h) λal h=>ob (gd ak false (aF (bin prog .gtr 3 al (.I 3))) h) λam h=>ob (aF (cL ak (.bool true) am) h) λan h=>aN an (some (aK [(.pointer none)],h)) (ob (pV h) λao h=>ob (aF (bld prog 181 [(0,aa),(1,ao),(2,N),(3,P)]) h) λap h=>ob (cS 181 (Value.cells ap).toList .fix h) λaq h=>some (aK [aq],h)):=by kernel_rfl
theorem aMm:cM prog O L 58 [N,P,Q] h=ob (aF (bin prog .lss 3 N (.I 1)) h) λaa h=>ob (gd aa false (cG N) h) λab h=>ob (gd aa false (aF (bin prog .gtr 3 ab (.I 16))) h) λac h=>ob (aF (cL aa (.bool true) ac) h) λad h=>ob (gd ad false (cG P) h) λae h=>ob (gd ad false (aF (bin prog .lss 3 ae (.I 1))) h) λaf h=>ob (aF (cL ad (.bool true) af) h) λag h=>ob (gd ag false (cG P) h) λah h=>ob (gd ag false (aF (bin prog .gtr 3 ah (.I 3))) h) λai h=>ob (aF (cL ag (.bool true) ai) h) λaj h=>ob (gd aj false (cG Q) h) λak h=>ob (gd aj false (aF (bin prog .lss 3 ak (.I 1))) h) λal h=>ob (aF (cL aj (.bool true) al) h) λam h=>ob (gd am false (cG Q) h) λan h=>ob (gd am false (aF (bin prog .gtr 3 an (.I 200))) h) λao h=>ob (aF (cL am (.bool true) ao) h) λap h=>aN ap (some (aK [(.pointer none)],h)) (ob (aF (bld prog 217 [(0,N),(1,P),(2,Q)]) h) λaq h=>ob (cS 217 (Value.cells aq).toList .fix h) λar h=>some (aK [ar],h)):=by kernel_rfl
theorem aMp:cM prog O L 96 [N,P,Q,R] h=ob (aF (bV N) h) λaa h=>ob (aF (aI 1 aa) h) λab h=>ob (ld1 ab h) λac h=>ob (aF (bld prog 256 [(0,P),(1,Q),(2,R)]) h) λad h=>ob (nE (.str [true,true,true]) (.slice none 0 0) false ac ad h) λae h=>ob (aF (cH ae) h) λaf h=>some (aK [af],h):=by kernel_rfl
def O7:Code:=cC [1,1,1,0,1,0,0] (cF prog 84)
def O8:KV:=(dB 0 (dO prog O L (cC [1,1,1,1] (cF prog 84)) (eI prog Tryz.f84)))
theorem aMn:O8 O L (.exit 0) [a,b,c,d,e,f,g,i,j,l,m,n,o,p,q,r,s,t,u,v,w,x,y,z,A,B,C,D,E,F,G,H,I,J,zz,zy,zx,zw,zv,zu,zt,zs,zr] h=ob (aF (bV d) h) λaa h=>ob (aF (aI 0 aa) h) λab h=>ob (ld1 ab h) λac h=>ob (aF (bin prog .sub 3 a (.I 1)) h) λad h=>ob (aF (cB 2 ac ad) h) λae h=>ob (aF (aI 1 ae) h) λaf h=>ob (stN 1 af (.I (-1)) h) λag h=>some (aK [d],h):=by kernel_rfl
theorem Z9:aM prog O L O7 k [a,b,c,d,e,f,g,i,j,l,m,n,o,p,q,r,s,t,u,v,w,x,y,z,A,B,C,D,E,F,G,H,I,J,zz,zy,zx,zw,zv,zu,zt,zs,zr] h=ob (aF (bin prog .lss 3 x w) h) λaa h=>aN aa (ob (aF (bV d) h) λab h=>ob (aF (aI 0 ab) h) λac h=>ob (ld1 ac h) λad h=>ob (aF (bin prog .add 3 x (.I 1)) h) λae h=>ob (aF (cB 2 ad x) h) λaf h=>ob (aF (aI 1 af) h) λag h=>ob (stN 1 ag ae h) λah h=>ob (aF (bin prog .add 3 x (.I 1)) h) λai h=>k .normal [a,b,c,d,x,f,g,i,j,l,m,n,o,p,q,r,s,t,u,v,w,ai,aa,x,d,ab,ac,ad,x,x,ae,af,ag,ai,zz,zy,zx,zw,zv,zu,zt,zs,zr] h) (k (.exit 0) [a,b,c,d,e,f,g,i,j,l,m,n,o,p,q,r,s,t,u,v,w,x,aa,z,A,B,C,D,E,F,G,H,I,J,zz,zy,zx,zw,zv,zu,zt,zs,zr] h):=by kernel_rfl
theorem aMo:cM prog O L 84 [N] h=ob (aF (bin prog .lss 3 N (.I 1)) h) λaa h=>ob (gd aa false (cG N) h) λab h=>ob (gd aa false (aF (bin prog .gtr 3 ab (.I 200))) h) λac h=>ob (aF (cL aa (.bool true) ac) h) λad h=>aN ad (some (aK [(.pointer none)],h)) (ob (kH 247 2 16 [(.pointer none),(.I 0)] N N h) λae h=>ob (aF (bld prog 244 [(0,ae),(2,N)]) h) λaf h=>ob (cS 244 (Value.cells af).toList .fix h) λag h=>ob (aF (bV ag) h) λah h=>ob (aF (aI 0 ah) h) λai h=>ob (ld1 ai h) λaj h=>ob (aF (cH aj) h) λak h=>L (aM prog O L O7) (O8 O L) [N,undef,(.pointer none),ag,undef,N,aa,aa,ab,ac,ad,N,ae,N,af,ag,ag,ah,ai,aj,ak,(.I 0),undef,undef,undef,undef,undef,undef,undef,undef,undef,undef,undef,undef,undef,undef,undef,undef,undef,undef,undef,undef,undef] h):=by kernel_rfl
theorem O9:cM prog O L 98 [N,P,Q,R,S] h=ob (cS 54 (Value.cells S).toList .fix h) λaa h=>ob (aF (bld prog 256 [(0,P),(1,Q),(2,R)]) h) λab h=>ob (cS 256 [(.I 0),(.I 0),(.I 0)] .fix h) λac h=>ob (stN 3 ac ab h) λad h=>ob (ldN 3 ac h) λae h=>ob (O (.func 142) [N,ae] h) λaf h=>ob (aF (un prog .not af) h) λag h=>aN ag (some (aK [(.bool false)],h)) (ob (aF (bV N) h) λah h=>ob (aF (aI 0 ah) h) λai h=>ob (ld1 ai h) λaj h=>ifB (true) (ob (ldN 4 aa h) λak h=>ifB (true) (ob (O (.func 143) [aj,ak] h) λal h=>ifB (true) (ob (aF (ext 0 al) h) λam h=>ob (aF (ext 1 al) h) λan h=>aN an (ob (aF (bV N) h) λao h=>ob (aF (aI 1 ao) h) λap h=>ob (ld1 ap h) λaq h=>ifB (true) (ob (ldN 3 ac h) λar h=>ifB (true) (ob (dG 3 1 1 [(.I 0)] [(0,am)] h) λau h=>ob (rR (.str [true,true,true]) (.slice none 0 0) aq ar h) λav h=>ifB (true) (ob (aF (ext 0 av) h) λaw h=>ob (app 3 1 8 aw au h) λax h=>ifB (true) (ob (aF (ext 1 av) h) λay h=>ob (rP aq ay ax h) λaz h=>ifB (true) (some (aK [an],h))))))) (some (aK [an],h)))))):=by kernel_rfl
theorem O6:cM prog O L 106 [N,P,Q,R] h=ob (cS 54 [(.I 0),(.I 0),(.I 0),(.int .u32 0)] .fix h) λaa h=>ob (O (.func 151) [N,P,Q,R] h) λab h=>ob (aF (ext 0 ab) h) λac h=>ob (aF (ext 1 ab) h) λad h=>ob (cS 54 [(.I 0),(.I 0),(.I 0),(.int .u32 0)] .fix h) λae h=>ob (stN 4 ae ac h) λaf h=>aN ad (ob (aF (bld prog 256 [(0,P),(1,Q),(2,R)]) h) λag h=>ob (cS 256 [(.I 0),(.I 0),(.I 0)] .fix h) λah h=>ob (stN 3 ah ag h) λai h=>ob (aF (bV N) h) λaj h=>ob (aF (aI 0 aj) h) λak h=>ob (ld1 ak h) λal h=>ifB (true) (ob (aF (bV N) h) λam h=>ob (aF (aI 1 am) h) λan h=>ob (ld1 an h) λao h=>ifB (true) (ob (ldN 3 ah h) λap h=>ifB (true) (ob (nE (.str [true,true,true]) (.slice none 0 0) false ao ap h) λaq h=>ifB (true) (ob (aF (cB 1 aq (.I 0)) h) λar h=>ob (ld1 ar h) λau h=>ifB (true) (ob (O (.func 152) [al,au] h) λav h=>ifB (true) (ob (aF (bV N) h) λaw h=>ob (aF (aI 1 aw) h) λax h=>ob (ld1 ax h) λay h=>ifB (true) (ob (ldN 3 ah h) λaz h=>ifB (true) (ob (aF (bV N) h) λba h=>ob (aF (aI 1 ba) h) λbb h=>ob (ld1 bb h) λbc h=>ifB (true) (ob (ldN 3 ah h) λbd h=>ifB (true) (ob (nE (.str [true,true,true]) (.slice none 0 0) false bc bd h) λbe h=>ifB (true) (ob (slc prog 1 be (some (.I 1)) none none h) λbf h=>ifB (true) (ob (sN (.str [true,true,true]) ay az bf h) λbg h=>ifB (true) (ob (aF (bV N) h) λbh h=>ob (aF (aI 1 bh) h) λbi h=>ob (ld1 bi h) λbj h=>ifB (true) (ob (ldN 3 ah h) λbk h=>ifB (true) (ob (nE (.str [true,true,true]) (.slice none 0 0) false bj bk h) λbl h=>ifB (true) (ob (aF (cH bl) h) λbm h=>ob (aF (bin prog .eql 3 bm (.I 0)) h) λbn h=>aN bn (ob (aF (bV N) h) λbo h=>ob (aF (aI 1 bo) h) λbp h=>ob (ld1 bp h) λbq h=>ifB (true) (ob (ldN 3 ah h) λbr h=>ifB (true) (ob (sM (.str [true,true,true]) bq br h) λbs h=>ifB (true) (ob (ldN 4 ae h) λbt h=>ob (stN 4 aa bt h) λbu h=>ob (ldN 4 aa h) λw45 _=>some (aK [w45,ad],h))))) (ob (ldN 4 ae h) λbv h=>ob (stN 4 aa bv h) λbw h=>ob (ldN 4 aa h) λw48 _=>some (aK [w48,ad],h))))))))))))))))))) (ob (ldN 4 ae h) λbx h=>ob (stN 4 aa bx h) λbz h=>ob (ldN 4 aa h) λw51 _=>some (aK [w51,ad],h)):=by kernel_rfl
theorem Z7:cM prog O L 180 [N,P] h=ob (cS 54 [(.I 0),(.I 0),(.I 0),(.int .u32 0)] .fix h) λaa h=>ob (O (.func 181) [N,P] h) λab h=>ob (aF (bin prog .neq 286 ab (.pointer none)) h) λac h=>aN ac (ob (aF (bV ab) h) λad h=>ob (aF (aI 0 ad) h) λae h=>ob (ld1 ae h) λaf h=>ob (aF (bV af) h) λag h=>ob (ldN 4 ag h) λah h=>ob (stN 4 aa ah h) λai h=>ob (ldN 4 aa h) λw9 _=>some (aK [w9,(.bool true)],h)) (ob (aF (bld prog 54 []) h) λaj h=>ob (stN 4 aa aj h) λak h=>ob (ldN 4 aa h) λw12 _=>some (aK [w12,(.bool false)],h)):=by kernel_rfl
theorem aMj:cM prog O L 142 [N,P] h=ob (cS 256 (Value.cells P).toList .fix h) λaa h=>ob (aF (aI 0 aa) h) λab h=>ob (ld1 ab h) λac h=>ifB (true) (ob (aF (aI 1 aa) h) λad h=>ob (ld1 ad h) λae h=>ifB (true) (ob (aF (aI 2 aa) h) λaf h=>ob (ld1 af h) λag h=>ifB (true) (ob (aF (lZ prog false [ac,ae,ag]) h) λah h=>ob (aF (bin prog .geq 3 ah (.I 0)) h) λai h=>ob (gd ai true (aF (aI 0 aa)) h) λaj h=>ob (gd ai true (ld1 aj) h) λak h=>ifB (true) (ob (gd ai true (aF (aI 1 aa)) h) λal h=>ob (gd ai true (ld1 al) h) λam h=>ifB (true) (ob (gd ai true (aF (lZ prog true [ak,am])) h) λan h=>ob (gd ai true (cG N) h) λao h=>ob (gd ai true (aF (bV ao)) h) λap h=>ob (gd ai true (aF (aI 2 ap)) h) λaq h=>ob (gd ai true (ld1 aq) h) λar h=>ifB (true) (ob (gd ai true (aF (bin prog .lss 3 an ar)) h) λau h=>ob (aF (cL ai au (.bool false)) h) λav h=>ob (gd av true (aF (aI 2 aa)) h) λaw h=>ob (gd av true (ld1 aw) h) λax h=>ifB (true) (ob (gd av true (cG N) h) λay h=>ob (gd av true (aF (bV ay)) h) λaz h=>ob (gd av true (aF (aI 3 az)) h) λba h=>ob (gd av true (ld1 ba) h) λbb h=>ifB (true) (ob (gd av true (aF (bin prog .lss 3 ax bb)) h) λbc h=>ob (aF (cL av bc (.bool false)) h) λbd h=>some (aK [bd],h))))))))):=by kernel_rfl
theorem Z5:cM prog O L 143 [N,P] h=ob (cS 54 (Value.cells P).toList .fix h) λaa h=>ob (aF (bV N) h) λab h=>ob (aF (aI 1 ab) h) λac h=>ob (ld1 ac h) λad h=>ob (aF (bin prog .eql 3 ad (.I (-1))) h) λae h=>aN ae (some (aK [(.I 0),(.bool false)],h)) (ob (aF (bV N) h) λaf h=>ob (aF (aI 0 af) h) λag h=>ob (ld1 ag h) λah h=>ob (aF (cB 2 ah ad) h) λai h=>ob (aF (bV ai) h) λaj h=>ob (aF (aI 1 aj) h) λak h=>ob (ld1 ak h) λal h=>ob (aF (bV ai) h) λam h=>ob (aF (aI 0 am) h) λan h=>ob (stN 1 an aa h) λao h=>ob (aF (bV N) h) λap h=>ob (aF (aI 1 ap) h) λaq h=>ob (stN 1 aq al h) λar h=>ob (aF (bV N) h) λau h=>ob (aF (aI 2 au) h) λav h=>ob (ld1 av h) λaw h=>ob (aF (bin prog .sub 3 aw (.I 1)) h) λax h=>ob (aF (bV N) h) λay h=>ob (aF (aI 2 ay) h) λaz h=>ob (stN 1 az ax h) λba h=>some (aK [ad,(.bool true)],h)):=by kernel_rfl
theorem Z6:cM prog O L 151 [N,P,Q,R] h=ob (cS 54 [(.I 0),(.I 0),(.I 0),(.int .u32 0)] .fix h) λaa h=>ob (aF (bV N) h) λab h=>ob (aF (aI 1 ab) h) λac h=>ob (ld1 ac h) λad h=>ob (aF (bld prog 256 [(0,P),(1,Q),(2,R)]) h) λae h=>ob (nE (.str [true,true,true]) (.slice none 0 0) false ad ae h) λaf h=>ob (aF (cH af) h) λag h=>ob (aF (bin prog .eql 3 ag (.I 0)) h) λah h=>aN ah (ob (aF (bld prog 54 []) h) λai h=>ob (stN 4 aa ai h) λaj h=>ob (ldN 4 aa h) λw10 _=>some (aK [w10,(.bool false)],h)) (ob (aF (bV N) h) λak h=>ob (aF (aI 0 ak) h) λal h=>ob (ld1 al h) λam h=>ifB (true) (ob (aF (cB 1 af (.I 0)) h) λan h=>ob (ld1 an h) λao h=>ifB (true) (ob (O (.func 180) [am,ao] h) λap h=>ifB (true) (ob (aF (ext 0 ap) h) λaq h=>ob (aF (ext 1 ap) h) λar h=>ob (stN 4 aa aq h) λau h=>ifB (true) (ob (ldN 4 aa h) λw20 _=>some (aK [w20,ar],h)))))):=by kernel_rfl
theorem aMk:cM prog O L 152 [N,P] h=ob (O (.func 181) [N,P] h) λaa h=>ob (aF (bin prog .eql 286 aa (.pointer none)) h) λab h=>aN ab (some (aK [(.bool false)],h)) (ob (aF (bV N) h) λac h=>ob (aF (aI 1 ac) h) λad h=>ob (ld1 ad h) λae h=>ob (aF (bV aa) h) λaf h=>ob (aF (aI 0 af) h) λag h=>ob (stN 1 ag (.pointer none) h) λah h=>ob (aF (bV aa) h) λai h=>ob (aF (aI 1 ai) h) λaj h=>ob (stN 1 aj ae h) λak h=>ob (aF (bV N) h) λal h=>ob (aF (aI 1 al) h) λam h=>ob (stN 1 am P h) λan h=>ob (aF (bV N) h) λao h=>ob (aF (aI 2 ao) h) λap h=>ob (ld1 ap h) λaq h=>ob (aF (bin prog .add 3 aq (.I 1)) h) λar h=>ob (aF (bV N) h) λau h=>ob (aF (aI 2 au) h) λav h=>ob (stN 1 av ar h) λaw h=>some (aK [(.bool true)],h)):=by kernel_rfl
theorem Z8:cM prog O L 181 [N,P] h=ob (aF (bin prog .lss 3 P (.I 0)) h) λaa h=>ob (gd aa false (cG P) h) λab h=>ob (gd aa false (cG N) h) λac h=>ob (gd aa false (aF (bV ac)) h) λad h=>ob (gd aa false (aF (aI 0 ad)) h) λae h=>ob (gd aa false (ld1 ae) h) λaf h=>ob (gd aa false (aF (cH af)) h) λag h=>ob (gd aa false (aF (bin prog .geq 3 ab ag)) h) λah h=>ob (aF (cL aa (.bool true) ah) h) λai h=>ob (gd ai false (cG N) h) λaj h=>ob (gd ai false (aF (bV aj)) h) λak h=>ob (gd ai false (aF (aI 0 ak)) h) λal h=>ob (gd ai false (ld1 al) h) λam h=>ob (gd ai false (cG P) h) λan h=>ob (gd ai false (aF (cB 2 am an)) h) λao h=>ob (gd ai false (aF (aI 0 ao)) h) λap h=>ob (gd ai false (ld1 ap) h) λaq h=>ob (gd ai false (aF (bin prog .eql 245 aq (.pointer none))) h) λar h=>ob (aF (cL ai (.bool true) ar) h) λau h=>aN au (some (aK [(.pointer none)],h)) (ob (aF (bV N) h) λav h=>ob (aF (aI 0 av) h) λaw h=>ob (ld1 aw h) λax h=>ob (aF (cB 2 ax P) h) λay h=>some (aK [ay],h)):=by kernel_rfl
end Go.Proofs.YtkeilicinggjmaaGreatDoor
end
namespace Go.Proofs.YtkeilicinggjmaaGreatDoor.Rg
open Go.Proofs.Tryz
open Go.Abs Go.Abs.M
theorem n73 (a:Addr):bin prog .neq 286 (.pointer (some a)) (.pointer none)=some (.bool true):=aDI 286 247 (by kernel_rfl) a
theorem aMz:bin prog .neq 286 (.pointer none) (.pointer none)=some (.bool false):=aDJ 286 247 (by kernel_rfl)
theorem e73 (a:Addr):bin prog .eql 286 (.pointer (some a)) (.pointer none)=some (.bool false):=zY 286 247 (by kernel_rfl) a
theorem e70 (a:Addr):bin prog .eql 245 (.pointer (some a)) (.pointer none)=some (.bool false):=zY 245 54 (by kernel_rfl) a
theorem aMs:bin prog .eql 245 (.pointer none) (.pointer none)=some (.bool true):=I6 245 54 (by kernel_rfl)
theorem e22 (a:Addr):bin prog .eql 177 (.pointer (some a)) (.pointer none)=some (.bool false):=zY 177 244 (by kernel_rfl) a
def pkB (x:Pkt):Blk:= .cells x.oT 54 .fix
abbrev jY:=Option (Nat×Pkt)×Int
def xE (x:Option (Nat×Pkt)):Value:= .pointer (x.map λb=>⟨b.1,0,none⟩)
def sF (x:jY):List Value:=[xE x.1,.I x.2]
def nC (l:List jY):Blk:= .cells (l.map sF).flatten 247 .row
def oV (s n:Nat)(top free:Int):Blk:= .cells [.slice (some ⟨s,0,none⟩) n n,.int .i64 top,.int .i64 free] 244 .fix
structure IsPool (H:aE)(p s:Nat)(l:List jY)(top free:Int):Prop where
 hp:H[p]? =some (oV s l.length top free)
 hs:H[s]? =some (nC l)
 hq: ∀(i q:Nat)(x:Pkt)(d:Int),l[i]? =some (some (q,x),d)->H[q]? =some (pkB x)
theorem F8 (l:List jY): ∀r∈l.map sF,r.length=2:=by
 intro r hr;simp only[aQq] at hr;obtain⟨x,_,rfl⟩:=hr;rfl
theorem aAg (l:List jY):(l.map sF).flatten.length=l.length*2:=by
 rw[qV _ (F8 l)];simp
theorem aAh (l:List jY)(i j:Nat)(v:Value)(x y:jY)(hi:l[i]? =some x)(hj:j<2)(hv:(sF x).set j v=sF y):(l.map sF).flatten.set (i*2+j) v=((l.set i y).map sF).flatten:=by
 have:=I7 (l.map sF) (F8 l) i j [v] (sF x) (by simp[hi]) (by simp;omega)
 simp only[eK] at this;rw[this,hv,List.map_set]
variable {pr : jA} {H : aE} {p s : Nat} {l : List jY} {top free : Int}
@[simp] theorem aPM (i:Nat):ldC (some (nC l)) (i*2) H=yD ((l[i]?).map λx=>xE x.1) H:=by
 have:=Cx _ (F8 l) i 0 aC
 simp only[Nat.add_zero] at this;unfold nC;rw[tR,this,aP0];cases l[i]? <;>rfl
@[simp] theorem aMx (i:Nat):ldC (some (nC l)) (i*2+1) H=yD ((l[i]?).map λx=> .I x.2) H:=by
 have:=Cx _ (F8 l) i 1 aC
 unfold nC;rw[tR,this,aP0];cases l[i]? <;>rfl
theorem aAl (b i:Nat)(a:Option Addr)(x:jY)(q:Option (Nat×Pkt))(hi:l[i]? =some x)(hq: .pointer a=xE q):stC (some (nC l)) b (i*2) [.pointer a] H=some (undef,H.set b (nC (l.set i (q,x.2)))):=by
 have hl:i<l.length:=(aPN.mp hi).1;unfold nC;rw[I8 _ _ _ _ _ rfl (by rw[aAg];simp;omega)]
 have:=aAh l i 0 (.pointer a) x (q,x.2) hi aC (by rw[hq];rfl)
 simp only[eK];rw[<-this,Nat.add_zero]
theorem Pe (b i:Nat)(d:Int)(x:jY)(hi:l[i]? =some x):stC (some (nC l)) b (i*2+1) [.I d] H=some (undef,H.set b (nC (l.set i (x.1,d)))):=by
 have hl:i<l.length:=(aPN.mp hi).1;unfold nC;rw[I8 _ _ _ _ _ rfl (by rw[aAg];simp;omega)]
 have:=aAh l i 1 (.I d) x (x.1,d) hi aC (by rfl)
 simp only[eK];rw[<-this]
@[simp] theorem F5 (n:Nat):ldC (some (oV s n top free)) 0 H=some (.slice (some ⟨s,0,none⟩) n n,H):=rfl
@[simp] theorem aAd (n:Nat):ldC (some (oV s n top free)) 1 H=some (.I top,H):=rfl
@[simp] theorem aAe (n:Nat):ldC (some (oV s n top free)) 2 H=some (.I free,H):=rfl
@[simp] theorem aAj (b n:Nat)(d:Int):stC (some (oV s n top free)) b 1 [.I d] H=some (undef,H.set b (oV s n d free)):=rfl
@[simp] theorem aAk (b n:Nat)(d:Int):stC (some (oV s n top free)) b 2 [.I d] H=some (undef,H.set b (oV s n top d)):=rfl
@[simp] theorem aMw (x:Pkt):Cw (some (pkB x)) 4 0 H=some (x.dR,H):=rfl
theorem F9 (b:Nat)(y:Pkt):stN 4 (.Q b 0) y.dR H=stC H[b]? b 0 y.oT H:=mB 4 b 0 _ rfl
@[simp] theorem aAi (b:Nat)(x y:Pkt):stC (some (pkB x)) b 0 y.oT H=some (undef,H.set b (pkB y)):=rfl
theorem xD:Blk.cells [.int .i64 0,.int .i64 0,.int .i64 0,.int .u32 0] 54 .fix=pkB pk0:=rfl
theorem aAf:bld prog 54 []=some pk0.dR:=by kernel_rfl
theorem Pd (H:aE)(a b:Blk):(H++[a]).set H.length b=H++[b]:=by simp
theorem aMq (hn:pr (.func 181)=none)(h:IsPool H p s l top free){m:Nat}(hm:0<m)(i:Int)(hi:i<0∨(l.length:Int)<=i∨ ∃d,l[i.toNat]? =some (none,d)):
  lvl prog pr m (.func 181) [.Q p 0,.I i] H=some (.pointer none,H):=by
 have hp:=h.hp;have hs:=h.hs;refine dI hn hm ?_;rw[Z8];by_cases h0:i<0
 ·simp -implicitDefEqProofs [h0]
 ·by_cases h1:(l.length:Int)<=i
  ·simp -implicitDefEqProofs [h0,h1,hp,hs]
  ·obtain⟨d,hd⟩: ∃d,l[i.toNat]? =some (none,d):=by
    rcases hi with hi|hi|hi
    ·exact absurd hi h0
    ·exact absurd hi h1
    ·exact hi
   simp -implicitDefEqProofs (disch:=first|omega|simp) [-getElem?_pos,h0,h1,hp,hs,hd,xE,aMs]
theorem aAb (hn:pr (.func 181)=none)(h:IsPool H p s l top free){m:Nat}(hm:0<m)(i:Nat)(q:Nat×Pkt)(d:Int)(hi:l[i]? =some (some q,d)):
  lvl prog pr m (.func 181) [.Q p 0,.I i] H=some (.Q s (i*2),H):=by
 have hp:=h.hp;have hs:=h.hs;have hl:i<l.length:=(aPN.mp hi).1;refine dI hn hm ?_;rw[Z8];have h0: ¬(i:Int)<0:=U
 have h1: ¬(l.length:Int)<=i:=U
 simp -implicitDefEqProofs (disch:=first|omega|simp) [-getElem?_pos,h0,h1,hp,hs,hi,xE,e70]
theorem IsPool.app (h:IsPool H p s l top free)(G:aE):IsPool (H++G) p s l top free:=by
 have up: ∀(b:Nat)(x:Blk),H[b]? =some x->(H++G)[b]? =some x:=λb x hb=>by
  rw[aPQ (aPN.mp hb).1,hb]
 exact⟨up _ _ h.hp,up _ _ h.hs,λi q x d hi=>up _ _ (h.hq i q x d hi)⟩
theorem aPL (hn:pr (.func 181)=none)(hn':pr (.func 180)=none)(h:IsPool H p s l top free){m:Nat}(hm:1<m)(i:Int)(hi:i<0∨(l.length:Int)<=i∨ ∃d,l[i.toNat]? =some (none,d)):
  lvl prog pr m (.func 180) [.Q p 0,.I i] H=some (.tuple #[pk0.dR,.bool false],H++[pkB pk0]):=by
 refine dI hn' U ?_
 rw[Z7];have hc:=aMq hn (h.app [pkB pk0]) (m:=m-1) U i hi
 simp -implicitDefEqProofs [xD,hc,aMz,aAf,F9,Pd]
theorem aMv (hn:pr (.func 181)=none)(hn':pr (.func 180)=none)(h:IsPool H p s l top free){m:Nat}(hm:1<m)(i q:Nat)(x:Pkt)(d:Int)(hi:l[i]? =some (some (q,x),d)):
  lvl prog pr m (.func 180) [.Q p 0,.I i] H=some (.tuple #[x.dR,.bool true],H++[pkB x]):=by
 refine dI hn' U ?_
 rw[Z7];have h':=h.app [pkB pk0];have hc:=aAb hn h' (m:=m-1) U i _ d hi
 have hs:=h'.hs;have hq:=h'.hq i q x d hi;simp -implicitDefEqProofs [xD,hc,n73,hs,hq,hi,xE,F9,Pd]
theorem IsPool.ps (h:IsPool H p s l top free):p≠s:=by
 intro e;have h1:=h.hp;have h2:=h.hs;rw[e,h2] at h1;simp[nC,oV] at h1
theorem IsPool.Pa (h:IsPool H p s l top free):p<H.length:=(aPN.mp h.hp).1
theorem IsPool.sl (h:IsPool H p s l top free):s<H.length:=(aPN.mp h.hs).1
theorem IsPool.qs (h:IsPool H p s l top free){q:Nat}{x:Pkt}(hq:H[q]? =some (pkB x)):q≠p/\q≠s:=by
 constructor
 ·intro e
  have h1:=h.hp;rw[<-e,hq] at h1;simp[pkB,oV] at h1
 ·intro e
  have h1:=h.hs;rw[<-e,hq] at h1;simp[pkB,nC] at h1
theorem IsPool.aAa (h:IsPool H p s l top free)(l':List jY)(hl:l'.length=l.length)(top' free':Int)
  (hq: ∀(i q:Nat)(x:Pkt)(d:Int),l'[i]? =some (some (q,x),d)->H[q]? =some (pkB x)):IsPool ((H.set s (nC l')).set p (oV s l.length top' free')) p s l' top' free':=by
 have h1:=h.ps;have h2:=h.Pa;have h3:=h.sl;refine⟨?_,?_,?_⟩
 ·rw[hl,aPT (by simpa using h2)]
 ·rw[aPO U,aPT U]
 ·intro i q x d hi
  have hb:=hq i q x d hi;obtain⟨h4,h5⟩:=h.qs hb;rw[aPO U,aPO U,hb]
theorem aMr (hn:pr (.func 181)=none)(hn':pr (.func 152)=none)(h:IsPool H p s l top free){m:Nat}(hm:1<m)(i:Nat)(q:Nat×Pkt)(d:Int)(hi:l[i]? =some (some q,d))(hf0:0<=free)(hf1:free<1000):
  lvl prog pr m (.func 152) [.Q p 0,.I i] H=some (.bool true,(H.set s (nC (l.set i (none,top)))).set p (oV s l.length i (free+1))):=by
 refine dI hn' U ?_
 rw[aMk];have hc:=aAb hn h (m:=m-1) U i q d hi
 have hp:=h.hp;have hs:=h.hs;have h1:=h.ps;have h2:=h.Pa;have h3:=h.sl;have hl:i<l.length:=(aPN.mp hi).1;have w:IntKind.i64.wrap (free+1)=free+1:=cZ U U
 have s0:=λH=>aAl (H:=H) (l:=l) s i none (some q,d) none hi rfl
 have s1:=λH=>Pe (H:=H) (l:=l.set i (none,d)) s i top (none,d) (by simp[hl])
 simp -implicitDefEqProofs (disch:=first|omega|(simp;omega)) only[hc,e73,hp,hs,s0,s1,w,cO,List.set_set,ob_some,iteV_false,iteV_true,r_opt,r_nil,r_fAddr,kC,aAd,aAe,Cz,Ss,aP8,Nat.add_zero,aPT,aPO,ne_eq,aAj,aAk,oneOf_one]
theorem aMC (hn:pr (.func 143)=none)(h:IsPool H p s l (-1) free){m:Nat}(hm:0<m)(x:Pkt):
  lvl prog pr m (.func 143) [.Q p 0,x.dR] H=some (.tuple #[.I 0,.bool false],H++[pkB x]):=by
 refine dI hn U ?_
 rw[Z5];have hp:=(h.app [pkB x]).hp;have e:Blk.cells (Value.cells x.dR).toList 54 .fix=pkB x:=rfl;simp -implicitDefEqProofs [e,hp]
theorem aMD (hn:pr (.func 143)=none)(k:Nat)(h:IsPool H p s l k free){m:Nat}(hm:0<m)(x:Pkt)(q:Option (Nat×Pkt))(d:Int)(hk:l[k]? =some (q,d))(hf0: -10<=free)(hf1:free<1000):
  lvl prog pr m (.func 143) [.Q p 0,x.dR] H=
   some (.tuple #[.I k,.bool true],((H++[pkB x]).set s (nC (l.set k (some (H.length,x),d)))).set p (oV s l.length d (free-1))):=by
 refine dI hn U ?_
 rw[Z5];have h':=h.app [pkB x];have hp:=h'.hp;have hs:=h'.hs;have h1:=h'.ps;have h2:=h'.Pa;have h3:=h'.sl;have h4:p<H.length+1:=by simpa using h2
 have h5:s<H.length+1:=by simpa using h3
 have hl:k<l.length:=(aPN.mp hk).1;have w:IntKind.i64.wrap (free-1)=free-1:=cZ U U
 have e:Blk.cells (Value.cells x.dR).toList 54 .fix=pkB x:=rfl;have e2:((k:Int)== -1)=false:=by simp
 have e3:((l[k]?).map λx=>Value.I x.2)=some (.I d):=by rw[hk];rfl
 have s0:=λH'=>aAl (H:=H') (l:=l) s k (some ⟨H.length,0,none⟩) (q,d) (some (H.length,x)) hk rfl
 simp -implicitDefEqProofs (disch:=first|omega|(simp;omega)) only[e,e2,e3,hp,hs,s0,w,b_eql,iV,x_newB,List.set_set,ob_some,iteV_false,iteV_true,r_opt,r_nil,r_fAddr,p9,kC,F5,aAd,aAe,aMx,wI,Cz,Ss,aP8,Nat.add_zero,aPT,aPO,ne_eq,aAj,aAk,oneOf_two,aQf]
def jZ (n i:Nat):List jY:=(List.range n).map λj=>(none,if j<i then(j:Int)+1 else 0)
def lA (n:Nat):List jY:=(List.range n).map λj=>(none,if j+1<n then(j:Int)+1 else -1)
theorem zD (n i j:Nat)(h:j<n):(jZ n i)[j]? =some (none,if j<i then(j:Int)+1 else 0):=by simp[jZ,h]
theorem aMu (n i:Nat):(jZ n i).set i (none,(i:Int)+1)=jZ n (i+1):=by
 apply aQo;intro j;by_cases hj:j<n
 ·by_cases e:i=j
  ·subst e
   rw[aPT (by simpa[jZ] using hj),zD _ _ _ hj,if_pos U]
  ·rw[aPO e,zD _ _ _ hj,zD _ _ _ hj]
   by_cases h:j<i
   ·rw[if_pos h,if_pos U]
   ·rw[if_neg h,if_neg U]
 ·rw[aPY (by simp[jZ];omega),aPY (by simp[jZ];omega)]
theorem aMt (n:Nat)(h:0<n):(jZ n n).set (n-1) (none, -1)=lA n:=by
 apply aQo;intro j;by_cases hj:j<n
 ·have e2:(lA n)[j]? =some (none,if j+1<n then(j:Int)+1 else -1):=by simp[lA,hj]
  by_cases e:n-1=j
  ·subst e
   rw[aPT (by simpa[jZ] using hj),e2,if_neg U]
  ·rw[aPO e,zD _ _ _ hj,e2,if_pos hj,if_pos U]
 ·rw[aPY (by simp[jZ];omega),aPY (by simp[lA];omega)]
def lX (H:aE)(l:List jY):aE:=H++[nC l,oV H.length l.length 0 l.length]
theorem Fz (l:List jY):(lX H l)[H.length+1]? =some (oV H.length l.length 0 l.length):=by simp[lX]
theorem Pb (l:List jY):(lX H l)[H.length]? =some (nC l):=by simp[lX]
theorem aAc (l l':List jY)(h:l'.length=l.length):(lX H l).set H.length (nC l')=lX H l':=by simp[lX,h]
theorem aMA (n:Nat)(h200:n<=200)(h1:0<n)(O:aG)(L:aH (Value×aE)): ∀(r i m:Nat),n-i=r->i<=n->r<m-> ∀(x1 x2 x4 x5 x6 x7 x8 x9 bG b9 aS aP aQ aO aT aU aR bA bJ bE aV aW aX aY aZ bB bC bH bI bM bN bO bP bQ bR bS bT bU bY:Value),
  aJ m (aM prog O L O7) (O8 O L) [.I n,x1,x2,.Q (H.length+1) 0,x4,x5,x6,x7,x8,x9,bG,b9,aS,aP,aQ,aO,aT,aU,aR,bA,.I n,.I i,bJ,bE,aV,aW,aX,aY,aZ,bB,bC,bH,bI,bM,bN,bO,bP,bQ,bR,bS,bT,bU,bY] (lX H (jZ n i))=some (.Q (H.length+1) 0,lX H (lA n)):=by
 intro r;induction r with
 |zero=>
  intro i m hr hi hm x1 x2 x4 x5 x6 x7 x8 x9 bG b9 aS aP aQ aO aT aU aR bA bJ bE aV aW aX aY aZ bB bC bH bI bM bN bO bP bQ bR bS bT bU bY;obtain⟨m,rfl⟩: ∃k,m=k+1:=⟨m-1,by omega⟩
  obtain rfl:i=n:=U
  rw[cU,Z9];have e:decide ((i:Int)<i)=false:=by simp
  have s1:=λH'=>Pe (H:=H') (l:=jZ i i) H.length (i-1) (-1) (none,((i-1:Nat):Int)+1) (by rw[zD _ _ _ U,if_pos U])
  have w:IntKind.i64.wrap ((i:Int)-1)=((i-1:Nat):Int):=by rw[cZ U U];omega
  have hl:(jZ i i).length=i:=by simp[jZ]
  simp -implicitDefEqProofs only[b_lss,e,r_opt,ob_some,iteV_false,again_exit];rw[aMn];simp -implicitDefEqProofs (disch:=first|omega|(simp[jZ];omega)|simp[jZ,lA]) only[r_opt,ob_some,r_nil,r_fAddr,kC,Fz,F5,iV,w,p9,aP8,Nat.add_zero,Cz,Pb,s1,aQf,aMt,hl,aAc,oneOf_one]
 |succ r ih=>
  intro i m hr hi hm x1 x2 x4 x5 x6 x7 x8 x9 bG b9 aS aP aQ aO aT aU aR bA bJ bE aV aW aX aY aZ bB bC bH bI bM bN bO bP bQ bR bS bT bU bY;obtain⟨m,rfl⟩: ∃k,m=k+1:=⟨m-1,by omega⟩
  rw[cU,Z9];have e:decide ((i:Int)<n)=true:=by simp;omega
  have s1:=λH'=>Pe (H:=H') (l:=jZ n i) H.length i ((i:Int)+1) (none,0) (by rw[zD _ _ _ U,if_neg U])
  have w:=aA (i:=i) U
  have w':((i+1:Nat):Int)=(i:Int)+1:=U
  have hl:(jZ n i).length=n:=by simp[jZ]
  simp -implicitDefEqProofs (disch:=first|omega|(simp[jZ];omega)|simp[jZ]) only[b_lss,e,r_opt,ob_some,iteV_true,again_normal,r_nil,r_fAddr,kC,Fz,F5,cO,w,p9,aP8,Nat.add_zero,Cz,Pb,w',s1,aQf,aMu,hl,aAc,oneOf_one]
  rw[<-w'];exact ih (i+1) m U U U _ _ _ _ _ _ _ _ _ _ _ _ _ _ _ _ _ _ _ _ _ _ _ _ _ _ _ _ _ _ _ _ _ _ _ _ _ _ _
theorem F7 (n:Nat):(lA n).length=n:=by simp[lA]
theorem Pc (n j:Nat)(h:j<n):(lA n)[j]? =some (none,if j+1<n then(j:Int)+1 else -1):=by simp[lA,h]
theorem aMB (hn:pr (.func 84)=none)(n:Nat)(h1:0<n)(h200:n<=200){m:Nat}(hm:210<m):
  lvl prog pr m (.func 84) [.I n] H=some (.Q (H.length+1) 0,lX H (lA n)):=by
 refine dI hn U ?_
 rw[aMo];have e1:decide ((n:Int)<1)=false:=by simp;omega
 have e2:decide ((200:Int)<n)=false:=by simp;omega
 have e3:bld prog 244 [(0,.slice (some ⟨H.length,0,none⟩) n n),(2,.I n)]=some (.agg #[.slice (some ⟨H.length,0,none⟩) n n,.I 0,.I n]):=by kernel_rfl
 have e4:H++[Blk.cells (List.replicate n [.pointer none,.int .i64 0]).flatten 247 .row]++[Blk.cells [.slice (some ⟨H.length,0,none⟩) n n,.int .i64 0,.int .i64 n] 244 .fix]=lX H (jZ n 0):=by
  have:(jZ n 0).map sF=List.replicate n [.pointer none,.I 0]:=by
   apply aQo;intro j;by_cases hj:j<n
   ·simp[jZ,hj,sF,xE]
   ·rw[aPY (by simp[jZ];omega),aPY (by simp;omega)]
  have hl:(jZ n 0).length=n:=by simp[jZ]
  simp[lX,nC,this,oV,hl]
 have e5:(Value.agg #[Value.slice (some ⟨H.length,0,none⟩) n n,.int .i64 0,.int .i64 n]).cells.toList=[Value.slice (some ⟨H.length,0,none⟩) n n,.int .i64 0,.int .i64 n]:=rfl;have e6: ∀b c:Blk,(H++[b]++[c])[H.length+1]? =some c:=λb c=>by simp
 have hl:(jZ n 0).length=n:=by simp[jZ]
 have ms:=sT (H:=H) 247 2 16 [.pointer none,.I 0] .i64 .i64 n U U U rfl
 rw[aQf] at ms;simp -implicitDefEqProofs (disch:=first|omega|rfl) only[b_lss,b_gtr,e1,e2,r_opt,ob_some,r_gdff,r_ret,pick_f,iteV_false,ms,aQf,e3,e5,x_newB,aPZ,aP9,List.length_nil,aP8,r_nil,r_fAddr,kC,e4,Fz,F5,hl,uU]
 exact aMA n h200 h1 _ _ n 0 (m-1) U U U ..
theorem aMy (n:Nat):IsPool (lX H (lA n)) (H.length+1) H.length (lA n) 0 n:=by
 refine⟨?_,Pb _,λi q x d hi=> ?_⟩
 ·rw[Fz,F7]
 ·by_cases hl:i<n
  ·rw[Pc n i hl] at hi
   simp at hi
  ·rw[aPY (by simp[lA];omega)] at hi
   cases hi
structure More (p s:Nat)(H H':aE):Prop where
 len:H.length<=H'.length
 same: ∀b,b<H.length->b≠p->b≠s->H'[b]? =H[b]?
theorem aMH {pr:jA}{H:aE}{p s:Nat}{l:List jY}{top free:Int}(hn:pr (.func 181)=none)(hn':pr (.func 152)=none)(h:IsPool H p s l top free){m:Nat}(hm:1<m)(i:Nat)(q:Nat×Pkt)(d:Int)(hi:l[i]? =some (some q,d))(hf0:0<=free)(hf1:free<1000):
  ∃H',lvl prog pr m (.func 152) [.Q p 0,.I i] H=some (.bool true,H')/\IsPool H' p s (l.set i (none,top)) i (free+1)/\More p s H H':=by
 refine⟨_,aMr hn hn' h hm i q d hi hf0 hf1,?_,by simp,?_⟩
 ·refine h.aAa _ (by simp) _ _ λj q y d hj=> ?_
  by_cases ej:i=j
  ·subst ej
   have hl:i<l.length:=(aPN.mp hi).1;rw[aPT hl] at hj;simp at hj
  ·rw[aPO ej] at hj
   exact h.hq j q y d hj
 ·intro b hb h1 h2
  rw[aPO U,aPO U]
theorem aAo: ∀(n:Nat)(l:List Nat),l.Nodup->(∀x∈l,x<n)->l.length<=n
 |0,l,_,h=>by
  cases l with
  |nil=>exact aPS _
  |cons a _=>exact absurd (h a (by simp)) U
 |n+1,l,hd,h=>by
  have:=aAo n (l.erase n) (hd.erase n) λx hx=>by
   rw[hd.mem_erase_iff] at hx;have:=h x hx.2;have:=hx.1;omega
  rw[List.length_erase] at this
  split at this<;>omega
def FreeL (l:List jY):Int->List Nat->Prop
 |top,[]=>top= -1
 |top,k::ks=>top=(k:Int)/\ ∃d,l[k]? =some (none,d)/\FreeL l d ks
theorem FreeL.Pf {l:List jY}{i:Nat}{x:jY}: ∀(fl:List Nat)(top:Int),FreeL l top fl->i∉fl->FreeL (l.set i x) top fl
 |[],_,h,_=>h
 |k::ks,top,⟨h1,d,h2,h3⟩,hi=>by
  simp only[aP6,not_or] at hi
  exact⟨h1,d,by rw[aPO hi.1];exact h2,FreeL.Pf ks d h3 hi.2⟩
structure Model (H:aE)(p s:Nat)(l:List jY)(top free:Int)(fl:List Nat):Prop where
 pool:IsPool H p s l top free
 chain:FreeL l top fl
 nodup:fl.Nodup
 full: ∀i,i∈fl↔ ∃d,l[i]? =some (none,d)
 cnt:free=fl.length
 len:l.length<=200
section
variable {pr : jA} {H : aE} {p s : Nat} {l : List jY} {top free : Int} {fl : List Nat}
theorem Model.aAm (h:Model H p s l top free fl):fl.length<=200:=by
 refine aP3 (aAo l.length fl h.nodup λx hx=> ?_) h.len
 obtain⟨d,hd⟩:=(h.full x).mp hx
 exact(aPN.mp hd).1
theorem Model.app (h:Model H p s l top free fl)(G:aE):Model (H++G) p s l top free fl:=⟨h.pool.app G,h.chain,h.nodup,h.full,h.cnt,h.len⟩
theorem Model.aME (hn:pr (.func 181)=none)(hn':pr (.func 152)=none)(h:Model H p s l top free fl){m:Nat}(hm:1<m)(i:Nat)(q:Nat×Pkt)(d:Int)(hi:l[i]? =some (some q,d)):
  ∃H',lvl prog pr m (.func 152) [.Q p 0,.I i] H=some (.bool true,H')/\Model H' p s (l.set i (none,top)) i (free+1) (i::fl)/\More p s H H':=by
 have hl:=h.aAm;have hc:=h.cnt;obtain⟨H',e,hp,hm'⟩:=aMH hn hn' h.pool hm i q d hi U U
 have hlt:i<l.length:=(aPN.mp hi).1;have hni:i∉fl:=λhh=>by
  obtain⟨d',hd⟩:=(h.full i).mp hh;rw[hi] at hd;simp at hd
 refine⟨H',e,⟨hp,⟨rfl,top,aPT hlt,h.chain.Pf _ _ hni⟩,List.nodup_cons.mpr ⟨hni,h.nodup⟩,λj=> ?_,by rw[hc];simp,by simpa using h.len⟩,hm'⟩
 by_cases ej:i=j
 ·subst ej
  rw[aPT hlt];simp
 ·rw[aPO ej,aP6,<-h.full j]
  constructor
  ·rintro (h1|h1)
   ·exact absurd h1.symm ej
   ·exact h1
  ·exact .inr
theorem Model.aMF (hn:pr (.func 143)=none){k:Nat}{ks:List Nat}(h:Model H p s l top free (k::ks)){m:Nat}(hm:0<m)(x:Pkt):
  ∃H' q d,lvl prog pr m (.func 143) [.Q p 0,x.dR] H=some (.tuple #[.I k,.bool true],H')/\Model H' p s (l.set k (some (q,x),d)) d (free-1) ks/\k<l.length/\
   H.length<=H'.length/\ ∀b,b<H.length->b≠p->b≠s->H'[b]? =H[b]? :=by
 obtain⟨ht,d,hk,hc⟩:=h.chain;have hp:=h.pool;have hcnt:=h.cnt;have hfl:=h.aAm;simp only[aP9] at hcnt hfl;rw[ht] at hp;have hlt:k<l.length:=(aPN.mp hk).1;have hnd:=List.nodup_cons.mp h.nodup;have e:=aMD hn k hp hm x none d hk U U
 refine⟨_,H.length,d,e,⟨?_,hc.Pf _ _ hnd.1,hnd.2,λj=> ?_,by omega,by simpa using h.len⟩,hlt,by simp,?_⟩
 ·have h':=hp.app [pkB x]
  refine h'.aAa _ (by simp) _ _ λj q y d' hj=> ?_
  by_cases ej:k=j
  ·subst ej
   rw[aPT hlt] at hj;simp only[aQe,Prod.mk.injEq] at hj;obtain⟨⟨rfl,rfl⟩,_⟩:=hj;simp
  ·rw[aPO ej] at hj
   exact h'.hq j q y d' hj
 ·by_cases ej:k=j
  ·subst ej
   rw[aPT hlt];simp[hnd.1]
  ·rw[aPO ej,<-h.full j,aP6]
   constructor
   ·exact .inr
   ·rintro (h1|h1)
    ·exact absurd h1.symm ej
    ·exact h1
 ·intro b hb h1 h2
  rw[aPO U,aPO U,aPQ hb]
theorem Model.aMG (hn:pr (.func 143)=none)(h:Model H p s l top free []){m:Nat}(hm:0<m)(x:Pkt):
  lvl prog pr m (.func 143) [.Q p 0,x.dR] H=some (.tuple #[.I 0,.bool false],H++[pkB x]):=by
 have ht:top= -1:=h.chain;have hp:=h.pool;rw[ht] at hp;exact aMC hn hp hm x
end
theorem aAn (n:Nat): ∀(r k:Nat),k+r=n->FreeL (lA n) (if k<n then(k:Int) else -1) (List.range' k r)
 |0,k,h=>by
  rw[if_neg U]
  rfl
 |r+1,k,h=>by
  rw[if_pos U,List.range'_succ]
  refine⟨rfl,_,Pc n k U,?_⟩
  exact aAn n r (k+1) U
theorem aMI {H:aE}(n:Nat)(h0:0<n)(hn:n<=200):Model (lX H (lA n)) (H.length+1) H.length (lA n) 0 n (List.range n):=by
 refine⟨aMy n,?_,List.nodup_range,λi=> ?_,by simp,by rw[F7];exact hn⟩
 ·have:=aAn n n 0 U
  rw[<-List.range_eq_range'] at this;rw[if_pos h0] at this;exact this
 ·rw[aQr]
  constructor
  ·intro h
   exact⟨_,Pc n i h⟩
  ·rintro ⟨d,hd⟩
   have:=(aPN.mp hd).1;rw[F7] at this;exact this
end Go.Proofs.YtkeilicinggjmaaGreatDoor.Rg
namespace Go.Abs
open M
section
variable {κ : Type} [DecidableEq κ]
theorem aAr {α β:Type}(g:α->β): ∀(l:List α)(i:Nat),(l.map g).eraseIdx i=(l.eraseIdx i).map g
 |[],_=>rfl
 |a::l,0=>rfl
 |a::l,i+1=>by simp[aAr g l i]
structure KeyC (kt:KeyT)(enc:κ->Value):Prop where
 eq: ∀a b:κ,kS kt (enc a) (enc b)=some (decide (a=b))
def lY (enc:κ->Value)(e:κ×Value×Nat):Ent:=⟨enc e.1,e.2.1,e.2.2⟩
def upd (f:κ->Option Value)(k:κ)(v:Option Value):κ->Option Value:=λk'=>if k'=k then v else f k'
structure MapI (enc:κ->Value)(es:List (κ×Value×Nat))(clock:Nat)(f:κ->Option Value):Prop where
 keys:(es.map (·.1)).Nodup
 born:(es.map (·.2.2)).Nodup
 lt: ∀e∈es,e.2.2<clock
 no: ∀k,f k=none↔ ∀e∈es,e.1≠k
 yes: ∀(e:κ×Value×Nat),e∈es->f e.1=some e.2.1
def IsMap (enc:κ->Value)(H:aE)(mb:Nat)(f:κ->Option Value):Prop:= ∃es clock,H[mb]? =some (.map (es.map (lY enc)) clock)/\MapI enc es clock f
variable {kt : KeyT} {enc : κ → Value} {H : aE} {mb : Nat} {f : κ → Option Value}
theorem MapI.Ga {es:List (κ×Value×Nat)}{clock:Nat}(h:MapI enc es clock f){k:κ}{v:Value}(hf:f k=some v): ∃(i:Nat)(b:Nat),es[i]? =some (k,v,b):=by
 by_cases hx: ∀e∈es,e.1≠k
 ·rw[(h.no k).mpr hx] at hf
  cases hf
 ·simp only[Classical.not_forall] at hx
  obtain⟨e,he,hk⟩:=hx;have hk:e.1=k:=Classical.not_not.mp hk;have:=h.yes e he;rw[hk,hf] at this;cases this;obtain⟨i,hi⟩:=List.getElem?_of_mem he
  exact⟨i,e.2.2,by rw[hi,<-hk]⟩
theorem Ph (hk:KeyC kt enc)(k:κ): ∀(es:List (κ×Value×Nat))(j:Nat),(∀e∈es,e.1≠k)->mI kt (enc k) (es.map (lY enc)) j=some none
 |[],j,_=>rfl
 |e::es,j,h=>by
  have h1:kS kt (enc k) (lY enc e).key=some false:=by
   show kS kt (enc k) (enc e.1)=some false
   rw[hk.eq,aQx (λhh=>h e (by simp) hh.symm)]
  simp only[aQi,mI,h1];exact Ph hk k es (j+1) λe' he'=>h e' (by simp[he'])
theorem Bl (hk:KeyC kt enc): ∀(es:List (κ×Value×Nat))(i j:Nat)(e:κ×Value×Nat),(es.map (·.1)).Nodup->es[i]? =some e->mI kt (enc e.1) (es.map (lY enc)) j=some (some (j+i,lY enc e))
 |[],i,j,e,_,h=>by simp at h
 |x::es,i,j,e,hn,h=>by
  simp only[aQi,List.nodup_cons] at hn;cases i with
  |zero=>
   simp only[List.getElem?_cons_zero,aQe] at h;subst h;have h1:kS kt (enc x.1) (lY enc x).key=some true:=by
    show kS kt (enc x.1) (enc x.1)=some true
    rw[hk.eq,aQw rfl]
   simp only[aQi,mI,h1,Nat.add_zero]
  |succ i=>
   simp only[List.getElem?_cons_succ] at h;have hne:e.1≠x.1:=λhh=>hn.1 (by rw[<-hh];exact List.mem_map_of_mem (aPX h))
   have h1:kS kt (enc e.1) (lY enc x).key=some false:=by
    show kS kt (enc e.1) (enc x.1)=some false
    rw[hk.eq,aQx hne]
   simp only[aQi,mI,h1];rw[Bl hk es i (j+1) e hn.2 h]
   congr 3
   omega
theorem Bm (hk:KeyC kt enc)(k:κ):kS kt (enc k) (enc k)=some true:=by rw[hk.eq,aQw rfl]
theorem IsMap.aAp {H':aE}(h:IsMap enc H mb f)(hk:H'[mb]? =H[mb]?):IsMap enc H' mb f:=by
 obtain⟨es,c,h1,h2⟩:=h
 exact⟨es,c,by rw[hk,h1],h2⟩
theorem IsMap.Bk (hk:KeyC kt enc)(h:IsMap enc H mb f)(k:κ)(z:Value):nE kt z false (.map (some mb)) (enc k) H=some ((f k).getD z,H):=by
 obtain⟨es,c,h1,h2⟩:=h;unfold nE;rw[if_pos (Bm hk k)];simp only;rw[h1];simp only;cases hf:f k with
 |none=>
  rw[Ph hk k es 0 ((h2.no k).mp hf)];rfl
 |some v=>
  obtain⟨i,b,hi⟩:=h2.Ga hf;rw[Bl hk es i 0 _ h2.keys hi];rfl
theorem MapI.Pg {es:List (κ×Value×Nat)}{clock:Nat}(h:MapI enc es clock f){k:κ}{v0 v:Value}{i b:Nat}(hi:es[i]? =some (k,v0,b)):MapI enc (es.set i (k,v,b)) clock (upd f k (some v)):=by
 have hlt:=(aPN.mp hi).1;have hmap1:(es.set i (k,v,b)).map (·.1)=es.map (·.1):=by
  rw[List.map_set];apply aQo;intro j;by_cases hj:i=j
  ·subst hj
   rw[aPT (by simpa using hlt),aP0,hi]
   rfl
  ·rw[aPO hj]
 have hmap2:(es.set i (k,v,b)).map (·.2.2)=es.map (·.2.2):=by
  rw[List.map_set];apply aQo;intro j;by_cases hj:i=j
  ·subst hj
   rw[aPT (by simpa using hlt),aP0,hi]
   rfl
  ·rw[aPO hj]
 refine⟨by rw[hmap1];exact h.keys,by rw[hmap2];exact h.born,λe he=> ?_,λk'=> ?_,λe he=> ?_⟩
 ·rcases List.mem_or_eq_of_mem_set he with he|rfl
  ·exact h.lt e he
  ·have:=h.lt _ (aPX hi)
   exact this
 ·unfold upd
  by_cases hk:k'=k
  ·rw[if_pos hk]
   constructor
   ·intro hh;cases hh
   ·intro hh
    exact absurd hk.symm (hh (k,v,b) (aPX (aPT hlt)))
  ·rw[if_neg hk,h.no k']
   have key: ∀e,e∈es.map (·.1)↔e∈(es.set i (k,v,b)).map (·.1):=λe=>by rw[hmap1]
   constructor
   ·intro hh e he hek
    have:=(key e.1).mpr (List.mem_map_of_mem he);obtain⟨e',he',hee⟩:=aQq.mp this;exact hh e' he' (by rw[hee,hek])
   ·intro hh e he hek
    have:=(key e.1).mp (List.mem_map_of_mem he);obtain⟨e',he',hee⟩:=aQq.mp this;exact hh e' he' (by rw[hee,hek])
 ·unfold upd
  obtain⟨j,hj⟩:=List.getElem?_of_mem he;by_cases hij:i=j
  ·subst hij
   rw[aPT hlt] at hj;cases hj;rw[if_pos rfl]
  ·rw[aPO hij] at hj
   have hne:e.1≠k:=λhh=>by
    have h1:(es.map (·.1))[i]? =some k:=by rw[aP0,hi];rfl
    have h2:(es.map (·.1))[j]? =some k:=by rw[aP0,hj,<-hh];rfl
    have l1:=(aPN.mp h1);have l2:=(aPN.mp h2);exact hij ((List.getElem_inj h.keys).mp (l1.2.trans l2.2.symm))
   rw[if_neg hne];exact h.yes e (aPX hj)
theorem MapI.aMO {es:List (κ×Value×Nat)}{clock:Nat}(h:MapI enc es clock f){k:κ}(v:Value)(hf:f k=none):MapI enc (es++[(k,v,clock)]) (clock+1) (upd f k (some v)):=by
 have hno:=(h.no k).mp hf;refine⟨?_,?_,λe he=> ?_,λk'=> ?_,λe he=> ?_⟩
 ·rw[List.map_append,List.nodup_append]
  refine⟨h.keys,by simp,λa ha b hb hab=> ?_⟩
  obtain⟨e,he,rfl⟩:=aQq.mp ha;simp at hb;exact hno e he (hab.trans hb)
 ·rw[List.map_append,List.nodup_append]
  refine⟨h.born,by simp,λa ha b hb hab=> ?_⟩
  obtain⟨e,he,rfl⟩:=aQq.mp ha;have:=h.lt e he;simp at hb;omega
 ·rcases List.mem_append.mp he with he|he
  ·have:=h.lt e he
   omega
  ·rw[List.mem_singleton] at he
   subst he;simp
 ·unfold upd
  by_cases hk:k'=k
  ·rw[if_pos hk]
   constructor
   ·intro hh;cases hh
   ·intro hh
    exact absurd hk.symm (hh (k,v,clock) (by simp))
  ·rw[if_neg hk,h.no k']
   constructor
   ·intro hh e he hek
    rcases List.mem_append.mp he with he|he
    ·exact hh e he hek
    ·rw[List.mem_singleton] at he
     subst he;exact hk hek.symm
   ·intro hh e he
    exact hh e (by simp[he])
 ·unfold upd
  rcases List.mem_append.mp he with he|he
  ·rw[if_neg (hno e he)]
   exact h.yes e he
  ·rw[List.mem_singleton] at he
   subst he;rw[if_pos rfl]
theorem MapI.aMN {es:List (κ×Value×Nat)}{clock:Nat}(h:MapI enc es clock f){k:κ}{v0:Value}{i b:Nat}(hi:es[i]? =some (k,v0,b)):MapI enc (es.eraseIdx i) clock (upd f k none):=by
 have hsub:=List.eraseIdx_sublist es i;have hlt:=(aPN.mp hi).1;have hin: ∀e,e∈es.eraseIdx i↔e∈es/\e.1≠k:=by
  intro e;constructor
  ·intro he
   refine⟨hsub.subset he,λhek=> ?_⟩
   obtain⟨j,hj⟩:=List.getElem?_of_mem he;rw[List.getElem?_eraseIdx] at hj;obtain⟨j',hj',hne⟩: ∃j':Nat,es[j']? =some e/\j'≠i:=by
    by_cases hji:j<i
    ·rw[if_pos hji] at hj
     exact⟨j,hj,by omega⟩
    ·rw[if_neg hji] at hj
     exact⟨j+1,hj,by omega⟩
   have h1:(es.map (·.1))[i]? =some k:=by rw[aP0,hi];rfl
   have h2:(es.map (·.1))[j']? =some k:=by rw[aP0,hj',<-hek];rfl
   have l1:=(aPN.mp h1);have l2:=(aPN.mp h2);exact hne ((List.getElem_inj h.keys).mp (l2.2.trans l1.2.symm))
  ·rintro ⟨he,hek⟩
   obtain⟨j,hj⟩:=List.getElem?_of_mem he;have hne:j≠i:=by
    rintro rfl
    rw[hi] at hj;cases hj;exact hek rfl
   by_cases hji:j<i
   ·exact aPX (i:=j) (by rw[List.getElem?_eraseIdx,if_pos hji,hj])
   ·refine aPX (i:=j-1) ?_
    rw[List.getElem?_eraseIdx,if_neg U,show j-1+1=j by omega,hj]
 refine⟨(hsub.map _).nodup h.keys,(hsub.map _).nodup h.born,λe he=>h.lt e ((hin e).mp he).1,λk'=> ?_,λe he=> ?_⟩
 ·unfold upd
  by_cases hk:k'=k
  ·rw[if_pos hk]
   exact⟨λ_ e he hek=>((hin e).mp he).2 (hek.trans hk),λ_=>rfl⟩
  ·rw[if_neg hk,h.no k']
   constructor
   ·intro hh e he
    exact hh e ((hin e).mp he).1
   ·intro hh e he hek
    exact hh e ((hin e).mpr ⟨he,by rw[hek];exact hk⟩) hek
 ·unfold upd
  rw[if_neg ((hin e).mp he).2];exact h.yes e ((hin e).mp he).1
theorem Gb (es:List (κ×Value×Nat))(i:Nat)(e:κ×Value×Nat):(es.map (lY enc)).set i (lY enc e)=(es.set i e).map (lY enc):=by rw[List.map_set]
theorem IsMap.aMM (hk:KeyC kt enc)(h:IsMap enc H mb f)(k:κ)(v:Value)(hf:f k≠none): ∃X,sN kt (.map (some mb)) (enc k) v H=some (undef,H.set mb X)/\IsMap enc (H.set mb X) mb (upd f k (some v))/\ ∃es c,X= .map es c:=by
 obtain⟨es,c,h1,h2⟩:=h;obtain⟨v0,hv0⟩:=Option.ne_none_iff_exists'.mp hf;obtain⟨i,b,hi⟩:=h2.Ga hv0;have hlt:=(aPN.mp h1).1;refine⟨.map ((es.set i (k,v,b)).map (lY enc)) c,?_,⟨_,c,by rw[aPT hlt],h2.Pg hi⟩,_,_,rfl⟩
 unfold sN;rw[if_pos (Bm hk k)];simp only;rw[h1];simp only;have:=Bl hk es i 0 _ h2.keys hi;simp only at this;rw[this];simp only[aP8];rw[<-Gb];rfl
theorem IsMap.aMJ (hk:KeyC kt enc)(h:IsMap enc H mb f)(k:κ)(hf:f k≠none): ∃X,sM kt (.map (some mb)) (enc k) H=some (.tuple #[],H.set mb X)/\IsMap enc (H.set mb X) mb (upd f k none)/\ ∃es c,X= .map es c:=by
 obtain⟨es,c,h1,h2⟩:=h;obtain⟨v0,hv0⟩:=Option.ne_none_iff_exists'.mp hf;obtain⟨i,b,hi⟩:=h2.Ga hv0;have hlt:=(aPN.mp h1).1;refine⟨.map ((es.eraseIdx i).map (lY enc)) c,?_,⟨_,c,by rw[aPT hlt],h2.aMN hi⟩,_,_,rfl⟩
 unfold sM;rw[if_pos (Bm hk k)];simp only;rw[h1];simp only;have:=Bl hk es i 0 _ h2.keys hi;simp only at this;rw[this];simp only[aP8];rw[aAr]
theorem aAq (es:List (κ×Value×Nat))(hn:(es.map (·.2.2)).Nodup){i:Nat}{e:κ×Value×Nat}(hi:es[i]? =some e):(es.map (lY enc)).findIdx? (λx=>(x.born:Int)==(e.2.2:Int))=some i:=by
 have hlt:=(aPN.mp hi).1;have he:=(aPN.mp hi).2;rw[List.findIdx?_eq_some_iff_getElem];refine⟨by simpa using hlt,?_,λj hji=> ?_⟩
 ·simp[lY,he]
 ·have hne:es[j].2.2≠e.2.2:=λhh=>by
   have h1:(es.map (·.2.2))[i]'(by simpa using hlt)=e.2.2:=by simp[he]
   have h2:(es.map (·.2.2))[j]'(by simp;omega)=e.2.2:=by simp[hh]
   have:=(List.getElem_inj hn).mp (h1.trans h2.symm);omega
  simp[lY];omega
theorem IsMap.aMK (hk:KeyC kt enc)(h:IsMap enc H mb f)(k:κ)(z:Value): ∃(b:Nat)(X:Blk),rR kt z (.map (some mb)) (enc k) H=some (.tuple #[(f k).getD z,.int .i64 b],H.set mb X)/\(∃es c,X= .map es c)/\
  ∀(H2:aE)(v:Value),H2[mb]? =some X-> ∃X',rP (.map (some mb)) (.int .i64 b) v H2=some (undef,H2.set mb X')/\IsMap enc (H2.set mb X') mb (upd f k (some v))/\ ∃es c,X'= .map es c:=by
 obtain⟨es,c,h1,h2⟩:=h;cases hf:f k with
 |none=>
  refine⟨c,.map ((es++[(k,z,c)]).map (lY enc)) (c+1),?_,⟨_,_,rfl⟩,λH2 v hX=> ?_⟩
  ·unfold rR
   rw[if_pos (Bm hk k)];simp only;rw[h1];simp only;rw[Ph hk k es 0 ((h2.no k).mp hf)];simp[lY]
  ·have hp:=h2.aMO z hf
   have hi:(es++[(k,z,c)])[es.length]? =some (k,z,c):=by simp
   have hlt:=(aPN.mp hX).1;have hs:=hp.Pg (v:=v) hi;have hup:upd (upd f k (some z)) k (some v)=upd f k (some v):=by
    funext k'
    unfold upd
    split<;>rfl
   rw[hup] at hs;refine⟨.map (((es++[(k,z,c)]).set es.length (k,v,c)).map (lY enc)) (c+1),?_,⟨_,_,by rw[aPT hlt],hs⟩,_,_,rfl⟩
   unfold rP;simp only;rw[hX];simp only;have:=aAq (enc:=enc) (es++[(k,z,c)]) hp.born hi;simp only at this;rw[this];simp only;rw[aP0,hi];simp only[Option.map_some];rw[<-Gb];rfl
 |some v0=>
  obtain⟨i,b,hi⟩:=h2.Ga hf;have hset:es.set i (k,v0,b)=es:=by
   apply aQo;intro j;by_cases hj:i=j
   ·subst hj
    rw[aPT (aPN.mp hi).1,hi]
   ·rw[aPO hj]
  refine⟨b,.map (es.map (lY enc)) c,?_,⟨_,_,rfl⟩,λH2 v hX=> ?_⟩
  ·unfold rR
   rw[if_pos (Bm hk k)];simp only;rw[h1];simp only;have:=Bl hk es i 0 _ h2.keys hi;simp only at this;rw[this];simp only[aP8];have e1:(⟨enc k,(lY enc (k,v0,b)).val,(lY enc (k,v0,b)).born⟩:Ent)=lY enc (k,v0,b):=rfl;rw[e1,Gb,hset];rfl
  ·have hlt:=(aPN.mp hX).1
   refine⟨.map ((es.set i (k,v,b)).map (lY enc)) c,?_,⟨_,c,by rw[aPT hlt],h2.Pg hi⟩,_,_,rfl⟩
   unfold rP;simp only;rw[hX];simp only;have:=aAq (enc:=enc) es h2.born hi;simp only at this;rw[this];simp only;rw[aP0,hi];simp only[Option.map_some];rw[<-Gb];rfl
theorem IsMap.aML (H:aE):IsMap enc (H++[.map [] 0]) H.length (λ_=>none):=
 ⟨[],0,by simp,⟨by simp,by simp,by simp,λk=>by simp,λe he=>by simp at he⟩⟩
end
end Go.Abs
namespace Go.Proofs.YtkeilicinggjmaaGreatDoor.Rg
open Go.Proofs.Tryz
open Go.Abs Go.Abs.M
abbrev kQ:=Int×Int×Int
def nD (w:kQ):Value:= .agg #[.I w.1,.I w.2.1,.I w.2.2]
abbrev kW:KeyT:= .str [true,true,true]
theorem vM:KeyC kW nD:=⟨λa b=>by
 obtain⟨a1,a2,a3⟩:=a;obtain⟨b1,b2,b3⟩:=b;have h:((a1,a2,a3)=(b1,b2,b3))=(a1=b1/\a2=b2/\a3=b3):=by simp
 simp[kS,nD,eqT];by_cases h1:a1=b1<;>by_cases h2:a2=b2<;>by_cases h3:a3=b3<;>simp[h1,h2,h3]⟩
theorem bW (a b c:Int):bld prog 256 [(0,.I a),(1,.I b),(2,.I c)]=some (nD (a,b,c)):=rfl
theorem szI:prog.cellsOf 3=1:=by kernel_rfl
def AR (x:Blk):Prop:=match x with
 | .map _ _=>True
 | .dead=>True
 | .cells _ e k=>(e=244/\k= .fix)∨(e=247/\k= .row)∨(e=3/\k= .row)
def AS (x:Blk):Prop:=AR x∨match x with
 | .cells _ e k=>(e=54/\k= .fix)∨(e=181/\k= .fix)
 |_=>False
abbrev En:=kQ×Nat×Pkt
def qOf (L:List En)(w:kQ):List Nat:=(L.filter λe=>decide (e.1=w)).map (·.2.1)
def nY (L:List En)(w:kQ):List Pkt:=(L.filter λe=>decide (e.1=w)).map (·.2.2)
def mQ (k:Nat):Value:= .I k
theorem Pm (L:List En)(w:kQ):(qOf L w).length=(nY L w).length:=by simp[qOf,nY]
structure RI (H:aE)(a:Nat)(L:List En)(n ports lanes:Nat)(p s mb:Nat)(l:List jY)(top free:Int)(fl:List Nat)(f:kQ->Option Value):Prop where
 hd:H[a]? =some (.cells [.Q p 0,.map (some mb),.I ports,.I lanes] 181 .fix)
 pool:Model H p s l top free fl
 len:l.length=n
 cnt:L.length+fl.length=n
 nd:(L.map (·.2.1)).Nodup
 full: ∀e∈L,∃q d,l[e.2.1]? =some (some (q,e.2.2),d)
 mp:IsMap nD H mb f
 no: ∀w,f w=none->qOf L w=[]
 yes: ∀w v,f w=some v->RowO 3 H v ((qOf L w).map mQ)/\qOf L w≠[]
 sep: ∀w w' v v' b,f w=some v->f w'=some v'->w≠w'->cV v b-> ¬cV v' b
 b1:1<=n/\n<=200
 b2:ports<=16/\lanes<=3
def IsRings (H:aE)(a:Nat)(L:List En)(n ports lanes:Nat):Prop:= ∃p s mb l top free fl f,RI H a L n ports lanes p s mb l top free fl f
section
variable {H H' : aE} {a n ports lanes p s mb : Nat} {L : List En} {l : List jY} {top free : Int} {fl : List Nat} {f : kQ → Option Value}
theorem RI.Gc (h:RI H a L n ports lanes p s mb l top free fl f)(hk: ∀(b:Nat)(x:Blk),H[b]? =some x->AS x->H'[b]? =some x):RI H' a L n ports lanes p s mb l top free fl f:=by
 refine⟨hk _ _ h.hd (.inr (.inr ⟨rfl,rfl⟩)),⟨⟨hk _ _ h.pool.pool.hp (.inl (.inl ⟨rfl,rfl⟩)),hk _ _ h.pool.pool.hs (.inl (.inr (.inl ⟨rfl,rfl⟩))),λi q x d hi=>hk _ _ (h.pool.pool.hq i q x d hi) (.inr (.inl ⟨rfl,rfl⟩))⟩,h.pool.chain,h.pool.nodup,h.pool.full,h.pool.cnt,h.pool.len⟩,
  h.len,h.cnt,h.nd,h.full,?_,h.no,λw v hv=>⟨?_,(h.yes w v hv).2⟩,h.sep,h.b1,h.b2⟩
 ·obtain⟨es,c,h1,h2⟩:=h.mp
  exact⟨es,c,hk _ _ h1 (.inl trivial),h2⟩
 ·refine(h.yes w v hv).1.sZ λb hb=> ?_
  obtain⟨xs,hx⟩:=(h.yes w v hv).1.blk hb;rw[hx];exact hk _ _ hx (.inl (.inr (.inr ⟨rfl,rfl⟩)))
theorem RI.app (h:RI H a L n ports lanes p s mb l top free fl f)(G:aE):RI (H++G) a L n ports lanes p s mb l top free fl f:=h.Gc λb x hx _=>(Ch.app (λ_=>False) H G).2 b x hx id
theorem IsRings.app (h:IsRings H a L n ports lanes)(G:aE):IsRings (H++G) a L n ports lanes:=by
 obtain⟨p,s,mb,l,top,free,fl,f,hi⟩:=h
 exact⟨p,s,mb,l,top,free,fl,f,hi.app G⟩
theorem RI.ld0 (h:RI H a L n ports lanes p s mb l top free fl f):ld1 (.Q a 0) H=some (.Q p 0,H):=by rw[kC,h.hd];rfl
theorem RI.ld1 (h:RI H a L n ports lanes p s mb l top free fl f):ld1 (.Q a 1) H=some (.map (some mb),H):=by rw[kC,h.hd];rfl
theorem RI.ld2 (h:RI H a L n ports lanes p s mb l top free fl f):Go.Abs.ld1 (.Q a 2) H=some (.I ports,H):=by rw[kC,h.hd];rfl
theorem RI.ld3 (h:RI H a L n ports lanes p s mb l top free fl f):Go.Abs.ld1 (.Q a 3) H=some (.I lanes,H):=by rw[kC,h.hd];rfl
end
theorem Pk (L:List En)(e:En)(w:kQ):qOf (e::L) w=if e.1=w then e.2.1::qOf L w else qOf L w:=by
 unfold qOf;by_cases h:e.1=w<;>simp[h]
theorem aAs (L:List En)(e:En)(w:kQ):nY (e::L) w=if e.1=w then e.2.2::nY L w else nY L w:=by
 unfold nY;by_cases h:e.1=w<;>simp[h]
theorem Pj (L:List En)(e:En)(w:kQ):qOf (L++[e]) w=if e.1=w then qOf L w++[e.2.1] else qOf L w:=by
 unfold qOf;by_cases h:e.1=w<;>simp[List.filter_append,h]
def nN (L:List En)(w:kQ):List En:=L.eraseP λe=>decide (e.1=w)
theorem Bn (w w':kQ): ∀L:List En,qOf (nN L w) w'=if w=w' then(qOf L w').tail else qOf L w'
 |[]=>by simp[nN,qOf]
 |e::L=>by
  have ih:=Bn w w' L;unfold nN at ih⊢;by_cases h:e.1=w
  ·simp only[List.eraseP_cons,h,decide_true,cond_true,Pk]
   by_cases hw:w=w'
   ·simp[hw]
   ·simp[hw]
  ·simp only[List.eraseP_cons,h,decide_false,cond_false,Pk,ih]
   by_cases hw:w=w'
   ·subst hw
    simp[h]
   ·simp[hw]
theorem Pi {w:kQ}: ∀{L:List En}{k:Nat}{ks:List Nat},qOf L w=k::ks-> ∃x xs,nY L w=x::xs/\(w,k,x)∈L/\L.length=(nN L w).length+1/\ ∀e,e∈nN L w->e∈L/\((L.map (·.2.1)).Nodup->e.2.1≠k)
 |[],k,ks,h=>by simp[qOf] at h
 |e::L,k,ks,h=>by
  obtain⟨we,ke,xe⟩:=e;rw[Pk] at h;by_cases hw:we=w
  ·subst hw
   simp only[if_pos] at h;cases h;refine⟨xe,nY L we,by rw[aAs];simp,by simp,by simp[nN],λe he=> ?_⟩
   have he':e∈L:=by simpa[nN] using he
   refine⟨by simp[he'],λhn=> ?_⟩
   simp only[aQi,List.nodup_cons] at hn;intro hh;exact hn.1 (by rw[<-hh];exact List.mem_map_of_mem he')
  ·simp only[hw,if_false] at h
   obtain⟨x,xs,h1,h2,h3,h4⟩:=Pi h;refine⟨x,xs,by rw[aAs];simp[hw,h1],by simp[h2],by simp[nN,hw] at h3 ⊢; omega,λe he=> ?_⟩
   have he':e=(we,ke,xe)∨e∈nN L w:=by
    simp only[nN,List.eraseP_cons,hw,decide_false,cond_false] at he;simpa[nN] using he
   rcases he' with rfl|he'
   ·refine⟨by simp,λhn=> ?_⟩
    simp only[aQi,List.nodup_cons] at hn;intro hh;exact hn.1 (by rw[show ke=k from hh];exact List.mem_map_of_mem h2)
   ·obtain⟨g1,g2⟩:=h4 e he'
    refine⟨by simp[g1],λhn=> ?_⟩
    simp only[aQi,List.nodup_cons] at hn;exact g2 hn.2
abbrev pk8:jA:=pkN
theorem bRg (p mb:Nat)(a b:Int):bld prog 181 [(0,.Q p 0),(1,.map (some mb)),(2,.I a),(3,.I b)]=some (.agg #[.Q p 0,.map (some mb),.I a,.I b]):=rfl
theorem aMQ (H:aE):pV H=some (.map (some H.length),H++[.map [] 0]):=rfl
theorem aMP (H:aE)(k:Int):dG 3 1 1 [.I 0] [(0,.I k)] H=some (.slice (some ⟨H.length,0,none⟩) 1 1,H++[.cells [.I k] 3 .row]):=rfl
theorem Po (a b c:Int):lZ prog false [.I a,.I b,.I c]=some (.I (min (min a b) c)):=by
 simp[lZ,eG,iZ,pur,Builtin.min_,Builtin.min2,pure,bind,Sem.bind]
 split<;>split<;>omega
theorem Pn (a b:Int):lZ prog true [.I a,.I b]=some (.I (max a b)):=by
 simp[lZ,eG,iZ,pur,Builtin.max_,Builtin.max2,pure,bind,Sem.bind]
 split<;>omega
def rH (w:kQ)(ports lanes:Nat):Bool:=decide (0<=min (min w.1 w.2.1) w.2.2)&&decide (max w.1 w.2.1<(ports:Int))&&decide (w.2.2<(lanes:Int))
theorem Model.aAt {H H':aE}{p s:Nat}{l:List jY}{top free:Int}{fl:List Nat}(h:Model H p s l top free fl)
  (hk: ∀(b:Nat)(cs:List Value)(e:TypeId)(k:Kind),H[b]? =some (.cells cs e k)->(e=244/\k= .fix)∨(e=247/\k= .row)∨(e=54/\k= .fix)->H'[b]? =some (.cells cs e k)):Model H' p s l top free fl:=
 ⟨⟨hk _ _ _ _ h.pool.hp (.inl ⟨rfl,rfl⟩),hk _ _ _ _ h.pool.hs (.inr (.inl ⟨rfl,rfl⟩)),λi q x d hi=>hk _ _ _ _ (h.pool.hq i q x d hi) (.inr (.inr ⟨rfl,rfl⟩))⟩,h.chain,h.nodup,h.full,h.cnt,h.len⟩
section
variable {H : aE} {a n ports lanes m : Nat} {L : List En}
theorem aMS (hm:300<m)(po la sl:Nat)(h:1<=po/\po<=16/\1<=la/\la<=3/\1<=sl/\sl<=200): ∃a H',lvl prog pk8 m (.func 41) [.I po,.I la,.I sl] H=some (.Q a 0,H')/\Ext H H'/\IsRings H' a [] sl po la/\H.length<=a:=by
 have g:=aMB (H:=H) (pr:=pk8) (cT rfl) sl U U (m:=m-1) U
 have hM:=((aMI (H:=H) sl U U).app [Blk.map [] 0]).app [.cells [.pointer (some ⟨H.length+1,0,none⟩),.map (some (lX H (lA sl)).length),.int .i64 po,.int .i64 la] 181 .fix]
 have e1:decide ((po:Int)<1)=false:=aQx U
 have e2:decide (16<(po:Int))=false:=aQx U
 have e3:decide ((la:Int)<1)=false:=aQx U
 have e4:decide (3<(la:Int))=false:=aQx U
 have hl:(lX H (lA sl)).length=H.length+2:=by simp[lX]
 refine⟨(lX H (lA sl)++[Blk.map [] 0]).length,lX H (lA sl)++[Blk.map [] 0]++[Blk.cells [.pointer (some ⟨H.length+1,0,none⟩),.map (some (lX H (lA sl)).length),.int .i64 po,.int .i64 la] 181 .fix],dI (cT rfl) U ?_,?_,
  ⟨H.length+1,H.length,(lX H (lA sl)).length,lA sl,0,sl,List.range sl,λ_=>none,by simp,hM,F7 sl,by simp,by simp,by simp,?_,λw _=>rfl,by simp,by simp,by omega,by omega⟩,by simp[hl];omega⟩
 ·rw[aMl]
  simp -implicitDefEqProofs only[g,e22,b_lss,b_gtr,e1,e2,e3,e4,r_opt,r_ret,ob_some,r_gdff,r_gdff2,pick_f,iteV_false,aMQ,bRg,x_newB,oneOf_one];rfl
 ·unfold lX
  rw[aPU,aPU];exact Fr.app _ _ _
 ·have h0:=IsMap.aML (enc:=nD) (lX H (lA sl))
  refine h0.aAp ?_;rw[aPQ (by simp)]
theorem aAv (h:IsRings H a L n ports lanes)(hm:0<m)(w:kQ):lvl prog pk8 m (.func 142) [.Q a 0,nD w] H=some (.bool (rH w ports lanes),H++[.cells [.I w.1,.I w.2.1,.I w.2.2] 256 .fix]):=by
 obtain⟨p,s,mb,l,top,free,fl,f,hi⟩:=h;have hi':=hi.app [.cells [.I w.1,.I w.2.1,.I w.2.2] 256 .fix];have l2:=hi'.ld2;have l3:=hi'.ld3;have x0:ld1 (.Q H.length 0) (H++[.cells [.I w.1,.I w.2.1,.I w.2.2] 256 .fix])=some (.I w.1,H++[.cells [.I w.1,.I w.2.1,.I w.2.2] 256 .fix]):=by rw[kC,uV];rfl
 have x1:ld1 (.Q H.length 1) (H++[.cells [.I w.1,.I w.2.1,.I w.2.2] 256 .fix])=some (.I w.2.1,H++[.cells [.I w.1,.I w.2.1,.I w.2.2] 256 .fix]):=by rw[kC,uV];rfl
 have x2:ld1 (.Q H.length 2) (H++[.cells [.I w.1,.I w.2.1,.I w.2.2] 256 .fix])=some (.I w.2.2,H++[.cells [.I w.1,.I w.2.1,.I w.2.2] 256 .fix]):=by rw[kC,uV];rfl
 have hc:(Value.cells (nD w)).toList=[.I w.1,.I w.2.1,.I w.2.2]:=rfl;refine dI (cT rfl) U ?_
 rw[aMj];unfold rH;rw[hc];by_cases h1:0<=min (min w.1 w.2.1) w.2.2
 ·have e1:decide (0<=min (min w.1 w.2.1) w.2.2)=true:=aQw h1
  by_cases h2:max w.1 w.2.1<(ports:Int)
  ·have e2:decide (max w.1 w.2.1<(ports:Int))=true:=aQw h2
   simp -implicitDefEqProofs only[x_newB,r_fAddr,r_nil,aP8,Nat.add_zero,x0,x1,x2,l2,l3,Po,Pn,b_geq,b_lss,e1,e2,r_opt,r_ret,ob_some,ifB_true,r_gdt,r_gdt2,pick_t,oneOf_one,aQa]
  ·have e2:decide (max w.1 w.2.1<(ports:Int))=false:=aQx h2
   simp -implicitDefEqProofs only[x_newB,r_fAddr,r_nil,aP8,Nat.add_zero,x0,x1,x2,l2,l3,Po,Pn,b_geq,b_lss,e1,e2,r_opt,r_ret,ob_some,ifB_true,r_gdt,r_gdt2,r_gdft,r_gdft2,r_gdu,r_gdu2,pick_t,pick_f,oneOf_one,aQa,Bool.false_and]
 ·have e1:decide (0<=min (min w.1 w.2.1) w.2.2)=false:=aQx h1
  simp -implicitDefEqProofs only[x_newB,r_fAddr,r_nil,aP8,Nat.add_zero,x0,x1,x2,l2,l3,Po,Pn,b_geq,b_lss,e1,r_opt,r_ret,ob_some,ifB_true,r_gdft,r_gdft2,r_gdu,r_gdu2,pick_f,oneOf_one,Bool.false_and]
theorem aMR (h:IsRings H a L n ports lanes)(hm:0<m)(i o k:Int):lvl prog pk8 m (.func 96) [.Q a 0,.I i,.I o,.I k] H=some (.I (qOf L (i,o,k)).length,H):=by
 obtain⟨p,s,mb,l,top,free,fl,f,hi⟩:=h;have l1:=hi.ld1;have g:=hi.mp.Bk vM (i,o,k) (.slice none 0 0);refine dI (cT rfl) U ?_
 rw[aMp];cases hf:f (i,o,k) with
 |none=>
  rw[hf] at g;simp only[Option.getD_none] at g;rw[hi.no _ hf];simp -implicitDefEqProofs only[r_nil,r_fAddr,aP8,l1,bW,g,I5,r_opt,ob_some,oneOf_one];rfl
 |some v=>
  rw[hf] at g;simp only[aQg] at g;have hl:=(hi.yes _ v hf).1.Jo;rw[aP1] at hl;simp -implicitDefEqProofs only[r_nil,r_fAddr,aP8,l1,bW,g,hl,r_opt,ob_some,oneOf_one]
theorem Pp (H:aE)(x:Pkt):stN 4 (.Q H.length 0) x.dR (H++[pkB pk0])=some (undef,H++[pkB x]):=by
 rw[F9,uV,aAi,Pd]
theorem vN {H:aE}{b:Nat}{x:Pkt}(h:H[b]? =some (pkB x)):ldN 4 (.Q b 0) H=some (x.dR,H):=by
 rw[qU,h,aMw]
theorem Pr {H:aE}{b:Nat}{y x:Pkt}(h:H[b]? =some (pkB y)):stN 4 (.Q b 0) x.dR H=some (undef,H.set b (pkB x)):=by
 rw[F9,h,aAi]
def uD (ps:List Pkt):Value:= .tuple #[(ps.headD pk0).dR,.bool (!ps.isEmpty)]
theorem aAu (h:IsRings H a L n ports lanes)(hm:10<m)(i o k:Int): ∃H',lvl prog pk8 m (.func 151) [.Q a 0,.I i,.I o,.I k] H=some (uD (nY L (i,o,k)),H')/\Ext H H':=by
 obtain⟨p,s,mb,l,top,free,fl,f,hi⟩:=h;have hi1:=hi.app [pkB pk0];have l1:=hi1.ld1;have l0:=hi1.ld0;have g:=hi1.mp.Bk vM (i,o,k) (.slice none 0 0);cases hf:f (i,o,k) with
 |none=>
  rw[hf] at g;simp only[Option.getD_none] at g;have hq:=hi.no _ hf;have hp:nY L (i,o,k)=[]:=aP5.mp (by rw[<-Pm,hq];rfl)
  rw[hp];refine⟨H++[pkB pk0],dI (cT rfl) U ?_,Fr.app _ _ _⟩
  rw[Z6];have e1:((0:Int)==0)=true:=rfl;have hl:ldN 4 (.Q H.length 0) (H++[pkB pk0])=some (pk0.dR,H++[pkB pk0]):=vN (by simp)
  simp -implicitDefEqProofs only[xD,x_newB,r_nil,r_fAddr,aP8,l1,bW,g,I5,b_eql,e1,aAf,Pp,hl,r_opt,ob_some,iteV_true,oneOf_two];rfl
 |some v=>
  rw[hf] at g;simp only[aQg] at g;obtain⟨hr,hne⟩:=hi1.yes _ v hf;obtain⟨k0,ks,hq⟩: ∃k0 ks,qOf L (i,o,k)=k0::ks:=by
   cases hx:qOf L (i,o,k) with
   |nil=>exact absurd hx hne
   |cons a b=>exact⟨a,b,rfl⟩
  obtain⟨x,xs,hp,hin,hlen,hrest⟩:=Pi hq;rw[hq] at hr;rw[hp];have hl:=hr.Jo;obtain⟨bb,oo,g1,g2,g3⟩:=hr.Tp (i:=0) (x:=mQ k0) rfl .i64;obtain⟨q,d,hslot⟩:=hi.full _ hin;have hg:=aMv (pr:=pk8) (cT rfl) (cT rfl) hi1.pool.pool (m:=m-1) U k0 q x d hslot
  have e1:((((k0::ks).map mQ).length:Int)==0)=false:=by simp;omega
  have hst:stN 4 (.Q H.length 0) x.dR (H++[pkB pk0]++[pkB x])=some (undef,H++[pkB x]++[pkB x]):=by
   rw[Pr (y:=pk0) (by rw[aPQ (by simp)];simp)]
   simp
  have hld:ldN 4 (.Q H.length 0) (H++[pkB x]++[pkB x])=some (x.dR,H++[pkB x]++[pkB x]):=vN (by rw[aPQ (by simp)];simp)
  refine⟨H++[pkB x]++[pkB x],dI (cT rfl) U ?_,by rw[aPU];exact Fr.app _ _ _⟩
  rw[Z6];have g1':cB 1 v (.I 0)=some (.Q bb oo):=g1;have hk0:mQ k0= .I k0:=rfl;simp -implicitDefEqProofs only[xD,x_newB,r_nil,r_fAddr,aP8,Nat.add_zero,l0,l1,bW,g,hl,b_eql,e1,g1',g3 _ rfl,hk0,hg,ext_0,ext_1,hst,hld,r_opt,ob_some,ifB_true,iteV_false,oneOf_two];rfl
end
theorem Ps (w:kQ)(H:aE):stN 3 (.Q H.length 0) (nD w) (H++[.cells [.I 0,.I 0,.I 0] 256 .fix])=some (undef,H++[.cells [.I w.1,.I w.2.1,.I w.2.2] 256 .fix]):=by
 have hc:(Value.cells (nD w)).toList=[.I w.1,.I w.2.1,.I w.2.2]:=rfl;rw[mB 3 _ _ _ rfl,uV,hc,nG _ _ _ _ _ _ aC (by simp) rfl]
 simp[eK]
theorem zE {H:aE}{b:Nat}{w:kQ}(h:H[b]? =some (.cells [.I w.1,.I w.2.1,.I w.2.2] 256 .fix)):ldN 3 (.Q b 0) H=some (nD w,H):=by
 rw[qU,h,rW _ _ _ _ _ (by simp)]
 rfl
section
variable {H : aE} {a n ports lanes m : Nat} {L : List En}
theorem RI.aAw {H1:aE}{p s mb:Nat}{l:List jY}{top free:Int}{fl:List Nat}{f:kQ->Option Value}(hi:RI H a L n ports lanes p s mb l top free fl f)(hs: ∀b,b<H.length->b≠p->b≠s->H1[b]? =H[b]?):
  (∀(b:Nat)(x:Blk),H[b]? =some x->(∀cs,x≠ .cells cs 244 .fix)->(∀cs,x≠ .cells cs 247 .row)->H1[b]? =some x):=by
 intro b x hx h1 h2;have hlt:=(aPN.mp hx).1;have hp:b≠p:=λhh=>by
  subst hh;rw[hi.pool.pool.hp] at hx;cases hx;exact h1 _ rfl
 have hss:b≠s:=λhh=>by
  subst hh;rw[hi.pool.pool.hs] at hx;cases hx;exact h2 _ rfl
 rw[hs b hlt hp hss,hx]
theorem aMT (h:IsRings H a L n ports lanes)(hm:100<m)(w:kQ)(x:Pkt)(hno:rH w ports lanes=false∨n<=L.length):
  ∃H',lvl prog pk8 m (.func 98) [.Q a 0,.I w.1,.I w.2.1,.I w.2.2,x.dR] H=some (.bool false,H')/\Ext H H':=by
 obtain⟨hw,hH⟩: ∃WB:Blk,WB= .cells [.int .i64 w.1,.int .i64 w.2.1,.int .i64 w.2.2] 256 .fix:=⟨_,rfl⟩;have h2:=(h.app [pkB x]).app [hw];have hr:=aAv h2 (m:=m-1) U w
 have hx:Blk.cells (Value.cells x.dR).toList 54 .fix=pkB x:=rfl;have hb:=bW w.1 w.2.1 w.2.2;have hst:=Ps w (H++[pkB x]);rw[<-hH] at hst hr;have hld:ldN 3 (.pointer (some ⟨(H++[pkB x]).length,0,none⟩)) (H++[pkB x]++[hw])=some (nD w,H++[pkB x]++[hw]):=zE (by rw[uV,hH])
 cases hv:rH w ports lanes with
 |false=>
  rw[hv] at hr;refine⟨H++[pkB x]++[hw]++[hw],dI (cT rfl) U ?_,by rw[aPU,aPU];exact Fr.app _ _ _⟩
  rw[O9];simp -implicitDefEqProofs only[x_newB,hx,hb,hst,hld,hr,u_not,Bool.not_false,r_opt,ob_some,iteV_true,oneOf_one]
 |true=>
  have hcnt:n<=L.length:=by
   rcases hno with hno|hno
   ·rw[hv] at hno;cases hno
   ·exact hno
  rw[hv] at hr;obtain⟨p,s,mb,l,top,free,fl,f,hi⟩:=h2.app [hw];have hfl:fl=[]:=by
   have:=hi.cnt;exact aP5.mp U
  subst hfl;have hp:=hi.pool.aMG (pr:=pk8) (cT rfl) (m:=m-1) U x
  have l0:=hi.ld0;have hldx:ldN 4 (.Q H.length 0) (H++[pkB x]++[hw]++[hw])=some (x.dR,H++[pkB x]++[hw]++[hw]):=vN (by rw[aPU,aPU,aP7 (aPS _)];simp)
  refine⟨H++[pkB x]++[hw]++[hw]++[pkB x],dI (cT rfl) U ?_,by rw[aPU,aPU,aPU];exact Fr.app _ _ _⟩
  rw[O9];simp -implicitDefEqProofs only[x_newB,hx,hb,hst,hld,hr,u_not,Bool.not_true,r_opt,ob_some,ifB_true,iteV_false,r_nil,r_fAddr,aP8,l0,hldx,hp,ext_0,ext_1,oneOf_one]
theorem aMU (h:IsRings H a L n ports lanes)(hm:100<m)(w:kQ)(x:Pkt)(hv:rH w ports lanes=true)(hn:L.length<n):
    ∃H' k,lvl prog pk8 m (.func 98) [.Q a 0,.I w.1,.I w.2.1,.I w.2.2,x.dR] H=some (.bool true,H')/\Ch AR H H'/\IsRings H' a (L++[(w,k,x)]) n ports lanes:=by
  obtain⟨hw,hH⟩: ∃WB:Blk,WB= .cells [.int .i64 w.1,.int .i64 w.2.1,.int .i64 w.2.2] 256 .fix:=⟨_,rfl⟩;have h2:=(h.app [pkB x]).app [hw];have hr:=aAv h2 (m:=m-1) U w
  have hx:Blk.cells (Value.cells x.dR).toList 54 .fix=pkB x:=rfl;have hb:=bW w.1 w.2.1 w.2.2;have hst:=Ps w (H++[pkB x]);rw[<-hH] at hst hr;have hld:ldN 3 (.pointer (some ⟨(H++[pkB x]).length,0,none⟩)) (H++[pkB x]++[hw])=some (nD w,H++[pkB x]++[hw]):=zE (by rw[uV,hH])
  rw[hv] at hr;obtain⟨H0,hH0⟩:=aD (H++[pkB x]++[hw]++[hw]);have hc0:Ch AR H H0:=by rw[hH0,aPU,aPU];exact Ch.app _ _ _
  have h3:=h2.app [hw];rw[<-hH0] at h3 hr;obtain⟨p,s,mb,l,top,free,fl,f,hi⟩:=h3;have hWat:H0[(H++[pkB x]).length]? =some hw:=by rw[hH0,aPQ (by simp),aP7 (aPS _)];simp
  obtain⟨k,ks,rfl⟩: ∃k ks,fl=k::ks:=by
    cases fl with
    |nil=>have:=hi.cnt;simp at this;omega
    |cons k ks=>exact⟨k,ks,rfl⟩
  obtain⟨H1,q,d,hp,hM1,hkl,hlen1,hsame⟩:=hi.pool.aMF (pr:=pk8) (cT rfl) (m:=m-1) U x
  have keep1:=hi.aAw hsame;have l0:=hi.ld0;have hldx:ldN 4 (.Q H.length 0) H0=some (x.dR,H0):=vN (by rw[hH0,aPU,aPU,aP7 (aPS _)];simp)
  have hd1:=keep1 _ _ hi.hd (λcs hh=>by cases hh) (λcs hh=>by cases hh)
  have l1:ld1 (.Q a 1) H1=some (.map (some mb),H1):=by rw[kC,hd1];rfl
  have hW1:H1[(H++[pkB x]).length]? =some hw:=keep1 _ _ hWat (λcs hh=>by rw[hH] at hh;cases hh) (λcs hh=>by rw[hH] at hh;cases hh)
  have hld1:ldN 3 (.Q ((H++[pkB x]).length) 0) H1=some (nD w,H1):=zE (by rw[hW1,hH])
  have hm1:IsMap nD H1 mb f:=by
    obtain⟨es,c,e1,e2⟩:=hi.mp
    exact⟨es,c,keep1 _ _ e1 (λcs hh=>by cases hh) (λcs hh=>by cases hh),e2⟩
  have hq1: ∀w' v,f w'=some v->RowO 3 H1 v ((qOf L w').map mQ):=λw' v hf=>by
    have:=(hi.yes w' v hf).1;refine this.sZ λb hb=> ?_
    obtain⟨xs,hxs⟩:=this.blk hb;rw[hxs,keep1 _ _ hxs (λcs hh=>by cases hh) (λcs hh=>by cases hh)]
  have hc1:Ch AR H0 H1:=⟨hlen1,λb y hy hn'=>keep1 b y hy (λcs hh=>hn' (by rw[hh];exact .inl ⟨rfl,rfl⟩)) (λcs hh=>hn' (by rw[hh];exact .inr (.inl ⟨rfl,rfl⟩)))⟩
  -- the slot's number, in a row of its own
  obtain⟨H2,hH2⟩:=aD (H1++[Blk.cells [mQ k] 3 .row]);have hbi:dG 3 1 1 [.int .i64 0] [(0,.int .i64 (k:Nat))] H1=some (.slice (some ⟨H1.length,0,none⟩) 1 1,H2):=by rw[hH2];exact aMP H1 k
  have hm2:IsMap nD H2 mb f:=hm1.aAp (by
    obtain⟨es,c,e1,e2⟩:=hm1;rw[hH2,aPQ (aPN.mp e1).1])
  obtain⟨born,X,hent,⟨xe,xc,hX⟩,hstore⟩:=hm2.aMK vM w (.slice none 0 0);obtain⟨H3,hH3⟩:=aD (H2.set mb X);rw[<-hH3] at hent;have hmblk: ∃es c,H2[mb]? =some (.map es c):=by
    obtain⟨es,c,e1,e2⟩:=hm2
    exact⟨_,_,e1⟩
  have hmlt:mb<H2.length:=by
    obtain⟨es,c,e1⟩:=hmblk
    exact(aPN.mp e1).1
  have hlen2:H2.length=H1.length+1:=by rw[hH2];simp
  have hlen3:H3.length=H1.length+1:=by rw[hH3];simp[hlen2]
  -- cells of H1 in H3
  have k13: ∀(b:Nat)(cs:List Value)(e:TypeId)(kk:Kind),H1[b]? =some (.cells cs e kk)->H3[b]? =some (.cells cs e kk):=by
    intro b cs e kk hb;have hlt:=(aPN.mp hb).1;have hb2:H2[b]? =some (.cells cs e kk):=by rw[hH2,aPQ hlt,hb]
    have hne:b≠mb:=λhh=>by
      subst hh;obtain⟨es,c,e1⟩:=hmblk;rw[hb2] at e1;cases e1
    rw[hH3,pH hne,hb2]
  have hX3:H3[mb]? =some X:=by rw[hH3,aPT hmlt]
  have hsrcb:H3[H1.length]? =some (.cells [mQ k] 3 .row):=by
    have hb2:H2[H1.length]? =some (.cells [mQ k] 3 .row):=by rw[hH2];simp
    have hne:H1.length≠mb:=λhh=>by
      obtain⟨es,c,e1⟩:=hmblk;rw[<-hh,hb2] at e1;cases e1
    rw[hH3,pH hne,hb2]
  have hsl:mJ (.slice (some ⟨H1.length,0,none⟩) 1 1)=some 1:=rfl;have hsc:jO 1 (.slice (some ⟨H1.length,0,none⟩) 1 1) 1 H3=some [mQ k]:=by simp[jO,hsrcb]
  have hall:dV [mQ k]=true:=rfl;have hqlen:(qOf L w).length<=200:=by
    have h1:(qOf L w).length<=L.length:=by simp[qOf,List.length_filter_le]
    have:=hi.cnt;have:=hi.b1;omega
  -- the queue grows
  obtain⟨v',H4,happ,hrow,hl4,hsame4,hhome,hnew⟩: ∃v' H4,app 3 1 8 ((f w).getD (.slice none 0 0)) (.slice (some ⟨H1.length,0,none⟩) 1 1) H3=some (v',H4)/\RowO 3 H4 v' ((qOf L w).map mQ++[mQ k])/\H3.length<=H4.length/\
      (∀b,b<H3.length-> ¬(∃v,f w=some v/\cV v b)->H4[b]? =H3[b]?)/\(∀b,cV v' b->(∃v,f w=some v/\cV v b)∨(H3.length<=b/\b<H4.length))/\True:=by
    cases hf:f w with
    |none=>
      obtain⟨g1,g2⟩:=aE0 (e:=3) (H:=H3) (by':=8) hsl hsc aC
      refine⟨_,_,g1,by rw[hi.no w hf];exact g2,by simp,λb hb _=>aPQ hb,?_,trivial⟩
      rintro b ⟨oo,nn,cc,hh⟩
      cases hh;exact .inr ⟨aPS _,by simp⟩
    |some v=>
      have hr3:RowO 3 H3 v ((qOf L w).map mQ):=(hq1 w v hf).sZ λb hb=>by
        obtain⟨xs,hxs⟩:=(hq1 w v hf).blk hb;rw[hxs,k13 _ _ _ _ hxs]
      obtain⟨v',H4,g1,g2,g3,g4,g5,g6⟩:=hr3.aEY (by':=8) hsl hsc (by simp[j7];omega) hall
      exact⟨v',H4,g1,g2,g3,λb hb hn=>g4 b hb λhh=>hn ⟨v,rfl,hh⟩,λb hb=>(g5 b hb).imp (λhh=>⟨v,rfl,hh⟩) id,trivial⟩
  have hnomb: ¬ ∃v,f w=some v/\cV v mb:=by
    rintro ⟨v,hf,hh⟩
    obtain⟨xs,hxs⟩:=(hq1 w v hf).blk hh;obtain⟨es,c,e1,e2⟩:=hm1;rw[hxs] at e1;cases e1
  have hX4:H4[mb]? =some X:=by rw[hsame4 mb U hnomb,hX3]
  obtain⟨X',hset,hm5,⟨ye,yc,hX'⟩⟩:=hstore H4 v' hX4
  -- what is not a map nor a row of ints stays from H1 on
  have k15: ∀(b:Nat)(cs:List Value)(e:TypeId)(kk:Kind),H1[b]? =some (.cells cs e kk)->(∀v,f w=some v-> ¬cV v b)->(H4.set mb X')[b]? =some (.cells cs e kk):=by
    intro b cs e kk hb hh;have hlt:=(aPN.mp hb).1;have h3:=k13 b cs e kk hb;have hne:b≠mb:=λhx=>by
      subst hx;rw[hX3,hX] at h3;cases h3
    rw[pH hne,hsame4 b U (λ⟨v,hf,hv⟩=>hh v hf hv),h3]
  have k15': ∀(b:Nat)(cs:List Value)(e:TypeId)(kk:Kind),H1[b]? =some (.cells cs e kk)-> ¬(e=3/\kk= .row)->(H4.set mb X')[b]? =some (.cells cs e kk):=λb cs e kk hb hne=>k15 b cs e kk hb λv hf hh=>by
    obtain⟨xs,hxs⟩:=(hq1 w v hf).blk hh;rw[hb] at hxs;cases hxs;exact hne ⟨rfl,rfl⟩
  refine⟨H4.set mb X',k,dI (cT rfl) U ?_,?_,⟨p,s,mb,l.set k (some (q,x),d),d,free-1,ks,upd f w (some v'),?_⟩⟩
  · rw[O9]
    simp -implicitDefEqProofs only[x_newB,hx,hb,hst,hld,hr,u_not,Bool.not_true,r_opt,ob_some,ifB_true,iteV_false,iteV_true,r_nil,r_fAddr,aP8,l0,hldx,hp,ext_0,ext_1,l1,hld1,hbi,hent,happ,hset,oneOf_one]
  · refine(hc0.wL hc1).wL ⟨by simp;omega,λb y hy hn'=> ?_⟩
    cases y with
    |map es c=>exact absurd trivial hn'
    |dead=>exact absurd trivial hn'
    |cells cs e kk=>exact k15' b cs e kk hy λhh=>hn' (.inr (.inr hh))
  · refine⟨k15' _ _ _ _ hd1 (by rintro ⟨hh,_⟩;revert hh;decide),hM1.aAt λb cs e kk hb hh=>k15' b cs e kk hb (by
      rintro ⟨h1,h2⟩
      subst h1 h2;rcases hh with⟨h1,_⟩|⟨h1,_⟩|⟨h1,_⟩<;>revert h1<;>decide),by simp[hi.len],by have:=hi.cnt;simp at this ⊢; omega,?_,?_,hm5,?_,?_,?_,hi.b1,hi.b2⟩
    · rw[List.map_append,List.nodup_append]
      refine⟨hi.nd,by simp,λy hy z hz hyz=> ?_⟩
      simp at hz;obtain⟨e,he,rfl⟩:=aQq.mp hy;obtain⟨q',d',hs⟩:=hi.full e he;obtain⟨d'',hf⟩:=(hi.pool.full k).mp (by simp)
      rw[hyz,hz,hf] at hs;cases hs
    · intro e he
      rcases List.mem_append.mp he with he|he
      · obtain⟨q',d',hs⟩:=hi.full e he
        have hne:k≠e.2.1:=λhh=>by
          obtain⟨d'',hf⟩:=(hi.pool.full k).mp (by simp)
          rw[hh,hs] at hf;cases hf
        exact⟨q',d',by rw[aPO hne,hs]⟩
      · rw[List.mem_singleton] at he
        subst he
        exact⟨q,d,aPT hkl⟩
    · intro w' hw'
      unfold upd at hw';by_cases hww:w'=w
      · rw[if_pos hww] at hw'
        cases hw'
      · rw[if_neg hww] at hw'
        rw[Pj,if_neg (λhh=>hww hh.symm)]
        exact hi.no w' hw'
    · intro w' v hw'
      unfold upd at hw';by_cases hww:w'=w
      · rw[if_pos hww] at hw'
        cases hw';subst hww;rw[Pj,if_pos rfl];refine⟨?_,by simp⟩
        rw[List.map_append];refine hrow.sZ λb hb=>pH λhh=> ?_
        subst hh;obtain⟨xs,hxs⟩:=hrow.blk hb;rw[hX4,hX] at hxs;cases hxs
      · rw[if_neg hww] at hw'
        rw[Pj,if_neg (λhh=>hww hh.symm)]
        refine⟨(hq1 w' v hw').sZ λb hb=> ?_,(hi.yes w' v hw').2⟩
        obtain⟨xs,hxs⟩:=(hq1 w' v hw').blk hb;rw[hxs,k15 b _ _ _ hxs λv2 hf2 hh=>hi.sep w' w v v2 b hw' hf2 hww hb hh]
    · intro w1 w2 v1 v2 b hf1 hf2 hne hh1 hh2
      have old: ∀w' v,f w'=some v->cV v b->b<H1.length:=λw' v hf hh=>by
        obtain⟨xs,hxs⟩:=(hq1 w' v hf).blk hh
        exact(aPN.mp hxs).1
      unfold upd at hf1 hf2;by_cases e1:w1=w
      · rw[if_pos e1] at hf1
        cases hf1;rw[if_neg (λhh=>hne (e1.trans hh.symm))] at hf2
        rcases hhome b hh1 with⟨v,hf,hh⟩|hh
        · exact hi.sep w w2 v v2 b hf hf2 (by rw[<-e1];exact hne) hh hh2
        · have:=old w2 v2 hf2 hh2
          omega
      · rw[if_neg e1] at hf1
        by_cases e2:w2=w
        · rw[if_pos e2] at hf2
          cases hf2;rcases hhome b hh2 with⟨v,hf,hh⟩|hh
          · exact hi.sep w1 w v1 v b hf1 hf e1 hh1 hh
          · have:=old w1 v1 hf1 hh1
            omega
        · rw[if_neg e2] at hf2
          exact hi.sep w1 w2 v1 v2 b hf1 hf2 hne hh1 hh2
end
section
variable {H : aE} {a n ports lanes m : Nat} {L : List En}
theorem RI.aMV {p s mb:Nat}{l:List jY}{top free:Int}{fl:List Nat}{f:kQ->Option Value}(hi:RI H a L n ports lanes p s mb l top free fl f){b:Nat}{y x:Pkt}(hb:H[b]? =some (pkB y))(hq: ∀(i q:Nat)(z:Pkt)(d:Int),l[i]? =some (some (q,z),d)->q≠b):
  RI (H.set b (pkB x)) a L n ports lanes p s mb l top free fl f:=by
 have keep: ∀(c:Nat)(z:Blk),H[c]? =some z->(∀cs,z≠ .cells cs 54 .fix)->(H.set b (pkB x))[c]? =some z:=λc z hc hz=>by
  rw[pH (λhh=>by subst hh;rw[hb] at hc;cases hc;exact hz _ rfl),hc]
 refine⟨keep _ _ hi.hd (λcs hh=>by cases hh),⟨⟨keep _ _ hi.pool.pool.hp (λcs hh=>by cases hh),keep _ _ hi.pool.pool.hs (λcs hh=>by cases hh),λi q z d hl=>by
  rw[pH (hq i q z d hl),hi.pool.pool.hq i q z d hl]⟩,hi.pool.chain,hi.pool.nodup,hi.pool.full,hi.pool.cnt,hi.pool.len⟩,hi.len,hi.cnt,hi.nd,hi.full,?_,hi.no,λw v hv=>⟨?_,(hi.yes w v hv).2⟩,hi.sep,hi.b1,hi.b2⟩
 ·obtain⟨es,c,h1,h2⟩:=hi.mp
  exact⟨es,c,keep _ _ h1 (λcs hh=>by cases hh),h2⟩
 ·refine(hi.yes w v hv).1.sZ λc hc=> ?_
  obtain⟨xs,hx⟩:=(hi.yes w v hv).1.blk hc;rw[hx];exact keep _ _ hx (λcs hh=>by cases hh)
theorem aMW (h:IsRings H a L n ports lanes)(hm:100<m)(i o k:Int)(hp:nY L (i,o,k)=[]):
  ∃H',lvl prog pk8 m (.func 106) [.Q a 0,.I i,.I o,.I k] H=some (uD [],H')/\Ext H H':=by
 obtain⟨H1,g1,g2⟩:=aAu (h.app [pkB pk0]) (m:=m-1) U i o k
 rw[hp] at g1;have hv:uD []= .tuple #[pk0.dR,.bool false]:=rfl;rw[hv] at g1;have hb0:H1[H.length]? =some (pkB pk0):=by rw[g2.2 H.length (by simp) id];simp
 have hl1:H.length<H1.length:=by have:=g2.1;simp at this;omega
 have hst:stN 4 (.Q H1.length 0) pk0.dR (H1++[pkB pk0])=some (undef,H1++[pkB pk0]):=Pp H1 pk0;have hld:ldN 4 (.Q H1.length 0) (H1++[pkB pk0])=some (pk0.dR,H1++[pkB pk0]):=vN (by simp)
 have hb1:(H1++[pkB pk0])[H.length]? =some (pkB pk0):=by rw[aPQ hl1,hb0]
 have hst2:stN 4 (.Q H.length 0) pk0.dR (H1++[pkB pk0])=some (undef,H1++[pkB pk0]):=by
  rw[Pr (y:=pk0) hb1,Ht hb1]
 have hld2:ldN 4 (.pointer (some ⟨H.length,0,none⟩)) (H1++[pkB pk0])=some (pk0.dR,H1++[pkB pk0]):=vN hb1;refine⟨H1++[pkB pk0],dI (cT rfl) U ?_,⟨by simp;omega,λb hb _=> ?_⟩⟩
 ·rw[O6]
  simp -implicitDefEqProofs only[xD,x_newB,g1,ext_0,ext_1,hst,hld,hst2,hld2,r_opt,ob_some,iteV_false,oneOf_two];rfl
 ·rw[aPQ U,g2.2 b (by simp;omega) id,aPQ hb]
theorem aMX (h:IsRings H a L n ports lanes)(hm:100<m)(i o k:Int){x:Pkt}{xs:List Pkt}(hp:nY L (i,o,k)=x::xs):
    ∃H',lvl prog pk8 m (.func 106) [.Q a 0,.I i,.I o,.I k] H=some (.tuple #[x.dR,.bool true],H')/\Ch AR H H'/\IsRings H' a (nN L (i,o,k)) n ports lanes:=by
  obtain⟨H1,g1,g2⟩:=aAu (h.app [pkB pk0]) (m:=m-1) U i o k
  rw[hp] at g1;have hv:uD (x::xs)= .tuple #[x.dR,.bool true]:=rfl;rw[hv] at g1;obtain⟨w,hw⟩: ∃w:kQ,w=(i,o,k):=⟨_,rfl⟩;obtain⟨p,s,mb,l,top,free,fl,f,hi0⟩:=h;have hqlt: ∀(j q:Nat)(z:Pkt)(d:Int),l[j]? =some (some (q,z),d)->q<H.length:=λj q z d hl=>(aPN.mp (hi0.pool.pool.hq j q z d hl)).1
  have hl1:H.length<H1.length:=by have:=g2.1;simp at this;omega
  have hi1:RI H1 a L n ports lanes p s mb l top free fl f:=hi0.Gc λb y hb _=>by
    have hlt:=(aPN.mp hb).1;rw[g2.2 b (by simp;omega) id,aPQ hlt,hb]
  have hb0:H1[H.length]? =some (pkB pk0):=by rw[g2.2 H.length (by simp) id];simp
  obtain⟨WB,hWB⟩: ∃WB:Blk,WB= .cells [.int .i64 i,.int .i64 o,.int .i64 k] 256 .fix:=⟨_,rfl⟩;obtain⟨H5,hH5⟩:=aD (H1++[pkB x]++[WB]);have hst1:stN 4 (.pointer (some ⟨H1.length,0,none⟩)) x.dR (H1++[pkB pk0])=some (undef,H1++[pkB x]):=Pp H1 x;have hst2:=Ps (i,o,k) (H1++[pkB x]);simp only at hst2;rw[<-hWB,<-hH5] at hst2;have hi:RI H5 a L n ports lanes p s mb l top free fl f:=by rw[hH5];exact(hi1.app _).app _
  have hc5:Ch AR H H5:=by
    refine(Ch.app AR H [pkB pk0]).wL ((Ch.ext g2).wL ?_);rw[hH5,aPU];exact Ch.app _ _ _
  have at0:H5[H.length]? =some (pkB pk0):=by rw[hH5,aPU,aPQ hl1,hb0]
  have at4:H5[H1.length]? =some (pkB x):=by rw[hH5,aPU,aP7 (aPS _)];simp
  have atW:H5[(H1++[pkB x]).length]? =some WB:=by rw[hH5,uV]
  have l0:=hi.ld0;have l1:=hi.ld1;have hldw:ldN 3 (.Q ((H1++[pkB x]).length) 0) H5=some (nD (i,o,k),H5):=zE (by rw[atW,hWB])
  -- the queue
  obtain⟨v,hf⟩: ∃v,f w=some v:=by
    cases hf:f w with
    |some v=>exact⟨v,rfl⟩
    |none=>
      have:=hi.no w hf;have h2:=Pm L w;rw[this,hw,hp] at h2;simp at h2
  have hg:=hi.mp.Bk vM w (.slice none 0 0);rw[hf] at hg;simp only[aQg] at hg;obtain⟨hr,hne⟩:=hi.yes w v hf;obtain⟨k0,ks,hq⟩: ∃k0 ks,qOf L w=k0::ks:=by
    cases hx:qOf L w with
    |nil=>exact absurd hx hne
    |cons a b=>exact⟨a,b,rfl⟩
  obtain⟨x',xs',hp',hin,hlen,hrest⟩:=Pi hq;rw[hw,hp] at hp';cases hp';rw[hq] at hr;obtain⟨bb,oo,a1,a2,a3⟩:=hr.Tp (i:=0) (x:=mQ k0) rfl .i64;have a1':cB 1 v (.I 0)=some (.Q bb oo):=a1;have hk0:mQ k0= .I k0:=rfl;obtain⟨q0,d0,hslot⟩:=hi.full _ hin;obtain⟨H6,hd,hM6,hmore⟩:=hi.pool.aME (pr:=pk8) (cT rfl) (cT rfl) (m:=m-1) U k0 (q0,x) d0 hslot
  have keep6:=hi.aAw hmore.same;have c6:Ch AR H5 H6:=⟨hmore.len,λb y hy hn'=>keep6 b y hy (λcs hh=>hn' (by rw[hh];exact .inl ⟨rfl,rfl⟩)) (λcs hh=>hn' (by rw[hh];exact .inr (.inl ⟨rfl,rfl⟩)))⟩
  have hd6:=keep6 _ _ hi.hd (λcs hh=>by cases hh) (λcs hh=>by cases hh)
  have l16:ld1 (.Q a 1) H6=some (.map (some mb),H6):=by rw[kC,hd6];rfl
  have at06:=keep6 _ _ at0 (λcs hh=>by cases hh) (λcs hh=>by cases hh)
  have at46:=keep6 _ _ at4 (λcs hh=>by cases hh) (λcs hh=>by cases hh)
  have atW6:H6[(H1++[pkB x]).length]? =some WB:=keep6 _ _ atW (λcs hh=>by rw[hWB] at hh;cases hh) (λcs hh=>by rw[hWB] at hh;cases hh)
  have hldw6:ldN 3 (.Q ((H1++[pkB x]).length) 0) H6=some (nD (i,o,k),H6):=zE (by rw[atW6,hWB])
  have hm6:IsMap nD H6 mb f:=by
    obtain⟨es,c,e1,e2⟩:=hi.mp
    exact⟨es,c,keep6 _ _ e1 (λcs hh=>by cases hh) (λcs hh=>by cases hh),e2⟩
  have hq6: ∀w' v',f w'=some v'->RowO 3 H6 v' ((qOf L w').map mQ):=λw' v' hf'=>by
    have:=(hi.yes w' v' hf').1;refine this.sZ λb hb=> ?_
    obtain⟨ys,hys⟩:=this.blk hb;rw[hys,keep6 _ _ hys (λcs hh=>by cases hh) (λcs hh=>by cases hh)]
  have hg6:=hm6.Bk vM w (.slice none 0 0);rw[hf] at hg6;simp only[aQg] at hg6;have hr6:=hq6 w v hf;rw[hq] at hr6;obtain⟨v',hcut,hrow',hhome⟩:=RowO.aEZ (P:=prog) (x:=mQ k0) (cs:=ks.map mQ) hr6 szI;obtain⟨X,hset,hm7,⟨xe,xc,hX⟩⟩:=hm6.aMM vM w v' (by rw[hf];simp)
  obtain⟨H7,hH7⟩:=aD (H6.set mb X);rw[<-hH7] at hset hm7;have hmb6: ∃es c,H6[mb]? =some (.map es c):=by
    obtain⟨es,c,e1,e2⟩:=hm6
    exact⟨_,_,e1⟩
  have k67: ∀(b:Nat)(cs:List Value)(e:TypeId)(kk:Kind),H6[b]? =some (.cells cs e kk)->H7[b]? =some (.cells cs e kk):=λb cs e kk hb=>by
    have hne:b≠mb:=λhh=>by
      subst hh;obtain⟨es,c,e1⟩:=hmb6;rw[hb] at e1;cases e1
    rw[hH7,pH hne,hb]
  have len7:H7.length=H6.length:=by rw[hH7];simp
  have l17:ld1 (.Q a 1) H7=some (.map (some mb),H7):=by rw[kC,k67 _ _ _ _ hd6];rfl
  have hldw7:ldN 3 (.Q ((H1++[pkB x]).length) 0) H7=some (nD (i,o,k),H7):=zE (by rw[hWB] at atW6;rw[k67 _ _ _ _ atW6])
  have hg7:=hm7.Bk vM w (.slice none 0 0);have hupd:upd f w (some v') w=some v':=by unfold upd;rw[if_pos rfl]
  rw[hupd] at hg7;simp only[aQg] at hg7;have hlen':=hrow'.Jo;have c7:Ch AR H6 H7:=by
    obtain⟨es,c,e1⟩:=hmb6;rw[hH7];exact Ch.To e1 trivial _
  -- the ending: from a heap H8 that is H7 but for the map
  have fin: ∀(H8:aE)(f8:kQ->Option Value),Ch AR H7 H8->(∀(b:Nat)(cs:List Value)(e:TypeId)(kk:Kind),H6[b]? =some (.cells cs e kk)->H8[b]? =some (.cells cs e kk))->H6.length<=H8.length->IsMap nD H8 mb f8->
      (∀w',w'≠w->f8 w'=f w')->(f8 w=some v'/\ks≠[]∨f8 w=none/\ks=[])->
      ldN 4 (.Q H1.length 0) H8=some (x.dR,H8)/\stN 4 (.Q H.length 0) x.dR H8=some (undef,H8.set H.length (pkB x))/\ldN 4 (.Q H.length 0) (H8.set H.length (pkB x))=some (x.dR,H8.set H.length (pkB x))/\Ch AR H (H8.set H.length (pkB x))/\IsRings (H8.set H.length (pkB x)) a (nN L w) n ports lanes:=by
    intro H8 f8 c8 k68 hl8 hm8 hoth hself;have at48:=k68 _ _ _ _ at46;have at08:=k68 _ _ _ _ at06;have at08':H8[H.length]? =some (pkB pk0):=at08;have hlt8:=(aPN.mp at08).1;refine⟨vN at48,Pr at08',vN (aPT hlt8),?_,?_⟩
    · refine⟨by simp;omega,λb y hy hn'=> ?_⟩
      have hltb:=(aPN.mp hy).1;rw[pH U]
      exact(((hc5.wL c6).wL c7).wL c8).2 b y hy hn'
    · have hRI:RI H8 a (nN L w) n ports lanes p s mb (l.set k0 (none,top)) k0 (free+1) (k0::fl) f8:=by
        refine⟨k68 _ _ _ _ hd6,hM6.aAt λb cs e kk hb _=>k68 b cs e kk hb,by simp[hi.len],by have:=hi.cnt;simp;omega,?_,?_,hm8,?_,?_,?_,hi.b1,hi.b2⟩
        · exact(List.Sublist.map _ (List.eraseP_sublist)).nodup hi.nd
        · intro e he
          obtain⟨h1,h2⟩:=hrest e he;obtain⟨q',d',hs⟩:=hi.full e h1
          exact⟨q',d',by rw[aPO (λhh=>h2 hi.nd hh.symm),hs]⟩
        · intro w' hw'
          by_cases hww:w'=w
          · subst hww
            rw[Bn,if_pos rfl,hq];rcases hself with⟨h1,_⟩|⟨_,h2⟩
            · rw[h1] at hw';cases hw'
            · exact h2
          · rw[hoth w' hww] at hw'
            rw[Bn,if_neg (λhh=>hww hh.symm)]
            exact hi.no w' hw'
        · intro w' u hw'
          by_cases hww:w'=w
          · subst hww
            rw[Bn,if_pos rfl,hq];rcases hself with⟨h1,h2⟩|⟨h1,_⟩
            · rw[h1] at hw'
              cases hw';refine⟨hrow'.sZ λb hb=> ?_,h2⟩
              obtain⟨ys,hys⟩:=hrow'.blk hb;rw[hys,k68 _ _ _ _ hys]
            · rw[h1] at hw';cases hw'
          · rw[hoth w' hww] at hw'
            rw[Bn,if_neg (λhh=>hww hh.symm)]
            refine⟨(hq6 w' u hw').sZ λb hb=> ?_,(hi.yes w' u hw').2⟩
            obtain⟨ys,hys⟩:=(hq6 w' u hw').blk hb;rw[hys,k68 _ _ _ _ hys]
        · intro w1 w2 v1 v2 b hf1 hf2 hne' hh1 hh2
          by_cases e1:w1=w
          · rw[hoth w2 (λhh=>hne' (e1.trans hh.symm))] at hf2
            rw[e1] at hf1;rcases hself with⟨h1,_⟩|⟨h1,_⟩
            · rw[h1] at hf1
              cases hf1;exact hi.sep w w2 v v2 b hf hf2 (by rw[<-e1];exact hne') (hhome b hh1) hh2
            · rw[h1] at hf1;cases hf1
          · rw[hoth w1 e1] at hf1
            by_cases e2:w2=w
            · rw[e2] at hf2
              rcases hself with⟨h1,_⟩|⟨h1,_⟩
              · rw[h1] at hf2
                cases hf2;exact hi.sep w1 w v1 v b hf1 hf e1 hh1 (hhome b hh2)
              · rw[h1] at hf2;cases hf2
            · rw[hoth w2 e2] at hf2
              exact hi.sep w1 w2 v1 v2 b hf1 hf2 hne' hh1 hh2
      refine⟨_,_,_,_,_,_,_,_,hRI.aMV at08' λj q z d hl=> ?_⟩
      by_cases hj:k0=j
      · subst hj
        have hlt:=(aPN.mp hslot).1;rw[aPT hlt] at hl;cases hl
      · rw[aPO hj] at hl
        have:=hqlt j q z d hl;omega
  rw[hw] at hg hg6 hset hg7;cases hks:ks with
  |nil=>
    subst hks;have e1:((([]:List Nat).map mQ).length:Int)=0:=rfl;have e2:((((([]:List Nat).map mQ).length:Nat):Int)==0)=true:=rfl;obtain⟨X8,hdel,hm8,⟨ye,yc,hX8⟩⟩:=hm7.aMJ vM w (by rw[hupd];simp)
    have hmb7: ∃es c,H7[mb]? =some (.map es c):=by
      obtain⟨es,c,e1,e2⟩:=hm7
      exact⟨_,_,e1⟩
    obtain⟨r1,r2,r3,r4,r5⟩:=fin (H7.set mb X8) _ (by
      obtain⟨es,c,e1⟩:=hmb7;exact Ch.To e1 trivial _) (λb cs e kk hb=>by
        have h7:=k67 b cs e kk hb;have hne:b≠mb:=λhh=>by
          subst hh;obtain⟨es,c,e1⟩:=hmb7;rw[h7] at e1;cases e1
        rw[pH hne,h7]) (by simp[len7]) hm8 (λw' hww=>by simp[upd,hww]) (.inr ⟨by simp[upd],rfl⟩)
    rw[hw] at hdel r5;refine⟨_,dI (cT rfl) U ?_,r4,r5⟩
    rw[O6];simp -implicitDefEqProofs only[xD,x_newB,g1,ext_0,ext_1,hst1,bW,hst2,r_nil,r_fAddr,aP8,l0,l1,hldw,hg,a1',a3 H5 rfl,hk0,hd,l16,hldw6,hg6,hcut,hset,l17,hldw7,hg7,hlen',b_eql,e2,hdel,r1,r2,r3,r_opt,ob_some,ifB_true,iteV_true,oneOf_two]
  |cons k1 ks1=>
    subst hks;have e2:(((((k1::ks1).map mQ).length:Nat):Int)==0)=false:=by simp;omega
    obtain⟨r1,r2,r3,r4,r5⟩:=fin H7 _ (Ch.aEX _ _) k67 U hm7 (λw' hww=>by simp[upd,hww]) (.inl ⟨hupd,by simp⟩)
    rw[hw] at r5;refine⟨_,dI (cT rfl) U ?_,r4,r5⟩
    rw[O6];simp -implicitDefEqProofs only[xD,x_newB,g1,ext_0,ext_1,hst1,bW,hst2,r_nil,r_fAddr,aP8,l0,l1,hldw,hg,a1',a3 H5 rfl,hk0,hd,l16,hldw6,hg6,hcut,hset,l17,hldw7,hg7,hlen',b_eql,e2,r1,r2,r3,r_opt,ob_some,ifB_true,iteV_true,iteV_false,oneOf_two]
end
section
variable {H : aE} {a n ports lanes m : Nat} {L : List En}
theorem aMZ (h:IsRings H a L n ports lanes)(hm:100<m)(w:kQ)(x:Pkt): ∃H' L',lvl prog pk8 m (.func 98) [.Q a 0,.I w.1,.I w.2.1,.I w.2.2,x.dR] H=some (.bool (rH w ports lanes&&decide (L.length<n)),H')/\Ch AR H H'/\IsRings H' a L' n ports lanes/\
  ((rH w ports lanes&&decide (L.length<n))=true/\(∃k,L'=L++[(w,k,x)])∨(rH w ports lanes&&decide (L.length<n))=false/\L'=L):=by
 by_cases hv:(rH w ports lanes&&decide (L.length<n))=true
 ·rw[aPV,decide_eq_true_eq] at hv
  obtain⟨H',k,g1,g2,g3⟩:=aMU h hm w x hv.1 hv.2;rw[hv.1,aQw hv.2]
  exact⟨H',_,g1,g2,g3,.inl ⟨rfl,k,rfl⟩⟩
 ·have hf:(rH w ports lanes&&decide (L.length<n))=false:=by simpa using hv
  obtain⟨H',g1,g2⟩:=aMT h hm w x (by
   rw[Bool.and_eq_false_iff] at hf;exact hf.imp id λh=>by have:=of_decide_eq_false h;omega)
  rw[hf];have hc:Ch AR H H':=Ch.ext g2;obtain⟨p,s,mb,l,top,free,fl,f,hi⟩:=h
  exact⟨H',L,g1,hc,⟨p,s,mb,l,top,free,fl,f,hi.Gc λb x hx _=>by rw[g2.2 b (aPN.mp hx).1 id,hx]⟩,.inr ⟨rfl,rfl⟩⟩
theorem IsRings.ext {H':aE}(h:IsRings H a L n ports lanes)(he:Ext H H'):IsRings H' a L n ports lanes:=by
 obtain⟨p,s,mb,l,top,free,fl,f,hi⟩:=h
 exact⟨p,s,mb,l,top,free,fl,f,hi.Gc λb x hx _=>by rw[he.2 b (aPN.mp hx).1 id,hx]⟩
theorem aMY (h:IsRings H a L n ports lanes)(hm:100<m)(w:kQ): ∃H',lvl prog pk8 m (.func 106) [.Q a 0,.I w.1,.I w.2.1,.I w.2.2] H=some (uD (nY L w),H')/\Ch AR H H'/\IsRings H' a (nN L w) n ports lanes:=by
 cases hp:nY L w with
 |nil=>
  obtain⟨H',g1,g2⟩:=aMW h hm w.1 w.2.1 w.2.2 hp;have hL:nN L w=L:=by
   unfold nN;apply List.eraseP_of_forall_not;intro e he hd;have:e∈L.filter λe=>decide (e.1=w):=List.mem_filter.mpr ⟨he,hd⟩
   have hl:(nY L w).length=0:=by rw[hp];rfl
   unfold nY at hl;rw[aP1] at hl;rw[aP5.mp hl] at this;cases this
  rw[hL]
  exact⟨H',g1,Ch.ext g2,h.ext g2⟩
 |cons x xs=>
  obtain⟨H',g1,g2,g3⟩:=aMX h hm w.1 w.2.1 w.2.2 hp
  exact⟨H',g1,g2,g3⟩
end
end Go.Proofs.YtkeilicinggjmaaGreatDoor.Rg
namespace Go.Proofs.YtkeilicinggjmaaGreatDoor
open Go.Proofs.Tryz
open Go.Abs Go.Abs.M
def uE (L:List Rg.En):List (Go.Abs.iJ×Pkt):=L.map λe=>(e.1,e.2.2)
theorem aAx (L:List Rg.En)(w:Go.Abs.iJ):Rg.nY L w=pA (uE L) w:=by
 unfold Rg.nY pA uE;induction L with
 |nil=>rfl
 |cons e L ih=>
  rw[aQi,List.filter_cons,List.filter_cons];by_cases h:e.1=w
  ·simp only[h,decide_true,if_true,aQi]
   rw[ih]
  ·simp only[h,decide_false]
   exact ih
theorem aM0 (L:List Rg.En)(w:Go.Abs.iJ):uE (Rg.nN L w)=oU (uE L) w:=by
 unfold Rg.nN oU uE;induction L with
 |nil=>rfl
 |cons e L ih=>
  rw[aQi,List.eraseP_cons,List.eraseP_cons];by_cases h:e.1=w
  ·simp only[h,decide_true,if_true,cond_true]
  ·simp only[h,decide_false,cond_false,aQi]
   rw[ih]
def RingsN (D:aE)(a:Nat)(L:List (Go.Abs.iJ×Pkt))(cap ports lanes:Nat):Prop:= ∃Le:List Rg.En,Rg.IsRings D a Le cap ports lanes/\uE Le=L
theorem aM4 (w:Go.Abs.iJ)(ports lanes:Nat):Rg.rH w ports lanes=Bd w ports lanes:=by
 unfold Rg.rH Bd;rw[Bool.eq_iff_iff];simp only[aPV,decide_eq_true_eq];omega
section
variable {D : aE} {m a cap ports lanes : Nat} {L : List (Go.Abs.iJ × Pkt)}
theorem RingsN.ext {D':aE}(h:RingsN D a L cap ports lanes)(he:Ext D D'):RingsN D' a L cap ports lanes:=by
 obtain⟨Le,h1,h2⟩:=h
 exact⟨Le,h1.ext he,h2⟩
theorem aM2 (hm:300<m)(po la sl:Nat)(h:1<=po/\po<=16/\1<=la/\la<=3/\1<=sl/\sl<=200): ∃a H',lvl prog pkN m (.func 41) [.I po,.I la,.I sl] D=some (.Q a 0,H')/\RingsN H' a [] sl po la/\Ext D H'/\D.length<=a:=by
 obtain⟨a,H',h1,h2,h3,h4⟩:=Rg.aMS (H:=D) hm po la sl h
 exact⟨a,H',h1,⟨[],h3,rfl⟩,h2,h4⟩
theorem aM1 (h:RingsN D a L cap ports lanes)(hm:0<m)(i o k:Int):lvl prog pkN m (.func 96) [.Q a 0,.I i,.I o,.I k] D=some (.I (pA L (i,o,k)).length,D):=by
 obtain⟨Le,h1,rfl⟩:=h;rw[<-aAx,<-Rg.Pm];exact Rg.aMR h1 hm i o k
theorem aAy (h:RingsN D a L cap ports lanes)(hm:100<m)(w:Go.Abs.iJ)(x:Pkt): ∃r H',lvl prog pkN m (.func 98) [.Q a 0,.I w.1,.I w.2.1,.I w.2.2,x.dR] D=some (r,H')/\RingsN H' a (if Bd w ports lanes=true/\L.length<cap then L++[(w,x)] else L) cap ports lanes:=by
 obtain⟨Le,h1,rfl⟩:=h;have hl:(uE Le).length=Le.length:=by simp[uE]
 obtain⟨H',L',g1,g2,g3,g4⟩:=Rg.aMZ h1 hm w x;rw[aM4,aPV,decide_eq_true_eq] at g4;refine⟨_,H',g1,⟨L',g3,?_⟩⟩;rw[hl];rcases g4 with⟨hv,k,rfl⟩|⟨hv,rfl⟩
 ·rw[if_pos hv]
  simp[uE]
 ·rw[if_neg (by intro hh;rw[hh.1,aQw hh.2] at hv;cases hv)]
theorem aM3 (h:RingsN D a L cap ports lanes)(hm:100<m)(i o k:Int): ∃H',lvl prog pkN m (.func 106) [.Q a 0,.I i,.I o,.I k] D=some (Rg.uD (pA L (i,o,k)),H')/\RingsN H' a (oU L (i,o,k)) cap ports lanes:=by
 obtain⟨Le,h1,rfl⟩:=h;obtain⟨H',g1,g2,g3⟩:=Rg.aMY h1 hm (i,o,k);rw[<-aAx,<-aM0]
 exact⟨H',g1,_,g3,rfl⟩
end
section
variable {D : aE} {m a lanes queue : Nat} {L G : List Pkt} {w0 w1 w2 cv : Value}
theorem aNa:bld prog 54 []=some pk0.dR:=rfl
theorem Gd {H:aE}{b:Nat}{y:Pkt}(x:Pkt)(hb:H[b]? =some (eJ y)):stN 4 (.Q b 0) x.dR H=some (undef,H.set b (eJ x)):=yZ hb aC rfl rfl (aPS 4) rfl
theorem aM5:prog.cellsOf 54=4:=by kernel_rfl
theorem aM8 (h:HostI D a L G lanes queue w0 w1 w2 cv)(hm:3<m)(k:Nat)(hk:k<lanes)(hw:iK L k=[]): ∃H',lvl prog pkN m (.func 97) [.Q a 0,.I k] D=some (.tuple #[pk0.dR,.bool false],H')/\HostAt H' a L G lanes queue:=by
 refine jQ (cT rfl) U ?_
 rw[Y8];obtain⟨u0,u1,u2,cu,h'⟩:HostAt (D++[eJ pk0]) a L G lanes queue:=HostAt.ext ⟨w0,w1,w2,cv,h⟩ (Fr.app _ _ _);have e0: ∀H:aE,H++[Blk.cells [Value.int .i64 0,.int .i64 0,.int .i64 0,.int .u32 0] 54 .fix]=H++[eJ pk0]:=λ_=>rfl
 have e1:=Zw h' (m:=m-1) U k hk
 rw[hw] at e1;have st:stN 4 (.Q D.length 0) pk0.dR (D++[eJ pk0])=some (undef,D++[eJ pk0]):=by
  rw[Gd pk0 (dS _ _),nL]
 have l4:=(pT (dS D (eJ pk0))).2;have c1:((([]:List Pkt).length:Int)==0)=true:=rfl;simp only[gsR,e0,e1,c1,aNa,st,l4]
 exact⟨_,rfl,_,_,_,_,h'⟩
theorem HostI.ext {D':aE}(h:HostI D a L G lanes queue w0 w1 w2 cv)(he:Ext D D'):HostI D' a L G lanes queue w0 w1 w2 cv:=
 ⟨by rw[he.2 a (dK h.blk) id,h.blk],h.lanes,h.queue,λk hk=>(h.q k hk).ext he,h.came.ext he,h.apart,h.apartC⟩
theorem aM9 (h:HostI D a L G lanes queue w0 w1 w2 cv)(hm:3<m)(k:Nat)(hk:k<lanes){x:Pkt}{xs:List Pkt}(hw:iK L k=x::xs): ∃H',lvl prog pkN m (.func 97) [.Q a 0,.I k] D=some (.tuple #[x.dR,.bool true],H')/\HostAt H' a (rG L k) G lanes queue:=by
 have h3:k<3:=aP2 hk h.lanes.2;refine jQ (cT rfl) U ?_
 rw[Y8];have e0: ∀H:aE,H++[Blk.cells [Value.int .i64 0,.int .i64 0,.int .i64 0,.int .u32 0] 54 .fix]=H++[eJ pk0]:=λ_=>rfl
 obtain⟨D1,hD1⟩:=aD (D++[eJ pk0]);obtain⟨D3,hD3⟩:=aD (D1++[eJ x]);have h1l:D1.length=D.length+1:=by rw[hD1];simp
 have i1:HostI D1 a L G lanes queue w0 w1 w2 cv:=h.ext (by rw[hD1];exact Fr.app _ _ _)
 have i3:HostI D3 a L G lanes queue w0 w1 w2 cv:=i1.ext (by rw[hD3];exact Fr.app _ _ _)
 have e1:=Zw i1 (m:=m-1) U k hk
 rw[hw] at e1;have c1:(((x::xs).length:Int)==0)=false:=by simp;omega
 have e2:=Fx 3 1 a 0 .i64 k h3;rw[Nat.mul_one,aP8] at e2;have q1:=i1.q k h3;rw[hw] at q1;obtain⟨b,o,a1,_,a3⟩:=q1.rs.fZ zB (i:=0) (x:=x) rfl .i64;have a1:cB 4 (w3 w0 w1 w2 k) (.I 0)=some (.Q b o):=a1;have a3:=(a3 D1 rfl).1;have a3':ldN 4 (.Q b o) D1=some (x.dR,D1):=a3;have st0:stN 4 (.Q D1.length 0) x.dR (D1++[eJ pk0])=some (undef,D3):=by
  rw[Gd x (dS _ _),nL,hD3]
 have q3:=i3.q k h3;rw[hw] at q3;obtain⟨v',g1,g2,g3⟩:=q3.aLS (P:=prog) zB aM5;have g1:=g1 D3 q3;have st1:stN 1 (.Q a k) v' D3=some (undef,D3.set a (.cells (([w0,w1,w2,cv,.I lanes,.I queue]:List Value).set k v') 167 .fix)):=qH i3.blk aC (by simp;omega) g2.zA.1 g2.zA.2
 obtain⟨Y,hY⟩:=aD (Blk.cells (([w0,w1,w2,cv,.int .i64 lanes,.int .i64 queue]:List Value).set k v') 167 .fix);rw[<-hY] at st1;have hal:a<D.length:=dK h.blk;have b12:(D3.set a Y)[D1.length]? =some (eJ x):=by rw[aPO U,hD3,dS]
 have b00:(D3.set a Y)[D.length]? =some (eJ pk0):=by rw[aPO U,hD3,hD1,aPQ (by simp),dS]
 have l12:=(pT b12).2;have st2:stN 4 (.Q D.length 0) x.dR (D3.set a Y)=some (undef,(D3.set a Y).set D.length (eJ x)):=yZ b00 aC rfl rfl (aPS 4) rfl
 have l00:=(pT (iR (y:=eJ x) b00)).2;simp only[gsR,e0,<-hD1,e1,c1,e2,Bj i1 h3,a1,a3',st0,Bj i3 h3,g1,st1,l12,st2,l00];refine⟨_,rfl,?_⟩;have hE:(D3.set a Y).set D.length (eJ x)=(D++[eJ x]++[eJ x]).set a Y:=by
  rw[List.set_comm _ _ U,hD3,hD1]
  congr 1
  simp
 rw[hE,hY];have he1:Ext D (D++[eJ x]):=Fr.app _ _ _;have he:Ext D (D++[eJ x]++[eJ x]):=he1.tr (Fr.app _ _ _);have q0:=h.q k h3;rw[hw] at q0;refine h.Zx h3 (he.Ag λ_ h=>h.elim) ?_ (λb hb=> .inl (g3 b hb)) λj hj hjk=> ?_
 ·rw[Fy,if_pos rfl,hw]
  refine g2.xC λb hb=> ?_
  have hb2:=(h.q k h3).vL (g3 b hb);rw[hD3,hD1,aPU,aPQ hb2,aPU,aPQ hb2]
 ·rw[Fy,if_neg U]
theorem aNc (b o n c:Nat):bin prog .eql 69 (.slice (some ⟨b,o,none⟩) n c) (.slice none 0 0)=some (.bool false):=by
 have h1:prog.underlying 69=some (.slice 54):=by kernel_rfl
 simp[bin,eG,o5,nF,eqV,h1]
theorem aNb:bin prog .eql 69 (.slice none 0 0) (.slice none 0 0)=some (.bool true):=by
 have h1:prog.underlying 69=some (.slice 54):=by kernel_rfl
 simp[bin,eG,o5,nF,eqV,h1]
theorem aM6 {v:Value}{xs:List Pkt}(hx:Rs Pkt.oT 54 D v xs)(hr:j7 xs.length 32=true)(hm:0<m): ∃H' u,lvl prog pkN m (.func 91) [v] D=some (u,H')/\Ext D H'/\Rw Pkt.oT 54 4 H' u xs/\New D u:=by
 rcases hx with⟨rfl,rfl⟩|⟨b,o,c,hv,hlc,hx2⟩
 ·refine⟨D,.slice none 0 0,dI (cT rfl) hm ?_,Fr.iQ _ _,Rw.fW,New.iI _⟩
  rw[Y6];simp only[gsR,aNb]
 ·have b0:dG 54 4 0 [.I 0,.I 0,.I 0,.int .u32 0] [] D=some (.slice (some ⟨D.length,0,none⟩) 0 0,D++[.cells [] 54 .row]):=rfl
  have h0:Rw Pkt.oT 54 4 (D++[.cells [] 54 .row]) (.slice (some ⟨D.length,0,none⟩) 0 0) []:=⟨rfl,.inr ⟨D.length,0,[],rfl,aPS _,rfl,by simp⟩⟩
  have hx:Rs Pkt.oT 54 D v xs:= .inr ⟨b,o,c,hv,hlc,hx2⟩;obtain⟨u,H',g1,g2,g3,g4⟩:=h0.rY zB O2 aC (by':=32) (H0:=D) (hx.ext (Fr.app _ _ _)) (λb ⟨_,_,_,h⟩=>by cases h;exact aPS _) (Fr.app _ _ _) (by simpa using hr)
  refine fJ (cT rfl) hm ⟨H',u,?_,g4,g2,g3⟩;subst hv;rw[Y6];simp only[gsR,aNc,b0,g1]
theorem aM7 (h:HostI D a L G lanes queue w0 w1 w2 cv)(hm:1<m)(hr:j7 G.length 32=true): ∃H' v,lvl prog pkN m (.func 46) [.Q a 0] D=some (v,H')/\Ext D H'/\Rw Pkt.oT 54 4 H' v G/\New D v:=by
 obtain⟨H',u,g1,g2⟩:=aM6 (D:=D) (m:=m-1) h.came.rs hr U
 refine fJ (cT rfl) U ⟨H',u,?_,g2⟩
 rw[aKS];have l3:ld1 (.Q a 3) D=some (cv,D):=dC h.blk rfl;simp only[gsR,l3,g1]
end
def eH (b n:Nat):Value:= .slice (some ⟨b,0,none⟩) n n
section
variable {H : aE} {m : Nat}
theorem aAA:prog.underlying 116=some (.int .u64):=by kernel_rfl
theorem aNd (hm:1<m)(n:Nat)(hn:n<=16):lvl prog pkN m (.func 145) [.int .u64 1,.int .u64 n] H=some (.tuple #[.int .u64 0,.int .u64 n],H):=by
 have main:lvl prog pkN (m-1) (.func 177) [.int .u64 1,.int .u64 n] H=some (.tuple #[.int .u64 0,.int .u64 n],H):=by
  refine dI (cT rfl) U ?_
  rw[aKJ];have p1:bin prog .and 55 (.int .u64 1) (.int .u64 4294967295)=some (.int .u64 1):=by kernel_rfl
  have p2:bin prog .shr 55 (.int .u64 1) (.int .u64 32)=some (.int .u64 0):=by kernel_rfl
  have p3:bin prog .and 55 (.int .u64 n) (.int .u64 4294967295)=some (.int .u64 n):=by
   have:=wQ (P:=prog) .u64 rfl 55 (a:=n) (b:=4294967295) (by show _<18446744073709551616;omega) (by show _<18446744073709551616;omega)
   rw[show n&&&4294967295=n by rw[show(4294967295:Nat)=2 ^ 32-1 from rfl,Nat.and_two_pow_sub_one_eq_mod];exact aQl U] at this
   exact this
  have p4:bin prog .shr 55 (.int .u64 n) (.int .u64 32)=some (.int .u64 0):=by
   have:=C9 (P:=prog) .u64 .u64 55 n 32 aC
   rw[Nat.shiftRight_eq_div_pow,Nat.div_eq_of_lt U] at this
   exact this
  have q1:IntKind.u64.wrap (1*(n:Int))=n:=by rw[Int.one_mul];exact yX n U
  have q2:IntKind.u64.wrap (0*(n:Int))=0:=by rw[Int.zero_mul];rfl
  have q3:IntKind.u64.wrap (0+0)=0:=rfl;have q4:IntKind.u64.wrap (1*0)=0:=rfl;have q5:IntKind.u64.wrap (0*0)=0:=rfl;have p5:bin prog .and 55 (.int .u64 0) (.int .u64 4294967295)=some (.int .u64 0):=by kernel_rfl
  have p6:bin prog .shr 55 (.int .u64 0) (.int .u64 32)=some (.int .u64 0):=by kernel_rfl
  simp only[gsR,p1,p2,p3,p4,I2,q1,q2,cO,q3,q4,q5,p5,p6]
 refine dI (cT rfl) U ?_
 rw[aKB];simp only[gsR,main]
def lH (n k:Nat):Blk:= .cells (List.replicate k (.int .i64 (-1))++List.replicate (n-k) (.int .i64 0)) 3 .row
theorem aNe (k:Nat):dV (List.replicate k (Value.I (-1)))=true:=by
 unfold dV;rw[List.all_replicate]
 split<;>rfl
theorem aAz {n k j:Nat}(hj:k+j<=n):eK (List.replicate k (Value.I (-1))++List.replicate (n-k) (.I 0)) k (List.replicate j (.I (-1)))=List.replicate (k+j) (.I (-1))++List.replicate (n-(k+j)) (.I 0):=by
 have:=uX (List.replicate j (Value.I (-1))) (List.replicate j (.I 0)) (List.replicate k (Value.I (-1))) (List.replicate (n-(k+j)) (.I 0)) (by simp)
 rw[List.length_replicate] at this;rw[show List.replicate (n-k) (Value.I 0)=List.replicate j (.I 0)++List.replicate (n-(k+j)) (.I 0) by rw[List.replicate_append_replicate];congr 1;omega]
 rw[<-aPU,this,List.replicate_append_replicate]
theorem aNf {n k:Nat}(G:aE)(hk:k<=n)(h1:1<=k)(c:Nat):cpy 1 (.slice (some ⟨G.length,k,none⟩) (n-k) c) (.slice (some ⟨G.length,0,none⟩) k n) (G++[lH n k])=some (.I (min k (n-k):Nat),G++[lH n (k+min k (n-k))]):=by
 have hb:(G++[lH n k])[G.length]? =some (lH n k):=dS _ _;have hs:jO 1 (.slice (some ⟨G.length,0,none⟩) k n) (min k (n-k)) (G++[lH n k])=some (List.replicate (min k (n-k)) (.I (-1))):=by
  unfold jO;by_cases h0:min k (n-k)=0
  ·simp[h0]
  ·simp only
   rw[if_neg h0,hb];unfold lH;simp only;rw[if_pos (by simp;omega)]
   congr 1
   rw[List.drop_zero,List.take_append_of_le_length (by simp;omega),List.take_replicate]
   congr 1
   omega
 unfold cpy;have h2:mJ (.slice (some ⟨G.length,0,none⟩) k n)=some k:=rfl;rw[h2];simp only;rw[hs];simp only;rw[hb];unfold lH;simp only;rw[if_pos ⟨by decide,by simp;omega,aNe _⟩,aAz U,nL]
theorem aNh {n:Nat}(hn:n<=16){G:aE}: ∀(q k l:Nat),n-k=q->k<=n->1<=k->q<l-> ∀(x0 x1 x2 x3 x4 x5 x6 x9 bG b9 aS aP aQ aO aT aU aR bA bK bX bJ bE aV aW aX aY aZ bB bC bH bI bM bN bO bP bQ bR bS bT bU bY cA cD cE cI cJ:Value),
  aJ l (aM prog (lvl prog pkN m) (aJ m) M8) (M9 (lvl prog pkN m) (aJ m)) [x0,x1,x2,x3,x4,x5,x6,(eH G.length n),(.I (k:Nat)),x9,bG,b9,aS,aP,aQ,aO,aT,aU,aR,bA,bK,bX,bJ,bE,aV,aW,aX,aY,aZ,bB,bC,bH,bI,bM,bN,bO,bP,bQ,bR,bS,bT,bU,bY,cA,cD,cE,cI,cJ] (G++[lH n k])=some (eH G.length n,G++[lH n n]):=by
 intro q;induction q using Nat.strongRecOn with
 |ind q ih=>
  intro k l hq hk h1 hl;intros;obtain⟨l,rfl⟩: ∃l',l=l'+1:=⟨l-1,by omega⟩
  have e1:cH (eH G.length n)=some (.I n):=rfl;rw[aJ,aJ5];by_cases hc:k=n
  ·subst hc
   have c1:decide ((k:Int)<(k:Int))=false:=by simp
   simp only[gsR,e1,c1];rw[aJ9];simp only[gsR]
  ·have c1:decide ((k:Int)<(n:Int))=true:=by rw[decide_eq_true_eq];omega
   have hb:(G++[lH n k])[G.length]? =some (lH n k):=dS _ _;have s1:slc prog 1 (eH G.length n) (some (.I (k:Nat))) none none (G++[lH n k])=some (.slice (some ⟨G.length,k,none⟩) (n-k) (n-k),G++[lH n k]):=by
    have:=sY (P:=prog) (sz:=1) (b:=G.length) (o:=0) (len:=n) (cap:=n) (lo:=some (.I (k:Nat))) (hi:=none) (mx:=none) hb (λ_=>by kernel_rfl) (mN 0 .i64 k) rfl rfl hk (aPS _) (aPS _)
    rw[aP8,Nat.mul_one] at this;exact this
   have s2:slc prog 1 (eH G.length n) none (some (.I (k:Nat))) none (G++[lH n k])=some (.slice (some ⟨G.length,0,none⟩) k n,G++[lH n k]):=by
    have:=sY (P:=prog) (sz:=1) (b:=G.length) (o:=0) (len:=n) (cap:=n) (lo:=none) (hi:=some (.I (k:Nat))) (mx:=none) hb (λ_=>by kernel_rfl) rfl (mN n .i64 k) rfl (Nat.zero_le _) hk (aPS _)
    rw[Nat.zero_mul] at this;exact this
   have s3:=aNf G hk h1 (n-k);have e4:IntKind.i64.wrap ((k:Int)+((min k (n-k):Nat):Int))=((k+min k (n-k):Nat):Int):=by rw[cZ U U];omega
   simp only[gsR,e1,c1,s1,s2,s3,cO,e4];exact ih (n-(k+min k (n-k))) U (k+min k (n-k)) l rfl U U U ..
theorem aNg (hm:40<m)(n:Nat)(h1:1<=n)(hn:n<=16){b c:Nat}{e:TypeId}{kk:Kind}(hb:H[b]? =some (.cells [.I (-1)] e kk)):lvl prog pkN m (.func 100) [.slice (some ⟨b,0,none⟩) 1 c,.I n] H=some (eH H.length n,H++[lH n n]):=by
 refine dI (cT rfl) U ?_
 rw[aKa];have c1:decide ((n:Int)<0)=false:=by rw[decide_eq_false_iff_not];omega
 have c2:decide ((0:Int)<0)=false:=rfl;have c3:decide ((9223372036854775807:Int)<(n:Int))=false:=by rw[decide_eq_false_iff_not];omega
 have e0:cH (.slice (some ⟨b,0,none⟩) 1 c)=some (.I 1):=rfl;have e1:IntKind.u64.wrap (1:Int)=1:=rfl;have e2:IntKind.u64.wrap (n:Int)=n:=yX n U
 have e3:=aNd (H:=H) (m:=m-1) U n hn
 have x0:ext 0 (.tuple #[.int .u64 0,.int .u64 n])=some (.int .u64 0):=rfl;have x1:ext 1 (.tuple #[.int .u64 0,.int .u64 n])=some (.int .u64 n):=rfl;have e4:IntKind.i64.wrap (n:Int)=n:=yY n U
 have mk:=sT (H:=H) 3 1 8 [.I 0] .i64 .i64 (n:Int) U U U rfl
 have hz:H++[Blk.cells (List.replicate (n:Int).toNat [Value.int .i64 0]).flatten 3 .row]=H++[lH n 0]:=by
  have: ∀n,(List.replicate n [Value.I 0]).flatten=List.replicate n (.I 0):=by
   intro n;induction n with
   |zero=>rfl
   |succ n ih=>rw[List.replicate_succ,aQn,ih];rfl
  rw[aQf,this];rfl
 rw[hz,aQf] at mk;have cp:cpy 1 (.slice (some ⟨H.length,0,none⟩) n n) (.slice (some ⟨b,0,none⟩) 1 c) (H++[lH n 0])=some (.I (1:Nat),H++[lH n 1]):=by
  have hs:jO 1 (.slice (some ⟨b,0,none⟩) 1 c) 1 (H++[lH n 0])=some [.I (-1)]:=by
   unfold jO;simp only;rw[if_neg aC,nW hb]
   rfl
  unfold cpy;have h2:mJ (.slice (some ⟨b,0,none⟩) 1 c)=some 1:=rfl;rw[h2];simp only;rw[Nat.min_eq_left h1,hs];simp only;rw[dS];unfold lH;simp only;rw[if_pos ⟨by decide,by simp;omega,rfl⟩]
  have:=aAz (n:=n) (k:=0) (j:=1) U
  rw[show List.replicate 1 (Value.I (-1))=[.I (-1)] from rfl] at this
  rw[this,nL];rfl
 simp only[gsR,c1,c2,c3,e0,fI _ _ iU aAA,e1,e2,e3,x0,x1,fI _ _ aAA iU,e4,mk,cp];exact aNh hn (n-1) 1 (m-1) rfl h1 (aPS _) U ..
end
end Go.Proofs.YtkeilicinggjmaaGreatDoor
namespace Go.Abs
open M
open Classical
def Blks (l:List (Nat×Blk))(D:aE):Prop:= ∀p∈l,D[p.1]? =some p.2
def InB (l:List (Nat×Blk))(b:Nat):Prop:= ∃p∈l,p.1=b
def sG (l:List (Nat×Blk)):Prop:= ∀p∈l,p.2≠Blk.dead
theorem Blks.dx (l:List (Nat×Blk)):DX (Blks l):=λD D' h he p hp=>by
 have h1:=h p hp;rw[he.2 p.1 (aPN.mp h1).1 id,h1]
theorem Blks.aNi {l:List (Nat×Blk)}(hl:sG l):Pos (Blks l):=λD H hs h p hp=>hs.2 p.1 p.2 (h p hp) (hl p hp)
theorem Has.inB {l:List (Nat×Blk)}{F:Nat->Prop}{H:aE}(h:Has (Blks l) F H)(hl:sG l){b:Nat}(hb:InB l b):F b:=by
 obtain⟨p,hp,rfl⟩:=hb;have h1:=h.at_ p hp;refine Classical.byContradiction λhF=> ?_
 have hlt:=(aPN.mp h1).1;rw[s6] at hlt;rw[uZ hF hlt] at h1;exact hl p hp (aQp h1).symm
theorem Has.Ge {l:List (Nat×Blk)}{F:Nat->Prop}{H:aE}(hb:Blks l H)(hF: ∀p∈l,F p.1)(hlt: ∀b,F b->b<H.length):Has (Blks l) F H:=
 ⟨λp hp=>by rw[Ah (hF p hp),hb p hp],hlt⟩
theorem Mv.aNj {F:Nat->Prop}{A:Nat->Prop}{H H':aE}(h:Fr A H H')(hA: ∀b,A b->F b):Mv F F H H':=⟨h.1,λ_ hb=> .inl hb,λb hb hF=>h.2 b hb λhh=>hF (hA b hh)⟩
theorem aNl {ι α:Type}(f:ι->α)(i:ι):updI f i (f i)=f:=by
 funext j
 unfold updI;split
 ·rename_i h
  rw[h]
 ·rfl
theorem Sep.aNk {ι:Type}{A:ι->aE->Prop}{F:ι->Nat->Prop}{H H':aE}(h:Sep A F H)(i:ι)(hA: ∀j,j≠i->DX (A j)){l l':List (Nat×Blk)}(hi:A i=Blks l)(hl:sG l)(hsub: ∀p∈l',InB l p.1)(hf:Fr (InB l) H H')(hB:Blks l' H'):
  Sep (updI A i (Blks l')) F H'/\Mv (Un F) (Un F) H H':=by
 have h0:=h.own i;rw[hi] at h0;have hm:Mv (F i) (F i) H H':=Mv.aNj hf λb hb=>h0.inB hl hb
 have h1:Has (Blks l') (F i) H':=Has.Ge hB (λp hp=>h0.inB hl (hsub p hp)) λb hb=>aP2 (h0.lt b hb) hf.1
 have h2:=h.Jr i hA h1 hm;rw[aNl] at h2;exact h2
theorem Sep.see {ι:Type}{A:ι->aE->Prop}{F:ι->Nat->Prop}{H:aE}(h:Sep A F H)(i:ι){l:List (Nat×Blk)}(hi:A i=Blks l)(hl:sG l):Blks l H:=by
 have h0:=h.own i;rw[hi] at h0;exact h0.aE5 (Blks.aNi hl)
theorem Sep.xG {ι:Type}{A:ι->aE->Prop}{F:ι->Nat->Prop}{H:aE}(h:Sep A F H)(i:ι){l:List (Nat×Blk)}(hi:A i=Blks l)(hl:sG l){b:Nat}{x:Blk}(hm:(b,x)∈l):H[b]? =some x:=h.see i hi hl _ hm
theorem Sep.Gf {ι:Type}{A:ι->aE->Prop}{F:ι->Nat->Prop}{H H':aE}(h:Sep A F H)(i:ι)(hA: ∀j,DX (A j))(hi: ∀b,¬F i b){B:aE->Prop}{G:Nat->Prop}(hB:Has B G H')(he:Ext H H')(hn: ∀b,G b->H.length<=b):
  Sep (updI A i B) (updI F i G) H':=by
 have hm:Mv (F i) G H H':=⟨he.1,λb hb=> .inr (hn b hb),λb hb _=>he.2 b hb id⟩
 exact(h.Jr i (λj _=>hA j) hB hm).1
theorem Has.aAB {A:aE->Prop}{H:aE}{P:Program}{pr:jA}(hp:FrP pr){n:Nat}{fn:Fn}{args:List Value}{B:Value->aE->Prop}
  (hc: ∀D:aE,D.length=H.length->(∀(b:Nat)(x:Blk),D[b]? =some x->x=Blk.dead)-> ∃r D',lvl P pr n fn args D=some (r,D')/\B r D'):
  ∃r H' G,lvl P pr n fn args H=some (r,H')/\Has (B r) G H'/\Ext H H'/\ ∀b,G b->H.length<=b:=by
 obtain⟨r,D',h1,h2⟩:=hc (rst (λ_=>False) H) (s6 _ _) λb x hb=>by
  have hlt:=(aPN.mp hb).1;rw[s6] at hlt;rw[uZ (λh=>h) hlt] at hb
  cases hb;rfl
 obtain⟨H',F',h3,rfl,h4,h5⟩:=Ty hp h1
 exact⟨r,H',F',h3,⟨h2,h5⟩,h4.Tw.2,h4.Tw.1⟩
end Go.Abs
namespace Go.Abs
open M
theorem rI (p:Nat->Bool){n:Nat}(hn:n<=16):dJ p n<65536:=aP2 (Am p n) (show 2 ^ n<=2 ^ 16 from Nat.pow_le_pow_right U hn)
def fC (m:List Int)(n:Nat):Nat:=dJ (λi=>decide (m.getD i 0= -1)) n
def kF (m:List Int)(n:Nat):Nat:=dJ (λk=>decide ((k:Int)∉m)) n
theorem Pt (n:Nat):dJ (λ_=>true) n=2 ^ n-1:=by
 induction n with
 |zero=>rfl
 |succ n ih=>
  rw[dJ,ih,if_pos rfl,Nat.pow_succ];have:0<2 ^ n:=Nat.pow_pos U
  omega
theorem aNu (n:Nat):fC (List.replicate n (-1)) n=2 ^ n-1:=by
 rw[<-Pt];refine Dd λi hi=> ?_
 rw[decide_eq_true_eq,aPR,List.getElem?_replicate_of_lt hi];rfl
theorem aNx (n:Nat):kF (List.replicate n (-1)) n=2 ^ n-1:=by
 rw[<-Pt];refine Dd λi hi=> ?_
 rw[decide_eq_true_eq];intro h;have:=List.eq_of_mem_replicate h;omega
theorem aNt {m:List Int}{n i k:Nat}(hi:i<n)(hl:m.length=n):fC (m.set i (k:Int)) n=lE (fC m n) (2 ^ i):=by
 apply Nat.eq_of_testBit_eq;intro j;rw[Js,fC,fC,kY,kY,Nat.testBit_two_pow];by_cases hj:i=j
 ·subst hj
  have:(m.set i (k:Int)).getD i 0=k:=by rw[aPR,aPT U,aQg]
  rw[this];simp
 ·rw[aPR,aPO hj,<-aPR]
  simp[hj]
theorem aNv {m:List Int}{n i k:Nat}(hi:i<n)(hl:m.length=n)(hf:m.getD i 0= -1):kF (m.set i (k:Int)) n=lE (kF m n) (2 ^ k):=by
 apply Nat.eq_of_testBit_eq;intro j;rw[Js,kF,kF,kY,kY,Nat.testBit_two_pow];have hi':i<m.length:=U
 have key:((j:Int)∈m.set i (k:Int))↔((j:Int)∈m∨j=k):=by
  constructor
  ·intro h
   rcases List.mem_or_eq_of_mem_set h with h|h
   ·exact .inl h
   ·exact .inr U
  ·intro h
   rcases h with h|h
   ·obtain⟨l,hl,he⟩:=List.mem_iff_getElem.mp h
    have hne:l≠i:=by
     intro hh;subst hh;rw[aPR,aPP hl,aQg,he] at hf;omega
    refine List.mem_iff_getElem.mpr ⟨l,by simpa using hl,?_⟩
    rw[List.getElem_set_ne (λhh=>hne hh.symm),he]
   ·subst h
    exact List.mem_set hi' _
 rw[show(decide ((j:Int)∉m.set i (k:Int)))=(decide ((j:Int)∉m)&& !decide (k=j)) by
  rw[Bool.eq_iff_iff];simp only[decide_eq_true_eq,aPV,Bool.not_eq_true',decide_eq_false_iff_not];rw[key];constructor
  ·intro h
   exact⟨λhh=>h (.inl hh),λhh=>h (.inr hh.symm)⟩
  ·rintro ⟨h1,h2⟩ h
   rcases h with h|h
   ·exact h1 h
   ·exact h2 h.symm]
 rw[Bool.and_assoc]
def kK (rows:List Nat)(i k:Nat):Bool:=(rows.getD i 0).testBit k
def grM (gr:Nat->Option Nat)(kk i:Nat):Nat:=dJ (λk=>gr k==some i) kk
def grL (gr:Nat->Option Nat)(n kk:Nat):List Nat:=(List.range n).map (grM gr kk)
theorem xH (gr:Nat->Option Nat)(n kk:Nat):(grL gr n kk).length=n:=by simp[grL]
theorem Bp {gr:Nat->Option Nat}{n kk i:Nat}(hi:i<n):(grL gr n kk)[i]? =some (grM gr kk i):=by simp[grL,hi]
theorem aNq (gr:Nat->Option Nat)(n:Nat):grL gr n 0=List.replicate n 0:=by
 apply aQo;intro i;by_cases hi:i<n
 ·rw[Bp hi,List.getElem?_replicate_of_lt hi]
  rfl
 ·rw[aPY (by rw[xH];omega),aPY (by simp;omega)]
theorem aAG {gr:Nat->Option Nat}{kk i:Nat}(h:gr kk≠some i):grM gr (kk+1) i=grM gr kk i:=by
 unfold grM;rw[dJ,if_neg (by simpa using h),Nat.add_zero]
theorem aNr {gr:Nat->Option Nat}{kk i:Nat}(h:gr kk=some i):grM gr (kk+1) i=grM gr kk i|||2 ^ kk:=by
 apply Nat.eq_of_testBit_eq;intro j;rw[Ua,grM,grM,kY,kY];by_cases hj:j=kk
 ·subst hj
  simp[h]
 ·by_cases hlt:j<kk
  ·simp[hlt,show j<kk+1 by omega,show¬kk=j by omega]
  ·simp[hlt,show¬j<kk+1 by omega,show¬kk=j by omega]
theorem aAE {gr:Nat->Option Nat}{n kk:Nat}(h: ∀i,i<n->gr kk≠some i):grL gr n (kk+1)=grL gr n kk:=by
 unfold grL;refine List.map_congr_left λi hi=>aAG (h i (aQr.mp hi))
theorem aNp {gr:Nat->Option Nat}{n kk i:Nat}(hi:i<n)(h:gr kk=some i):grL gr n (kk+1)=(grL gr n kk).set i (grM gr kk i|||2 ^ kk):=by
 apply aQo;intro j;by_cases hj:j<n
 ·rw[Bp hj]
  by_cases hij:i=j
  ·subst hij
   rw[aPT (by rw[xH];exact hi),aNr h]
  ·rw[aPO hij,Bp hj,aAG (by rw[h];simp;exact hij)]
 ·rw[aPY (by rw[xH];omega),aPY (by rw[List.length_set,xH];omega)]
theorem aAF (gr:Nat->Option Nat){kk:Nat}(hk:kk<=16)(i:Nat):grM gr kk i<65536:=rI _ hk
theorem aNs {rows:List Nat}{m:List Int}{G:List Nat}{n k:Nat}(hr:rows.length=n)(hk:k<n):
  nS (kK rows) m G n k=if(k:Int)∈m then none else jV (λi=>((jX rows n).getD k 0&&&fC m n).testBit i) (G.getD k 0) n:=by
 unfold nS;split
 ·rfl
 ·refine Dc λi hi=> ?_
  have hc:(jX rows n).getD k 0=dJ (λi=>(rows.getD i 0).testBit k) rows.length:=by
   rw[aPR,jX,aP0,aQu hk];rfl
  rw[Nat.testBit_and,hc,fC,kY,kY,hr,aQw hi,aQa,aQa,kK,Bool.and_comm]
theorem aNw {m:List Int}{n k:Nat}(hk:k<n):(kF m n).testBit k=decide ((k:Int)∉m):=by rw[kF,kY,aQw hk,aQa]
theorem aNo {rows:List Nat}{n k:Nat}(hr:rows.length<=16)(hk:k<n):(jX rows n).getD k 0<65536:=by
 rw[aPR,jX,aP0,aQu hk];exact rI _ hr
theorem aAH {req:Nat->Nat->Bool}{m:List Int}{G:List Nat}{n k i:Nat}(h:nS req m G n k=some i):m.getD i 0= -1/\i<n:=by
 unfold nS at h
 split at h
 ·cases h
 ·have:=u4 h
  rw[aPV,decide_eq_true_eq] at this
  exact⟨this.2.1,this.1⟩
theorem aNm {req:Nat->Nat->Bool}{n:Nat}{first:Bool}{m0:List Int}{g0:List Nat}{s:Mat}{i:Nat}(hm:s.m.getD i 0=m0.getD i 0):
  acc (nS req m0 g0 n) n first s i=match jV (λk=>(grM (nS req m0 g0 n) n i).testBit k) (s.a.getD i 0) n with
   |none=>s
   |some k=>⟨s.m.set i (k:Int),if first=true then s.g.set k ((i+1)%n) else s.g,if first=true then s.a.set i ((k+1)%n) else s.a⟩:=by
 have e:jV (λk=>(grM (nS req m0 g0 n) n i).testBit k) (s.a.getD i 0) n=jV (λk=>nS req m0 g0 n k==some i) (s.a.getD i 0) n:=Dc λk hk=>by
  rw[grM,kY,aQw hk,aQa]
 rw[e];unfold acc;split
 ·rfl
 ·rename_i hn
  have:jV (λk=>nS req m0 g0 n k==some i) (s.a.getD i 0) n=none:=by
   rw[T8];intro k hk;rw[beq_eq_false_iff_ne];intro hh;exact hn (hm.trans (aAH hh).1)
  rw[this]
theorem aAC {gr:Nat->Option Nat}{n:Nat}{first:Bool}: ∀(l:List Nat)(s:Mat),l.Nodup->(∀i∈l,i<s.m.length)->(∀i∈l,s.m.getD i 0= -1->(l.foldl (acc gr n first) s).m.getD i 0= -1)->l.foldl (acc gr n first) s=s
 |[],s,_,_,_=>rfl
 |i::l,s,hn,hl,h=>by
  rw[List.foldl_cons] at h⊢;have hi:=hl i (aPW ..);rw[List.nodup_cons] at hn;rcases Jv (gr:=gr) (n:=n) (first:=first) (s:=s) hi with h1|⟨h1,h2⟩
  ·rw[h1] at h⊢
   exact aAC l s hn.2 (λj hj=>hl j (aP4 _ hj)) λj hj=>h j (aP4 _ hj)
  ·have h3:=Al (gr:=gr) (n:=n) (first:=first) (j:=i) l (acc gr n first s i) hn.1
   exact absurd (h3.symm.trans (h i (aPW ..) h2)) h1
theorem aNz {req:Nat->Nat->Bool}{n:Nat}{first:Bool}{s:Mat}(hl:s.m.length=n)(h:fC (rnd req n first s).m n=fC s.m n):rnd req n first s=s:=by
 refine aAC _ _ List.nodup_range (λi hi=>by rw[aQr] at hi;omega) λi hi h0=> ?_
 rw[aQr] at hi;have h1:(fC (rnd req n first s).m n).testBit i=(fC s.m n).testBit i:=by rw[h]
 rw[fC,fC,kY,kY,aQw hi,aQa,aQa,aQw h0,decide_eq_true_eq] at h1;exact h1
theorem aNn (M n:Nat):M&&&(2 ^ n-1)=dJ (λi=>M.testBit i) n:=by
 apply Nat.eq_of_testBit_eq;intro i;rw[Nat.testBit_and,kY,<-Pt,kY,Bool.and_true,Bool.and_comm]
theorem aAD (p q:Nat->Bool)(n:Nat):dJ p n&&&dJ q n=dJ (λi=>p i&&q i) n:=by
 apply Nat.eq_of_testBit_eq;intro i;rw[Nat.testBit_and,kY,kY,kY];cases decide (i<n)<;>simp
theorem zF (p:Nat->Bool)(n:Nat):dJ p n=0↔oB p n=false:=by
 rw[aFp];constructor
 ·intro h
  cases hw:oB p n with
  |false=>rfl
  |true=>
   obtain⟨i,h1,h2⟩:=yM.mp hw;rw[h i h1] at h2;cases h2
 ·intro h i hi
  cases hp:p i with
  |false=>rfl
  |true=>
   rw[yM.mpr ⟨i,hi,hp⟩] at h;cases h
theorem aNy (p:Nat->Bool)(fr n:Nat):jV (λi=>(dJ p n).testBit i) fr n=jV p fr n:=Dc λi hi=>by rw[kY,aQw hi,aQa]
theorem Gh {p:Nat->Bool}{k:Nat}(h:p k=true):dJ p (k+1)=dJ p k|||2 ^ k:=by
 apply Nat.eq_of_testBit_eq;intro j;rw[Ua,kY,kY];by_cases hj:j=k
 ·subst hj
  simp[h]
 ·by_cases hlt:j<k
  ·simp[hlt,show j<k+1 by omega,show¬k=j by omega]
  ·simp[hlt,show¬j<k+1 by omega,show¬k=j by omega]
theorem Gg {p:Nat->Bool}{k:Nat}(h:p k=false):dJ p (k+1)=dJ p k:=by rw[dJ,h];simp
theorem aAI {p q:Nat->Bool}{n:Nat}(h: ∀i,i<n->p i=q i):oB p n=oB q n:=by
 rw[Bool.eq_iff_iff,yM,yM];constructor
 ·rintro ⟨i,h1,h2⟩
  exact⟨i,h1,by rw[<-h i h1];exact h2⟩
 ·rintro ⟨i,h1,h2⟩
  exact⟨i,h1,by rw[h i h1];exact h2⟩
theorem aNA {W:List Int}{s:Whl}{p q:Nat->Bool}(h: ∀i,i<W.length->p i=q i):kX W s p=kX W s q:=by
 have h1:oB p W.length=oB q W.length:=aAI h;have h2: ∀l:List Int,∀i,i<W.length->mX l p i=mX l q i:=λl i hi=>by unfold mX;rw[h i hi]
 have h3:lT W s p=lT W s q:=by unfold lT;rw[aAI (h2 s.l)]
 unfold kX;rw[h1,h3,Dc (h2 _)]
end Go.Abs
namespace Go.Proofs.YtkeilicinggjmaaGreatDoor
open Go.Proofs.Tryz
open Go.Abs Go.Abs.M
def fE (zs:List Int)(rest:List Value):Blk:= .cells (zs.map (λz:Int=> .int .i64 z)++rest) 3 .row
def kG (b n c:Nat):Value:= .slice (some ⟨b,0,none⟩) n c
def rJ (ww wl wc lc n:Nat)(fr:Nat):Blk:= .cells [kG ww n wc,kG wl n lc,.int .i64 fr] 171 .fix
def lI (wh ww wl wc lc:Nat)(wr lr:List Value)(W:List Int)(x:Whl):List (Nat×Blk):=
 [(wh,rJ ww wl wc lc W.length x.fr),(ww,fE W wr),(wl,fE x.l lr)]
theorem aAJ: ∀W:List Int,dV (W.map λz:Int=>Value.I z)=true
 |[]=>rfl
 |_::W=>aAJ W
theorem aAL {ww wl wc lc n fr:Nat}{zs:List Int}{lr:List Value}:rJ ww wl wc lc n fr≠fE zs lr:=λh=>by
 injection h with _ h2
 revert h2
 decide
section
variable {H : aE} {m : Nat}
theorem aNC (hm:0<m)(M i:Nat)(hM:M<65536)(hi:i<16):lvl prog pkN m (.func 148) [.int .u16 M,.I i] H=some (.bool (M.testBit i),H):=by
 refine dI (cT rfl) U ?_
 rw[aKC];have c1:decide ((0:Int)<=(i:Int))=true:=by rw[decide_eq_true_eq];omega
 have c2:decide ((i:Int)<16)=true:=by rw[decide_eq_true_eq];omega
 have e1:bin prog .shr 23 (.int .u16 (M:Int)) (.I (i:Int))=some (.int .u16 ((M>>>i:Nat):Int)):=C9 .u16 .i64 23 M i (by show i<=16;omega)
 have hlt:M>>>i<65536:=Nat.lt_of_le_of_lt (Nat.shiftRight_le M i) hM;have e2:bin prog .and 23 (.int .u16 ((M>>>i:Nat):Int)) (.int .u16 ((1:Nat):Int))=some (.int .u16 (((M>>>i)&&&1:Nat):Int)):=wQ .u16 rfl 23 (by show _<65536;exact hlt) (by show(1:Nat)<65536;omega)
 have e2':bin prog .and 23 (.int .u16 ((M>>>i:Nat):Int)) (.int .u16 1)=some (.int .u16 (((M>>>i)&&&1:Nat):Int)):=e2;have e3:((((M>>>i)&&&1:Nat):Int)==1)=M.testBit i:=by
  rw[Nat.testBit,Nat.and_comm 1];rw[Nat.and_one_is_mod];rcases Nat.mod_two_eq_zero_or_one (M>>>i) with h|h<;>rw[h]<;>rfl
 simp only[gsR,c1,c2,e1,e2',e3]
theorem vO {a i:Nat}(ha:a<65536)(hi:i<16):bin prog .shl 23 (.int .u16 1) (.I (i:Int))=some (.int .u16 ((2 ^ i:Nat):Int))/\bin prog .or 23 (.int .u16 (a:Int)) (.int .u16 ((2 ^ i:Nat):Int))=some (.int .u16 ((a|||2 ^ i:Nat):Int)):=by
 have hp:=De hi;constructor
 ·have:=C8 (P:=prog) .u16 .i64 rfl 23 1 i (by show i<=16;omega)
  rw[Nat.one_mul] at this;rw[show(2:Nat) ^ i%2 ^ IntKind.u16.bits=2 ^ i from aQl hp] at this
  exact this
 ·exact Jt .u16 rfl _ (by show _<65536;exact ha) (by show _<65536;exact hp)
theorem zG {wl n c:Nat}{zs:List Int}{lr:List Value}(hb:H[wl]? =some (fE zs lr))(hn:zs.length=n){i:Nat}(hi:i<n):cB 1 (kG wl n c) (.I (i:Int))=some (.Q wl i)/\ld1 (.Q wl i) H=some (.I (zs.getD i 0),H):=by
 constructor
 ·have:=p9 1 wl 0 n c .i64 (i:Int) U U
  simpa[kG] using this
 ·refine dC hb ?_
  rw[aPQ (by simp;omega),aP0,aPR,aPP U]
  rfl
theorem aND {wl lc:Nat}{zs:List Int}{lr:List Value}(hb:H[wl]? =some (fE zs lr))(h3:zs.length<=3): ∀(q i k:Nat),zs.length-i=q->i<=zs.length->q<k-> ∀(x0 x1 x2 x4 x5 x6 x7 x8 aS aP aQ aO aT aU aR bA bK bX bJ bE:Value),
  aJ k (aM prog (lvl prog pkN m) (aJ m) Nr) (Ns (lvl prog pkN m) (aJ m)) [x0,x1,x2,(.int .u16 (dJ (λj=>decide (0<zs.getD j 0)) i:Nat)),x4,x5,x6,x7,x8,(kG wl zs.length lc),(.I zs.length),(.I (i:Nat)),aS,aP,aQ,aO,aT,aU,aR,bA,bK,bX,bJ,bE] H=some (.int .u16 (dJ (λj=>decide (0<zs.getD j 0)) zs.length:Nat),H):=by
 intro q;induction q with
 |zero=>
  intro i k hq hi hk;intros;obtain⟨k,rfl⟩: ∃k',k=k'+1:=⟨k-1,by omega⟩
  have hie:i=zs.length:=U
  subst hie;have c1:decide ((zs.length:Int)<(zs.length:Int))=false:=by simp
  rw[aJ,Yr];simp only[gsR,c1];rw[aKE];simp only[gsR]
 |succ q ih=>
  intro i k hq hi hk;intros;obtain⟨k,rfl⟩: ∃k',k=k'+1:=⟨k-1,by omega⟩
  have c1:decide ((i:Int)<(zs.length:Int))=true:=by rw[decide_eq_true_eq];omega
  obtain⟨a1,a2⟩:=zG (c:=lc) hb rfl (i:=i) U
  have e4:=aA (i:=i) U
  rw[aJ,Yr];by_cases hp:0<zs.getD i 0
  ·obtain⟨e1,e2⟩:=vO (a:=dJ (λj=>decide (0<zs.getD j 0)) i) (i:=i) (rI _ U) U
   rw[<-Gh (p:=λj=>decide (0<zs.getD j 0)) (k:=i) (aQw hp)] at e2
   simp only[gsR,c1,a1,a2,aQw hp,e1,e2,cO,e4];exact ih (i+1) k U U U ..
  ·have e2:=Gg (p:=λj=>decide (0<zs.getD j 0)) (k:=i) (aQx hp)
   simp only[gsR,c1,a1,a2,aQx hp,cO,e4];rw[<-e2];exact ih (i+1) k U U U ..
theorem aAK (hm:10<m){wh ww wl wc lc n fr:Nat}{zs:List Int}{lr:List Value}(h0:H[wh]? =some (rJ ww wl wc lc n fr))(hb:H[wl]? =some (fE zs lr))(hn:zs.length=n)(h3:n<=3):
  lvl prog pkN m (.func 150) [.pointer (some ⟨wh,0,none⟩)] H=some (.int .u16 (dJ (λj=>decide (0<zs.getD j 0)) n:Nat),H):=by
 subst hn;refine dI (cT rfl) U ?_
 rw[aKF];have l1:ld1 (.Q wh 1) H=some (kG wl zs.length lc,H):=dC h0 rfl;have l2:cH (kG wl zs.length lc)=some (.I zs.length):=rfl;simp only[gsR,l1,l2];exact aND hb h3 zs.length 0 (m-1) U U U ..
theorem aNB {wl ww n lc wc:Nat}{l W:List Int}{lr wr:List Value}(hn:n=W.length)(b2:H[wl]? =some (fE l lr))(b1:H[ww]? =some (fE W wr))(hl:l.length=W.length):cpy 1 (kG wl n lc) (kG ww n wc) H=some (.I n,H.set wl (fE W lr)):=by
 subst hn;have hs:jO 1 (kG ww W.length wc) W.length H=some (W.map λz:Int=> .I z):=by
  unfold jO kG;simp only;split
  ·rename_i h0
   rw[aP5.mp h0];rfl
  ·rw[b1]
   unfold fE;simp only;rw[if_pos ⟨aPS _,by simp⟩,List.drop_zero,List.take_append_of_le_length (by simp)]
   congr 1
   rw[List.take_of_length_le (by simp)]
 unfold cpy;have h2:mJ (kG ww W.length wc)=some W.length:=rfl;rw[h2];simp only[kG];have hs':=hs;unfold kG at hs';rw[Nat.min_self,hs'];simp only;rw[b2];unfold fE;simp only;have:=uX (W.map λz:Int=>Value.I z) (l.map λz:Int=>Value.I z) [] lr (by simp[hl])
 rw[List.nil_append,List.nil_append,List.length_nil] at this;rw[if_pos ⟨by decide,by simp;omega,aAJ W⟩,this]
def pB (o:Option Nat):Value:= .int .i64 (match o with|some k=>(k:Int)|none=> -1)
theorem Bq (k:IntKind)(n:Int)(H':aE):chk (some (Value.int k n,H')) (.int k n)=true:=by simp[chk,veq]
theorem aNE (hm:20<m){wh ww wl wc lc:Nat}{wr lr:List Value}{W:List Int}{x:Whl}(hB:Blks (lI wh ww wl wc lc wr lr W x) H)(hne:ww≠wl)(hx:WhlI W.length x)(hW: ∀y∈W,0<y/\y<=5)(h1:1<=W.length)(h3:W.length<=3)(M:Nat)(hM:M<65536):
  ∃H',lvl prog pkN m (.func 105) [.pointer (some ⟨wh,0,none⟩),.int .u16 M] H=some (pB (kX W x λi=>M.testBit i).1,H')/\Fr (λb=>b=wh∨b=wl) H H'/\Blks (lI wh ww wl wc lc wr lr W (kX W x λi=>M.testBit i).2) H':=by
 have b0:H[wh]? =some (rJ ww wl wc lc W.length x.fr):=hB _ (aPW ..);have b1:H[ww]? =some (fE W wr):=hB (ww,fE W wr) (by simp[lI])
 have b2:H[wl]? =some (fE x.l lr):=hB (wl,fE x.l lr) (by simp[lI])
 have n01:wh≠ww:=λh=>by rw[h,b1] at b0;exact aAL (aQp b0).symm
 have n02:wh≠wl:=λh=>by rw[h,b2] at b0;exact aAL (aQp b0).symm
 obtain⟨n,hn⟩:=aD W.length;have hxl:=hx.len;have hxf:=hx.fr;obtain⟨p,hp⟩: ∃p:Nat->Bool,p=λi=>M.testBit i:=⟨_,rfl⟩
 rw[<-hp];refine jQ (cT rfl) U ?_
 rw[aKi];have l0:ld1 (.Q wh 0) H=some (kG ww W.length wc,H):=dC b0 rfl;have l0':cH (kG ww W.length wc)=some (.I W.length):=rfl;have hpow:2 ^ W.length<65536:=De U
 have hpos:0<2 ^ W.length:=Nat.pow_pos U
 have e1:=(vO (a:=0) (i:=W.length) U U).1
 have e2:IntKind.u16.wrap ((2 ^ W.length:Nat)-(1:Int))=((2 ^ W.length-1:Nat):Int):=by rw[Aj];omega
 have e3:bin prog .and 23 (.int .u16 (M:Int)) (.int .u16 ((2 ^ W.length-1:Nat):Int))=some (.int .u16 ((dJ p W.length:Nat):Int)):=by
  rw[wQ .u16 rfl _ (by show _<65536;exact hM) (by show _<65536;omega),aNn,hp]
 have hml: ∀q:Nat->Bool,dJ q W.length<65536:=λq=>rI q U
 by_cases ha:oB p W.length=true
 ·have c1:(((dJ p W.length:Nat):Int)==0)=false:=by
   rw[beq_eq_false_iff_ne];intro h;have:=(zF p W.length).mp U
   rw[ha] at this;cases this
  have s1:=aAK (m:=m-1) U b0 b2 hxl h3
  have a1:bin prog .and 23 (.int .u16 ((dJ p W.length:Nat):Int)) (.int .u16 ((dJ (λj=>decide (0<x.l.getD j 0)) W.length:Nat):Int))=some (.int .u16 ((dJ (mX x.l p) W.length:Nat):Int)):=by
   rw[wQ .u16 rfl _ (by show _<65536;exact hml _) (by show _<65536;exact hml _),aAD]
   rfl
  obtain⟨i,hi,hil,hip,hip2⟩:=aFl (s:=x) (λy hy=>(hW y hy).1) ha
  have hres:kX W x p=(some i,⟨(lT W x p).set i ((lT W x p).getD i 0-1),(i+1)%W.length⟩):=by
   unfold kX;rw[if_pos ha,hi]
  have hpk: ∀G:aE,lvl prog pkN (m-1) (.func 103) [.int .u16 ((dJ (mX (lT W x p) p) W.length:Nat):Int),.I x.fr,.I W.length] G=some (.I i,G):=λG=>by
   rw[K5 _ U,Jw (hml _) U hxf,aNy,hi]
  have e5:=aA (i:=i) U
  have e6:bin prog .rem 3 (.I ((i+1:Nat):Int)) (.I W.length)=some (.I (((i+1)%W.length:Nat):Int)):=wT (i+1) W.length _ rfl U
  rw[hres];by_cases hc:oB (mX x.l p) W.length=true
  ·have hf:lT W x p=x.l:=by unfold lT;rw[if_pos hc]
   rw[hf] at hpk hip2⊢;have c2:(((dJ (mX x.l p) W.length:Nat):Int)==0)=false:=by
    rw[beq_eq_false_iff_ne];intro h;have:=(zF (mX x.l p) W.length).mp U
    rw[hc] at this;cases this
   have l2:ld1 (.Q wh 2) H=some (.I x.fr,H):=dC b0 rfl;have l1:ld1 (.Q wh 1) H=some (kG wl W.length lc,H):=dC b0 rfl;obtain⟨g1,g2⟩:=zG (c:=lc) b2 hxl hil;have hle:x.l.getD i 0<=5:=by
    have:i<x.l.length:=U
    rw[aPR,aPP this,aQg]
    exact(hx.wt _ (List.getElem_mem this)).2
   have e7:IntKind.i64.wrap (x.l.getD i 0-1)=x.l.getD i 0-1:=cZ U U
   have st1:stN 1 (.Q wl i) (.I (x.l.getD i 0-1)) H=some (undef,H.set wl (fE (x.l.set i (x.l.getD i 0-1)) lr)):=by
    rw[lW b2 aC (by simp;omega),List.set_append_left _ _ (by simp;omega),<-List.map_set]
    rfl
   have b0':(H.set wl (fE (x.l.set i (x.l.getD i 0-1)) lr))[wh]? =some (rJ ww wl wc lc W.length x.fr):=by rw[aPO (λh=>n02 h.symm),b0]
   have st2:stN 1 (.Q wh 2) (.I (((i+1)%W.length:Nat):Int)) (H.set wl (fE (x.l.set i (x.l.getD i 0-1)) lr))=some (undef,(H.set wl (fE (x.l.set i (x.l.getD i 0-1)) lr)).set wh (rJ ww wl wc lc W.length ((i+1)%W.length))):=lW b0' aC (by simp)
   simp only[gsR,l0,l0',e1,iV,e2,e3,c1,s1,a1,c2,l2,Bq,hpk,l1,g1,g2,e7,st1,cO,e5,e6,st2];refine⟨_,rfl,⟨by simp,λb hb hbn=> ?_⟩,λq hq=> ?_⟩
   ·rw[aPO (λh=>hbn (.inl h.symm)),aPO (λh=>hbn (.inr h.symm))]
   ·simp only[lI,aP6,aQd,or_false] at hq
    rcases hq with rfl|rfl|rfl
    ·exact iR b0'
    ·rw[aPO n01,aPO hne.symm,b1]
    ·rw[aPO n02]
     exact iR b2
  ·have hf:lT W x p=W:=by unfold lT;rw[if_neg hc]
   rw[hf] at hpk hip2⊢;have c2:(((dJ (mX x.l p) W.length:Nat):Int)==0)=true:=by
    rw[beq_iff_eq];have:=(zF (mX x.l p) W.length).mpr (by simpa using hc)
    omega
   have l1:ld1 (.Q wh 1) H=some (kG wl W.length lc,H):=dC b0 rfl;obtain⟨H1,hH1⟩:=aD (H.set wl (fE W lr));have cp:cpy 1 (kG wl W.length lc) (kG ww W.length wc) H=some (.I W.length,H1):=by rw[hH1];exact aNB rfl b2 b1 hxl
   have b01:H1[wh]? =some (rJ ww wl wc lc W.length x.fr):=by rw[hH1,aPO (λh=>n02 h.symm),b0]
   have b11:H1[ww]? =some (fE W wr):=by rw[hH1,aPO hne.symm,b1]
   have b21:H1[wl]? =some (fE W lr):=by rw[hH1];exact iR b2
   have s2:=aAK (m:=m-1) U b01 b21 rfl h3
   have a2:bin prog .and 23 (.int .u16 ((dJ p W.length:Nat):Int)) (.int .u16 ((dJ (λj=>decide (0<W.getD j 0)) W.length:Nat):Int))=some (.int .u16 ((dJ (mX W p) W.length:Nat):Int)):=by
    rw[wQ .u16 rfl _ (by show _<65536;exact hml _) (by show _<65536;exact hml _),aAD]
    rfl
   have l2:ld1 (.Q wh 2) H1=some (.I x.fr,H1):=dC b01 rfl;have l11:ld1 (.Q wh 1) H1=some (kG wl W.length lc,H1):=dC b01 rfl;obtain⟨g1,g2⟩:=zG (c:=lc) b21 rfl hil;have hle:W.getD i 0<=5:=by
    rw[aPR,aPP hil,aQg]
    exact(hW _ (List.getElem_mem hil)).2
   have e7:IntKind.i64.wrap (W.getD i 0-1)=W.getD i 0-1:=cZ U U
   have st1:stN 1 (.Q wl i) (.I (W.getD i 0-1)) H1=some (undef,H1.set wl (fE (W.set i (W.getD i 0-1)) lr)):=by
    rw[lW b21 aC (by simp;omega),List.set_append_left _ _ (by simp;omega),<-List.map_set]
    rfl
   have b0':(H1.set wl (fE (W.set i (W.getD i 0-1)) lr))[wh]? =some (rJ ww wl wc lc W.length x.fr):=by rw[aPO (λh=>n02 h.symm),b01]
   have st2:stN 1 (.Q wh 2) (.I (((i+1)%W.length:Nat):Int)) (H1.set wl (fE (W.set i (W.getD i 0-1)) lr))=some (undef,(H1.set wl (fE (W.set i (W.getD i 0-1)) lr)).set wh (rJ ww wl wc lc W.length ((i+1)%W.length))):=lW b0' aC (by simp)
   simp only[gsR,l0,l0',e1,iV,e2,e3,c1,s1,a1,c2,l1,cp,s2,a2,l2,Bq,hpk,l11,g1,g2,e7,st1,cO,e5,e6,st2];refine⟨_,rfl,⟨by simp[hH1],λb hb hbn=> ?_⟩,λq hq=> ?_⟩
   ·rw[aPO (λh=>hbn (.inl h.symm)),aPO (λh=>hbn (.inr h.symm)),hH1,aPO (λh=>hbn (.inr h.symm))]
   ·simp only[lI,aP6,aQd,or_false] at hq
    rcases hq with rfl|rfl|rfl
    ·exact iR b0'
    ·rw[aPO n01,aPO hne.symm,b11]
    ·rw[aPO n02]
     exact iR b21
 ·have c1:(((dJ p W.length:Nat):Int)==0)=true:=by
   rw[beq_iff_eq];have:=(zF p W.length).mpr (by simpa using ha)
   omega
  have hres:kX W x p=(none,x):=by
   unfold kX;rw[if_neg ha]
  rw[hres];simp only[gsR,l0,l0',e1,iV,e2,e3,c1]
  exact⟨_,rfl,Fr.iQ _ _,hB⟩
end
def uF (zs:List Nat):List Int:=zs.map λz:Nat=>(z:Int)
def iL (zs:List Nat):Blk:=fE (uF zs) []
def iM (zs:List Nat):Blk:= .cells (zs.map λz:Nat=> .int .u16 (z:Int)) 23 .row
def qK (ga aa n:Nat):Blk:= .cells [eH ga n,eH aa n] 176 .fix
def jI (ab ga aa:Nat)(g a:List Nat):List (Nat×Blk):=[(ab,qK ga aa g.length),(ga,iL g),(aa,iL a)]
def stB (mb n ins outs:Nat):Blk:= .cells [eH mb n,.int .u16 ins,.int .u16 outs] 201 .fix
theorem aAN (zs:List Nat):(uF zs).length=zs.length:=by simp[uF]
theorem aNH (zs:List Nat)(i:Nat):(uF zs).getD i 0=((zs.getD i 0:Nat):Int):=by
 unfold uF;rw[aPR,aPR,aP0];cases zs[i]? <;>rfl
theorem aNI (zs:List Nat)(i z:Nat):uF (zs.set i z)=(uF zs).set i (z:Int):=by simp[uF,List.map_set]
theorem aAM {zs:List Nat}{n i:Nat}(h: ∀z∈zs,z<n)(hi:i<zs.length):zs.getD i 0<n:=by
 rw[aPR,aPP hi];exact h _ (List.getElem_mem hi)
section
variable {H : aE} {m : Nat}
theorem Gi {b n:Nat}{zs:List Nat}(hb:H[b]? =some (iL zs))(hn:zs.length=n){i:Nat}(hi:i<n):cB 1 (eH b n) (.I (i:Int))=some (.Q b i)/\ld1 (.Q b i) H=some (.I (zs.getD i 0:Nat),H):=by
 have:=zG (c:=n) hb ((aAN zs).trans hn) hi;rw[aNH] at this;exact this
theorem Gj {b n c:Nat}{zs:List Nat}(hb:H[b]? =some (iM zs))(hn:zs.length=n){i:Nat}(hi:i<n):cB 1 (.slice (some ⟨b,0,none⟩) n c) (.I (i:Int))=some (.Q b i)/\ld1 (.Q b i) H=some (.int .u16 (zs.getD i 0:Nat),H):=by
 constructor
 ·have:=p9 1 b 0 n c .i64 (i:Int) U U
  simpa using this
 ·refine dC hb ?_
  rw[aP0,aPR,aPP U]
  rfl
theorem aAO {b i:Nat}{zs:List Int}{lr:List Value}(z:Int)(hb:H[b]? =some (fE zs lr))(hi:i<zs.length):stN 1 (.Q b i) (.I z) H=some (undef,H.set b (fE (zs.set i z) lr)):=by
 rw[lW hb aC (by simp;omega),List.set_append_left _ _ (by simp;omega),<-List.map_set]
 rfl
theorem aAP {b i:Nat}{zs:List Nat}(z:Nat)(hb:H[b]? =some (iL zs))(hi:i<zs.length):stN 1 (.Q b i) (.I z) H=some (undef,H.set b (iL (zs.set i z))):=by
 rw[aAO (z:Int) hb (by rw[aAN];exact hi),<-aNI]
 rfl
theorem aAQ {b i:Nat}{zs:List Nat}(z:Nat)(hb:H[b]? =some (iM zs))(hi:i<zs.length):stN 1 (.Q b i) (.int .u16 z) H=some (undef,H.set b (iM (zs.set i z))):=by
 rw[lW hb aC (by simp;omega),<-List.map_set]
 rfl
theorem oK (i:Nat)(hi:i<1000):IntKind.i64.wrap ((i:Int)+1)=((i+1:Nat):Int):=by rw[cZ U U];omega
section
variable {ab ga aa sb mb cb : Nat} {rows : List Nat} {M : List Int} {g a : List Nat} {n : Nat}
theorem aNG (hB:Blks (jI ab ga aa g a) H)(hs:H[sb]? =some (stB mb n (fC M n) (kF M n)))(hc:H[cb]? =some (iM (jX rows n)))(hg:g.length=n)(hgl: ∀z∈g,z<n)(hr:rows.length=n)(hM:M.length=n)(h1:1<=n)(h16:n<=16)(hm:2<m):
  ∀(q i k:Nat),n-i=q->i<=n->q<k-> ∀(x3 x4 x5 x6 x8 x9 bG b9 aS aP aU aR bA bK bX bJ bE aV aW aX aY aZ bB bC bH bI bM bN bO bP bQ bR bS bT bU bY cA cD cE cI cJ cN cP cK cQ cR cW dA cX cY:Value),
  aJ k (aM prog (lvl prog pkN m) (aJ m) Na) (Nb (lvl prog pkN m) (aJ m)) [(.Q ab 0),(.Q sb 0),(eH cb n),x3,x4,x5,x6,(eH H.length n),x8,x9,bG,b9,aS,aP,(eH cb n),(.I n),(.I (i:Nat)),aU,aR,bA,bK,bX,bJ,bE,aV,aW,aX,aY,aZ,bB,bC,bH,bI,bM,bN,bO,bP,bQ,bR,bS,bT,bU,bY,cA,cD,cE,cI,cJ,cN,cP,cK,cQ,cR,cW,dA,cX,cY] (H++[iM (grL (nS (kK rows) M g n) n i)])=some (eH H.length n,H++[iM (grL (nS (kK rows) M g n) n n)]):=by
 obtain⟨gr,hgr⟩:=aD (nS (kK rows) M g n);rw[<-hgr];have b0:H[ab]? =some (qK ga aa n):=by rw[<-hg];exact hB _ (aPW ..)
 have b1:H[ga]? =some (iL g):=hB (ga,iL g) (by simp[jI])
 intro q;induction q with
 |zero=>
  intro i k hq hi hk;intros;obtain⟨k,rfl⟩: ∃k',k=k'+1:=⟨k-1,by omega⟩
  have hie:i=n:=U
  subst hie;have c1:decide ((i:Int)<(i:Int))=false:=by simp
  rw[aJ,Yj];simp only[gsR,c1];rw[aKe];simp only[gsR]
 |succ q ih=>
  intro i k hq hi hk;intros;obtain⟨k,rfl⟩: ∃k',k=k'+1:=⟨k-1,by omega⟩
  have hin:i<n:=U
  have c1:decide ((i:Int)<(n:Int))=true:=by rw[decide_eq_true_eq];omega
  obtain⟨G,hG⟩:=aD (H++[iM (grL gr n i)]);have e0:G[ab]? =some (qK ga aa n):=by rw[hG];exact nW b0 _
  have e1:G[ga]? =some (iL g):=by rw[hG];exact nW b1 _
  have e2:G[sb]? =some (stB mb n (fC M n) (kF M n)):=by rw[hG];exact nW hs _
  have e3:G[cb]? =some (iM (jX rows n)):=by rw[hG];exact nW hc _
  have e4:G[H.length]? =some (iM (grL gr n i)):=by rw[hG];exact dS _ _
  obtain⟨a1,a2⟩:=Gj (c:=n) e3 (aFm _ _) hin;have a1:cB 1 (eH cb n) (.I (i:Int))=some (.Q cb i):=a1;have l1:ld1 (.Q sb 1) G=some (.int .u16 (fC M n:Nat),G):=dC e2 rfl;have l2:ld1 (.Q sb 2) G=some (.int .u16 (kF M n:Nat),G):=dC e2 rfl;have l0:ld1 (.Q ab 0) G=some (eH ga n,G):=dC e0 rfl;obtain⟨a3,a4⟩:=Gi e1 hg hin;have hcl:(jX rows n).getD i 0<65536:=aNo U hin
  have hil:fC M n<65536:=rI _ h16;have hol:kF M n<65536:=rI _ h16;have a5:bin prog .and 23 (.int .u16 ((jX rows n).getD i 0:Nat)) (.int .u16 (fC M n:Nat))=some (.int .u16 ((jX rows n).getD i 0&&&fC M n:Nat)):=wQ .u16 rfl _ (by show _<65536;exact hcl) (by show _<65536;exact hil)
  have hal:(jX rows n).getD i 0&&&fC M n<65536:=Nat.lt_of_le_of_lt Nat.and_le_left hcl;have a6:cH (eH cb n)=some (.I n):=rfl;have hgi:g.getD i 0<n:=aAM hgl U
  have a7:lvl prog pkN m (.func 103) [.int .u16 ((jX rows n).getD i 0&&&fC M n:Nat),.I (g.getD i 0:Nat),.I n] G=some (pB (jV (λj=>((jX rows n).getD i 0&&&fC M n).testBit j) (g.getD i 0) n),G):=by
   rw[K5 _ U,Jw hal h16 hgi]
   rfl
  have hgm:gr i=if(i:Int)∈M then none else jV (λj=>((jX rows n).getD i 0&&&fC M n).testBit j) (g.getD i 0) n:=by rw[hgr];exact aNs hr hin
  have e9:=oK i U
  rw[aJ,Yj];rw[<-hG];cases hp:jV (λj=>((jX rows n).getD i 0&&&fC M n).testBit j) (g.getD i 0) n with
  |none=>
   rw[hp] at a7 hgm;have hno:gr i=none:=by rw[hgm];split<;>rfl
   have c2:((-1:Int)!= -1)=false:=rfl;have hL:=aAE (gr:=gr) (n:=n) (kk:=i) (λj _=>by rw[hno];simp)
   simp only[gsR,c1,a1,a2,l1,a5,l0,a3,a4,a6,a7,pB,c2,cO,e9];rw[hG,<-hL];exact ih (i+1) k U U U ..
  |some j=>
   rw[hp] at a7 hgm;have hjn:=(u4 hp).1;have c2:(((j:Int))!= -1)=true:=by rw[bne_iff_ne];omega
   have c3:=aNC (H:=G) (m:=m) U (kF M n) i hol U
   rw[aNw hin] at c3;by_cases hmem:(i:Int)∈M
   ·have hno:gr i=none:=by rw[hgm,if_pos hmem]
    have hL:=aAE (gr:=gr) (n:=n) (kk:=i) (λj _=>by rw[hno];simp)
    rw[aQx (not_not_intro hmem)] at c3;simp only[gsR,c1,a1,a2,l1,a5,l0,a3,a4,a6,a7,pB,c2,l2,c3,cO,e9];rw[hG,<-hL];exact ih (i+1) k U U U ..
   ·have hyes:gr i=some j:=by rw[hgm,if_neg hmem]
    have hL:=aNp (n:=n) (kk:=i) hjn hyes;rw[aQw hmem] at c3;obtain⟨a8,a9⟩:=Gj (c:=n) e4 (xH _ _ _) hjn;have hv:(grL gr n i).getD j 0=grM gr i j:=by rw[aPR,Bp hjn];rfl
    rw[hv] at a9;obtain⟨s1,s2⟩:=vO (a:=grM gr i j) (i:=i) (aAF _ U _) U
    have st:=aAQ (grM gr i j|||2 ^ i) e4 (i:=j) (by rw[xH];exact hjn)
    rw[<-hL] at st;have a8':cB 1 (eH H.length n) (.I (j:Int))=some (.Q H.length j):=a8;simp only[gsR,c1,a1,a2,l1,a5,l0,a3,a4,a6,a7,pB,c2,l2,c3,a8',a9,s1,s2,st,cO,e9];rw[hG,nL];exact ih (i+1) k U U U ..
theorem aNF (hB:Blks (jI ab ga aa g a) H)(hs:H[sb]? =some (stB mb n (fC M n) (kF M n)))(hc:H[cb]? =some (iM (jX rows n)))(hg:g.length=n)(hgl: ∀z∈g,z<n)(hr:rows.length=n)(hM:M.length=n)(h1:1<=n)(h16:n<=16)(hm:30<m):
  lvl prog pkN m (.func 102) [.Q ab 0,.Q sb 0,eH cb n] H=some (eH H.length n,H++[iM (grL (nS (kK rows) M g n) n n)]):=by
 refine dI (cT rfl) U ?_
 rw[aKf];have a6:cH (eH cb n)=some (.I n):=rfl;have mk:=sT (H:=H) 23 1 2 [.int .u16 0] .i64 .i64 (n:Int) U U U rfl
 have hz:H++[Blk.cells (List.replicate (n:Int).toNat [Value.int .u16 0]).flatten 23 .row]=H++[iM (grL (nS (kK rows) M g n) n 0)]:=by
  have: ∀n,(List.replicate n [Value.int .u16 0]).flatten=List.replicate n (.int .u16 0):=by
   intro n;induction n with
   |zero=>rfl
   |succ n ih=>rw[List.replicate_succ,aQn,ih];rfl
  rw[aQf,this,aNq,iM,List.map_replicate];rfl
 rw[hz,aQf] at mk;simp only[gsR,a6,mk];exact aNG hB hs hc hg hgl hr hM h1 h16 U n 0 (m-1) rfl U U ..
end
end
structure RunS (H:aE)(ab ga aa sb mb cb:Nat)(rows:List Nat)(n:Nat)(s:Mat):Prop where
 arb:Blks (jI ab ga aa s.g s.a) H
 st:H[sb]? =some (stB mb n (fC s.m n) (kF s.m n))
 mt:H[mb]? =some (fE s.m [])
 cols:H[cb]? =some (iM (jX rows n))
section
variable {H : aE} {m : Nat} {ab ga aa sb mb cb : Nat} {rows : List Nat} {n : Nat} {s : Mat}
theorem RunS.ext {H':aE}(h:RunS H ab ga aa sb mb cb rows n s)(he:Ext H H'):RunS H' ab ga aa sb mb cb rows n s:=
 ⟨Blks.dx _ _ _ h.arb he,by rw[he.2 _ (dK h.st) id,h.st],by rw[he.2 _ (dK h.mt) id,h.mt],by rw[he.2 _ (dK h.cols) id,h.cols]⟩
theorem zH {zs:List Nat}{ws:List Int}{lr:List Value}:iM zs≠fE ws lr:=λh=>by
 injection h with _ h2
 revert h2
 decide
theorem Pv {mb n i o:Nat}{ws:List Int}{lr:List Value}:stB mb n i o≠fE ws lr:=λh=>by
 injection h with _ h2
 revert h2
 decide
theorem aAS {mb n i o:Nat}{zs:List Nat}:stB mb n i o≠iM zs:=λh=>by
 injection h with _ h2
 revert h2
 decide
theorem Pu {ga aa n:Nat}{ws:List Int}{lr:List Value}:qK ga aa n≠fE ws lr:=λh=>by
 injection h with _ h2
 revert h2
 decide
theorem aNK {ga aa n mb k i o:Nat}:qK ga aa n≠stB mb k i o:=λh=>by
 injection h with _ h2
 revert h2
 decide
theorem aAR {a i:Nat}(ha:a<65536)(hi:i<16):bin prog .andNot 23 (.int .u16 (a:Int)) (.int .u16 ((2 ^ i:Nat):Int))=some (.int .u16 ((lE a (2 ^ i):Nat):Int)):=
 T0 .u16 rfl _ (by show _<65536;exact ha) (by show _<65536;exact De hi)
theorem RunS.aNJ (h:RunS H ab ga aa sb mb cb rows n s)(hI:MatI n s)(hn:1<=n)(hne:ga≠aa)(hma:mb≠ga)(hmb:mb≠aa)(first:Bool){i k:Nat}(hi:i<n)(hk:k<n)(hf:s.m.getD i 0= -1):
  let H1:=H.set mb (fE (s.m.set i (k:Int)) [])
  let H2:=H1.set sb (stB mb n (lE (fC s.m n) (2 ^ i)) (kF s.m n))
  let H3:=H2.set sb (stB mb n (lE (fC s.m n) (2 ^ i)) (lE (kF s.m n) (2 ^ k)))
  let H4:=H3.set ga (iL (s.g.set k ((i+1)%n)))
  let H5:=H4.set aa (iL (s.a.set i ((k+1)%n)))
  H1[sb]? =some (stB mb n (fC s.m n) (kF s.m n))/\H2[sb]? =some (stB mb n (lE (fC s.m n) (2 ^ i)) (kF s.m n))/\
  RunS H3 ab ga aa sb mb cb rows n ⟨s.m.set i (k:Int),s.g,s.a⟩/\H4[aa]? =some (iL s.a)/\RunS H5 ab ga aa sb mb cb rows n ⟨s.m.set i (k:Int),s.g.set k ((i+1)%n),s.a.set i ((k+1)%n)⟩:=by
 intro H1 H2 H3 H4 H5;have b0:H[ab]? =some (qK ga aa s.g.length):=h.arb _ (aPW ..);have b1:H[ga]? =some (iL s.g):=h.arb (ga,iL s.g) (by simp[jI])
 have b2:H[aa]? =some (iL s.a):=h.arb (aa,iL s.a) (by simp[jI])
 have nsm:sb≠mb:=λhh=>by have:=h.st;rw[hh,h.mt] at this;exact Pv (aQp this).symm
 have nsg:sb≠ga:=λhh=>by have:=h.st;rw[hh,b1] at this;exact Pv (aQp this).symm
 have nsa:sb≠aa:=λhh=>by have:=h.st;rw[hh,b2] at this;exact Pv (aQp this).symm
 have nsc:sb≠cb:=λhh=>by have:=h.st;rw[hh,h.cols] at this;exact aAS (aQp this).symm
 have ncm:cb≠mb:=λhh=>by have:=h.cols;rw[hh,h.mt] at this;exact zH (aQp this).symm
 have ncg:cb≠ga:=λhh=>by have:=h.cols;rw[hh,b1] at this;exact zH (aQp this).symm
 have nca:cb≠aa:=λhh=>by have:=h.cols;rw[hh,b2] at this;exact zH (aQp this).symm
 have nam:ab≠mb:=λhh=>by have:=h.mt;rw[<-hh,b0] at this;exact Pu (aQp this)
 have nag:ab≠ga:=λhh=>by have:=b1;rw[<-hh,b0] at this;exact Pu (aQp this)
 have naa:ab≠aa:=λhh=>by have:=b2;rw[<-hh,b0] at this;exact Pu (aQp this)
 have nas:ab≠sb:=λhh=>by have:=h.st;rw[<-hh,b0] at this;exact aNK (aQp this)
 have s1:H1[sb]? =some (stB mb n (fC s.m n) (kF s.m n)):=by rw[aPO nsm.symm,h.st]
 have s2:H2[sb]? =some (stB mb n (lE (fC s.m n) (2 ^ i)) (kF s.m n)):=iR s1;have k3: ∀b,b≠sb->b≠mb->H3[b]? =H[b]? :=λb h1 h2=>by rw[aPO h1.symm,aPO h1.symm,aPO h2.symm]
 have hins:=aNt (k:=k) hi hI.ml;have houts:=aNv (k:=k) hi hI.ml hf;have m3:H3[mb]? =some (fE (s.m.set i (k:Int)) []):=by
  rw[aPO nsm,aPO nsm];exact iR h.mt
 have s3:H3[sb]? =some (stB mb n (fC (s.m.set i (k:Int)) n) (kF (s.m.set i (k:Int)) n)):=by rw[hins,houts];exact iR s2
 have g3:H3[ga]? =some (iL s.g):=by rw[k3 ga nsg.symm hma.symm,b1]
 have a3:H3[aa]? =some (iL s.a):=by rw[k3 aa nsa.symm hmb.symm,b2]
 have r3:H3[ab]? =some (qK ga aa s.g.length):=by rw[k3 ab nas nam,b0]
 have c3:H3[cb]? =some (iM (jX rows n)):=by rw[k3 cb nsc.symm ncm,h.cols]
 have a4:H4[aa]? =some (iL s.a):=by rw[aPO hne,a3]
 have k5: ∀b,b≠ga->b≠aa->H5[b]? =H3[b]? :=λb h1 h2=>by rw[aPO h2.symm,aPO h1.symm]
 refine⟨s1,s2,⟨λp hp=> ?_,s3,m3,c3⟩,a4,⟨λp hp=> ?_,by rw[k5 sb nsg nsa,s3],by rw[k5 mb hma hmb,m3],by rw[k5 cb ncg nca,c3]⟩⟩
 ·simp only[jI,aP6,aQd,or_false] at hp
  rcases hp with rfl|rfl|rfl
  ·exact r3
  ·exact g3
  ·exact a3
 ·simp only[jI,aP6,aQd,or_false] at hp
  rcases hp with rfl|rfl|rfl
  ·rw[k5 ab nag naa,r3,List.length_set]
  ·rw[aPO hne.symm]
   exact iR g3
  ·exact iR a4
end
section
variable {H : aE} {m : Nat} {ab ga aa sb mb cb : Nat} {rows : List Nat} {n : Nat} {s0 : Mat}
theorem aNL {H0:aE}{rounds rd was:Nat}(hI0:MatI n s0)(h1:1<=n)(h16:n<=16)(hne:ga≠aa)(hma:mb≠ga)(hmb:mb≠aa)(hsb:H0.length<=sb)(hmb0:H0.length<=mb)(hm:2<m){K:Ex->K (Value×aE)}{Q:aE->Value->Prop}
  (hK: ∀H',RunS H' ab ga aa sb mb cb rows n (rnd (kK rows) n (rd==0) s0)->Fr (λb=>b=ga∨b=aa) H0 H'-> ∀(x1 x2 x3 x4 x5 x6 x8 b9 aP aQ aO aT aU aR bA bK bX bJ bE aV aW aX aY aZ bB bC bH bI bM bN bO bP bQ bR bS bT bU bY cA cD cE cN cP cK cQ cR cW dA cX cY dD dF dL dH dM dU dW dY dZ eA eC eD eE eF eM eN eO eP eQ eS eT eU eV eW eX eY fN fO fP fQ fR fS fT fU gC gD gE gF gG gH gI gJ gK gL gM gN gO gP gQ gR gS gT gU gV gW gX gY gZ hZ iA iB iC iD iE iF iG iH jL jM lK lL lM lN lO lP lQ lR lS:Value),∃H2 r,N3 (lvl prog pkN m) (aJ m) K (.Q ab 0) x1 x2 x3 x4 x5 x6 (.I n) x8 (.Q sb 0) (eH cb n) b9 (.int .u16 was) aP aQ aO aT aU aR bA bK bX bJ bE aV aW aX aY aZ bB bC bH bI bM bN bO bP bQ bR bS bT bU bY cA cD cE (.I rounds) (.I (rd:Nat)) cN cP cK cQ cR cW dA cX cY dD dF dL dH dM dU dW dY dZ eA eC eD eE eF eM eN eO eP eQ eS eT eU eV eW eX eY fN fO fP fQ fR fS fT fU gC gD gE gF gG gH gI gJ gK gL gM gN gO gP gQ gR gS gT gU gV gW gX gY gZ hZ iA iB iC iD iE iF iG iH jL jM lK lL lM lN lO lP lQ lR lS H'=some (r,H2)/\Q H2 r):
  ∀(q i k:Nat)(H:aE)(gb:Nat),n-i=q->i<=n->q<k->RunS H ab ga aa sb mb cb rows n ((List.range i).foldl (acc (nS (kK rows) s0.m s0.g n) n (rd==0)) s0)->Fr (λb=>b=ga∨b=aa) H0 H->H[gb]? =some (iM (grL (nS (kK rows) s0.m s0.g n) n n))->
  ∀(x1 x2 x3 x4 x5 x6 x8 aP aQ aO aT aU aR bA bK bX bJ bE aV aW aX aY aZ bB bC bH bI bM bN bO bP bQ bR bS bT bU bY cA cD cE cN cP cK cQ cR cW dA cX cY dH dM dU dW dY dZ eA eC eD eE eF eM eN eO eP eQ eS eT eU eV eW eX eY fN fO fP fQ fR fS fT fU gC gD gE gF gG gH gI gJ gK gL gM gN gO gP gQ gR gS gT gU gV gW gX gY gZ hZ iA iB iC iD iE iF iG iH jL jM lK lL lM lN lO lP lQ lR lS:Value),∃H2 r,aJ k (aM prog (lvl prog pkN m) (aJ m) Nz) (N5 (lvl prog pkN m) (aJ m) K) [(.Q ab 0),x1,x2,x3,x4,x5,x6,(.I n),x8,(.Q sb 0),(eH cb n),(.I (rd:Nat)),(.int .u16 was),aP,aQ,aO,aT,aU,aR,bA,bK,bX,bJ,bE,aV,aW,aX,aY,aZ,bB,bC,bH,bI,bM,bN,bO,bP,bQ,bR,bS,bT,bU,bY,cA,cD,cE,(.I rounds),(.I (rd:Nat)),cN,cP,cK,cQ,cR,cW,dA,cX,cY,(eH gb n),(.I n),(.I (i:Nat)),dH,dM,dU,dW,dY,dZ,eA,eC,eD,eE,eF,eM,eN,eO,eP,eQ,eS,eT,eU,eV,eW,eX,eY,fN,fO,fP,fQ,fR,fS,fT,fU,gC,gD,gE,gF,gG,gH,gI,gJ,gK,gL,gM,gN,gO,gP,gQ,gR,gS,gT,gU,gV,gW,gX,gY,gZ,hZ,iA,iB,iC,iD,iE,iF,iG,iH,jL,jM,lK,lL,lM,lN,lO,lP,lQ,lR,lS] H=some (r,H2)/\Q H2 r:=by
 intro q;induction q with
 |zero=>
  intro i k H gb hq hi hk hS hfr hgb;intros;obtain⟨k,rfl⟩: ∃k',k=k'+1:=⟨k-1,by omega⟩
  have hie:i=n:=U
  subst hie;have c1:decide ((i:Int)<(i:Int))=false:=by simp
  rw[aJ,Yx];simp only[gsR,c1];rw[aKY];exact hK H hS hfr ..
 |succ q ih=>
  intro i k H gb hq hi hk hS hfr hgb;intros;obtain⟨k,rfl⟩: ∃k',k=k'+1:=⟨k-1,by omega⟩
  have hin:i<n:=U
  obtain⟨gr,hgr⟩:=aD (nS (kK rows) s0.m s0.g n);obtain⟨s,hs⟩:=aD ((List.range i).foldl (acc gr n (rd==0)) s0);rw[<-hgr] at hS hgb ih;rw[<-hs] at hS;have hI:MatI n s:=by rw[hs];exact MatI.O3 U _ hI0
  have hmi:s.m.getD i 0=s0.m.getD i 0:=by rw[hs];exact Al _ _ (by simp)
  have hnext:(List.range (i+1)).foldl (acc gr n (rd==0)) s0=match jV (λk=>(grM gr n i).testBit k) (s.a.getD i 0) n with
   |none=>s
   |some k=>⟨s.m.set i (k:Int),if(rd==0)=true then s.g.set k ((i+1)%n) else s.g,if(rd==0)=true then s.a.set i ((k+1)%n) else s.a⟩:=by
   rw[aQm,List.foldl_append,List.foldl_cons,List.foldl_nil,<-hs,hgr];exact aNm hmi
  have c1:decide ((i:Int)<(n:Int))=true:=by rw[decide_eq_true_eq];omega
  have b0:H[ab]? =some (qK ga aa s.g.length):=hS.arb _ (aPW ..);have b1:H[ga]? =some (iL s.g):=hS.arb (ga,iL s.g) (by simp[jI])
  have b2:H[aa]? =some (iL s.a):=hS.arb (aa,iL s.a) (by simp[jI])
  rw[hI.gl] at b0;obtain⟨a1,a2⟩:=Gj (c:=n) hgb (xH _ _ _) hin;have a1:cB 1 (eH gb n) (.I (i:Int))=some (.Q gb i):=a1;have hv:(grL gr n n).getD i 0=grM gr n i:=by rw[aPR,Bp hin];rfl
  rw[hv] at a2;have l1:ld1 (.Q ab 1) H=some (eH aa n,H):=dC b0 rfl;obtain⟨a3,a4⟩:=Gi b2 hI.al hin;have hai:s.a.getD i 0<n:=aAM hI.a (by rw[hI.al];exact hin)
  have a5:lvl prog pkN m (.func 103) [.int .u16 (grM gr n i:Nat),.I (s.a.getD i 0:Nat),.I n] H=some (pB (jV (λj=>(grM gr n i).testBit j) (s.a.getD i 0) n),H):=by
   rw[K5 _ U,Jw (aAF gr h16 i) h16 hai]
   rfl
  have e9:=oK i U
  rw[aJ,Yx];cases hp:jV (λk=>(grM gr n i).testBit k) (s.a.getD i 0) n with
  |none=>
   rw[hp] at a5 hnext;have c2:((-1:Int)== -1)=true:=rfl;simp only[gsR,c1,a1,a2,l1,a3,a4,a5,pB,c2,cO,e9];exact ih (i+1) k H gb U U U (by rw[hnext];exact hS) hfr hgb ..
  |some j=>
   rw[hp] at a5 hnext;have hjn:=(u4 hp).1;have hjb:=(u4 hp).2;have hfree:s.m.getD i 0= -1:=by
    have:gr j=some i:=by
     rw[grM,kY,aQw hjn,aQa,beq_iff_eq] at hjb;exact hjb
    rw[hgr] at this;exact hmi.trans (aAH this).1
   have c2:((j:Int)== -1)=false:=by rw[beq_eq_false_iff_ne];omega
   obtain⟨t1,t2,t3,t4,t5⟩:=hS.aNJ hI h1 hne hma hmb (rd==0) hin hjn hfree;have l2:ld1 (.Q sb 0) H=some (eH mb n,H):=dC hS.st rfl;have i2:cB 1 (eH mb n) (.I (i:Int))=some (.Q mb i):=(zG (c:=n) hS.mt hI.ml hin).1;have st1:=aAO (i:=i) (j:Int) hS.mt (by rw[hI.ml];exact hin)
   obtain⟨H1,hH1⟩:=aD (H.set mb (fE (s.m.set i (j:Int)) []));rw[<-hH1] at t1 t2 t3 t4 t5 st1;have l3:ld1 (.Q sb 1) H1=some (.int .u16 (fC s.m n:Nat),H1):=dC t1 rfl;have hil:fC s.m n<65536:=rI _ h16;have hol:kF s.m n<65536:=rI _ h16;have hi1:=(vO (a:=0) (i:=i) U U).1
   have hj1:=(vO (a:=0) (i:=j) U U).1
   have hi2:=aAR (i:=i) hil U
   have hj2:=aAR (i:=j) hol U
   have st2:stN 1 (.Q sb 1) (.int .u16 (lE (fC s.m n) (2 ^ i):Nat)) H1=some (undef,H1.set sb (stB mb n (lE (fC s.m n) (2 ^ i)) (kF s.m n))):=lW t1 aC (by simp)
   obtain⟨H2,hH2⟩:=aD (H1.set sb (stB mb n (lE (fC s.m n) (2 ^ i)) (kF s.m n)));rw[<-hH2] at t2 t3 t4 t5 st2;have l4:ld1 (.Q sb 2) H2=some (.int .u16 (kF s.m n:Nat),H2):=dC t2 rfl;have st3:stN 1 (.Q sb 2) (.int .u16 (lE (kF s.m n) (2 ^ j):Nat)) H2=some (undef,H2.set sb (stB mb n (lE (fC s.m n) (2 ^ i)) (lE (kF s.m n) (2 ^ j)))):=lW t2 aC (by simp)
   obtain⟨H3,hH3⟩:=aD (H2.set sb (stB mb n (lE (fC s.m n) (2 ^ i)) (lE (kF s.m n) (2 ^ j))));rw[<-hH3] at t3 t4 t5 st3;have ngs:gb≠sb:=λhh=>by have:=hS.st;rw[<-hh,hgb] at this;exact aAS (aQp this).symm
   have ngm:gb≠mb:=λhh=>by have:=hS.mt;rw[<-hh,hgb] at this;exact zH (aQp this)
   have ngg:gb≠ga:=λhh=>by have:=b1;rw[<-hh,hgb] at this;exact zH (aQp this)
   have nga:gb≠aa:=λhh=>by have:=b2;rw[<-hh,hgb] at this;exact zH (aQp this)
   have k3: ∀b,b≠sb->b≠mb->H3[b]? =H[b]? :=λb h1 h2=>by rw[hH3,hH2,hH1,aPO h1.symm,aPO h1.symm,aPO h2.symm]
   have hl3:H3.length=H.length:=by rw[hH3,hH2,hH1];simp
   have f3:Fr (λb=>b=ga∨b=aa) H0 H3:=⟨by rw[hl3];exact hfr.1,λb hb hn=>by rw[k3 b U U,hfr.2 b hb hn]⟩
   have g3:H3[gb]? =some (iM (grL gr n n)):=by rw[k3 gb ngs ngm,hgb]
   by_cases hrd:rd=0
   ·subst hrd
    have c3:(((0:Nat):Int)==0)=true:=rfl;have q0:H3[ab]? =some (qK ga aa s.g.length):=t3.arb _ (aPW ..);rw[hI.gl] at q0;have q1:H3[ga]? =some (iL s.g):=t3.arb (ga,iL s.g) (by simp[jI])
    have l5:ld1 (.Q ab 0) H3=some (eH ga n,H3):=dC q0 rfl;have l6:ld1 (.Q ab 1) H3=some (eH aa n,H3):=dC q0 rfl;have e10:=oK j U
    have r1:bin prog .rem 3 (.I ((i+1:Nat):Int)) (.I n)=some (.I (((i+1)%n:Nat):Int)):=wT (i+1) n _ rfl U
    have r2:bin prog .rem 3 (.I ((j+1:Nat):Int)) (.I n)=some (.I (((j+1)%n:Nat):Int)):=wT (j+1) n _ rfl U
    have i5:=(Gi q1 hI.gl hjn).1;have i6:=(Gi (b:=aa) (H:=H) b2 hI.al hin).1;have st4:=aAP (i:=j) ((i+1)%n) q1 (by rw[hI.gl];exact hjn)
    obtain⟨H4,hH4⟩:=aD (H3.set ga (iL (s.g.set j ((i+1)%n))));rw[<-hH4] at t4 t5 st4;have st5:=aAP (i:=i) ((j+1)%n) t4 (by rw[hI.al];exact hin)
    obtain⟨H5,hH5⟩:=aD (H4.set aa (iL (s.a.set i ((j+1)%n))));rw[<-hH5] at t5 st5;simp only[gsR,c1,a1,a2,l1,a3,a4,a5,pB,c2,l2,i2,st1,l3,hi1,hi2,st2,l4,hj1,hj2,st3,c3,l5,l6,cO,e9,e10,r1,r2,i5,i6,st4,st5];refine ih (i+1) k H5 gb U U U (by rw[hnext];exact t5) ?_ ?_ ..
    ·refine⟨by rw[hH5,hH4];simp;exact f3.1,λb hb hn=> ?_⟩
     rw[hH5,hH4,aPO (λhh=>hn (.inr hh.symm)),aPO (λhh=>hn (.inl hh.symm)),f3.2 b hb hn]
    ·rw[hH5,hH4,aPO nga.symm,aPO ngg.symm,g3]
   ·have c3:((rd:Int)==0)=false:=by rw[beq_eq_false_iff_ne];omega
    have c4:(rd==0)=false:=by simpa using hrd
    rw[c4] at hnext;simp only[gsR,c1,a1,a2,l1,a3,a4,a5,pB,c2,l2,i2,st1,l3,hi1,hi2,st2,l4,hj1,hj2,st3,c3,cO,e9];refine ih (i+1) k H3 gb U U U ?_ f3 g3 ..
    rw[c4,hnext];exact t3
end
section
variable {H : aE} {m : Nat} {ab ga aa sb mb cb : Nat} {rows : List Nat} {n : Nat}
def oL (rows:List Nat)(n:Nat)(s:Mat):Nat->Mat
 |0=>s
 |k+1=>rnd (kK rows) n (k==0) (oL rows n s k)
theorem Pw {s:Mat}(h:MatI n s)(hn:1<=n): ∀k,MatI n (oL rows n s k)
 |0=>h
 |k+1=>(Pw h hn k).rnd U
theorem aAU (req:Nat->Nat->Bool): ∀(k:Nat)(s:Mat),wR req n (k+1) s=rnd req n false (wR req n k s)
 |0,s=>rfl
 |k+1,s=>by
  rw[wR,aAU req k,wR]
theorem Px (g a:List Nat): ∀k,oL rows n ⟨List.replicate n (-1),g,a⟩ (k+1)=rZ (kK rows) n (k+1) g a
 |0=>rfl
 |k+1=>by
  rw[oL,Px g a k];unfold rZ;have:(k+1==0)=false:=rfl;rw[this,show k+1+1-1=k+1 by omega,aAU]
  rfl
theorem aAT {s:Mat}(h:MatI n s)(hn:1<=n){k:Nat}(he:oL rows n s (k+1)=oL rows n s k): ∀j,oL rows n s (k+j)=oL rows n s k
 |0=>rfl
 |j+1=>by
  rw[<-Nat.add_assoc,oL,aAT h hn he j];rw[oL] at he;exact aFk (by rw[(Pw h hn k).ml];exact aPS _) _ he
theorem aNO {H0:aE}{rounds:Nat}{g a:List Nat}(hI0:MatI n ⟨List.replicate n (-1),g,a⟩)(h1:1<=n)(h16:n<=16)(hne:ga≠aa)(hma:mb≠ga)(hmb:mb≠aa)(hsb:H0.length<=sb)(hmb0:H0.length<=mb)(hr:rows.length=n)(hrd:1<=rounds)(hr16:rounds<=16)(hm:80<m){Q:aE->Value->Prop}
  (hK: ∀H',RunS H' ab ga aa sb mb cb rows n (oL rows n ⟨List.replicate n (-1),g,a⟩ rounds)->Fr (λb=>b=ga∨b=aa) H0 H'->Q H' (eH mb n)):
  ∀(q i k:Nat)(H:aE),rounds-i=q->i<=rounds->q<k->RunS H ab ga aa sb mb cb rows n (oL rows n ⟨List.replicate n (-1),g,a⟩ i)->Fr (λb=>b=ga∨b=aa) H0 H->
  ∀(x1 x2 x3 x4 x5 x6 x8 b9 aS aP aQ aO aT aU aR bA bK bX bJ bE aV aW aX aY aZ bB bC bH bI bM bN bO bP bQ bR bS bT bU bY cA cD cE cN cP cK cQ cR cW dA cX cY dD dF dL dH dM dU dW dY dZ eA eC eD eE eF eM eN eO eP eQ eS eT eU eV eW eX eY fN fO fP fQ fR fS fT fU gC gD gE gF gG gH gI gJ gK gL gM gN gO gP gQ gR gS gT gU gV gW gX gY gZ hZ iA iB iC iD iE iF iG iH jL jM lK lL lM lN lO lP lQ lR lS:Value),∃H2 r,aJ k (aM prog (lvl prog pkN m) (aJ m) Ny) (N4 (lvl prog pkN m) (aJ m)) [(.Q ab 0),x1,x2,x3,x4,x5,x6,(.I n),x8,(.Q sb 0),(eH cb n),b9,aS,aP,aQ,aO,aT,aU,aR,bA,bK,bX,bJ,bE,aV,aW,aX,aY,aZ,bB,bC,bH,bI,bM,bN,bO,bP,bQ,bR,bS,bT,bU,bY,cA,cD,cE,(.I rounds),(.I (i:Nat)),cN,cP,cK,cQ,cR,cW,dA,cX,cY,dD,dF,dL,dH,dM,dU,dW,dY,dZ,eA,eC,eD,eE,eF,eM,eN,eO,eP,eQ,eS,eT,eU,eV,eW,eX,eY,fN,fO,fP,fQ,fR,fS,fT,fU,gC,gD,gE,gF,gG,gH,gI,gJ,gK,gL,gM,gN,gO,gP,gQ,gR,gS,gT,gU,gV,gW,gX,gY,gZ,hZ,iA,iB,iC,iD,iE,iF,iG,iH,jL,jM,lK,lL,lM,lN,lO,lP,lQ,lR,lS] H=some (r,H2)/\Q H2 r:=by
 have out: ∀(H:aE),RunS H ab ga aa sb mb cb rows n (oL rows n ⟨List.replicate n (-1),g,a⟩ rounds)->Fr (λb=>b=ga∨b=aa) H0 H-> ∀(x0 x1 x2 x3 x4 x5 x6 x7 x8 bG b9 aS aP aQ aO aT aU aR bA bK bX bJ bE aV aW aX aY aZ bB bC bH bI bM bN bO bP bQ bR bS bT bU bY cA cD cE cI cJ cN cP cK cQ cR cW dA cX cY dD dF dL dH dM dU dW dY dZ eA eC eD eE eF eM eN eO eP eQ eS eT eU eV eW eX eY fN fO fP fQ fR fS fT fU gC gD gE gF gG gH gI gJ gK gL gM gN gO gP gQ gR gS gT gU gV gW gX gY gZ hZ iA iB iC iD iE iF iG iH jL jM lK lL lM lN lO lP lQ lR lS:Value),∃H2 r,N0 (lvl prog pkN m) (aJ m) x0 x1 x2 x3 x4 x5 x6 x7 x8 (.Q sb 0) bG b9 aS aP aQ aO aT aU aR bA bK bX bJ bE aV aW aX aY aZ bB bC bH bI bM bN bO bP bQ bR bS bT bU bY cA cD cE cI cJ cN cP cK cQ cR cW dA cX cY dD dF dL dH dM dU dW dY dZ eA eC eD eE eF eM eN eO eP eQ eS eT eU eV eW eX eY fN fO fP fQ fR fS fT fU gC gD gE gF gG gH gI gJ gK gL gM gN gO gP gQ gR gS gT gU gV gW gX gY gZ hZ iA iB iC iD iE iF iG iH jL jM lK lL lM lN lO lP lQ lR lS H=some (r,H2)/\Q H2 r:=by
  intro H hS hfr;intros;have l2:ld1 (.Q sb 0) H=some (eH mb n,H):=dC hS.st rfl;unfold N0;simp only[gsR,l2]
  exact⟨_,_,rfl,hK H hS hfr⟩
 intro q;induction q with
 |zero=>
  intro i k H hq hi hk hS hfr;intros;obtain⟨k,rfl⟩: ∃k',k=k'+1:=⟨k-1,by omega⟩
  have hie:i=rounds:=U
  subst hie;have c1:decide ((i:Int)<(i:Int))=false:=by simp
  rw[aJ,Yw];simp only[gsR,c1];rw[Yy];exact out H hS hfr ..
 |succ q ih=>
  intro i k H hq hi hk hS hfr;intros;obtain⟨k,rfl⟩: ∃k',k=k'+1:=⟨k-1,by omega⟩
  have c1:decide ((i:Int)<(rounds:Int))=true:=by rw[decide_eq_true_eq];omega
  obtain⟨s0,hs0⟩:=aD (oL rows n ⟨List.replicate n (-1),g,a⟩ i);have hI:MatI n s0:=by rw[hs0];exact Pw hI0 h1 i
  rw[<-hs0] at hS;have l1:ld1 (.Q sb 1) H=some (.int .u16 (fC s0.m n:Nat),H):=dC hS.st rfl;have a1:=aNF (m:=m) hS.arb hS.st hS.cols hI.gl hI.g hr hI.ml h1 h16 U
  have a2:cH (eH H.length n)=some (.I n):=rfl;rw[aJ,Yw];simp only[gsR,c1,l1,a1,a2];refine aNL (H0:=H0) (s0:=s0) (was:=fC s0.m n) (rd:=i) (rounds:=rounds) hI h1 h16 hne hma hmb hsb hmb0 U ?_ n 0 m _ H.length U U U (hS.ext (Fr.app _ _ _)) ⟨by have:=hfr.1;simp;omega,λb hb hn=>by rw[aPQ (aP2 hb hfr.1),hfr.2 b hb hn]⟩ (dS _ _) ..
  intro H' hS' hfr';intros;have l3:ld1 (.Q sb 1) H'=some (.int .u16 (fC (rnd (kK rows) n (i==0) s0).m n:Nat),H'):=dC hS'.st rfl;have hrk:rnd (kK rows) n (i==0) s0=oL rows n ⟨List.replicate n (-1),g,a⟩ (i+1):=by rw[oL,hs0]
  have e9:=oK i U
  unfold N3;by_cases hst:fC (rnd (kK rows) n (i==0) s0).m n=fC s0.m n
  ·have c2:(((fC (rnd (kK rows) n (i==0) s0).m n:Nat):Int)==((fC s0.m n:Nat):Int))=true:=by rw[hst];simp
   have hsame:=aNz hI.ml hst;simp only[gsR,l3,c2];rw[Yy];refine out H' ?_ hfr' ..;have:oL rows n ⟨List.replicate n (-1),g,a⟩ rounds=rnd (kK rows) n (i==0) s0:=by
    have:=aAT (rows:=rows) hI0 h1 (k:=i) (by rw[<-hrk,hsame,hs0]) (rounds-i)
    rw[show i+(rounds-i)=rounds by omega] at this
    rw[this,hsame,hs0]
   rw[this];exact hS'
  ·have c2:(((fC (rnd (kK rows) n (i==0) s0).m n:Nat):Int)==((fC s0.m n:Nat):Int))=false:=by rw[beq_eq_false_iff_ne];omega
   rw[hrk] at hS';simp only[gsR,l3,c2,cO,e9];exact ih (i+1) k H' U U U hS' hfr' ..
theorem aNN {g a:List Nat}{qb rounds:Nat}(hB:Blks (jI ab ga aa g a) H)(hne:ga≠aa)(hg:g.length=n)(ha:a.length=n)(hgl: ∀z∈g,z<n)(hal: ∀z∈a,z<n)(h1:1<=n)(h15:n<=15)(hq:H[qb]? =some (iM rows))(hr:rows.length=n)(hrl: ∀z∈rows,z<65536)(hrd:1<=rounds)(hr16:rounds<=16)(hm:100<m):
  ∃H' mb,lvl prog pkN m (.func 50) [.pointer (some ⟨ab,0,none⟩),eH qb n,.int .i64 rounds] H=some (eH mb n,H')/\H'[mb]? =some (fE (rZ (kK rows) n rounds g a).m [])/\H.length<=mb/\Fr (λb=>b=ga∨b=aa) H H'/\Blks (jI ab ga aa (rZ (kK rows) n rounds g a).g (rZ (kK rows) n rounds g a).a) H':=by
 have main: ∃H' r,lvl prog pkN m (.func 50) [.pointer (some ⟨ab,0,none⟩),eH qb n,.int .i64 rounds] H=some (r,H')/\(r=eH (H.length+1) n/\H'[H.length+1]? =some (fE (rZ (kK rows) n rounds g a).m [])/\Fr (λb=>b=ga∨b=aa) H H'/\Blks (jI ab ga aa (rZ (kK rows) n rounds g a).g (rZ (kK rows) n rounds g a).a) H'):=by
  have h16:n<=16:=U
  have b0:H[ab]? =some (qK ga aa g.length):=hB _ (aPW ..);have b1:H[ga]? =some (iL g):=hB (ga,iL g) (by simp[jI])
  have b2:H[aa]? =some (iL a):=hB (aa,iL a) (by simp[jI])
  rw[hg] at b0;refine fJ (cT rfl) U ?_
  rw[aKZ];have l0:ld1 (.pointer (some ⟨ab,0,none⟩)) H=some (eH ga n,H):=dC b0 rfl;have e0: ∀b,cH (eH b n)=some (.int .i64 n):=λ_=>rfl
  have c1:((n:Int)!=(n:Int))=false:=by simp
  have c2:decide ((rounds:Int)<1)=false:=by rw[decide_eq_false_iff_not];omega
  have c3:decide ((16:Int)<(rounds:Int))=false:=by rw[decide_eq_false_iff_not];omega
  have e1:=(vO (a:=0) (i:=n) U U).1
  have hpow:2 ^ n<2 ^ 17:=Nat.pow_lt_pow_right U U
  have hpos:0<2 ^ n:=Nat.pow_pos U
  have hpl:2 ^ n<65536:=De U
  have e2:IntKind.u16.wrap ((2 ^ n:Nat)-(1:Int))=((2 ^ n-1:Nat):Int):=by rw[Aj];omega
  have e3:dG 3 1 1 [.int .i64 0] [(0,.int .i64 (-1))] H=some (.slice (some ⟨H.length,0,none⟩) 1 1,H++[.cells [.int .i64 (-1)] 3 .row]):=rfl;obtain⟨H1,hH1⟩:=aD (H++[Blk.cells [.int .i64 (-1)] 3 .row]);rw[<-hH1] at e3;have h1l:H1.length=H.length+1:=by rw[hH1];simp
  have e4:=aNg (H:=H1) (m:=m-1) U n h1 h16 (c:=1) (by rw[hH1];exact dS H _)
  obtain⟨H2,hH2⟩:=aD (H1++[lH n n]);rw[<-hH2] at e4;have h2l:H2.length=H.length+2:=by rw[hH2];simp;omega
  have e5:bld prog 201 [(0,eH H1.length n),(1,.int .u16 (2 ^ n-1:Nat)),(2,.int .u16 (2 ^ n-1:Nat))]=some (.agg #[eH H1.length n,.int .u16 (2 ^ n-1:Nat),.int .u16 (2 ^ n-1:Nat)]):=rfl;have e6:H2++[Blk.cells (Value.cells (.agg #[eH H1.length n,.int .u16 (2 ^ n-1:Nat),.int .u16 (2 ^ n-1:Nat)])).toList 201 .fix]=H2++[stB H1.length n (2 ^ n-1) (2 ^ n-1)]:=rfl;obtain⟨H3,hH3⟩:=aD (H2++[stB H1.length n (2 ^ n-1) (2 ^ n-1)]);have h3l:H3.length=H.length+3:=by rw[hH3];simp;omega
  have x3:Ext H H3:=by
   have y1:Ext H H1:=by rw[hH1];exact Fr.app _ _ _
   have y2:Ext H1 H2:=by rw[hH2];exact Fr.app _ _ _
   have y3:Ext H2 H3:=by rw[hH3];exact Fr.app _ _ _
   exact(y1.tr y2).tr y3
  have hq3:H3[qb]? =some (iM rows):=by rw[x3.2 _ (dK hq) id,hq]
  have e7:lvl prog pkN (m-1) (.func 101) [eH qb n,.I n] H3=some (eH H3.length n,H3++[iM (jX rows n)]):=by
   rw[aGU _ U]
   unfold tU eH;simp only;rw[if_pos U,hq3]
   unfold iM;simp only;rw[if_pos (by simp;omega),List.drop_zero,List.take_of_length_le (by simp;omega),Ub rows hrl]
   simp only[aQf]
  simp only[gsR,l0,e0,c1,c2,c3,e1,iV,e2,e3,e4,e5,e6,<-hH3,e7];have hI0:MatI n ⟨List.replicate n (-1),g,a⟩:=MatI.Z0 hg ha hgl hal;have x4:Ext H (H3++[iM (jX rows n)]):=by
   have y4:Ext H3 (H3++[iM (jX rows n)]):=Fr.app _ _ _;exact x3.tr y4
  have x4':Ext H3 (H3++[iM (jX rows n)]):=Fr.app _ _ _;have hm3:H3[H1.length]? =some (fE (List.replicate n (-1)) []):=by
   have:H2[H1.length]? =some (lH n n):=by rw[hH2];exact dS _ _
   rw[hH3,nW this];unfold lH fE;rw[Nat.sub_self,List.map_replicate];rfl
  have hs3:H3[H2.length]? =some (stB H1.length n (2 ^ n-1) (2 ^ n-1)):=by rw[hH3];exact dS _ _
  have hS:RunS (H3++[iM (jX rows n)]) ab ga aa H2.length H1.length H3.length rows n ⟨List.replicate n (-1),g,a⟩:=by
   refine⟨Blks.dx _ _ _ hB x4,?_,by rw[x4'.2 _ (dK hm3) id,hm3],dS _ _⟩
   rw[x4'.2 _ (dK hs3) id,hs3];simp only;rw[aNu,aNx]
  have hgal:=dK b1;have haal:=dK b2;refine aNO (H0:=H) (rounds:=rounds) hI0 h1 h16 hne U U U U hr hrd hr16 U ?_ rounds 0 (m-1) _ U U U hS (x4.Ag λ_ h=>h.elim) ..
  intro H' hS' hfr';have hmt:=hS'.mt;obtain⟨r',hr'⟩: ∃r',rounds=r'+1:=⟨rounds-1,by omega⟩
  have harb:=hS'.arb;rw[hr',Px,<-hr',h1l] at hmt;rw[hr',Px,<-hr'] at harb
  exact⟨by rw[h1l],hmt,hfr',harb⟩
 obtain⟨H',r,g1,rfl,g2,g3,g4⟩:=main
 exact⟨H',H.length+1,g1,g2,by omega,g3,g4⟩
theorem aNM (h1:1<=n)(h16:n<=16)(hm:0<m): ∃ab ga aa H',lvl prog pkN m (.func 40) [.int .i64 n] H=some (.pointer (some ⟨ab,0,none⟩),H')/\Blks (jI ab ga aa (List.replicate n 0) (List.replicate n 0)) H'/\ga≠aa/\Ext H H'/\H.length<=ab/\H.length<=ga/\H.length<=aa:=by
 have mk:=λH:aE=>sT (H:=H) 3 1 8 [.I 0] .i64 .i64 (n:Int) U U U rfl
 have hz: ∀H:aE,H++[Blk.cells (List.replicate (n:Int).toNat [Value.int .i64 0]).flatten 3 .row]=H++[iL (List.replicate n 0)]:=λH=>by
  have: ∀n,(List.replicate n [Value.I 0]).flatten=List.replicate n (.I 0):=by
   intro n;induction n with
   |zero=>rfl
   |succ n ih=>rw[List.replicate_succ,aQn,ih];rfl
  rw[aQf,this,iL,fE,uF,List.map_replicate,List.map_replicate,List.append_nil];rfl
 have mk': ∀H:aE,kH 3 1 8 [.I 0] (.I (n:Int)) (.I (n:Int)) H=some (eH H.length n,H++[iL (List.replicate n 0)]):=λH=>by
  have:=mk H;rw[hz,aQf] at this;exact this
 obtain⟨H1,hH1⟩:=aD (H++[iL (List.replicate n 0)]);obtain⟨H2,hH2⟩:=aD (H1++[iL (List.replicate n 0)]);have h1l:H1.length=H.length+1:=by rw[hH1];simp
 have h2l:H2.length=H.length+2:=by rw[hH2];simp;omega
 have e5:bld prog 176 [(0,eH H.length n),(1,eH H1.length n)]=some (.agg #[eH H.length n,eH H1.length n]):=rfl;have c2:decide ((n:Int)<1)=false:=by rw[decide_eq_false_iff_not];omega
 have c3:decide ((16:Int)<(n:Int))=false:=by rw[decide_eq_false_iff_not];omega
 have e6:H2++[Blk.cells (Value.cells (.agg #[eH H.length n,eH H1.length n])).toList 176 .fix]=H2++[qK H.length H1.length n]:=rfl;have y1:Ext H H1:=by rw[hH1];exact Fr.app _ _ _
 have y2:Ext H1 H2:=by rw[hH2];exact Fr.app _ _ _
 have y3:Ext H2 (H2++[qK H.length H1.length n]):=Fr.app _ _ _;refine⟨H2.length,H.length,H1.length,H2++[qK H.length H1.length n],dI (cT rfl) U ?_,λp hp=> ?_,by omega,(y1.tr y2).tr y3,by omega,by omega,by omega⟩
 ·rw[aKO]
  simp only[gsR,c2,c3,mk',<-hH1,<-hH2,e5,e6]
 ·have q1:H1[H.length]? =some (iL (List.replicate n 0)):=by rw[hH1];exact dS _ _
  have q2:H2[H1.length]? =some (iL (List.replicate n 0)):=by rw[hH2];exact dS _ _
  simp only[jI,aP6,aQd,or_false,List.length_replicate] at hp;rcases hp with rfl|rfl|rfl
  ·exact dS _ _
  ·simp only
   rw[y3.2 _ (by rw[h2l];omega) id,y2.2 _ U id,q1]
  ·simp only
   rw[y3.2 _ (by rw[h2l,h1l];omega) id,q2]
end
end Go.Proofs.YtkeilicinggjmaaGreatDoor
namespace Go.Proofs.YtkeilicinggjmaaGreatDoor
open Go.Proofs.Tryz
open Go.Abs Go.Abs.M
open Classical
def jJ (p:PlanD)(me:Nat):Cfg where
 nodes:=p.nodes.toNat
 lanes:=p.lanes.toNat
 room:=p.room.toNat
 queue:=p.queue.toNat
 rounds:=p.rounds.toNat
 every:=p.every.toNat
 weights:=p.weights
 start:=p.start.toNat
 me:=me
 by':=(bes p.edges me).map Int.toNat
 port:=λd=>if d=me then 0 else match ((bes p.edges me).map Int.toNat).findIdx? λw:Nat=>decide ((w:Int)=nx p me d) with
  |some j=>j+1
  |none=>0
structure Lay where
 nb:Nat
 pb:Nat
 pcap:Nat
 prest:List Value
 lb:Nat->Nat
 lcap:Nat->Nat
 lrest:Nat->List Value
 wh:Nat->Nat
 ww:Nat->Nat
 wl:Nat->Nat
 wc:Nat->Nat
 lc:Nat->Nat
 wr:Nat->List Value
 lr:Nat->List Value
 sb:Nat->Nat->Nat
 rb:Nat->Nat->Nat
 ab:Nat
 ga:Nat
 aa:Nat
 hb:Nat
 rg:Nat
inductive Part where
 |node
 |host
 |rings
 |arb
 |whl (i:Nat)
 |snd (i k:Nat)
 |rcv (i k:Nat)
abbrev pt (b:Nat):Value:= .Q b 0
def kL (c:Cfg)(i:Nat):Nat:=if i=0 then c.me else c.by'.getD (i-1) 0
def mR (y:Lay)(c:Cfg)(i:Nat):Value:=if i=0 then .slice none 0 0 else .slice (some ⟨y.lb i,0,none⟩) c.lanes (y.lcap i)
def fX (y:Lay)(c:Cfg)(i:Nat):List Value:=[.I (kL c i),mR y c i,pt (y.wh i)]
def mF (y:Lay)(i k:Nat):List Value:=[pt (y.sb i k),pt (y.rb i k)]
def iX (y:Lay)(c:Cfg):Value:= .slice (some ⟨y.pb,0,none⟩) c.aL y.pcap
def P0 (bag:Int)(ev wv nv:Value)(y:Lay)(c:Cfg)(ticks:Nat):List Value:=
 [pt y.ab,.I c.nodes,ev,.I c.lanes,.I c.room,.I c.queue,.I c.rounds,.I c.every,.I bag,wv,.int .u16 c.start,nv,.I c.me,iX y c,pt y.hb,pt y.rg,.I ticks]
def vP (bag:Int)(ev wv nv:Value)(y:Lay)(c:Cfg)(ticks:Nat):Blk:= .cells (P0 bag ev wv nv y c ticks) 89 .fix
def xK (y:Lay)(c:Cfg):Blk:= .cells (((List.range c.aL).map (fX y c)).flatten++y.prest) 94 .row
def oM (y:Lay)(c:Cfg)(i:Nat):Blk:= .cells (((List.range c.lanes).map (mF y i)).flatten++y.lrest i) 100 .row
def mG (bag:Int)(ev wv nv:Value)(y:Lay)(c:Cfg)(ticks:Nat):List (Nat×Blk):=
 (y.nb,vP bag ev wv nv y c ticks)::(y.pb,xK y c)::(List.range c.by'.length).map λj=>(y.lb (j+1),oM y c (j+1))
def lJ (bag:Int)(ev wv nv:Value)(y:Lay)(c:Cfg)(s:NS):Part->aE->Prop
 | .node=>Blks (mG bag ev wv nv y c s.ticks)
 | .host=>λD=>HostAt D y.hb s.hL s.hG c.lanes c.queue
 | .rings=>λD=>RingsN D y.rg s.rL (c.aL*c.lanes*c.room) c.aL c.lanes
 | .arb=>Blks (jI y.ab y.ga y.aa s.g s.a)
 | .whl i=>Blks (if i<c.aL then lI (y.wh i) (y.ww i) (y.wl i) (y.wc i) (y.lc i) (y.wr i) (y.lr i) c.weights (s.whl i) else [])
 | .snd i k=>Blks (if 1<=i/\i<c.aL/\k<c.lanes then [(y.sb i k,mE (s.snd i k))] else [])
 | .rcv i k=>Blks (if 1<=i/\i<c.aL/\k<c.lanes then [(y.rb i k,jK (s.rcv i k) c.room)] else [])
structure LayOk (y:Lay)(c:Cfg):Prop where
 pcap:c.aL<=y.pcap
 lcap: ∀i,1<=i->i<c.aL->c.lanes<=y.lcap i
 ga:y.ga≠y.aa
 ww: ∀i,i<c.aL->y.ww i≠y.wl i
structure NodeAt (H0 H:aE)(F:Part->Nat->Prop)(y:Lay)(p:PlanD)(ev wv nv:Value)(c:Cfg)(t:Nat)(s:NS):Prop where
 ok:c.ok
 hc:c=jJ p c.me
 hp: ∃n,OkP p n
 lay:LayOk y c
 ext:Ext H0 H
 old: ∀b,Un F b->H0.length<=b
 plan:PV H0 p ev wv nv
 inv:NInv c t s
 sep:Sep (lJ p.bag ev wv nv y c s) F H
theorem zI (bag:Int)(ev wv nv:Value)(y:Lay)(c:Cfg)(s:NS)(i:Part):DX (lJ bag ev wv nv y c s i):=by
 cases i with
 |host=>exact λD D' h he=>h.ext he
 |rings=>exact λD D' h he=>h.ext he
 |_=>exact Blks.dx _
theorem Gn {l:List (Nat×Blk)}(h: ∀p∈l,∃cs e k,p.2= .cells cs e k):sG l:=λp hp hd=>by
 obtain⟨cs,e,k,he⟩:=h p hp;rw[he] at hd;cases hd
theorem xJ {bag:Int}{ev wv nv:Value}{y:Lay}{c:Cfg}{ticks:Nat}:sG (mG bag ev wv nv y c ticks):=Gn λp hp=>by
 simp only[mG,aP6,aQq] at hp;rcases hp with rfl|rfl|⟨j,_,rfl⟩<;>exact⟨_,_,_,rfl⟩
theorem aAZ {ab ga aa:Nat}{g a:List Nat}:sG (jI ab ga aa g a):=Gn λp hp=>by
 simp only[jI,aP6,aQd,or_false] at hp;rcases hp with rfl|rfl|rfl<;>exact⟨_,_,_,rfl⟩
theorem aA0 {wh ww wl wc lc:Nat}{wr lr:List Value}{W:List Int}{x:Whl}:sG (lI wh ww wl wc lc wr lr W x):=Gn λp hp=>by
 simp only[lI,aP6,aQd,or_false] at hp;rcases hp with rfl|rfl|rfl<;>exact⟨_,_,_,rfl⟩
theorem Gp {b:Nat}{cs:List Value}{e:TypeId}{k:Kind}:sG [(b,Blk.cells cs e k)]:=Gn λp hp=>by
 simp only[aP6,aQd,or_false] at hp;subst hp
 exact⟨_,_,_,rfl⟩
section
variable {H0 H : aE} {F : Part → Nat → Prop} {y : Lay} {p : PlanD} {ev wv nv : Value} {c : Cfg} {t : Nat} {s : NS}
theorem NodeAt.iT {H':aE}(h:NodeAt H0 H F y p ev wv nv c t s)(he:Ext H H'):NodeAt H0 H' F y p ev wv nv c t s:=
 {h with ext:=h.ext.tr he,sep:=h.sep.ext (zI _ _ _ _ _ _ _) he}
theorem NodeAt.nbB (h:NodeAt H0 H F y p ev wv nv c t s):H[y.nb]? =some (vP p.bag ev wv nv y c s.ticks):=h.sep.xG .node rfl xJ (aPW ..)
theorem NodeAt.ld (h:NodeAt H0 H F y p ev wv nv c t s)(j:Nat)(v:Value)(hv:(P0 p.bag ev wv nv y c s.ticks)[j]? =some v):ld1 (.Q y.nb j) H=some (v,H):=dC h.nbB hv
theorem Bv (y:Lay)(c:Cfg)(i:Nat):(fX y c i).length=3:=rfl
theorem aA1 (y:Lay)(i k:Nat):(mF y i k).length=2:=rfl
theorem NodeAt.aAW (h:NodeAt H0 H F y p ev wv nv c t s):Rs (fX y c) 94 H (iX y c) (List.range c.aL):=by
 have hb:H[y.pb]? =some (xK y c):=h.sep.xG .node rfl xJ (by simp[mG])
 refine .inr ⟨y.pb,0,y.pcap,by rw[aQh];rfl,by rw[aQh];exact h.lay.pcap,λ_=>⟨_,_,[],y.prest,rfl,λ_=>rfl,by rw[hb,List.nil_append];rfl⟩⟩
theorem NodeAt.aNP (h:NodeAt H0 H F y p ev wv nv c t s){i:Nat}(h1:1<=i)(h2:i<c.aL):Rs (mF y i) 100 H (mR y c i) (List.range c.lanes):=by
 have hb:H[y.lb i]? =some (oM y c i):=h.sep.xG .node rfl xJ (by
  simp only[mG,aP6,aQq,aQr];exact .inr (.inr ⟨i-1,by unfold Cfg.aL at h2;omega,by rw[Nat.sub_add_cancel h1]⟩))
 unfold mR;rw[if_neg U]
 refine .inr ⟨y.lb i,0,y.lcap i,by rw[aQh],by rw[aQh];exact h.lay.lcap i h1 h2,λ_=>⟨_,_,[],y.lrest i,rfl,λ_=>rfl,by rw[hb,List.nil_append];rfl⟩⟩
theorem NodeAt.xI (h:NodeAt H0 H F y p ev wv nv c t s){i:Nat}(hi:i<c.aL): ∃b o,cB 3 (iX y c) (.I (i:Int))=some (.Q b o)/\ ∀H',NodeAt H0 H' F y p ev wv nv c t s∨H'[b]? =H[b]? ->
  ldN 3 (.Q b o) H'=some (.agg ⟨fX y c i⟩,H')/\ld1 (.Q b o) H'=some (.I (kL c i),H')/\ld1 (.Q b (o+1)) H'=some (mR y c i,H')/\ld1 (.Q b (o+2)) H'=some (pt (y.wh i),H'):=by
 obtain⟨b,o,g1,g2,g3⟩:=h.aAW.fZ (Bv y c) (i:=i) (x:=i) (by simp[hi]) .i64
 have hb:b=y.pb:=by
  obtain⟨o',n',c',hh⟩:=g2;unfold iX at hh;injection hh with hh;injection hh with hh;injection hh with hh;exact hh.symm
 refine⟨b,o,g1,λH' hH'=> ?_⟩
 have hsame:H'[b]? =H[b]? :=by
  rcases hH' with h'|h'
  ·have q1:H[y.pb]? =some (xK y c):=h.sep.xG .node rfl xJ (by simp[mG])
   have q2:H'[y.pb]? =some (xK y c):=h'.sep.xG .node rfl xJ (by simp[mG])
   rw[hb,q1,q2]
  ·exact h'
 obtain⟨q1,q2,_⟩:=g3 H' hsame
 exact⟨q1,q2 0 _ rfl,q2 1 _ rfl,q2 2 _ rfl⟩
theorem NodeAt.Bu (h:NodeAt H0 H F y p ev wv nv c t s){i k:Nat}(h1:1<=i)(hi:i<c.aL)(hk:k<c.lanes): ∃b o,cB 2 (mR y c i) (.I (k:Int))=some (.Q b o)/\
  ldN 2 (.Q b o) H=some (.agg ⟨mF y i k⟩,H)/\ld1 (.Q b o) H=some (pt (y.sb i k),H)/\ld1 (.Q b (o+1)) H=some (pt (y.rb i k),H):=by
 obtain⟨b,o,g1,g2,g3⟩:=(h.aNP h1 hi).fZ (aA1 y i) (i:=k) (x:=k) (by simp[hk]) .i64
 obtain⟨q1,q2,_⟩:=g3 H rfl
 exact⟨b,o,g1,q1,q2 0 _ rfl,q2 1 _ rfl⟩
theorem NodeAt.Gm (h:NodeAt H0 H F y p ev wv nv c t s){i k:Nat}(h1:1<=i)(hi:i<c.aL)(hk:k<c.lanes):H[y.sb i k]? =some (mE (s.snd i k)):=
 h.sep.xG (.snd i k) (l:=[(y.sb i k,Go.Proofs.YtkeilicinggjmaaGreatDoor.mE (s.snd i k))]) (by simp only[lJ];rw[if_pos ⟨h1,hi,hk⟩]) Gp (aPW ..)
theorem NodeAt.Gk (h:NodeAt H0 H F y p ev wv nv c t s){i k:Nat}(h1:1<=i)(hi:i<c.aL)(hk:k<c.lanes):H[y.rb i k]? =some (jK (s.rcv i k) c.room):=
 h.sep.xG (.rcv i k) (l:=[(y.rb i k,Go.Proofs.YtkeilicinggjmaaGreatDoor.jK (s.rcv i k) c.room)]) (by simp only[lJ];rw[if_pos ⟨h1,hi,hk⟩]) Gp (aPW ..)
theorem NodeAt.aNQ (h:NodeAt H0 H F y p ev wv nv c t s){i:Nat}(hi:i<c.aL):Blks (lI (y.wh i) (y.ww i) (y.wl i) (y.wc i) (y.lc i) (y.wr i) (y.lr i) c.weights (s.whl i)) H:=
 h.sep.see (.whl i) (by simp only[lJ];rw[if_pos hi]) aA0
theorem NodeAt.Pz (h:NodeAt H0 H F y p ev wv nv c t s)(ht:t<1000000000)(i k:Nat):SndOk (s.snd i k):=by
 have:=h.inv.snd i k
 exact⟨this.le,this.wide,by have h1:=this.big;have h2:=this.wide;omega⟩
theorem NodeAt.Gl (h:NodeAt H0 H F y p ev wv nv c t s)(ht:t<1000000000)(i k:Nat):RcvOk (s.rcv i k) c.room:=by
 have:=h.inv.rcv i k
 exact⟨this.h,h.ok.room.2,by have:=this.big;omega⟩
theorem NodeAt.aAY {H':aE}{F':Part->Nat->Prop}{t':Nat}{s':NS}(h:NodeAt H0 H F y p ev wv nv c t s)(hi:NInv c t' s')(hs:Sep (lJ p.bag ev wv nv y c s') F' H')(hm:Mv (Un F) (Un F') H H'):NodeAt H0 H' F' y p ev wv nv c t' s':=
 {h with inv:=hi,sep:=hs,ext:=⟨aP3 h.ext.1 hm.le,λb hb _=>by
   rw[hm.keep b (aP2 hb h.ext.1) (λhu=>by have:=h.old b hu;omega),h.ext.2 b hb id]⟩,old:=λb hb=>(hm.own b hb).elim (h.old b) λhl=>aP3 h.ext.1 hl}
theorem NodeAt.aAV {H':aE}{F':Nat->Prop}{t':Nat}{s':NS}(h:NodeAt H0 H F y p ev wv nv c t s)(i:Part){B:aE->Prop}(hB:Has B F' H')(hm:Mv (F i) F' H H')(hi:NInv c t' s')
  (hBi: ∀D,B D->lJ p.bag ev wv nv y c s' i D)(hj: ∀j,j≠i-> ∀D,lJ p.bag ev wv nv y c s j D->lJ p.bag ev wv nv y c s' j D):NodeAt H0 H' (updI F i F') y p ev wv nv c t' s'/\Mv (Un F) (Un (updI F i F')) H H':=by
 obtain⟨h1,h2⟩:=h.sep.Jr i (λj _=>zI _ _ _ _ _ _ _ j) hB hm
 refine⟨h.aAY hi (h1.wO λj D hD=> ?_) h2,h2⟩
 by_cases hji:j=i
 ·rw[hji,nH] at hD
  rw[hji];exact hBi D hD
 ·rw[fK _ _ hji] at hD
  exact hj j hji D hD
theorem NodeAt.Bt {H':aE}{t':Nat}{s':NS}(h:NodeAt H0 H F y p ev wv nv c t s)(i:Part){l l':List (Nat×Blk)}(hA:lJ p.bag ev wv nv y c s i=Blks l)(hl:sG l)(hsub: ∀q∈l',InB l q.1)(hf:Fr (InB l) H H')(hB:Blks l' H')(hi:NInv c t' s')
  (hBi:lJ p.bag ev wv nv y c s' i=Blks l')(hj: ∀j,j≠i->lJ p.bag ev wv nv y c s' j=lJ p.bag ev wv nv y c s j):NodeAt H0 H' F y p ev wv nv c t' s'/\Mv (Un F) (Un F) H H':=by
 obtain⟨h1,h2⟩:=h.sep.aNk i (λj _=>zI _ _ _ _ _ _ _ j) hA hl hsub hf hB
 refine⟨h.aAY hi (h1.wO λj D hD=> ?_) h2,h2⟩
 by_cases hji:j=i
 ·rw[hji,nH] at hD
  rw[hji,hBi];exact hD
 ·rw[fK _ _ hji] at hD
  rw[hj j hji];exact hD
theorem NodeAt.aAX {H':aE}{t':Nat}{i k:Nat}{x':Snd}(h:NodeAt H0 H F y p ev wv nv c t s)(h1:1<=i)(h2:i<c.aL)(hk:k<c.lanes)(hp:Put1 H (y.sb i k) (Go.Proofs.YtkeilicinggjmaaGreatDoor.mE x') H')(hi:NInv c t' {s with snd:=up2 s.snd i k x'}):
  NodeAt H0 H' F y p ev wv nv c t' {s with snd:=up2 s.snd i k x'}/\Mv (Un F) (Un F) H H':=by
 refine h.Bt (.snd i k) (l:=[(y.sb i k,Go.Proofs.YtkeilicinggjmaaGreatDoor.mE (s.snd i k))]) (l':=[(y.sb i k,Go.Proofs.YtkeilicinggjmaaGreatDoor.mE x')]) (by simp only[lJ];rw[if_pos ⟨h1,h2,hk⟩]) Gp ?_ ?_ ?_ hi ?_ ?_
 ·intro q hq
  simp only[aP6,aQd,or_false] at hq;subst hq
  exact⟨_,aPW ..,rfl⟩
 ·exact⟨hp.le,λb hb hn=>hp.keep b hb λhh=>hn ⟨_,aPW ..,hh.symm⟩⟩
 ·intro q hq
  simp only[aP6,aQd,or_false] at hq;subst hq;exact hp.at_
 ·simp only[lJ]
  rw[if_pos ⟨h1,h2,hk⟩,up2,if_pos ⟨rfl,rfl⟩]
 ·intro j hj
  cases j with
  |snd i' k'=>
   have e:up2 s.snd i k x' i' k'=s.snd i' k':=if_neg λhh=>hj (by rw[hh.1,hh.2])
   simp only[lJ];rw[e]
  |_=>rfl
theorem NodeAt.Py {H':aE}{t':Nat}{i k:Nat}{x':Rcv}(h:NodeAt H0 H F y p ev wv nv c t s)(h1:1<=i)(h2:i<c.aL)(hk:k<c.lanes)(hp:Put1 H (y.rb i k) (Go.Proofs.YtkeilicinggjmaaGreatDoor.jK x' c.room) H')(hi:NInv c t' {s with rcv:=up2 s.rcv i k x'}):
  NodeAt H0 H' F y p ev wv nv c t' {s with rcv:=up2 s.rcv i k x'}/\Mv (Un F) (Un F) H H':=by
 refine h.Bt (.rcv i k) (l:=[(y.rb i k,Go.Proofs.YtkeilicinggjmaaGreatDoor.jK (s.rcv i k) c.room)]) (l':=[(y.rb i k,Go.Proofs.YtkeilicinggjmaaGreatDoor.jK x' c.room)]) (by simp only[lJ];rw[if_pos ⟨h1,h2,hk⟩]) Gp ?_ ?_ ?_ hi ?_ ?_
 ·intro q hq
  simp only[aP6,aQd,or_false] at hq;subst hq
  exact⟨_,aPW ..,rfl⟩
 ·exact⟨hp.le,λb hb hn=>hp.keep b hb λhh=>hn ⟨_,aPW ..,hh.symm⟩⟩
 ·intro q hq
  simp only[aP6,aQd,or_false] at hq;subst hq;exact hp.at_
 ·simp only[lJ]
  rw[if_pos ⟨h1,h2,hk⟩,up2,if_pos ⟨rfl,rfl⟩]
 ·intro j hj
  cases j with
  |rcv i' k'=>
   have e:up2 s.rcv i k x' i' k'=s.rcv i' k':=if_neg λhh=>hj (by rw[hh.1,hh.2])
   simp only[lJ];rw[e]
  |_=>rfl
end
def vQ:Value:= .agg #[.pointer none,.pointer none]
def fM (a b:Value):Blk:= .cells [a,b] 100 .fix
section
variable {H0 H : aE} {F : Part → Nat → Prop} {y : Lay} {p : PlanD} {ev wv nv : Value} {c : Cfg} {t : Nat} {s : NS} {m : Nat}
theorem Gq:bld prog 100 []=some vQ:=rfl
theorem zJ {b:Nat}{a0 b0:Value}(a1 b1:Value)(h:H[b]? =some (fM a0 b0))(ha:dV [a1,b1]=true):stN 2 (.Q b 0) (.agg #[a1,b1]) H=some (undef,H.set b (fM a1 b1)):=yZ h aC rfl rfl (aPS 2) ha
theorem uG {b:Nat}{a0 b0:Value}(h:H[b]? =some (fM a0 b0)):ldN 2 (.Q b 0) H=some (.agg #[a0,b0],H)/\ld1 (.Q b 0) H=some (a0,H)/\ld1 (.Q b 1) H=some (b0,H):=⟨Bb h (aPS 2),dC h rfl,dC h rfl⟩
theorem aA3 (h:NodeAt H0 H F y p ev wv nv c t s)(hm:0<m)(i k:Int)(hno: ¬(1<=i/\i<c.aL/\0<=k/\k<c.lanes)): ∃H',lvl prog pkN m (.func 64) [pt y.nb,.I i,.I k] H=some (.tuple #[vQ,.bool false],H')/\Ext H H':=by
 refine jQ (cT rfl) U ?_
 rw[Y3];have e0: ∀H:aE,H++[Blk.cells [Value.pointer none,.pointer none] 100 .fix]=H++[fM (.pointer none) (.pointer none)]:=λ_=>rfl
 have h1:=h.iT (H':=H++[fM (.pointer none) (.pointer none)]) (Fr.app _ _ _);have l13:=h1.ld 13 (iX y c) rfl;have l3:=h1.ld 3 (.I c.lanes) rfl;have e1:cH (iX y c)=some (.I c.aL):=rfl;have st:stN 2 (.Q H.length 0) vQ (H++[fM (.pointer none) (.pointer none)])=some (undef,H++[fM (.pointer none) (.pointer none)]):=by
  rw[vQ,zJ _ _ (dS _ _) rfl,nL]
 have ld:=(uG (dS H (fM (.pointer none) (.pointer none)))).1;have fin: ∃H',(some (Value.tuple #[.agg #[.pointer none,.pointer none],.bool false],H++[fM (.pointer none) (.pointer none)]):Option (Value×aE))=some (.tuple #[vQ,.bool false],H')/\Ext H H':=⟨_,rfl,Fr.app _ _ _⟩;by_cases c1:i<1
 ·simp -implicitDefEqProofs only[gsR,e0,aQw c1,Gq,st,ld]
  exact fin
 ·by_cases c2:(c.aL:Int)<=i
  ·simp -implicitDefEqProofs only[gsR,e0,aQx c1,l13,e1,aQw c2,Gq,st,ld]
   exact fin
  ·by_cases c3:k<0
   ·simp -implicitDefEqProofs only[gsR,e0,aQx c1,l13,e1,aQx c2,aQw c3,Gq,st,ld]
    exact fin
   ·have c4:(c.lanes:Int)<=k:=U
    simp -implicitDefEqProofs only[gsR,e0,aQx c1,l13,e1,aQx c2,aQx c3,l3,aQw c4,Gq,st,ld];exact fin
theorem P1 (h:NodeAt H0 H F y p ev wv nv c t s)(hm:0<m){i k:Nat}(h1:1<=i)(h2:i<c.aL)(hk:k<c.lanes): ∃H',lvl prog pkN m (.func 64) [pt y.nb,.I i,.I k] H=some (.tuple #[.agg #[pt (y.sb i k),pt (y.rb i k)],.bool true],H')/\Ext H H':=by
 refine jQ (cT rfl) U ?_
 rw[Y3];have e0: ∀H:aE,H++[Blk.cells [Value.pointer none,.pointer none] 100 .fix]=H++[fM (.pointer none) (.pointer none)]:=λ_=>rfl
 have g1:=h.iT (H':=H++[fM (.pointer none) (.pointer none)]) (Fr.app _ _ _);have l13:=g1.ld 13 (iX y c) rfl;have l3:=g1.ld 3 (.I c.lanes) rfl;have e1:cH (iX y c)=some (.I c.aL):=rfl;obtain⟨b,o,a1,a2⟩:=g1.xI h2;obtain⟨_,_,a3,_⟩:=a2 _ (.inl g1);obtain⟨b',o',a4,a5,_,_⟩:=g1.Bu h1 h2 hk;have a5:ldN 2 (.Q b' o') (H++[fM (.pointer none) (.pointer none)])=some (.agg #[pt (y.sb i k),pt (y.rb i k)],H++[fM (.pointer none) (.pointer none)]):=a5;have st:stN 2 (.Q H.length 0) (.agg #[pt (y.sb i k),pt (y.rb i k)]) (H++[fM (.pointer none) (.pointer none)])=some (undef,H++[fM (pt (y.sb i k)) (pt (y.rb i k))]):=by
  rw[zJ _ _ (dS _ _) rfl,nL]
 have ld:=(uG (dS H (fM (pt (y.sb i k)) (pt (y.rb i k))))).1;have c1:decide ((i:Int)<1)=false:=by rw[decide_eq_false_iff_not];omega
 have c2:decide ((c.aL:Int)<=(i:Int))=false:=by rw[decide_eq_false_iff_not];omega
 have c3:decide ((k:Int)<0)=false:=by rw[decide_eq_false_iff_not];omega
 have c4:decide ((c.lanes:Int)<=(k:Int))=false:=by rw[decide_eq_false_iff_not];omega
 simp -implicitDefEqProofs only[gsR,e0,c1,l13,e1,c2,c3,l3,c4,a1,a3,a4,a5,st,ld]
 exact⟨_,rfl,Fr.app _ _ _⟩
theorem pC (a b:Value):ext 0 (.tuple #[a,b])=some a/\ext 1 (.tuple #[a,b])=some b:=⟨rfl,rfl⟩
theorem aNX (h:NodeAt H0 H F y p ev wv nv c t s)(hm:1<m){i k:Nat}(h1:1<=i)(h2:i<c.aL)(hk:k<c.lanes): ∃H',lvl prog pkN m (.func 19) [pt y.nb,.I i,.I k] H=some (pt (y.sb i k),H')/\Ext H H':=by
 obtain⟨H1,g1,x1⟩:=P1 h (m:=m-1) U h1 h2 hk
 have e0: ∀H:aE,H++[Blk.cells [Value.pointer none,.pointer none] 100 .fix]=H++[fM (.pointer none) (.pointer none)]:=λ_=>rfl
 have st:stN 2 (.Q H1.length 0) (.agg #[pt (y.sb i k),pt (y.rb i k)]) (H1++[fM (.pointer none) (.pointer none)])=some (undef,H1++[fM (pt (y.sb i k)) (pt (y.rb i k))]):=by
  rw[zJ _ _ (dS _ _) rfl,nL]
 have ld:=(uG (dS H1 (fM (pt (y.sb i k)) (pt (y.rb i k))))).2.1;refine jQ (cT rfl) U ⟨H1++[fM (pt (y.sb i k)) (pt (y.rb i k))],?_,x1.tr (Fr.app _ _ _)⟩
 rw[Yt];simp -implicitDefEqProofs only[gsR,g1,pC,e0,st,ld]
theorem aNV (h:NodeAt H0 H F y p ev wv nv c t s)(hm:1<m){i k:Nat}(h1:1<=i)(h2:i<c.aL)(hk:k<c.lanes): ∃H',lvl prog pkN m (.func 44) [pt y.nb,.I i,.I k] H=some (pt (y.rb i k),H')/\Ext H H':=by
 obtain⟨H1,g1,x1⟩:=P1 h (m:=m-1) U h1 h2 hk
 have e0: ∀H:aE,H++[Blk.cells [Value.pointer none,.pointer none] 100 .fix]=H++[fM (.pointer none) (.pointer none)]:=λ_=>rfl
 have st:stN 2 (.Q H1.length 0) (.agg #[pt (y.sb i k),pt (y.rb i k)]) (H1++[fM (.pointer none) (.pointer none)])=some (undef,H1++[fM (pt (y.sb i k)) (pt (y.rb i k))]):=by
  rw[zJ _ _ (dS _ _) rfl,nL]
 have ld:=(uG (dS H1 (fM (pt (y.sb i k)) (pt (y.rb i k))))).2.2;refine jQ (cT rfl) U ⟨H1++[fM (pt (y.sb i k)) (pt (y.rb i k))],?_,x1.tr (Fr.app _ _ _)⟩
 rw[aKR];simp -implicitDefEqProofs only[gsR,g1,pC,e0,st,ld]
theorem aNY (h:NodeAt H0 H F y p ev wv nv c t s)(hm:1<m)(i k:Int)(hno: ¬(1<=i/\i<c.aL/\0<=k/\k<c.lanes)): ∃H',lvl prog pkN m (.func 19) [pt y.nb,.I i,.I k] H=some (.pointer none,H')/\Ext H H':=by
 obtain⟨H1,g1,x1⟩:=aA3 h (m:=m-1) U i k hno
 have e0: ∀H:aE,H++[Blk.cells [Value.pointer none,.pointer none] 100 .fix]=H++[fM (.pointer none) (.pointer none)]:=λ_=>rfl
 have st:stN 2 (.Q H1.length 0) vQ (H1++[fM (.pointer none) (.pointer none)])=some (undef,H1++[fM (.pointer none) (.pointer none)]):=by
  rw[vQ,zJ _ _ (dS _ _) rfl,nL]
 have ld:=(uG (dS H1 (fM (.pointer none) (.pointer none)))).2.1;refine jQ (cT rfl) U ⟨H1++[fM (.pointer none) (.pointer none)],?_,x1.tr (Fr.app _ _ _)⟩
 rw[Yt];simp -implicitDefEqProofs only[gsR,g1,pC,e0,st,ld]
theorem P2 (h:NodeAt H0 H F y p ev wv nv c t s)(hm:0<m):lvl prog pkN m (.func 42) [pt y.nb] H=some (pt y.hb,H):=by
 refine dI (cT rfl) U ?_
 rw[aKP];simp -implicitDefEqProofs only[gsR,h.ld 14 (pt y.hb) rfl]
theorem aNW (h:NodeAt H0 H F y p ev wv nv c t s)(hm:0<m):lvl prog pkN m (.func 43) [pt y.nb] H=some (pt y.rg,H):=by
 refine dI (cT rfl) U ?_
 rw[aKQ];simp -implicitDefEqProofs only[gsR,h.ld 15 (pt y.rg) rfl]
def fiI (l:List Nat)(z:Int):Int:=match l.findIdx? (λw:Nat=>decide ((w:Int)=z)) with
 |some j=>(j:Int)
 |none=> -1
theorem aNS {l:List Nat}{z:Int}{i:Nat}(hi:i<l.length)(h1:(l.getD i 0:Int)=z)(h2: ∀j,j<i->(l.getD j 0:Int)≠z):fiI l z=i:=by
 have:l.findIdx? (λw:Nat=>decide ((w:Int)=z))=some i:=by
  rw[List.findIdx?_eq_some_iff_getElem];refine⟨hi,?_,λj hj=> ?_⟩
  ·rw[aPR,aPP hi] at h1
   simpa using h1
  ·have:=h2 j hj
   rw[aPR,aPP U] at this
   simpa using this
 unfold fiI;rw[this]
theorem aNT {l:List Nat}{z:Int}(h: ∀j,j<l.length->(l.getD j 0:Int)≠z):fiI l z= -1:=by
 have:l.findIdx? (λw:Nat=>decide ((w:Int)=z))=none:=by
  rw[List.findIdx?_eq_none_iff];intro x hx;obtain⟨j,hj,rfl⟩:=List.mem_iff_getElem.mp hx;have:=h j hj;rw[aPR,aPP hj] at this;simpa using this
 unfold fiI;rw[this]
def nO (y:Lay)(c:Cfg)(i:Nat):Blk:= .cells (fX y c i) 94 .fix
theorem aN0 (hm:0<m){cb:Nat}{z:Int}(i:Nat)(hc:H[cb]? =some (.cells [.I z] 3 .fix)):lvl prog pkN m (.func 144) [.agg ⟨fX y c i⟩,pt cb] H=some (.bool ((kL c i:Int)==z),H++[nO y c i]):=by
 refine dI (cT rfl) U ?_
 rw[aKA];have e0:H++[Blk.cells (Value.cells (.agg ⟨fX y c i⟩)).toList 94 .fix]=H++[nO y c i]:=rfl;have l0:ld1 (.pointer (some ⟨H.length,0,none⟩)) (H++[nO y c i])=some (.int .i64 (kL c i),H++[nO y c i]):=dC (dS _ _) rfl;have l1:ld1 (pt cb) (H++[nO y c i])=some (.int .i64 z,H++[nO y c i]):=dC (nW hc _) rfl;simp -implicitDefEqProofs only[gsR,e0,l0,l1]
theorem aNZ (hm:0<m){cb:Nat}{z:Int}(i:Nat)(hc:H[cb]? =some (.cells [.I z] 3 .fix)):lvl prog pkN m (.func 86) [.agg ⟨fX y c i⟩,pt cb] H=some (.bool ((kL c i:Int)==z),H++[nO y c i]):=by
 refine dI (cT rfl) U ?_
 rw[aK8];have e0:H++[Blk.cells (Value.cells (.agg ⟨fX y c i⟩)).toList 94 .fix]=H++[nO y c i]:=rfl;have l0:ld1 (.pointer (some ⟨H.length,0,none⟩)) (H++[nO y c i])=some (.int .i64 (kL c i),H++[nO y c i]):=dC (dS _ _) rfl;have l1:ld1 (pt cb) (H++[nO y c i])=some (.int .i64 z,H++[nO y c i]):=dC (nW hc _) rfl;simp -implicitDefEqProofs only[gsR,e0,l0,l1]
theorem aNU {fid:FuncId}{cb:Nat}{z:Int}{v:Value}(hf: ∀(H:aE)(i:Nat),H[cb]? =some (.cells [.I z] 3 .fix)->lvl prog pkN m (.func fid) [.agg ⟨fX y c i⟩,pt cb] H=some (.bool ((kL c i:Int)==z),H++[nO y c i]))
  (hb:c.by'.length<=5): ∀(q i k:Nat)(H:aE),c.by'.length-i=q->i<=c.by'.length->q<k->Rs (fX y c) 94 H v ((List.range c.aL).drop 1)->H[cb]? =some (.cells [.I z] 3 .fix)->(∀j,j<i->(c.by'.getD j 0:Int)≠z)-> ∀(x2 x3 x4 x5 x6 x9 bG b9 aS aP aQ aO aT aU aR:Value),
  ∃H2,aJ k (aM prog (lvl prog pkN m) (aJ m) Oi) (Fl (lvl prog pkN m) (aJ m)) [v,(.func (.func fid) #[] #[pt cb]),x2,x3,x4,x5,x6,(.I c.by'.length),(.I (i:Nat)),x9,bG,b9,aS,aP,aQ,aO,aT,aU,aR] H=some (.I (fiI c.by' z),H2)/\Ext H H2:=by
 intro q;induction q with
 |zero=>
  intro i k H hq hi hk hv hc hno;intros;obtain⟨k,rfl⟩: ∃k',k=k'+1:=⟨k-1,by omega⟩
  have c1:decide ((i:Int)<(c.by'.length:Int))=false:=by rw[decide_eq_false_iff_not];omega
  rw[aJ,Y4];simp -implicitDefEqProofs only[gsR,c1];rw[aK5];rw[aNT λj hj=>hno j U]
  simp -implicitDefEqProofs only[gsR]
  exact⟨_,rfl,Fr.iQ _ _⟩
 |succ q ih=>
  intro i k H hq hi hk hv hc hno;intros;obtain⟨k,rfl⟩: ∃k',k=k'+1:=⟨k-1,by omega⟩
  have c1:decide ((i:Int)<(c.by'.length:Int))=true:=by rw[decide_eq_true_eq];omega
  have hx:((List.range c.aL).drop 1)[i]? =some (i+1):=by
   rw[List.getElem?_drop,aQu (by unfold Cfg.aL;omega),Nat.add_comm]
  obtain⟨b,o,a1,_,a3⟩:=hv.fZ (Bv y c) hx .i64;have a3:=(a3 H rfl).1;have hcall:=hf H (i+1) hc;have hto:kL c (i+1)=c.by'.getD i 0:=by unfold kL;rw[if_neg U];rfl
  rw[hto] at hcall;have e9:=oK i U
  have hcv:oA (lvl prog pkN m) (.func (.func fid) #[] #[pt cb]) [.agg ⟨fX y c (i+1)⟩] H=some (.bool ((c.by'.getD i 0:Int)==z),H++[nO y c (i+1)]):=hcall;rw[aJ,Y4];by_cases he:(c.by'.getD i 0:Int)=z
  ·have c2:((c.by'.getD i 0:Int)==z)=true:=by simpa using he
   rw[c2] at hcv;simp -implicitDefEqProofs only[gsR,c1,a1,a3,hcv];rw[aK7];rw[aNS U he hno]
   simp -implicitDefEqProofs only[gsR]
   exact⟨_,rfl,Fr.app _ _ _⟩
  ·have c2:((c.by'.getD i 0:Int)==z)=false:=by simpa using he
   rw[c2] at hcv;simp -implicitDefEqProofs only[gsR,c1,a1,a3,hcv,cO,e9];obtain⟨H2,g1,g2⟩:=ih (i+1) k (H++[nO y c (i+1)]) U U U (hv.ext (Fr.app _ _ _)) (nW hc _) (λj hj=>by
    by_cases hji:j=i
    ·rw[hji];exact he
    ·exact hno j U) ..
   exact⟨H2,g1,(show Ext H (H++[nO y c (i+1)]) from Fr.app _ _ _).tr g2⟩
theorem aA4 {fid:FuncId}{cb:Nat}{z:Int}{v:Value}(hm:20<m)(hf: ∀(H:aE)(i:Nat),H[cb]? =some (.cells [.I z] 3 .fix)->lvl prog pkN (m-1) (.func fid) [.agg ⟨fX y c i⟩,pt cb] H=some (.bool ((kL c i:Int)==z),H++[nO y c i]))
  (hb:c.by'.length<=5)(hv:Rs (fX y c) 94 H v ((List.range c.aL).drop 1))(hc:H[cb]? =some (.cells [.I z] 3 .fix)): ∃H2,lvl prog pkN m (.func 85) [v,.func (.func fid) #[] #[pt cb]] H=some (.I (fiI c.by' z),H2)/\Ext H H2:=by
 refine jQ (cT rfl) U ?_
 rw[aK6];have hl:=hv.fD;have:((List.range c.aL).drop 1).length=c.by'.length:=by simp[Cfg.aL]
 rw[this] at hl;simp -implicitDefEqProofs only[gsR,hl];exact aNU hf hb c.by'.length 0 (m-1) H U U U hv hc (λj hj=>by omega) ..
theorem aNR:prog.cellsOf 94=3:=by kernel_rfl
theorem NodeAt.aA2 (h:NodeAt H0 H F y p ev wv nv c t s): ∃v,slc prog 3 (iX y c) (some (.I 1)) none none H=some (v,H)/\Rs (fX y c) 94 H v ((List.range c.aL).drop 1):=by
 have hne:List.range c.aL≠[]:=by unfold Cfg.aL;simp
 obtain⟨v',g1,g2,_⟩:=h.aAW.C6 (P:=prog) (Bv y c) aNR hne (l:=1) (r:=c.aL) (lo:=some (.I 1)) (hi:=none) (mN 0 .i64 1) (by rw[aQh];rfl) (by unfold Cfg.aL;omega) (by rw[aQh];exact aPS _)
 rw[List.take_of_length_le (by rw[aQh];exact aPS _)] at g2
 exact⟨v',g1,g2⟩
end
end Go.Proofs.YtkeilicinggjmaaGreatDoor
