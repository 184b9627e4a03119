/- A part of the proof. -/
import Derived.Test.YtfhacoddmpbgnaaGreatDoorTO
import Derived.Test.YtfhacoddmpbgnaaGreatDoorTN
set_option linter.unusedVariables false
set_option linter.unusedSimpArgs false
set_option maxRecDepth 100000
namespace Go.Dm
open Go.Ai Go.Proofs Go.Mem Go.Rm
theorem il(v:V)(h:za):yX pu 93 [vv v] h (.bool (kF v)):=by
 apply vt rfl;obtain⟨k,n,b⟩:=v;apply LZ;unfold NZ kF;by_cases h0:k=0
 ·subst h0;by_cases hn:n=0
  ·simp only[EE,↓nw,Value.cells,↓BK,aad,abj,Int.reduceEq,zw,abU,xi,zj,zQ,yf,xJ,oG,oI,Up,hn];rfl
  ·simp only[EE,↓nw,Value.cells,↓BK,aad,abj,Int.reduceEq,zw,xi,zj,zQ,yf,oG,oI,Up,hn];simp[Wm,hn]
 ·by_cases h1:k=1
  ·subst h1;simp only[EE,↓nw,Value.cells,↓BK,aad,abj,zw,zj,zQ,xJ,Dh,f9,Up,h0];rfl
  ·by_cases h2:k=2
   ·subst h2;simp only[EE,↓nw,Value.cells,↓BK,abj,zw,abU,zj,zQ,xJ,Dg,oH,f9,Up,h0,h1];rfl
   ·simp only[EE,↓nw,Value.cells,↓BK,abj,zw,zj,zQ,oH,f9,Up,h0,h1,h2];simp[Wm,h2]
theorem Z0(n:Int)(h:za):yX pu 26 [pm n] h (vv (u6 n)):=by
 apply vt rfl;apply zci;unfold zfC;simp only[EE,↓nw,Value.cells,zb,aad,Nat.reduceAdd,yM,ya,zh,zo,y5,Ee];rfl
theorem Ic(b n:Int)(h:za):yX pu 61 [pm b,pm n] h (vv (sO b n)):=by
 apply vt rfl;apply zcg;unfold zfA sO;by_cases h1:b<1
 ·simp only[EE,↓nw,Value.cells,zb,aad,Nat.reduceAdd,yM,ya,zh,zo,y5,zN,h1];rfl
 ·simp only[EE,↓nw,Value.cells,zb,aad,abj,Nat.reduceAdd,yM,ya,zh,zo,y5,Ik,S5,h1];rfl
theorem cL(b:Bool)(h:za):yX pu 96 [.bool b] h (vv (qN b)):=by
 apply vt rfl;apply Tk;unfold zdp qN;cases b with
 |true=>
  simp only[EE,↓nw,Value.cells,y5,Oc];refine yp (Z0 1 _) ?_;simp only[EE,zb,aad,Nat.reduceAdd,yM,ya,zh,zo];rfl
 |false=>
  simp only[EE,↓nw,Value.cells,y5,Od];refine yp (Z0 0 _) ?_;simp only[EE,zb,aad,Nat.reduceAdd,yM,ya,zh,zo];rfl
theorem uC{a b c:aaa}{h:za}{R:aaa->za->Prop}(ha:zU a=false)(hb:zU b=false)(hc:zU c=false):rv [a,b,c] h R=R (.tuple #[a,b,c]) h:=by
 apply propext;simp only[rv,yD,ha,hb,hc,aaJ,Zx,abP]
theorem zee{a b c:aaa}(ha:zU a=false)(hb:zU b=false)(hc:zU c=false):Yt (.tuple #[a,b,c]) 0=some a:=(eZ (by simp only[yD,ha,hb,hc,aaJ])).trans rfl
theorem zef{a b c:aaa}(ha:zU a=false)(hb:zU b=false)(hc:zU c=false):Yt (.tuple #[a,b,c]) 1=some b:=(eZ (by simp only[yD,ha,hb,hc,aaJ])).trans rfl
theorem zeg{a b c:aaa}(ha:zU a=false)(hb:zU b=false)(hc:zU c=false):Yt (.tuple #[a,b,c]) 2=some c:=(eZ (by simp only[yD,ha,hb,hc,aaJ])).trans rfl
theorem zaM(a:Int)(h:za):yX pu 94 [pm a,.int .u64 8] h (pm (Go.Rm.v9 (IntKind.wrap .i8 a))):=by
 apply vt rfl;apply GU;unfold S7;have e:IntKind.wrap .i64 (BitVec.ofInt (IntKind.bits .i64) a &&& BitVec.ofInt (IntKind.bits .i64) 255).toNat=a%256:=nc a 8 (by decide);have w1:IntKind.wrap .i64 (1*2^(min 8 (IntKind.bits .i64)))=256:=by decide
 have w2:IntKind.wrap .i64 255=255:=by decide
 have w3:IntKind.wrap .u64 7=7:=by decide
 have w4:IntKind.wrap .i64 (1*2^(min 7 (IntKind.bits .i64)))=128:=by decide
 have x:(if a%256 ≥ 128 then a%256-256 else a%256)=Go.Rm.v9 (IntKind.wrap .i8 a):=zcC a;simp only[EE,Int.reduceLE,Int.reduceSub,Int.reduceToNat,w1,w2,w3,w4,e];by_cases c:a%256 ≥ 128
 ·have w5:IntKind.wrap .i64 (a%256-256)=a%256-256:=CF ⟨by omega,by omega⟩;simp only[EE,Int.reduceLE,Int.reduceToNat,E4,c,w1,w5];rw[aai c]at x;rw[<- x];rfl
 ·simp only[EE,c];rw[aac c]at x;rw[<- x];rfl
theorem OY(a:Int)(h:za):yX pu 94 [pm a,.int .u64 32] h (pm (Go.Rm.v9 (IntKind.wrap .i32 a))):=by
 apply vt rfl;apply GU;unfold S7;have e:IntKind.wrap .i64 (BitVec.ofInt (IntKind.bits .i64) a &&& BitVec.ofInt (IntKind.bits .i64) 4294967295).toNat=a%4294967296:=nc a 32 (by decide);have w1:IntKind.wrap .i64 (1*2^(min 32 (IntKind.bits .i64)))=4294967296:=by decide
 have w2:IntKind.wrap .i64 4294967295=4294967295:=by decide
 have w3:IntKind.wrap .u64 31=31:=by decide
 have w4:IntKind.wrap .i64 (1*2^(min 31 (IntKind.bits .i64)))=2147483648:=by decide
 have x:(if a%4294967296 ≥ 2147483648 then a%4294967296-4294967296 else a%4294967296)=Go.Rm.v9 (IntKind.wrap .i32 a):=zaL a;simp only[EE,Int.reduceLE,Int.reduceSub,Int.reduceToNat,w1,w2,w3,w4,e];by_cases c:a%4294967296 ≥ 2147483648
 ·have w5:IntKind.wrap .i64 (a%4294967296-4294967296)=a%4294967296-4294967296:=CF ⟨by omega,by omega⟩;simp only[EE,Int.reduceLE,Int.reduceToNat,E4,c,w1,w5];rw[aai c]at x;rw[<- x];rfl
 ·simp only[EE,c];rw[aac c]at x;rw[<- x];rfl
theorem zb2(a:Int):YY pu .neg (.int .u64 a)=some (.int .u64 (wu (0-a))):=rfl
theorem zdf(n:Int):Go.Rm.v9 (wu n)=Go.Rm.v9 n:=by
 rw[CE,CE,CG]
 congr 1
 apply BitVec.eq_of_toNat_eq;simp only[BitVec.toNat_ofInt];omega
theorem Gv{a:Int}(h:wg a)(n:a<0):wu (0-wu a) = -a:=by
 obtain⟨h1,h2⟩:=h;rw[CG,CG];omega
theorem PA{a:Int}(h:wg a)(n:¬a<0):wu a=a:=by
 obtain⟨h1,h2⟩:=h;rw[CG];omega
theorem tE{x y:Int}(h0:0<=x)(hx:x<=9223372036854775808)(hy:0<y):¬y=0/\wu (x.tdiv y)=x.tdiv y/\wu (x.tdiv y*y)=x.tdiv y*y/\wu (x-x.tdiv y*y)=x.tmod y/\0<=x.tmod y/\x.tmod y<y:=by
 rw[acp h0,abw h0];have e:=Int.mul_ediv_add_emod x y;rw[Int.mul_comm]at e;have m0:=Int.emod_nonneg x (show y≠0 by omega);have m1:=Int.emod_lt_of_pos x hy;have d0:0<=x/y:=Int.ediv_nonneg h0 (by omega);have d1:x/y<=x:=Int.ediv_le_self y h0;have d2:0<=x/y*y:=Int.mul_nonneg d0 (by omega);generalize x/y*y=z at e d2 ⊢;refine⟨by omega,?_,?_,?_,m0,m1⟩ <;> rw[CG] <;> omega
def MJ(a b:Int):Prop:=b=0\/(a = -9223372036854775808/\b = -1)
instance (a b:Int):Decidable (MJ a b):=by unfold MJ;infer_instance
def MK(a b:Int):aaa:=if MJ a b then .tuple #[pm 0,pm 0,.bool false] else .tuple #[pm (Go.Rm.v9 (a.tdiv b)),pm (a.tmod b),.bool true]
theorem bt:(true == false)=false:=rfl
theorem bf:(false == true)=false:=rfl
theorem Ru{a b:Int}(ha:wg a)(hb:wg b)(h:za):yX pu 121 [pm a,pm b] h (MK a b):=by
 apply vt (by unfold MK;split <;> rfl);apply E3;unfold Df;by_cases b0:b=0
 ·have e:MK a b=.tuple #[pm 0,pm 0,.bool false]:=aai (.inl b0);rw[e];simp only[EE,VG,VH,VI,b0,uC];rfl
 by_cases am:a = -9223372036854775808/\b = -1
 ·have e:MK a b=.tuple #[pm 0,pm 0,.bool false]:=aai (.inr am);obtain⟨am,b1⟩:=am;rw[e];simp only[EE,Int.reduceEq,Int.reduceNeg,VG,VH,VI,am,b1,uC];rfl
 have e:MK a b=.tuple #[pm (Go.Rm.v9 (a.tdiv b)),pm (a.tmod b),.bool true]:=aac (by unfold MJ;omega);rw[e]
 have go:Xy (pm a) (pm b) (Wm (.tuple #[pm (Go.Rm.v9 (a.tdiv b)),pm (a.tmod b),.bool true])) [pm 0,pm 0,.bool false] h.lock:=by
  have ha1:=ha.1;have ha2:=ha.2;have hb1:=hb.1;have hb2:=hb.2;by_cases an:a<0 <;> by_cases bn:b<0
  ·obtain⟨q0,r0,q1,q2,q3,q4⟩:=tE (x := -a) (y := -b) (by omega) (by omega) (by omega);have t1:a.tdiv b=(-a).tdiv (-b):=by rw[Int.neg_tdiv,Int.tdiv_neg,Int.neg_neg]
   have t2:a.tmod b = - ((-a).tmod (-b)):=by rw[Int.neg_tmod,Int.tmod_neg,Int.neg_neg]
   simp only[EE,nth,abU,jt,nu,Pj,VC,VD,VE,VF,Xy,an,bn,Gv ha an,Gv hb bn,q0,r0,q1,q2,uC];have z:IntKind.wrap .i64 (IntKind.wrap .u64 (0-(-a).tmod (-b)))=Go.Rm.v9 (0-(-a).tmod (-b)):=zdf _;rw[CF (n:=0-_) ⟨by omega,by omega⟩]at z;rw[t1,t2,z,Int.zero_sub];rfl
  ·obtain⟨q0,r0,q1,q2,q3,q4⟩:=tE (x := -a) (y:=b) (by omega) (by omega) (by omega);have t1:a.tdiv b=0-(-a).tdiv b:=by rw[Int.neg_tdiv];omega
   have t2:a.tmod b = - ((-a).tmod b):=by rw[Int.neg_tmod,Int.neg_neg]
   simp only[EE,nth,jt,nu,Pj,VC,VD,VE,VF,Xy,an,bn,Gv ha an,PA hb bn,q0,r0,q1,q2,uC,bt];have z:IntKind.wrap .i64 (IntKind.wrap .u64 (0-(-a).tmod b))=Go.Rm.v9 (0-(-a).tmod b):=zdf _;have z2:IntKind.wrap .i64 (IntKind.wrap .u64 (0-(-a).tdiv b))=Go.Rm.v9 (0-(-a).tdiv b):=zdf _;rw[CF (n:=0-_) ⟨by omega,by omega⟩]at z;rw[t1,t2,z,z2,Int.zero_sub,Int.zero_sub];rfl
  ·obtain⟨q0,r0,q1,q2,q3,q4⟩:=tE (x:=a) (y := -b) (by omega) (by omega) (by omega);have t1:a.tdiv b=0-a.tdiv (-b):=by rw[Int.tdiv_neg];omega
   have t2:a.tmod b=a.tmod (-b):=by rw[Int.tmod_neg]
   simp only[EE,nth,jt,nu,Pj,VC,VD,VE,VF,Xy,an,bn,PA ha an,Gv hb bn,q0,r0,q1,q2,uC,bf];have z:IntKind.wrap .i64 (a.tmod (-b))=_:=CF (n:=a.tmod (-b)) ⟨by omega,by omega⟩;have z2:IntKind.wrap .i64 (IntKind.wrap .u64 (0-a.tdiv (-b)))=Go.Rm.v9 (0-a.tdiv (-b)):=zdf _;rw[t1,t2,z,z2];rfl
  ·obtain⟨q0,r0,q1,q2,q3,q4⟩:=tE (x:=a) (y:=b) (by omega) (by omega) (by omega);simp only[EE,nth,abU,jt,nu,Pj,VC,VD,VE,VF,Xy,an,bn,PA ha an,PA hb bn,q0,r0,q1,q2,uC];have z:IntKind.wrap .i64 (a.tmod b)=_:=CF (n:=a.tmod b) ⟨by omega,by omega⟩;rw[z];rfl
 by_cases am2:a = -9223372036854775808
 ·have b1:¬b = -1:=λe=>am ⟨am2,e⟩;simp only[EE,Int.reduceNeg,VG,VH,VI,b0,am2,b1];rw[am2]at go;exact go
 ·simp only[EE,Int.reduceNeg,VG,VH,VI,b0,am2];exact go
theorem ML(a b:Int):∃q r ok,MK a b=.tuple #[pm q,pm r,.bool ok]/\(if MJ a b then ok=false else q=Go.Rm.v9 (a.tdiv b)/\r=a.tmod b/\ok=true):=by
 unfold MK;split
 ·exact⟨_,_,_,rfl,rfl⟩
 ·exact⟨_,_,_,rfl,rfl,rfl,rfl⟩
theorem zcN{op a b:Int}(ha:wg a)(hb:wg b)(h:za):yX pu 95 [pm op,pm a,pm b] h (wQ (ub op a b)):=by
 apply vt rfl;apply px;unfold AJ;obtain⟨q,r,ok,e,hq⟩:=ML a b;simp only[EE,↓nw,Value.cells,y5];refine yp (by have:=Ru ha hb (h.lock.push (.cells [pm 0,pm 0,pm 0] 69));rw[e]at this;exact this) ?_;simp only[EE,↓BK,zee,zef,zeg];by_cases o11:op=11
 ·subst o11;simp only[EE,xw,zZ];refine yp (Z0 (Go.Rm.v9 (a+b)) _) ?_;simp only[EE,zb,aad,Nat.reduceAdd,yM,ya,zh,zo];rfl
 by_cases o12:op=12
 ·subst o12;simp only[EE,Int.reduceEq,xD,xL,zZ];refine yp (Z0 (Go.Rm.v9 (a-b)) _) ?_;simp only[EE,zb,aad,Nat.reduceAdd,yM,ya,zh,zo];rfl
 by_cases o13:op=13
 ·subst o13;simp only[EE,Int.reduceEq,wS,xR,xL,zZ];refine yp (Z0 (Go.Rm.v9 (a*b)) _) ?_;simp only[EE,zb,aad,Nat.reduceAdd,yM,ya,zh,zo];rfl
 by_cases o14:op=14
 ·subst o14;by_cases c:MJ a b
  ·rw[aai c]at hq;subst hq;simp only[EE,nth,zb,aad,Nat.reduceAdd,Int.reduceEq,yM,ya,zh,zo,zN,Wf,y6,xY,xR,xL,zZ,yd];have:ub 14 a b=none:=by unfold ub;rw[aac (by decide),aac (by decide),aac (by decide),aai (.inl rfl),aai (show b=0\/(a = -9223372036854775808/\b = -1) from c)]
   rw[this];rfl
  ·rw[aac c]at hq;obtain⟨rfl,rfl,rfl⟩:=hq;simp only[EE,nth,zb,Nat.reduceAdd,Int.reduceEq,yM,zo,zN,UZ,U0,y6,xY,xR,xL,zZ,yd];refine yp (Z0 _ _) ?_;simp only[EE,zb,aad,Nat.reduceAdd,yM,ya,zh,zo];have:ub 14 a b=some (u6 (Go.Rm.v9 (a.tdiv b))):=by unfold ub;rw[aac (by decide),aac (by decide),aac (by decide),aai (.inl rfl),aac (show ¬(b=0\/(a = -9223372036854775808/\b = -1)) from c),aai rfl]
   rw[this];rfl
 by_cases o15:op=15
 ·subst o15;by_cases c:MJ a b
  ·rw[aai c]at hq;subst hq;simp only[EE,nth,zb,aad,Nat.reduceAdd,Int.reduceEq,yM,ya,zh,zo,zN,Wf,y6,xY,xR,xL,zZ,yd];have:ub 15 a b=none:=by unfold ub;rw[aac (by decide),aac (by decide),aac (by decide),aai (.inr rfl),aai (show b=0\/(a = -9223372036854775808/\b = -1) from c)]
   rw[this];rfl
  ·rw[aac c]at hq;obtain⟨rfl,rfl,rfl⟩:=hq;simp only[EE,nth,zb,Nat.reduceAdd,Int.reduceEq,yM,zo,zN,UZ,U0,y6,xY,xR,xL,zZ,yd];refine yp (Z0 _ _) ?_;simp only[EE,zb,aad,Nat.reduceAdd,yM,ya,zh,zo];have:ub 15 a b=some (u6 (a.tmod b)):=by unfold ub;rw[aac (by decide),aac (by decide),aac (by decide),aai (.inr rfl),aac (show ¬(b=0\/(a = -9223372036854775808/\b = -1)) from c),aac (by decide)]
   rw[this];rfl
 by_cases o16:op=16
 ·subst o16;simp only[EE,nth,zb,Nat.reduceAdd,Int.reduceEq,yM,zo,zN,vN,yS,y6,xY,xR,xL,zZ,yd];refine yp (Z0 (Wy (· &&& ·) a b) _) ?_;simp only[EE,zb,aad,Nat.reduceAdd,yM,ya,zh,zo];rfl
 by_cases o17:op=17
 ·subst o17;simp only[EE,nth,zb,Nat.reduceAdd,Int.reduceEq,yM,zo,zN,ui,vq,yS,y6,xY,xR,xL,zZ,yd];refine yp (Z0 (Wy (· ||| ·) a b) _) ?_;simp only[EE,zb,aad,Nat.reduceAdd,yM,ya,zh,zo];rfl
 by_cases o18:op=18
 ·subst o18;have x:IntKind.wrap .i64 (IntKind.wrap .i64 (BitVec.ofInt (IntKind.bits .i64) a ||| BitVec.ofInt (IntKind.bits .i64) b).toNat-IntKind.wrap .i64 (BitVec.ofInt (IntKind.bits .i64) a &&& BitVec.ofInt (IntKind.bits .i64) b).toNat)=Wy (· ^^^ ·) a b:=xor_eq a b;simp only[EE,nth,zb,Nat.reduceAdd,Int.reduceEq,yM,zo,zN,j8,vM,vq,yS,y6,xY,xR,xL,zZ,yd,x];refine yp (Z0 (Wy (· ^^^ ·) a b) _) ?_;simp only[EE,zb,aad,Nat.reduceAdd,yM,ya,zh,zo];rfl
 by_cases o21:op=21
 ·subst o21;simp only[EE,nth,zb,Nat.reduceAdd,Int.reduceEq,yM,zo,zN,YI,uH,uh,vM,vq,yS,y6,xY,xR,xL,zZ,yd];refine yp (cL (decide (a=b)) _) ?_;simp only[EE,zb,aad,Nat.reduceAdd,yM,ya,zh,zo];rfl
 by_cases o22:op=22
 ·subst o22;simp only[EE,nth,zb,Nat.reduceAdd,Int.reduceEq,yM,zo,zN,XU,ZO,uH,uh,vM,vq,yS,y6,xY,xR,xL,zZ,yd];refine yp (cL (!decide (a=b)) _) ?_;simp only[EE,zb,aad,Nat.reduceAdd,yM,ya,zh,zo];rfl
 by_cases o23:op=23
 ·subst o23;simp only[EE,nth,zb,Nat.reduceAdd,Int.reduceEq,yM,zo,zN,WN,YH,ZO,uH,uh,vM,vq,yS,y6,xY,xR,xL,zZ,yd];refine yp (cL (decide (a<b)) _) ?_;simp only[EE,zb,aad,Nat.reduceAdd,yM,ya,zh,zo];rfl
 by_cases o24:op=24
 ·subst o24;simp only[EE,nth,zb,Nat.reduceAdd,Int.reduceEq,yM,zo,zN,Ux,XT,YH,ZO,uH,uh,vM,vq,yS,y6,xY,xR,xL,zZ,yd];refine yp (cL (decide (a<=b)) _) ?_;simp only[EE,zb,aad,Nat.reduceAdd,yM,ya,zh,zo];rfl
 by_cases o25:op=25
 ·subst o25;simp only[EE,nth,zb,Nat.reduceAdd,Int.reduceEq,yM,zo,zN,Jl,WM,XT,YH,ZO,uH,uh,vM,vq,yS,y6,xY,xR,xL,zZ,yd];refine yp (cL (decide (b<a)) _) ?_;simp only[EE,zb,aad,Nat.reduceAdd,yM,ya,zh,zo];rfl
 by_cases o26:op=26
 ·subst o26;simp only[EE,nth,zb,Nat.reduceAdd,Int.reduceEq,yM,zo,zN,ZN,Uw,WM,XT,YH,ZO,uH,uh,vM,vq,yS,y6,xY,xR,xL,zZ,yd];refine yp (cL (decide (b<=a)) _) ?_;simp only[EE,zb,aad,Nat.reduceAdd,yM,ya,zh,zo];rfl
 by_cases o19:op=19
 ·subst o19;have is:ub 19 a b=if b<0\/63<b then none else some (u6 (Go.Rm.v9 (a*2^b.toNat))):=rfl;by_cases b0:b<0
  ·rw[is,aai (.inl b0)];simp only[EE,nth,zb,aad,Nat.reduceAdd,Int.reduceEq,yM,ya,zh,zo,zN,Yn,ZM,j7,uZ,uh,vM,vq,yS,y6,xY,xR,xL,zZ,yd,b0];rfl
  by_cases b1:63<b
  ·rw[is,aai (.inr b1)];simp only[EE,nth,zb,aad,Nat.reduceAdd,Int.reduceEq,yM,ya,zh,zo,zN,Yn,ZM,j7,uZ,uh,vM,vq,yS,y6,xY,xR,xL,zZ,yd,b0,b1];rfl
  rw[is,aac (by omega)];simp only[EE,nth,↓BK,zb,Nat.reduceAdd,Int.reduceEq,yM,zo,zN,ZM,j7,uZ,uh,vM,vq,yS,y6,xY,xR,xL,zZ,yd,b0,b1];refine qQ (λm vs h'=>∃k:Nat,k<=b.toNat/\m=b.toNat-k/\vs=[pm (Go.Rm.v9 (a*2^k)),pm k]/\h'=h.lock.push (.cells [pm 0,pm 0,pm 0] 69)) b.toNat ⟨0,aa8 _,rfl,by simp[CF ha],rfl⟩ ?_;rintro m vs h' ⟨k,hk,rfl,rfl,rfl⟩;by_cases c:(k:Int)<b
  ·have e:IntKind.wrap .i64 (IntKind.wrap .i64 (a*2^k)+IntKind.wrap .i64 (a*2^k))=Go.Rm.v9 (a*2^(k+1)):=zbP k;have e2:IntKind.wrap .i64 ((k:Int)+1)=((k+1:Nat):Int):=Go.Mem.v9 (by omega) (by omega);simp only[EE,nth,↓BK,j9,Za,Yo,c,e,e2];exact⟨b.toNat-(k+1),by omega,k+1,by omega,rfl,rfl⟩
  ·have:k=b.toNat:=by omega
   subst this;simp only[EE,nth,Yo,Jm,c];refine yp (Z0 _ _) ?_;simp only[EE,zb,aad,Nat.reduceAdd,yM,ya,zh,zo];rfl
 by_cases o20:op=20
 ·subst o20;have is:ub 20 a b=if b<0\/63<b then none else some (u6 (a.fdiv (2^b.toNat))):=rfl;by_cases b0:b<0
  ·rw[is,aai (.inl b0)];simp only[EE,nth,zb,aad,Nat.reduceAdd,Int.reduceEq,yM,ya,zh,zo,zN,Yn,ZM,j7,uZ,uh,vM,vq,yS,y6,xY,xR,xL,zZ,yd,b0];rfl
  by_cases b1:63<b
  ·rw[is,aai (.inr b1)];simp only[EE,nth,zb,aad,Nat.reduceAdd,Int.reduceEq,yM,ya,zh,zo,zN,Yn,ZM,j7,uZ,uh,vM,vq,yS,y6,xY,xR,xL,zZ,yd,b0,b1];rfl
  rw[is,aac (by omega)];simp only[EE,nth,↓BK,zb,Nat.reduceAdd,Int.reduceEq,yM,zo,zN,ZM,j7,uZ,uh,vM,vq,yS,y6,xY,xR,xL,zZ,yd,b0,b1];refine qQ (λm vs h'=>∃k:Nat,k<=b.toNat/\m=b.toNat-k/\vs=[pm (a.fdiv (2^k)),pm k]/\h'=h.lock.push (.cells [pm 0,pm 0,pm 0] 69)) b.toNat ⟨0,aa8 _,rfl,by simp[Int.fdiv_one],rfl⟩ ?_;rintro m vs h' ⟨k,hk,rfl,rfl,rfl⟩;by_cases c:(k:Int)<b
  ·have e:IntKind.wrap .i64 ((IntKind.wrap .i64 (a.fdiv (2^k)-IntKind.wrap .i64 (BitVec.ofInt (IntKind.bits .i64) (a.fdiv (2^k)) &&& BitVec.ofInt (IntKind.bits .i64) 1).toNat)).tdiv 2)=a.fdiv (2^(k+1)):=(zbQ (O9 ha k)).trans (Rz a k);have e2:IntKind.wrap .i64 ((k:Int)+1)=((k+1:Nat):Int):=Go.Mem.v9 (by omega) (by omega);simp only[EE,nth,↓BK,Int.reduceEq,ZD,j9,Za,Yo,c,e,e2];exact⟨b.toNat-(k+1),by omega,k+1,by omega,rfl,rfl⟩
  ·have:k=b.toNat:=by omega
   subst this;simp only[EE,nth,Yo,Jm,c];refine yp (Z0 _ _) ?_;simp only[EE,zb,aad,Nat.reduceAdd,yM,ya,zh,zo];rfl
 simp only[EE,nth,zb,aad,Nat.reduceAdd,yM,ya,zh,zo,zN,Uw,WM,XT,YH,ZO,uH,uh,vM,vq,yS,y6,xY,xR,xL,zZ,yd,o11,o12,o13,o14,o15,o16,o17,o18,o19,o20,o21,o22,o23,o24,o25,o26]
 have:ub op a b=none:=by
  unfold ub;rw[aac o11,aac o12,aac o13,aac (by omega),aac o16,aac o17,aac o18,aac (by omega),aac o21,aac o22,aac o23,aac o24,aac o25,aac o26]
 rw[this];rfl
theorem zgt(op:Int)(a:V)(h:za):yX pu 56 [pm op,vv a] h (wQ (iY op a)):=by
 apply vt rfl;apply E6;unfold Th;simp only[EE,↓nw,Value.cells,aad,Nat.reduceAdd,ya,zh,y5];refine yp (il a _) ?_
 have g3:((h.lock.push (.cells [pm a.k,pm a.n,pm a.b] 69)).push (.cells [pm 0,pm 0,pm 0] 69)).get h.next=some (.cells [pm a.k,pm a.n,pm a.b] 69):=by
  rw[zt (by show h.next<h.next+1;omega)];exact zk
 have g4:((h.lock.push (.cells [pm a.k,pm a.n,pm a.b] 69)).push (.cells [pm 0,pm 0,pm 0] 69)).get (h.next+1)=some (.cells [pm 0,pm 0,pm 0] 69):=zk;have r4:((h.lock.push (.cells [pm a.k,pm a.n,pm a.b] 69)).push (.cells [pm 0,pm 0,pm 0] 69)).ro<=h.next+1:=by show h.next<=h.next+1;omega
 generalize ((h.lock.push (.cells [pm a.k,pm a.n,pm a.b] 69)).push (.cells [pm 0,pm 0,pm 0] 69))=H at g3 g4 r4 ⊢;have hi:isInt a=(decide (a.k=1)&&kF a):=rfl;cases hg:kF a with
 |false=>
  have:iY op a=none:=by unfold iY;rw[aac (by rw[hi,hg];simp)]
  rw[this];simp only[EE,zb,aad,Nat.reduceAdd,yM,ya,zh,zo,zN,oX,QC,QD,QE,g4,r4];rfl
 |true=>
  by_cases k1:a.k=1
  ·have e:iY op a=(if op=1 then some (u6 (Go.Rm.v9 (0-a.n))) else if op=2 then some (u6 (Go.Rm.notM a.n)) else if op=3 then some (u6 (Go.Rm.v9 (IntKind.wrap .i8 a.n))) else if op=4 then some (u6 (Go.Rm.v9 (IntKind.wrap .i32 a.n))) else none):=by
    unfold iY;rw[aai (by rw[hi,hg,k1];rfl)]
   rw[e];simp only[EE];by_cases o1:op=1
   ·subst o1;have z:IntKind.wrap .i64 (Go.Rm.notM a.n+1)=Go.Rm.v9 (0-a.n):=neg_eq a.n;simp only[EE,↓BK,zw,xi,zj,zQ,yf,aA,gC,QC,QD,QE,g3,k1,zdV,z];refine yp (Z0 (Go.Rm.v9 (0-a.n)) _) ?_;simp only[EE,zb,aad,abj,Nat.reduceAdd,Int.reduceEq,yM,ya,zh,zo,g4,r4];rfl
   by_cases o2:op=2
   ·subst o2;have z:IntKind.wrap .i64 (-1-a.n)=Go.Rm.notM a.n:=not_eq a.n;simp only[EE,↓BK,Int.reduceEq,Int.reduceNeg,zw,xi,zj,zQ,yf,Ao,QB,gC,QC,QD,QE,g3,k1,z];refine yp (Z0 (Go.Rm.notM a.n) _) ?_;simp only[EE,zb,aad,abj,Nat.reduceAdd,Int.reduceEq,yM,ya,zh,zo,g4,r4];rfl
   by_cases o3:op=3
   ·subst o3;simp only[EE,↓BK,Int.reduceEq,zw,xi,zj,zQ,yf,An,Ky,QB,gC,QC,QD,QE,g3,k1];refine yp (zaM a.n _) ?_;simp only[Al];refine yp (Z0 _ _) ?_;simp only[EE,zb,aad,abj,Nat.reduceAdd,Int.reduceEq,yM,ya,zh,zo,g4,r4];rfl
   by_cases o4:op=4
   ·subst o4;simp only[EE,↓BK,Int.reduceEq,zw,xi,zj,zQ,yf,oY,dK,Ky,QB,gC,QC,QD,QE,g3,k1];refine yp (OY a.n _) ?_;simp only[Am];refine yp (Z0 _ _) ?_;simp only[EE,zb,aad,abj,Nat.reduceAdd,Int.reduceEq,yM,ya,zh,zo,g4,r4];rfl
   rw[aac o1,aac o2,aac o3,aac o4];simp only[EE,↓BK,zb,aad,Nat.reduceAdd,yM,ya,zw,zj,zh,zo,zN,zQ,dK,Ky,QB,gC,N9,QC,QD,QE,g3,g4,r4,k1,o1,o2,o3,o4];rfl
  ·have:iY op a=none:=by unfold iY;rw[aac (by rw[hi];simp[k1])]
   rw[this];simp only[EE,zb,aad,Nat.reduceAdd,yM,ya,zw,zj,zh,zo,zN,zQ,oX,QC,QD,QE,g3,g4,r4,k1];rfl
theorem Pc{a:V}(h:kF a=true):a.k=0\/(a.k=1/\a.b=0)\/(a.k=2/\1<=a.b):=by
 unfold kF at h;split at h
 ·exact .inl (by assumption)
 split at h
 ·simp at h;exact .inr (.inl ⟨by assumption,h⟩)
 ·simp at h;exact .inr (.inr h)
theorem yL{a:V}:(isInt a=true ↔ a.k=1/\kF a=true)/\(wB a=true ↔ a.k=2/\kF a=true):=by
 unfold isInt wB;simp
theorem Il{op:Int}{a b:V}(h:(isInt a=false/\wB a=false)\/(isInt b=false/\wB b=false)):yF op a b=none:=by
 have z:kF (u6 0)=true:=rfl;unfold yF wH;rcases h with⟨x,y⟩|⟨x,y⟩
 ·have:¬a=u6 0:=λe=>by rw[e]at x;cases x
  simp[x,y,this]
 ·have:¬b=u6 0:=λe=>by rw[e]at x;cases x
  simp[x,y,this]
theorem MC{op:Int}{a b:V}(ha:wg a.n)(hb:wg b.n)(h:za):yX pu 59 [pm op,vv a,vv b] h (wQ (yF op a b)):=by
 apply vt rfl;apply tP;unfold GK;simp only[EE,↓nw,Value.cells,aad,Nat.reduceAdd,ya,zh,y5];refine yp (il a _) ?_
 have g4:(((h.lock.push (.cells [pm a.k,pm a.n,pm a.b] 69)).push (.cells [pm b.k,pm b.n,pm b.b] 69)).push (.cells [pm 0,pm 0,pm 0] 69)).get h.next=some (.cells [pm a.k,pm a.n,pm a.b] 69):=by
  rw[zt (by show h.next<h.next+1+1;omega),zt (by show h.next<h.next+1;omega)];exact zk
 have g5:(((h.lock.push (.cells [pm a.k,pm a.n,pm a.b] 69)).push (.cells [pm b.k,pm b.n,pm b.b] 69)).push (.cells [pm 0,pm 0,pm 0] 69)).get (h.next+1)=some (.cells [pm b.k,pm b.n,pm b.b] 69):=by
  rw[zt (by show h.next+1<h.next+1+1;omega)];exact zk
 have g6:(((h.lock.push (.cells [pm a.k,pm a.n,pm a.b] 69)).push (.cells [pm b.k,pm b.n,pm b.b] 69)).push (.cells [pm 0,pm 0,pm 0] 69)).get (h.next+1+1)=some (.cells [pm 0,pm 0,pm 0] 69):=zk;have r6:(((h.lock.push (.cells [pm a.k,pm a.n,pm a.b] 69)).push (.cells [pm b.k,pm b.n,pm b.b] 69)).push (.cells [pm 0,pm 0,pm 0] 69)).ro<=h.next+1+1:=by show h.next<=h.next+1+1;omega
 generalize (((h.lock.push (.cells [pm a.k,pm a.n,pm a.b] 69)).push (.cells [pm b.k,pm b.n,pm b.b] 69)).push (.cells [pm 0,pm 0,pm 0] 69))=H at g4 g5 g6 r6 ⊢;have noA:kF a=false\/a.k=0->yF op a b=none:=λq=>Il (.inl (by unfold isInt wB;rcases q with q|q <;> simp[q]));have noB:kF b=false\/b.k=0->yF op a b=none:=λq=>Il (.inr (by unfold isInt wB;rcases q with q|q <;> simp[q]));cases ga:kF a with
 |false=>
  rw[noA (.inl ga)];simp only[EE,zb,aad,Nat.reduceAdd,yM,ya,zh,zo,zN,YF,wx,wy,wz,wA,tO,g6,r6];rfl
 |true=>
 simp only[EE,aad,Nat.reduceAdd,ya,zh,tO,g5];refine yp (il b _) ?_;cases gb:kF b with
 |false=>
  rw[noB (.inl gb)];simp only[EE,zb,aad,Nat.reduceAdd,yM,ya,zh,zo,zN,YF,wx,wy,wz,wA,g6,r6];rfl
 |true=>
 rcases Pc ga with ka|⟨ka,kab⟩|⟨ka,kab⟩
 ·rw[noA (.inr ka)];simp only[EE,zb,aad,Nat.reduceAdd,yM,ya,zw,zj,zh,zo,zN,zQ,YF,wx,wy,wz,wA,g4,g6,r6,ka];rfl
 ·have ia:isInt a=true:=yL.1.2 ⟨ka,ga⟩;have pa:wB a=false:=by unfold wB;rw[ka];rfl
  rcases Pc gb with kb|⟨kb,kbb⟩|⟨kb,kbb⟩
  ·rw[noB (.inr kb)];simp only[EE,zb,aad,Nat.reduceAdd,Int.reduceEq,yM,ya,zw,zj,zh,zo,zN,zQ,YF,wx,wy,wz,wA,g4,g5,g6,r6,ka,kb];rfl
  ·have ib:isInt b=true:=yL.1.2 ⟨kb,gb⟩;have e:yF op a b=ub op a.n b.n:=by unfold yF;rw[aai (by rw[ia,ib];rfl)]
   rw[e];simp only[EE,Int.reduceEq,zw,xi,zj,zQ,yf,xq,vQ,vR,wx,wy,wz,wA,g4,g5,ka,kb];refine yp (zcN ha hb H) ?_;simp only[xP,EE,zb,aad,Nat.reduceAdd,yM,ya,zh,zo,qv,g6,r6];rfl
  ·have ib:isInt b=false:=by unfold isInt;rw[kb];rfl
   have pb:wB b=true:=yL.2.2 ⟨kb,gb⟩;by_cases o11:op=11
   ·subst o11;have e:yF 11 a b=some (sO b.b (Go.Rm.v9 (a.n+b.n))):=by simp[yF,ia,ib,pa,pb]
    rw[e];simp only[EE,Int.reduceEq,zw,xi,zj,zQ,yf,xJ,mw,uu,uv,ue,uf,vQ,vR,wx,wy,wz,wA,g4,g5,ka,kb];refine yp (Ic b.b (Go.Rm.v9 (a.n+b.n)) H) ?_;simp only[EE,zb,aad,Nat.reduceAdd,yM,ya,zh,zo,g6,r6];rfl
   by_cases o21:op=21
   ·subst o21;by_cases n0:a.n=0
    ·have e:yF 21 a b=some (qN false):=by
      have z:a=u6 0:=(by obtain⟨x,y,z⟩:=a;dsimp only at ka n0 kab;subst ka n0 kab;rfl);have z2:¬u6 0=b:=λq=>by rw[<- q]at pb;cases pb
      simp[yF,wH,ia,ib,pa,pb];rw[<- z];simp;rw[z];simp[z2]
     rw[e];simp only[EE,Int.reduceEq,zw,xi,zj,zQ,yf,yE,yx,yy,ZC,yA,yr,yu,qR,yk,ye,ud,yR,uS,uT,uu,uv,ue,uf,vQ,vR,wx,wy,wz,wA,g4,g5,ka,kb,n0];refine yp (cL false H) ?_;simp only[EE,zb,aad,Nat.reduceAdd,yM,ya,zh,zo,g6,r6];rfl
    ·have e:yF 21 a b=none:=by
      have z:¬a=u6 0:=λq=>by rw[q]at n0;exact n0 rfl
      simp[yF,wH,ia,ib,pa,pb,z]
     rw[e];simp only[EE,zb,aad,Nat.reduceAdd,Int.reduceEq,yM,ya,zw,xi,zj,zh,zo,zN,zQ,yf,Qz,yx,yy,ZC,yA,yr,yu,qR,yk,ye,ud,yR,uS,uT,uu,uv,ue,uf,vQ,vR,wx,wy,wz,wA,g4,g5,g6,r6,ka,kb,n0];rfl
   by_cases o22:op=22
   ·subst o22;by_cases n0:a.n=0
    ·have e:yF 22 a b=some (qN true):=by
      have z:a=u6 0:=(by obtain⟨x,y,z⟩:=a;dsimp only at ka n0 kab;subst ka n0 kab;rfl);have z2:¬u6 0=b:=λq=>by rw[<- q]at pb;cases pb
      simp[yF,wH,ia,ib,pa,pb];rw[<- z];simp;rw[z];simp[z2]
     rw[e];simp only[EE,Int.reduceEq,zw,xi,zj,zQ,yf,yE,yx,yy,ZC,yA,yr,yu,qR,yk,ye,ud,yR,uS,uT,uu,uv,ue,uf,vQ,vR,wx,wy,wz,wA,g4,g5,ka,kb,n0];refine yp (cL true H) ?_;simp only[EE,zb,aad,Nat.reduceAdd,yM,ya,zh,zo,g6,r6];rfl
    ·have e:yF 22 a b=none:=by
      have z:¬a=u6 0:=λq=>by rw[q]at n0;exact n0 rfl
      simp[yF,wH,ia,ib,pa,pb,z]
     rw[e];simp only[EE,zb,aad,Nat.reduceAdd,Int.reduceEq,yM,ya,zw,xi,zj,zh,zo,zN,zQ,yf,Qz,yx,yy,ZC,yA,yr,yu,qR,yk,ye,ud,yR,uS,uT,uu,uv,ue,uf,vQ,vR,wx,wy,wz,wA,g4,g5,g6,r6,ka,kb,n0];rfl
   have e:yF op a b=none:=by simp[yF,ia,ib,pa,pb,o11,o21,o22]
   rw[e];by_cases o12:op=12
   ·simp only[EE,zb,aad,Nat.reduceAdd,Int.reduceEq,yM,ya,zw,zj,zh,zo,zN,zQ,yU,ud,yR,uS,uT,uu,uv,ue,uf,vQ,vR,wx,wy,wz,wA,g4,g5,g6,r6,ka,kb,o12];rfl
   ·simp only[EE,zb,aad,Nat.reduceAdd,Int.reduceEq,yM,ya,zw,zj,zh,zo,zN,zQ,yU,ud,yR,uS,uT,uu,uv,ue,uf,vQ,vR,wx,wy,wz,wA,g4,g5,g6,r6,ka,kb,o11,o12,o21,o22];rfl
 ·have ia:isInt a=false:=by unfold isInt;rw[ka];rfl
  have pa:wB a=true:=yL.2.2 ⟨ka,ga⟩;rcases Pc gb with kb|⟨kb,kbb⟩|⟨kb,kbb⟩
  ·rw[noB (.inr kb)];simp only[EE,zb,aad,Nat.reduceAdd,Int.reduceEq,yM,ya,zw,zj,zh,zo,zN,zQ,YF,wx,wy,wz,wA,g4,g5,g6,r6,ka,kb];rfl
  ·have ib:isInt b=true:=yL.1.2 ⟨kb,gb⟩;have pb:wB b=false:=by unfold wB;rw[kb];rfl
   by_cases o11:op=11
   ·subst o11;have e:yF 11 a b=some (sO a.b (Go.Rm.v9 (a.n+b.n))):=by simp[yF,ia,ib,pa]
    rw[e];simp only[EE,Int.reduceEq,zw,xi,zj,zQ,yf,xJ,xr,ue,uf,vQ,vR,wx,wy,wz,wA,g4,g5,ka,kb];refine yp (Ic a.b (Go.Rm.v9 (a.n+b.n)) H) ?_;simp only[EE,zb,aad,Nat.reduceAdd,yM,ya,zh,zo,g6,r6];rfl
   by_cases o12:op=12
   ·subst o12;have e:yF 12 a b=some (sO a.b (Go.Rm.v9 (a.n-b.n))):=by simp[yF,ia,ib,pa,pb]
    rw[e];simp only[EE,Int.reduceEq,zw,xi,zj,zQ,yf,xJ,xt,uS,uT,uu,uv,ue,uf,vQ,vR,wx,wy,wz,wA,g4,g5,ka,kb];refine yp (Ic a.b (Go.Rm.v9 (a.n-b.n)) H) ?_;simp only[EE,zb,aad,Nat.reduceAdd,yM,ya,zh,zo,g6,r6];rfl
   by_cases o21:op=21
   ·subst o21;by_cases n0:b.n=0
    ·have e:yF 21 a b=some (qN false):=by
      have z:b=u6 0:=(by obtain⟨x,y,z⟩:=b;dsimp only at kb n0 kbb;subst kb n0 kbb;rfl);have z2:¬a=u6 0:=λq=>by rw[q]at pa;cases pa
      simp[yF,wH,ia,ib,pa,pb];rw[<- z];simp;rw[z];simp[z2]
     rw[e];simp only[EE,Int.reduceEq,zw,xi,zj,zQ,yf,yE,yx,yy,ZC,yA,yr,yu,qR,yk,ye,ud,yR,uS,uT,uu,uv,ue,uf,vQ,vR,wx,wy,wz,wA,g4,g5,ka,kb,n0];refine yp (cL false H) ?_;simp only[EE,zb,aad,Nat.reduceAdd,yM,ya,zh,zo,g6,r6];rfl
    ·have e:yF 21 a b=none:=by
      have z:¬b=u6 0:=λq=>by rw[q]at n0;exact n0 rfl
      simp[yF,wH,ia,ib,pa,pb,z]
     rw[e];simp only[EE,zb,aad,Nat.reduceAdd,Int.reduceEq,yM,ya,zw,xi,zj,zh,zo,zN,zQ,yf,Qz,yx,yy,ZC,yA,yr,yu,qR,yk,ye,ud,yR,uS,uT,uu,uv,ue,uf,vQ,vR,wx,wy,wz,wA,g4,g5,g6,r6,ka,kb,n0];rfl
   by_cases o22:op=22
   ·subst o22;by_cases n0:b.n=0
    ·have e:yF 22 a b=some (qN true):=by
      have z:b=u6 0:=(by obtain⟨x,y,z⟩:=b;dsimp only at kb n0 kbb;subst kb n0 kbb;rfl);have z2:¬a=u6 0:=λq=>by rw[q]at pa;cases pa
      simp[yF,wH,ia,ib,pa,pb];rw[<- z];simp;rw[z];simp[z2]
     rw[e];simp only[EE,Int.reduceEq,zw,xi,zj,zQ,yf,yE,yx,yy,ZC,yA,yr,yu,qR,yk,ye,ud,yR,uS,uT,uu,uv,ue,uf,vQ,vR,wx,wy,wz,wA,g4,g5,ka,kb,n0];refine yp (cL true H) ?_;simp only[EE,zb,aad,Nat.reduceAdd,yM,ya,zh,zo,g6,r6];rfl
    ·have e:yF 22 a b=none:=by
      have z:¬b=u6 0:=λq=>by rw[q]at n0;exact n0 rfl
      simp[yF,wH,ia,ib,pa,pb,z]
     rw[e];simp only[EE,zb,aad,Nat.reduceAdd,Int.reduceEq,yM,ya,zw,xi,zj,zh,zo,zN,zQ,yf,Qz,yx,yy,ZC,yA,yr,yu,qR,yk,ye,ud,yR,uS,uT,uu,uv,ue,uf,vQ,vR,wx,wy,wz,wA,g4,g5,g6,r6,ka,kb,n0];rfl
   have e:yF op a b=none:=by simp[yF,ia,ib,pa,pb,o11,o12,o21,o22]
   rw[e];simp only[EE,zb,aad,Nat.reduceAdd,Int.reduceEq,yM,ya,zw,zj,zh,zo,zN,zQ,yU,ud,yR,uS,uT,uu,uv,ue,uf,vQ,vR,wx,wy,wz,wA,g4,g5,g6,r6,ka,kb,o11,o12,o21,o22];rfl
  ·have ib:isInt b=false:=by unfold isInt;rw[kb];rfl
   have pb:wB b=true:=yL.2.2 ⟨kb,gb⟩
   have ev:(a.n == b.n&&a.b == b.b)=decide (a=b):=by
    rw[<- veq a b,ka,kb];simp
   by_cases o21:op=21
   ·subst o21;have e:yF 21 a b=some (qN (decide (a=b) == true)):=by simp[yF,wH,ia,ib,pa,pb]
    rw[e];simp only[EE,aad,Nat.reduceAdd,Int.reduceEq,ya,zw,abU,zj,zh,zaH,Qf,zQ,xg,yk,ye,ud,yR,uS,uT,uu,uv,ue,uf,vQ,vR,wx,wy,wz,wA,g4,g5,ka,kb];rw[ev];refine yp (cL _ H) ?_;simp only[EE,zb,aad,Nat.reduceAdd,yM,ya,zh,zo,g6,r6];rfl
   by_cases o22:op=22
   ·subst o22;have e:yF 22 a b=some (qN (decide (a=b) == false)):=by simp[yF,wH,ia,ib,pa,pb]
    rw[e];simp only[EE,aad,Nat.reduceAdd,Int.reduceEq,ya,zw,abU,zj,zh,zaH,Qf,zQ,xg,yk,ye,ud,yR,uS,uT,uu,uv,ue,uf,vQ,vR,wx,wy,wz,wA,g4,g5,ka,kb];rw[ev];refine yp (cL _ H) ?_;simp only[EE,zb,aad,Nat.reduceAdd,yM,ya,zh,zo,g6,r6];rfl
   have e:yF op a b=none:=by simp[yF,ia,ib,pa,pb,o21,o22]
   rw[e];by_cases o11:op=11
   ·simp only[EE,zb,aad,Nat.reduceAdd,Int.reduceEq,yM,ya,zw,zj,zh,zo,zN,zQ,yU,ud,yR,uS,uT,uu,uv,ue,uf,vQ,vR,wx,wy,wz,wA,g4,g5,g6,r6,ka,kb,o11];rfl
   by_cases o12:op=12
   ·simp only[EE,zb,aad,Nat.reduceAdd,Int.reduceEq,yM,ya,zw,zj,zh,zo,zN,zQ,yU,ud,yR,uS,uT,uu,uv,ue,uf,vQ,vR,wx,wy,wz,wA,g4,g5,g6,r6,ka,kb,o12];rfl
   ·simp only[EE,zb,aad,Nat.reduceAdd,Int.reduceEq,yM,ya,zw,zj,zh,zo,zN,zQ,yU,ud,yR,uS,uT,uu,uv,ue,uf,vQ,vR,wx,wy,wz,wA,g4,g5,g6,r6,ka,kb,o11,o12,o21,o22];rfl
open Go.Rtl (zL zE Old)
abbrev DB:=List Int×Bool
def rL(ps:List V)(j i:Nat)(z:Int)(c:Cl):Prop :=
 (z = -1/\c=rG)\/(0<=z/\z<=255/\c=⟨1,z,v0⟩)\/(z=1000+8*j+i/\c.k=2/\c.n=i/\ps[j]? = some c.p)
def UN(ps:List V)(bs:List Int)(f:Nat->Cl):Prop := ∃js:Nat->Nat,∀(a:Nat) z,bs[a]? = some z->rL ps (js (a/8)) (a%8) z (f a)
structure DR (bl:List DB) (ps:List V) (M:MM):Prop where
 len:bl.length=M.length
 kS:∀(i:Nat) b B,bl[i]? = some b->M[i]? = some B->b.2=B.uN/\B.size=b.1.length/\(B.uN=false->UN ps b.1 B.byte)
theorem rL.more{ps:List V}{j i:Nat}{z:Int}{c:Cl}(x:rL ps j i z c)(v:V):rL (ps++[v]) j i z c:=by
 rcases x with x|x|⟨x,y,z,w⟩
 ·exact .inl x
 ·exact .inr (.inl x)
 ·refine .inr (.inr ⟨x,y,z,?_⟩);rw[abf]
  ·exact w
  ·rcases aas j ps.length with q|q
   ·exact q
   ·rw[aal q]at w;cases w
theorem UN.more{ps:List V}{bs:List Int}{f:Nat->Cl}(x:UN ps bs f)(v:V):UN (ps++[v]) bs f:=by
 obtain⟨js,x⟩:=x;exact⟨js,λa z hz=>(x a z hz).more v⟩
theorem DR.more{bl:List DB}{ps:List V}{M:MM}(x:DR bl ps M)(v:V):DR bl (ps++[v]) M :=
 ⟨x.len,λi b B hb hB=>⟨(x.kS i b B hb hB).1,(x.kS i b B hb hB).2.1,λq=>((x.kS i b B hb hB).2.2 q).more v⟩⟩
theorem DR.get{bl:List DB}{ps:List V}{M:MM}(x:DR bl ps M){i:Nat}{B:MB}(hB:M[i]? = some B):∃b,bl[i]? = some b/\b.2=B.uN/\B.size=b.1.length/\(B.uN=false->UN ps b.1 B.byte):=by
 have hi:i<M.length:=by
  rcases aas i M.length with q|q
  ·exact q
  ·rw[aal q]at hB;cases hB
 have hb:bl[i]? = some (bl[i]'(by rw[x.len];exact hi)):=aae _;exact⟨_,hb,x.kS i _ B hb hB⟩
theorem DR.set{bl:List DB}{ps:List V}{M:MM}(x:DR bl ps M){i:Nat}{b:DB}{B:MB}(hb:b.2=B.uN)(hs:B.size=b.1.length)(hr:B.uN=false->UN ps b.1 B.byte):DR (bl.set i b) ps (M.set i B):=by
 refine⟨by rw[aaW,aaW];exact x.len,λj c C hc hC=>?_⟩;by_cases e:i=j
 ·subst e
  have h1:i<bl.length:=by
   rcases aas i bl.length with q|q
   ·exact q
   ·rw[aal (by simpa using q)]at hc;cases hc
  have h2:i<M.length:=by rw[<- x.len];exact h1
  rw[aaM h1]at hc;rw[aaM h2]at hC;cases hc;cases hC;exact⟨hb,hs,hr⟩
 ·rw[aa3 e]at hc hC;exact x.kS j c C hc hC
theorem DR.app{bl:List DB}{ps:List V}{M:MM}(x:DR bl ps M){b:DB}{B:MB}(hb:b.2=B.uN)(hs:B.size=b.1.length)(hr:B.uN=false->UN ps b.1 B.byte):DR (bl++[b]) ps (M++[B]):=by
 refine⟨by simp[x.len],λj c C hc hC=>?_⟩;have e:=x.len;rcases aas j bl.length with q|q
 ·rw[abf q]at hc;rw[abf (by omega)]at hC;exact x.kS j c C hc hC
 ·rw[aa4 q]at hc;rw[aa4 (by omega),<- e]at hC;cases hj:j-bl.length with
  |zero=>rw[hj]at hc hC;cases hc;cases hC;exact⟨hb,hs,hr⟩
  |succ k=>rw[hj]at hc;cases hc
def Im(bv:aaa)(b:DB):List aaa:=[bv,.bool b.2]
def qK:List aaa->List DB->List (List aaa)
 |bv::bvs,b::bl=>Im bv b::qK bvs bl
 |_,_=>[]
def FD:List aaa->List DB->List HP
 |bv::bvs,b::bl=>yW 3 1 bv (b.1.map yb)::FD bvs bl
 |_,_=>[]
structure DMO (lo:yP) (h:za) (m:Nat) (lv pv:aaa) (bvs:List aaa) (bl:List DB) (ps:List V) (L:List HP):Prop where
 s:Sat lo h (pt m (.cells [lv,pv] 61)::yW 114 2 lv (qK bvs bl)::yW 69 3 pv (ps.map V.zY)::(FD bvs bl++L))
 len:bvs.length=bl.length
def kU(m:Nat)(M:MM)(n:Nat):HP:=ex λlv=>ex λpv=>ex λbvs=>ex λbl=>ex λps=>jU (fact (DR bl ps M/\ps.length<=n/\bvs.length=bl.length)::pt m (.cells [lv,pv] 61)::yW 114 2 lv (qK bvs bl)::yW 69 3 pv (ps.map V.zY)::FD bvs bl)
section
variable {lo:yP}{h:za}{L:List HP}{m n:Nat}{M:MM}{lv pv:aaa}{bvs:List aaa}{bl:List DB}{ps:List V}
theorem UK(s:Sat lo h (kU m M n::L)):∃lv pv bvs bl ps,DR bl ps M/\ps.length<=n/\DMO lo h m lv pv bvs bl ps L:=by
 obtain⟨lv,s⟩:=s.NF;obtain⟨pv,s⟩:=s.NF;obtain⟨bvs,s⟩:=s.NF;obtain⟨bl,s⟩:=s.NF;obtain⟨ps,s⟩:=s.NF;obtain⟨⟨a,b,c⟩,s⟩:=Sat.nM.1 s.open;exact⟨lv,pv,bvs,bl,ps,a,b,s,c⟩
theorem Vh(x:DR bl ps M)(hn:ps.length<=n)(D:DMO lo h m lv pv bvs bl ps L):Sat lo h (kU m M n::L) :=
 Sat.Nf lv (Sat.Nf pv (Sat.Nf bvs (Sat.Nf bl (Sat.Nf ps (Sat.close (Sat.nM.2 ⟨⟨x,hn,D.len⟩,D.s⟩))))))
theorem kE:∀{bvs:List aaa} {bl:List DB},bvs.length=bl.length->(qK bvs bl).length=bl.length
 |[],[],_=>rfl
 |_::bvs,_::bl,e=>by simp only[qK,aaD,kE (bvs:=bvs) (bl:=bl) (by simpa using e)]
theorem bN:∀{bvs:List aaa} {bl:List DB} {i:Nat} {bv:aaa} {b:DB},bvs[i]? = some bv->bl[i]? = some b->(qK bvs bl)[i]? = some (Im bv b)
 |_::bvs,_::bl,0,bv,b,e1,e2=>by simp at e1 e2;subst e1 e2;rfl
 |_::bvs,_::bl,i+1,bv,b,e1,e2=>by simp at e1 e2;simpa only[qK,aap] using bN e1 e2
theorem Qb(bvs:List aaa)(bl:List DB):∀r,r∈qK bvs bl->r.length=2:=by
 induction bvs generalizing bl with
 |nil=>intro r hr;cases hr
 |cons bv bvs ih=>
  cases bl with
  |nil=>intro r hr;cases hr
  |cons b bl=>
   intro r hr;rcases abt.1 hr with rfl|hr
   ·rfl
   ·exact ih bl r hr
theorem bO:∀{bvs:List aaa} {bl:List DB} {i:Nat} {bv:aaa} {b:DB},bvs[i]? = some bv->qK bvs (bl.set i b)=(qK bvs bl).set i (Im bv b)
 |[],bl,i,bv,b,e=>by simp at e
 |_::bvs,[],i,bv,b,e=>by simp[qK]
 |_::bvs,_::bl,0,bv,b,e=>by simp at e;subst e;rfl
 |_::bvs,_::bl,i+1,bv,b,e=>by simp at e;simp only[aa7,qK,bO e]
theorem Bm:∀{bvs:List aaa} {bl:List DB} {bv:aaa} {b:DB},bvs.length=bl.length->qK (bvs++[bv]) (bl++[b])=qK bvs bl++[Im bv b]
 |[],[],_,_,_=>rfl
 |_::bvs,_::bl,_,_,e=>by simp only[abJ,qK,Bm (by simpa using e)]
theorem Iq:∀{bvs:List aaa} {bl:List DB} {bv:aaa} {b:DB},bvs.length=bl.length->FD (bvs++[bv]) (bl++[b])=FD bvs bl++[yW 3 1 bv (b.1.map yb)]
 |[],[],_,_,_=>rfl
 |_::bvs,_::bl,_,_,e=>by simp only[abJ,FD,Iq (by simpa using e)]
theorem th:∀{bvs:List aaa} {bl:List DB} {i:Nat} {bv:aaa} {b:DB},bvs[i]? = some bv->bl[i]? = some b->∃R,(FD bvs bl).Perm (yW 3 1 bv (b.1.map yb)::R) /\ ∀b':DB,(FD bvs (bl.set i b')).Perm (yW 3 1 bv (b'.1.map yb)::R)
 |_::bvs,_::bl,0,bv,b,e1,e2=>by
  simp at e1 e2;subst e1 e2;exact⟨_,acT _,λb'=>acT _⟩
 |v::bvs,c::bl,i+1,bv,b,e1,e2=>by
  simp at e1 e2;obtain⟨R,p,q⟩:=th e1 e2;exact⟨yW 3 1 v (c.1.map yb)::R,(p.cons _).trans (List.Perm.swap _ _ _),λb'=>((q b').cons _).trans (List.Perm.swap _ _ _)⟩
theorem Uk(l:List Int):∀r,r∈l.map yb->r.length=1:=uB (f:=yb) (λ_=>rfl) l
structure DV (h:za) (m:Nat) (lv pv:aaa) (bvs:List aaa) (bl:List DB) (ps:List V):Prop where
 gm:h.get m=some (.cells [lv,pv] 61)
 lt:m<h.next
 rows:zE h lv 2 (qK bvs bl)
 zeT:zE h pv 3 (ps.map V.zY)
 byt:∀(i:Nat) bv b,bvs[i]? = some bv->bl[i]? = some b->zE h bv 1 (b.1.map yb)
 len:bvs.length=bl.length
theorem DMO.dv(D:DMO lo h m lv pv bvs bl ps L):DV h m lv pv bvs bl ps:=by
 refine⟨D.s.get,D.s.lt,yY (D.s.p 1) (Qb _ _),yY (D.s.p 2) (wP _),λi bv b e1 e2=>?_,D.len⟩;obtain⟨R,p,_⟩:=th e1 e2;have s:=(((D.s.drop).drop).drop).perm (p.append_right L);exact yY s (Uk _)
theorem DV.old{h':za}(x:DV h m lv pv bvs bl ps)(e:Old h h'):DV h' m lv pv bvs bl ps :=
 ⟨by rw[e.get m x.lt];exact x.gm,aao x.lt e.next,x.rows.old e,x.zeT.old e,λi bv b e1 e2=>(x.byt i bv b e1 e2).old e,x.len⟩
theorem DV.lock(x:DV h m lv pv bvs bl ps):DV h.lock m lv pv bvs bl ps:=⟨x.gm,x.lt,x.rows.lock,x.zeT.lock,λi bv b e1 e2=>(x.byt i bv b e1 e2).lock,x.len⟩
theorem zbc{sv:aaa}{rows:List (List aaa)}(S:zE h sv 2 rows)(r:TypeId)(h':za):zv pu .len [58] r [sv] h'=some (pm rows.length,h'):=by
 rcases S with⟨rfl,rfl⟩|⟨b,off,cp,rfl,_⟩
 ·simp only[Vc,Ww,nK,kK,JN,zbf,oJ,oK,oL,oM,oN,oO,oP,aaz]
 ·simp only[Vc,Ww,nK,kK,JN,zbf,oJ,oK,oL,oM,oN,oO,oP]
theorem zdL{sv:aaa}{rows:List (List aaa)}(S:zE h sv 1 rows)(r:TypeId)(h':za):zv pu .len [22] r [sv] h'=some (pm rows.length,h'):=by
 rcases S with⟨rfl,rfl⟩|⟨b,off,cp,rfl,_⟩
 ·simp only[xi,yV,zj,Ww,zh,Wi,kK,zQ,yf,xJ,JN,fG,kV,kW,kX,ZI,ZJ,j4,j5,j6,uG,vx,vy,wh,uU,uV,uW,uX,qJ,uY,Xg,aaz]
 ·simp only[xi,yV,zj,Ww,zh,Wi,kK,zQ,yf,xJ,JN,fG,kV,kW,kX,ZI,ZJ,j4,j5,j6,uG,vx,vy,wh,uU,uV,uW,uX,qJ,uY,Xg]
end
section
variable {h:za}{m n:Nat}{M:MM}{lv pv:aaa}{bvs:List aaa}{bl:List DB}{ps:List V}
theorem DV.kS(D:DV h m lv pv bvs bl ps)(x:DR bl ps M){i:Nat}{B:MB}(hB:M[i]? = some B):∃bv b q c t off cp,bvs[i]? = some bv/\bl[i]? = some b/\lv=.slice (some ⟨q,off,none⟩) bl.length cp/\b.2=B.uN/\B.size=b.1.length/\(B.uN=false->UN ps b.1 B.byte)/\q<h.next/\h.get q=some (.cells c t)/\off+i*2+2<=c.length/\c[off+i*2]? = some bv/\c[off+i*2+1]? = some (.bool b.2):=by
 obtain⟨b,hb,h1,h2,h3⟩:=x.get hB
 have hi:i<bl.length:=by
  rcases aas i bl.length with q|q
  ·exact q
  ·rw[aal q]at hb;cases hb
 have hbv:bvs[i]? = some (bvs[i]'(by rw[D.len];exact hi)):=aae _;obtain⟨q,o,c,t,⟨off,cp,e1,rfl⟩,hi2,hq,hg,hl,ht,hk⟩:=D.rows.spot (i:=i) (r:=Im _ b) (bN hbv hb) rfl;rw[kE D.len]at e1 hi2;exact⟨_,b,q,c,t,off,cp,hbv,hb,e1,h1,h2,h3,hq,hg,hl,(hk 0 (by decide)).trans rfl,(hk 1 (by decide)).trans rfl⟩
theorem zey(D:DV h m lv pv bvs bl ps)(x:DR bl ps M)(hM:M.length<=100000)(z:Int):yX pu 55 [yB m,pm z] h (.bool (idx M z).isSome):=by
 apply vt rfl;apply zch;unfold zfB yB;have gm:=D.gm;have gl:h.lock.get m=some (.cells [lv,pv] 61):=D.gm;have ln:=D.rows.wO;have ll:=zbc D.rows 3;rw[kE D.len,x.len]at ll;by_cases h1:z ≥ 1
 ·by_cases h2:z<=(M.length:Int)
  ·obtain⟨B,hB⟩:∃B,M[z.toNat-1]? = some B:=⟨_,aae (by omega)⟩;obtain⟨bv,b,q,c,t,off,cp,hbv,hb,rfl,e1,e2,e3,hq,hg,hl,k0,k1⟩:=D.kS x hB;have hg':h.lock.get q=some (.cells c t):=hg;have hw:IntKind.wrap .i64 (z-1)=z-1:=Go.Mem.v9 (by omega) (by omega);have h3:(0:Int)<=z-1:=by omega
   have h4:z-1<(bl.length:Int):=by have:=x.len;omega
   have h5:(z-1).toNat=z.toNat-1:=by omega
   have k1':=k1;simp only[EE,aad,zw,Vc,Ww,nK,kK,JN,oJ,oK,oL,oM,oN,oO,oP,h1,h2,gl,ln,ll,hw,h3,h4,h5,hg',k1]
   have:idx M z=if B.uN=true then none else some (z.toNat-1):=by
    unfold idx;rw[aai ⟨h1,h2⟩,hB]
   rw[this,e1];cases B.uN <;> rfl
  ·simp only[EE,zw,Ww,kK,oJ,oK,oL,oM,oN,oO,oP,h1,h2,gl,ln,ll];have:idx M z=none:=by unfold idx;rw[aac (λq=>h2 q.2)]
   rw[this];rfl
 ·simp only[EE,oJ,oK,oL,oM,oN,oO,oP,h1];have:idx M z=none:=by unfold idx;rw[aac (λq=>h1 q.1)]
  rw[this];rfl
theorem tF(D:DV h m lv pv bvs bl ps)(x:DR bl ps M)(hM:M.length<=100000)(hs:small M){c:Int}{p:V}(hc:wg c)(hp:p.ok):yX pu 122 [yB m,pm c,vv p] h (.bool (right M c p).isSome):=by
 apply vt rfl;apply i9;unfold mF yB;obtain⟨hp1,hp2,hp3⟩:=hp;have gm:∀o,(h.lock.push o).get m=some (.cells [lv,pv] 61):=λo=>(zt D.lt).trans D.gm;have ln:=D.rows.wO;by_cases hcc:c=1\/c=4\/c=8
 ·have c0:¬c=0:=by omega
  have go:qJ (.bool false) (pi h.next) (pi m) (Wm (.bool (right M c p).isSome)) (pm c) (.agg #[pm p.k,pm p.n,pm p.b]) (h.lock.push (.cells [pm p.k,pm p.n,pm p.b] 69)):=by
   simp only[EE,qJ];refine yp (il p _) ?_;cases gp:kF p with
   |false=>
    have e:right M c p=none:=by
     unfold right;by_cases k2:p.k=2
     ·rw[aai ⟨k2,hcc⟩]
      have:idx M p.b=none:=by
       unfold idx;rw[aac];intro q;unfold kF at gp;rw[k2]at gp;simp at gp;omega
      rw[this]
     ·rw[aac λq=>k2 q.1]
    rw[e];simp only[EE,wh,uU,uV,uW,uX];rfl
   |true=>
   by_cases k2:¬p.k=2
   ·have e:right M c p=none:=(by unfold right;rw[aac λq=>k2 q.1]);rw[e];simp only[EE,zw,zj,zQ,wh,uU,uV,uW,uX,k2];rfl
   have k2:p.k=2:=acf.1 k2;simp only[EE,zw,zj,zQ,xJ,uU,uV,uW,uX,k2];refine yp (zey (D.lock.old (Old.push _ _)) x hM p.b) ?_;cases hi:idx M p.b with
   |none=>
    have e:right M c p=none:=(by unfold right;rw[aai ⟨k2,hcc⟩,hi]);rw[e];simp only[EE,wh,aa6];rfl
   |some i=>
   obtain⟨hpb,B,hB,hf⟩:=VX hi
   have e:right M c p=if 0<=p.n/\p.n<=B.size-c/\p.n.tmod c=0 then some i else none:=by
    unfold right;rw[aai ⟨k2,hcc⟩,hi];simp only[hB]
   rw[e];have hsz:=hs i B hB;by_cases n0:¬p.n ≥ 0
   ·rw[aac (by omega)];simp only[EE,zw,xi,yf,kV,kW,kX,ZI,ZJ,j4,j5,j6,uG,vx,vy,wh,abd,n0];rfl
   have n0:p.n ≥ 0:=acf.1 n0;obtain⟨bv,b,q,cs,t,off,cp,hbv,hb,rfl,e1,e2,e3,hq,hg,hl,k0,k1⟩:=D.kS x hB;have hg':∀o,(h.lock.push o).get q=some (.cells cs t):=λo=>(zt hq).trans hg;have hxl:=x.len
   have hil:i<bl.length:=by
    rcases aas i bl.length with z|z
    ·exact z
    ·rw[aal z]at hb;cases hb
   have hw:IntKind.wrap .i64 (p.b-1)=p.b-1:=Go.Mem.v9 (by omega) (by omega);have h3:(0:Int)<=p.b-1:=by omega
   have h4:p.b-1<(bl.length:Int):=by omega
   have h5:(p.b-1).toNat=i:=by omega
   have SB:=D.byt i bv b hbv hb;have bn:=SB.wO;have bll:=zdL SB 3;rw[aaf]at bll;have hw2:IntKind.wrap .i64 ((b.1.length:Int)-c)=(b.1.length:Int)-c:=Go.Mem.v9 (by omega) (by omega);by_cases n1:¬p.n<=(b.1.length:Int)-c
   ·rw[aac (by rw[e2];exact λz=>n1 z.2.1)];simp only[EE,aad,zw,xi,yV,zj,Ww,Wi,kK,yf,xJ,JN,kV,kW,kX,ZI,ZJ,j4,j5,j6,uG,vx,vy,wh,abd,n0,gm,hw,h3,h4,h5,hg',k0,bn,bll,hw2,n1];rfl
   have n1:p.n<=(b.1.length:Int)-c:=acf.1 n1;by_cases n2:p.n.tmod c=0
   ·rw[aai ⟨n0,by rw[e2];exact n1,n2⟩];simp only[EE,aad,zw,xi,yV,zj,Ww,Wi,kK,yf,xJ,JN,kV,kW,kX,ZI,ZJ,j4,j5,j6,uG,vx,vy,wh,abd,n0,gm,hw,h3,h4,h5,hg',k0,bn,bll,hw2,n1,c0,n2];rfl
   ·rw[aac λz=>n2 z.2.2];simp only[EE,aad,zw,xi,yV,zj,Ww,Wi,kK,yf,xJ,JN,kV,kW,kX,ZI,ZJ,j4,j5,j6,uG,vx,vy,wh,abd,n0,gm,hw,h3,h4,h5,hg',k0,bn,bll,hw2,n1,c0,n2];rfl
  rcases hcc with rfl|rfl|rfl
  ·simp only[EE,↓nw,Value.cells,aad,Nat.reduceAdd,ya,zh,uY,Xg];exact go
  ·simp only[EE,↓nw,Value.cells,aad,Nat.reduceAdd,Int.reduceEq,ya,zh,uY,Xg];exact go
  ·simp only[EE,↓nw,Value.cells,aad,Nat.reduceAdd,Int.reduceEq,ya,zh,uY,Xg];exact go
 ·have e:right M c p=none:=by unfold right;rw[aac λq=>hcc q.2]
  rw[e];have c1:¬c=1:=λq=>hcc (.inl q);have c4:¬c=4:=λq=>hcc (.inr (.inl q));have c8:¬c=8:=λq=>hcc (.inr (.inr q));simp only[EE,↓nw,Value.cells,wh,uU,uV,uW,uX,qJ,uY,Xg,c1,c4,c8];rfl
end
theorem zg1(n:Int):IntKind.wrap .i8 (IntKind.wrap .i64 n)=IntKind.wrap .i8 n:=by
 simp only[IntKind.wrap,IntKind.bits,IntKind.signed];simp;split <;> split <;> omega
theorem zgy(n:Int):IntKind.wrap .i32 (IntKind.wrap .i64 n)=IntKind.wrap .i32 n:=by
 simp only[IntKind.wrap,IntKind.bits,IntKind.signed];simp;split <;> split <;> omega
theorem zf7{z:Int}(h0:0<=z)(h1:z<=255):IntKind.wrap .i64 (BitVec.ofInt (IntKind.bits .i64) z &&& BitVec.ofInt (IntKind.bits .i64) 255).toNat=z:=by
 have:IntKind.wrap .i64 (BitVec.ofInt (IntKind.bits .i64) z &&& BitVec.ofInt (IntKind.bits .i64) 255).toNat=z%256:=nc z 8 (by decide);rw[this];omega
theorem zam{h:za}{bv:aaa}{bs:List Int}(S:zE h bv 1 (bs.map yb)){a:Nat}{z:Int}(hz:bs[a]? = some z):∃q off cp cs t,bv=.slice (some ⟨q,off,none⟩) bs.length cp/\q<h.next/\h.get q=some (.cells cs t) /\ ∀(k:Nat) y,bs[k]? = some y->cs[off+k]? = some (pm y):=by
 rcases S with⟨_,e⟩|⟨q,off,cp,e,hc⟩
 ·have:bs=[]:=by simpa using e
  subst this;cases hz
 ·obtain⟨cs,t,hq,hg,hk⟩:=hc (by intro q;have:bs=[]:=by simpa using q
                                subst this;cases hz)
  refine⟨q,off,cp,cs,t,by rw[e,aaf],hq,hg,λk y hy=>?_⟩;obtain⟨h1,h2⟩:=hk k (yb y) (by rw[aaq,hy];rfl);rw[abh]at h1 h2;have:=congrArg (λl=>l[0]?) h2;simp only[acM,aa0,acw]at this;simpa [yb] using this
theorem zgb{f:Nat->Cl}{n k:Nat}{z:Int}(hk:k<8)(e:(f (n+k)).n=z):IntKind.wrap .u64 (BitVec.ofInt (IntKind.bits .u64) (Ce f n k) ||| BitVec.ofInt (IntKind.bits .u64) (IntKind.wrap .u64 (IntKind.wrap .u64 z*2^min (8*k) (IntKind.bits .u64)))).toNat=Ce f n (k+1):=by
 rw[show min (8*k) (IntKind.bits .u64)=8*k from Nat.min_eq_left (by show 8*k<=64;omega),<- e];rfl
theorem Np{f:Nat->Cl}{n:Nat}{c:Int}:∀{k:Nat},qM f n c k=true->c=8
 |0,h=>by simpa [qM] using h
 |k+1,h=>by
  unfold qM at h;simp only[aaj]at h;exact Np h.1.1.1
theorem No{f:Nat->Cl}{n:Nat}{c:Int}:∀{k:Nat},qM f n c k=true->0<k->(f (n+0)).k=2
 |0,h,q=>by omega
 |k+1,h,_=>by
  unfold qM at h;simp only[aaj,aaT]at h;rcases ab7 k with q|q
  ·subst q;exact h.1.1.2
  ·exact No h.1.1.1 q
theorem OG{b o len cp:Nat}{lo hi:Int}{h:za}(h0:0<=lo)(h1:lo<=hi)(h2:hi<=len):∃X,Gw pu 22 (.slice (some ⟨b,o,none⟩) len cp) (some (pm lo)) (some (pm hi)) h=some (.slice (some ⟨b,o+lo.toNat,none⟩) (hi-lo).toNat X):=by
 rw[zgq,Xq,aai ⟨by omega,h2⟩,aaI,Xq,aai ⟨h0,by omega⟩,aaI,abh,show hi.toNat-lo.toNat=(hi-lo).toNat by omega];exact⟨_,rfl⟩
section
variable {h:za}{m n:Nat}{M:MM}{lv pv:aaa}{bvs:List aaa}{bl:List DB}{ps:List V}
theorem zeC(D:DV h m lv pv bvs bl ps)(x:DR bl ps M)(hM:M.length<=100000)(hs:small M)(hps:ps.length<=100000000){c:Int}{p:V}(hc:wg c)(hp:p.ok):yX pu 97 [yB m,pm c,vv p] h (wQ (kP M c p)):=by
 apply vt rfl;apply PS;unfold Tb yB;simp only[EE,↓nw,Value.cells,aad,Nat.reduceAdd,ya,zh,y5];have e2:∀a b,Old h.lock ((h.lock.push a).push b):=λa b=>(Old.push _ _).trans (Old.push _ _);have D2:=D.lock.old (e2 (.cells [pm p.k,pm p.n,pm p.b] 69) (.cells [pm 0,pm 0,pm 0] 69))
 have g5:((h.lock.push (.cells [pm p.k,pm p.n,pm p.b] 69)).push (.cells [pm 0,pm 0,pm 0] 69)).get h.next=some (.cells [pm p.k,pm p.n,pm p.b] 69):=by
  rw[zt (by show h.next<h.next+1;omega)];exact zk
 have g6:((h.lock.push (.cells [pm p.k,pm p.n,pm p.b] 69)).push (.cells [pm 0,pm 0,pm 0] 69)).get (h.next+1)=some (.cells [pm 0,pm 0,pm 0] 69):=zk;have r6:((h.lock.push (.cells [pm p.k,pm p.n,pm p.b] 69)).push (.cells [pm 0,pm 0,pm 0] 69)).ro<=h.next+1:=by show h.next<=h.next+1;omega
 refine yp (tF D2 x hM hs hc hp) ?_;generalize ((h.lock.push (.cells [pm p.k,pm p.n,pm p.b] 69)).push (.cells [pm 0,pm 0,pm 0] 69))=H at D2 g5 g6 r6 ⊢;cases hr:right M c p with
 |none=>
  have e:kP M c p=none:=by unfold kP;rw[hr]
  rw[e];simp only[EE,zb,aad,Nat.reduceAdd,yM,ya,zh,zo,zN,GW,g6,r6,aa6];rfl
 |some i=>
 obtain⟨k2,hcc,hi,B,hB,hn0,hn1,hn2⟩:=cG hr;obtain⟨hpb,B',hB',hf⟩:=VX hi;rw[hB]at hB';cases hB';have e:kP M c p=some (cR B.byte p.n.toNat c):=by unfold kP;rw[hr];simp only[hB,abV]
 rw[e];have hsz:=hs i B hB;have gm:=D2.gm;have ln:=D2.rows.wO;obtain⟨bv,b,q,cs,t,off,cp,hbv,hb,rfl,e1,e2',e3,hq,hg,hl,k0,k1⟩:=D2.kS x hB;obtain⟨js,hjs⟩:=e3 hf;have hxl:=x.len
 have hil:i<bl.length:=by
  rcases aas i bl.length with z|z
  ·exact z
  ·rw[aal z]at hb;cases hb
 have hw:IntKind.wrap .i64 (p.b-1)=p.b-1:=Go.Mem.v9 (by omega) (by omega);have h3:(0:Int)<=p.b-1:=by omega
 have h4:p.b-1<(bl.length:Int):=by omega
 have h5:(p.b-1).toNat=i:=by omega
 have hw2:IntKind.wrap .i64 (p.n+c)=p.n+c:=Go.Mem.v9 (by omega) (by omega);have hlt:∀k:Nat,(k:Int)<c->p.n.toNat+k<b.1.length:=λk hk=>by omega
 have at_:∀k:Nat,(k:Int)<c->∃z,b.1[p.n.toNat+k]? = some z:=λk hk=>⟨_,aae (hlt k hk)⟩;obtain⟨z0,hz0⟩:=at_ 0 (by omega);obtain⟨qb,ob,cb,cbs,tb,rfl,hqb,hgb,hkb⟩:=zam (D2.byt i bv b hbv hb) hz0;obtain⟨X,hX⟩:=OG (b:=qb) (o:=ob) (cp:=cb) (h:=H) hn0 (show p.n<=p.n+c by omega) (show p.n+c<=(b.1.length:Int) by omega);have hpc:(p.n+c-p.n).toNat=c.toNat:=by omega
 rw[hpc]at hX;simp only[EE,aaB,↓BK,aad,zw,xi,yV,zj,Ww,Wi,kK,yf,xJ,JN,Du,abd,gm,g5,hw,h3,h4,h5,hg,k0,hw2,hX]
 have P8:∀k:Nat,(k:Int)<c->c=8->(p.n.toNat+k)/8=p.n.toNat/8/\(p.n.toNat+k)%8=k:=λk hk h8=>by
  subst h8;rw[abw hn0]at hn2;omega
 refine qQ (λr vs h'=>∃(k:Nat) (y:Int),(k:Int)<=c/\r=c.toNat-k/\vs=[.int .u64 y,.bool (ZZ B.byte p.n.toNat k),.bool (qM B.byte p.n.toNat c k),pm k]/\(ZZ B.byte p.n.toNat k=true->y=Ce B.byte p.n.toNat k)/\h'=H) c.toNat ⟨0,0,by omega,rfl,rfl,λ_=>rfl,rfl⟩ ?_;rintro r vs h' ⟨k,y,hk,rfl,rfl,hy,rfl⟩;have hkb':∀(j:Nat) w,b.1[p.n.toNat+j]? = some w->cbs[ob+p.n.toNat+j]? = some (pm w):=λj w hw=>by rw[acv];exact hkb _ _ hw
 by_cases hkc:(k:Int)<c
 ·obtain⟨z,hz⟩:=at_ k hkc;have gz:=hkb' k z hz;have gz0:cbs[ob+p.n.toNat]? = some (pm z0):=hkb' 0 z0 hz0;have code:=hjs _ _ hz;have code0:=hjs _ _ hz0;have q1:(0:Int)<=k:=by omega
  have q2:(k:Int)<(c.toNat:Int):=by omega
  have q3:IntKind.wrap .i64 ((k:Int)+1)=((k+1:Nat):Int):=Go.Mem.v9 (by omega) (by omega);have q4:IntKind.wrap .i64 (8*(k:Int))=((8*k:Nat):Int):=(Go.Mem.v9 (by omega) (by omega)).trans (by omega);have q5:IntKind.wrap .u64 ((8*k:Nat):Int)=((8*k:Nat):Int):=by rw[show IntKind.wrap .u64 ((8*k:Nat):Int)=wu ((8*k:Nat):Int) from rfl,CG];omega
  have q6:(0:Int)<=((8*k:Nat):Int):=by omega
  have q7:(0:Int)<(c.toNat:Int):=by omega
  have nx:∀(y':Int) (a' b':Bool),a'=ZZ B.byte p.n.toNat (k+1)->b'=qM B.byte p.n.toNat c (k+1)->(a'=true->y'=Ce B.byte p.n.toNat (k+1))->∃r',r'<c.toNat-k /\ ∃(k':Nat) (y2:Int),(k':Int)<=c/\r'=c.toNat-k' /\ [Value.int .u64 y',.bool a',.bool b',pm ((k+1:Nat):Int)]=[.int .u64 y2,.bool (ZZ B.byte p.n.toNat k'),.bool (qM B.byte p.n.toNat c k'),pm k']/\(ZZ B.byte p.n.toNat k'=true->y2=Ce B.byte p.n.toNat k'):=by
   rintro y' a' b' rfl rfl hq;exact⟨c.toNat-(k+1),by omega,k+1,y',by omega,rfl,rfl,hq⟩
  have hkc8:k<8:=by omega
  have sA:ZZ B.byte p.n.toNat (k+1)=(ZZ B.byte p.n.toNat k&&decide ((B.byte (p.n.toNat+k)).k=1)):=rfl;have sP:qM B.byte p.n.toNat c (k+1)=(qM B.byte p.n.toNat c k&&decide ((B.byte (p.n.toNat+k)).k=2)&&decide (IntKind.wrap .i64 (B.byte (p.n.toNat+k)).n=k)&&decide ((B.byte (p.n.toNat+k)).p=(B.byte p.n.toNat).p)):=rfl;generalize hA:ZZ B.byte p.n.toNat k=A at hy sA ⊢;generalize hP:qM B.byte p.n.toNat c k=Q at sP ⊢;rcases code with⟨ez,ec⟩|⟨ez1,ez2,ec⟩|⟨ez,ec1,ec2,ec3⟩
  ·have f1:¬z ≥ 0:=by omega
   have f2:¬z ≥ 1000:=by omega
   rw[ec]at sA sP;cases A <;> cases Q <;> (simp only[EE,nth,↓BK,aad,zw,zj,Qe,nB,cP,cW,cX,cY,cZ,dm,dp,dq,dr,KR,KS,KT,KU,KW,KX,KY,KZ,K0,K1,K3,ZH,hkc,f1,f2,q1,q2,q3,q4,q5,q6,hgb,gz,aax,abh];refine nx _ _ _ (by rw[sA];rfl) (by rw[sP];rfl) (λq=>?_);cases q)
  ·have f1:z ≥ 0:=ez1;have f3:z<256:=by omega
   have f2:¬z ≥ 1000:=by omega
   have f4:=zf7 ez1 ez2;rw[ec]at sA sP;cases A <;> cases Q <;> (simp only[EE,nth,↓BK,aad,zw,zj,Qe,nB,cP,cW,cX,cY,cZ,dm,dp,dq,dr,KR,KS,KT,KU,KW,KX,KY,KZ,K0,K1,K3,ZH,hkc,f1,f2,f3,f4,q1,q2,q3,q4,q5,q6,hgb,gz,aax,abh];refine nx _ _ _ (by rw[sA];rfl) (by rw[sP];first|rfl|(simp;done)) (λq=>?_);first|(cases q;done)|(rw[hy rfl,zgb hkc8 (by rw[ec])]))
  ·have f1:z ≥ 0:=by omega
   have f3:¬z<256:=by omega
   have f2:z ≥ 1000:=by omega
   cases Q with
   |false=>
    cases A <;> (simp only[EE,nth,↓BK,aad,zw,zj,Qe,nB,cP,cW,cX,cY,cZ,dm,dp,dq,dr,KR,KS,KT,KU,KW,KX,KY,KZ,K0,K1,K3,ZH,hkc,f1,f3,q1,q2,q3,q4,q5,q6,hgb,gz,aax,abh];refine nx _ _ _ (by rw[sA,ec1];rfl) (by rw[sP];rfl) (λq=>?_);cases q)
   |true=>
    have c8:=Np hP;obtain⟨pk1,pk2⟩:=P8 k hkc c8;obtain⟨pk3,pk4⟩:=P8 0 (by omega) c8
    have fk:(B.byte (p.n.toNat+0)).k=2:=by
     rcases ab7 k with q|q
     ·subst q;exact ec1
     ·exact No hP q
    rcases code0 with⟨_,w⟩|⟨_,_,w⟩|⟨w1,_,_,w4⟩
    ·rw[w]at fk;cases fk
    ·rw[w]at fk;cases fk
    rw[pk3,pk4]at w1;rw[pk1,pk2]at ez;rw[pk2]at ec2;rw[pk1]at ec3;rw[pk3]at w4
    have hj:js (p.n.toNat/8)<ps.length:=by
     rcases aas (js (p.n.toNat/8)) ps.length with q|q
     ·exact q
     ·rw[aal q]at w4;cases w4
    have f5:IntKind.wrap .i64 (z0+k)=z:=(Go.Mem.v9 (by omega) (by omega)).trans (by omega);have f6:z0.tmod 8=0:=by rw[abw (by omega)];omega
    have f7:qM B.byte p.n.toNat c (k+1)=true:=by
     have ep:(B.byte (p.n.toNat+k)).p=(B.byte p.n.toNat).p:=abN (ec3.symm.trans w4);have ew:IntKind.wrap .i64 ((k:Nat):Int)=k:=Go.Mem.v9 (by omega) (by omega);rw[sP,ec1,ec2,ew,ep];simp
    cases A <;> (simp only[EE,nth,↓BK,aad,Int.reduceEq,Int.reduceLE,Int.reduceToNat,zw,zj,Qe,nB,cP,cW,cX,cY,cZ,dm,dp,dq,dr,KR,KS,KT,KU,KW,KX,KY,KZ,K0,K1,K3,ZH,hkc,f1,f2,f3,f5,f6,q1,q2,q3,q4,q5,q6,q7,hgb,gz,gz0,aax,abh];refine nx _ _ _ (by rw[sA,ec1];rfl) f7.symm (λq=>?_);cases q)
 ·have hkc2:k=c.toNat:=by omega
  subst hkc2;unfold cR;cases hA:ZZ B.byte p.n.toNat c.toNat with
  |true=>
   have hy:=hy hA;rw[aai rfl,<- hy];rcases hcc with c1|c1|c1
   ·have z1:c<8:=(by omega);have z2:IntKind.wrap .u64 (IntKind.wrap .i64 (8*c))=8:=(by rw[c1];rfl);simp only[EE,nth,jt,Qe,ZH,oR,gd,Uq,hkc,z1,z2];refine yp (zaM _ _) ?_;simp only[oQ];refine yp (Z0 _ _) ?_;simp only[EE,zb,aad,Nat.reduceAdd,yM,ya,zh,zo,g6,r6,zg1];rw[aac (by omega),aac (by omega)];rfl
   ·have z1:c<8:=(by omega);have z2:IntKind.wrap .u64 (IntKind.wrap .i64 (8*c))=32:=(by rw[c1];rfl);simp only[EE,nth,jt,Qe,ZH,oR,gd,Uq,hkc,z1,z2];refine yp (OY _ _) ?_;simp only[oQ];refine yp (Z0 _ _) ?_;simp only[EE,zb,aad,Nat.reduceAdd,yM,ya,zh,zo,g6,r6,zgy];rw[aac (by omega),aai c1];rfl
   ·have z1:¬c<8:=(by omega);simp only[EE,nth,jt,ZH,Dr,gd,Uq,hkc,z1];refine yp (Z0 _ _) ?_;simp only[EE,zb,aad,Nat.reduceAdd,yM,ya,zh,zo,g6,r6];rw[aai c1];rfl
  |false=>
   rw[aac (by simp)];cases hP:qM B.byte p.n.toNat c c.toNat with
   |false=>
    rw[aac (by simp)];simp only[EE,nth,zb,aad,Nat.reduceAdd,yM,ya,zh,zo,zN,ZH,Dt,Uq,hkc,g6,r6];rfl
   |true=>
    rw[aai rfl];have c8:=Np hP;have fk:=No hP (by omega);obtain⟨pk3,pk4⟩:=P8 0 (by omega) c8;rcases hjs _ _ hz0 with⟨_,w⟩|⟨_,_,w⟩|⟨w1,_,_,w4⟩
    ·rw[w]at fk;cases fk
    ·rw[w]at fk;cases fk
    rw[pk3,pk4]at w1;rw[pk3]at w4
    have hj:js (p.n.toNat/8)<ps.length:=by
     rcases aas (js (p.n.toNat/8)) ps.length with q|q
     ·exact q
     ·rw[aal q]at w4;cases w4
    have gz0:cbs[ob+p.n.toNat]? = some (pm z0):=hkb' 0 z0 hz0;have q7:(0:Int)<(c.toNat:Int):=by omega
    have f5:IntKind.wrap .i64 (z0-1000)=z0-1000:=Go.Mem.v9 (by omega) (by omega)
    have f6:IntKind.wrap .i64 ((z0-1000).tdiv 8)=((js (p.n.toNat/8):Nat):Int):=by
     rw[acp (by omega)];exact(Go.Mem.v9 (by omega) (by omega)).trans (by omega)
    obtain⟨b9,o9,c9,t9,⟨off9,cp9,rfl,rfl⟩,hi9,hb9,hg9,hl9,ht9,_⟩:=D2.zeT.spot (i:=js (p.n.toNat/8)) (r:=((B.byte p.n.toNat).p).zY) (by rw[aaq,w4];rfl) rfl;have q8:(0:Int)<=((js (p.n.toNat/8):Nat):Int):=by omega
    have q9:((js (p.n.toNat/8):Nat):Int)<(ps.length:Int):=(by omega);have ht9':(c9.drop (off9+js (p.n.toNat/8)*3)).take 3=[pm (B.byte p.n.toNat).p.k,pm (B.byte p.n.toNat).p.n,pm (B.byte p.n.toNat).p.b]:=ht9;rw[aaf]at *
    simp only[EE,nth,zb,aad,Nat.reduceAdd,Int.reduceEq,Int.reduceLE,Int.reduceToNat,yM,ya,zw,zj,Ys,zh,zo,FK,cP,X4,ZH,Ds,Uq,hkc,gm,g6,r6,f5,f6,q7,q8,q9,hgb,gz0,hg9,hl9,ht9',aax,abh];rfl
end
open Go.Rtl (inc ZW uz)
def Vq(bs:List Int)(n:Nat)(code:Nat->Int):Nat->List Int
 |0=>bs
 |k+1=>(Vq bs n code k).set (n+k) (code k)
theorem kG(bs:List Int)(n:Nat)(code:Nat->Int):∀k,(Vq bs n code k).length=bs.length
 |0=>rfl
 |k+1=>by simp only[Vq,aaW,kG bs n code k]
theorem oj(bs:List Int)(n:Nat)(code:Nat->Int)(a:Nat)(ha:a<bs.length):∀k,(Vq bs n code k)[a]? = if n<=a/\a<n+k then some (code (a-n)) else bs[a]?
 |0=>by rw[aac (by omega)];rfl
 |k+1=>by
  simp only[Vq];by_cases e:n+k=a
  ·subst e;rw[aaM (by rw[kG];exact ha),aai (by omega)]
   congr 2;omega
  ·rw[aa3 e,oj bs n code a ha k];by_cases q:n<=a/\a<n+k
   ·rw[aai q,aai (by omega)]
   ·rw[aac q,aac (by omega)]
theorem zgz(z:List aaa)(hz:0<z.length)(k:Nat):qO z (k*z.length)=(List.replicate k z).flatten:=by
 have hr:∀r,r∈List.replicate k z->r.length=z.length:=λr hr=>by rw[(List.mem_replicate.1 hr).2]
 apply aa9;intro j;unfold qO;rw[aaq];by_cases hj:j<k*z.length
 ·rw[List.getElem?_range hj];have hq:j/z.length<k:=Nat.div_lt_of_lt_mul (by rw[Nat.mul_comm];exact hj);have hm:j%z.length<z.length:=Nat.mod_lt _ hz;have:=ZW hr (i:=j/z.length) (r:=z) (k:=j%z.length) (by rw[abZ,aai hq]) hm;rw[Nat.mul_comm,Nat.div_add_mod]at this;rw[this,aae hm];simp only[abV,aae hm,abG]
 ·rw[aal (by simp;omega),aal (by rw[uz hr];simp;omega)];rfl
section
variable {lo:yP}{h:za}{L:List HP}{m n:Nat}{M:MM}
theorem OA(s:Sat lo h (kU m M n::L))(z:Int):DC pu 24 [yB m,pm z] h (λv h1=>v=.tuple #[pm (zV M z).2.1,pm (zV M z).2.2]/\Sat lo h1 (kU m (zV M z).1 n::L)):=by
 apply LY;unfold NY yB;by_cases z0:z<0
 ·have e:zV M z=(M,0,1):=by unfold zV;rw[aai (.inl z0)]
  rw[e];simp only[EE,KO,KP,z0];exact s
 by_cases z1:z>65536
 ·have e:zV M z=(M,0,1):=by unfold zV;rw[aai (.inr z1)]
  rw[e];simp only[EE,KO,KP,z0,z1];exact s
 obtain⟨lv,pv,bvs,bl,ps,x,hn,D⟩:=UK s;have gm:=D.s.get;have SL:=yY (D.s.p 1) (Qb _ _);have ln:=SL.wO;have ll:=zbc SL 3;rw[kE D.len,x.len]at ll;by_cases hf:(M.length:Int) ≥ 100000
 ·have e:zV M z=(M,0,2):=by unfold zV;rw[aac (by omega),aai (by omega)]
  rw[e];simp only[EE,zw,Ww,kK,oF,KO,KP,z0,z1,gm,ln,ll,hf];exact s
 have e:zV M z=(M++[fresh z],(M.length:Int)+1,0):=by unfold zV;rw[aac (by omega),aac (by omega)]
 rw[e];have mk:=zf8 .i64 .i64 z z h (by omega) (Int.le_refl _) (by omega)
 have hz:qO [(pm 0:aaa)] (z.toNat*1)=((List.replicate z.toNat (0:Int)).map yb).flatten:=by
  rw[List.map_replicate];exact zgz [(pm 0:aaa)] (by decide) z.toNat
 simp only[EE,↓BK,zw,Ww,kK,oF,KO,KP,z0,z1,gm,ln,ll,hf,mk];rw[hz];have s1:=Zn (n:=1) (c:=z.toNat+2) (ty:=3) (by omega) (Uk _) rfl (D.s.push (.cells ((List.replicate z.toNat (0:Int)).map yb).flatten 3));rw[aaf,abM]at s1;generalize h.push (.cells ((List.replicate z.toNat (0:Int)).map yb).flatten 3)=H at s1 ⊢;generalize hb:h.next=b0 at s1 ⊢;clear hb;refine qQ (λr vs h'=>∃k:Nat,(k:Int)<=z/\r=z.toNat-k/\vs=[pm k]/\Sat lo h' (yW 3 1 (.slice (some ⟨b0,0,none⟩) z.toNat (z.toNat+2)) ((Vq (List.replicate z.toNat 0) 0 (λ_ => -1) k).map yb)::pt m (.cells [lv,pv] 61)::yW 114 2 lv (qK bvs bl)::yW 69 3 pv (ps.map V.zY)::(FD bvs bl++L))) z.toNat ⟨0,by omega,rfl,rfl,s1⟩ ?_;rintro r vs h' ⟨k,hk,rfl,rfl,s2⟩;by_cases hkz:(k:Int)<z
 ·obtain⟨b,c,cs,hsv,gb,wb,lb,s3⟩:=YS s2 (Uk _) (i:=k) (by rw[aaf,kG,abM];omega);rw[aaf,kG,abM]at hsv;simp only[aba,aab,abv,abc,abP]at hsv;obtain⟨rfl,rfl⟩:=hsv;have q1:(0:Int)<=k:=by omega
  have q2:(k:Int)<(z.toNat:Int):=by omega
  simp only[EE,nth,↓BK,aad,Int.reduceNeg,Ws,cP,Db,oE,hkz,q1,q2,aax];refine Vz gb wb lb s3 rfl rfl λh3 s4=>?_;simp only[EE,nth,Int.reduceNeg,inc (show k<4611686018427387904 by omega)];refine⟨z.toNat-(k+1),by omega,k+1,by omega,rfl,rfl,?_⟩
  have:((Vq (List.replicate z.toNat 0) 0 (λ_ => -1) k).map yb).set k [pm (-1)]=(Vq (List.replicate z.toNat 0) 0 (λ_ => -1) (k+1)).map yb:=by
   simp only[Vq,aay,ab4];rfl
  rw[<- this];exact s4
 ·have hkz2:k=z.toNat:=by omega
  subst hkz2;obtain⟨bs,hbs⟩:∃bs,bs=Vq (List.replicate z.toNat 0) 0 (λ_ => -1) z.toNat:=⟨_,rfl⟩;rw[<- hbs]at s2;have hbl:bs.length=z.toNat:=by rw[hbs,kG,abM]
  have hR:UN ps bs (λ_=>rG):=⟨λ_=>0,λa y hy=>by
   have ha:a<z.toNat:=by
    rcases aas a z.toNat with q|q
    ·exact q
    ·rw[aal (by rw[hbl];exact q)]at hy;cases hy
   rw[hbs,oj _ _ _ _ (by rw[abM];exact ha),aai ⟨aa8 _,by omega⟩]at hy;exact .inl ⟨(abN hy).symm,rfl⟩⟩
  clear hbs;have gm2:=(s2.p 1).get;have s3:=s2.push (.cells [.slice (some ⟨b0,0,none⟩) z.toNat (z.toNat+2),.bool false] 114);obtain⟨b',c',h2,a1,s4⟩:=jz (s3.p 3) (Qb _ _) [.slice (some ⟨b0,0,none⟩) z.toNat (z.toNat+2),.bool false] rfl (by decide) 32 (by rw[kE D.len,x.len];omega);rw[kE D.len,x.len]at a1 s4
  have ha:∀r,zv pu .append [58,58] r [lv,.slice (some ⟨h'.next,0,none⟩) 1 3] (h'.push (.cells [.slice (some ⟨b0,0,none⟩) z.toNat (z.toNat+2),.bool false] 114))=some (.slice (some ⟨b',0,none⟩) (M.length+1) c',h2):=λr=>by
   rw[zfK r _ _ 1 [.slice (some ⟨b0,0,none⟩) z.toNat (z.toNat+2),.bool false] _ rfl (by simp only[wJ,zk];rfl) rfl rfl];exact a1
  simp only[EE,nth,zw,Ww,zfQ,zah,Rq,kK,oE,Dc,hkz,gm2,ln,ha];refine yw (s4.p 3) (by simp) rfl λh3 s5=>?_;have g5:=s5.get
  have ll2:=zbc (yY (s5.p 1) (by
   intro r hr;rcases aaQ.1 hr with q|q
   ·exact Qb _ _ r q
   ·simp only[aaR]at q;subst q;rfl)) 3
  rw[abS,List.length_singleton,kE D.len,x.len]at ll2;simp only[EE,zb,zw,Ww,kK,g5,ll2];have s6:=(s5.p 2).drop;refine⟨by rw[Int.natCast_add];rfl,Vh (pv:=pv) (lv := .slice (some ⟨b',0,none⟩) (M.length+1) c') (bvs:=bvs++[.slice (some ⟨b0,0,none⟩) z.toNat (z.toNat+2)]) (bl:=bl++[(bs,false)]) (x.app (b:=(bs,false)) (B:=fresh z) rfl hbl.symm λ_=>hR) hn ⟨?_,by simp[D.len]⟩⟩;rw[Bm D.len,Iq D.len,ace];exact s6.perm (((((List.Perm.swap _ _ _).trans (List.perm_middle.symm.cons _)).cons _).cons _))
theorem DMO.focus{lv pv:aaa}{bvs:List aaa}{bl:List DB}{ps:List V}(D:DMO lo h m lv pv bvs bl ps L){i:Nat}{bv:aaa}{b:DB}(h1:bvs[i]? = some bv)(h2:bl[i]? = some b) :
  ∃R,Sat lo h (yW 3 1 bv (b.1.map yb)::pt m (.cells [lv,pv] 61)::yW 114 2 lv (qK bvs bl)::yW 69 3 pv (ps.map V.zY)::R) /\
   ∀(h':za) (b':DB) lv' pv' ps' rows',rows'=qK bvs (bl.set i b')->Sat lo h' (yW 3 1 bv (b'.1.map yb)::pt m (.cells [lv',pv'] 61)::yW 114 2 lv' rows'::yW 69 3 pv' (ps'.map V.zY)::R)->DMO lo h' m lv' pv' bvs (bl.set i b') ps' L:=by
 obtain⟨R,p,q⟩:=th h1 h2;refine⟨R++L,?_,λh' b' lv' pv' ps' rows' e s=>⟨?_,by rw[aaW];exact D.len⟩⟩
 ·refine D.s.perm ?_;have p2:=p.append_right L;exact((((p2.cons _).trans (List.Perm.swap _ _ _)).cons _).trans (List.Perm.swap _ _ _)).cons _ |>.trans (List.Perm.swap _ _ _)
 ·subst e;refine s.perm ?_;have p2:=(q b').append_right L
  have:∀A B C E:HP,∀X Y:List HP,Y.Perm (A::X)->(A::B::C::E::X).Perm (B::C::E::Y):=λA B C E X Y z=>
   (List.Perm.swap _ _ _).trans ((((List.Perm.swap _ _ _).trans (((List.Perm.swap _ _ _).trans (z.symm.cons _)).cons _))).cons _)
  exact this _ _ _ _ _ _ p2
theorem zaW(s:Sat lo h (kU m M n::L))(hM:M.length<=100000)(z:Int):DC pu 99 [yB m,pm z] h (λv h1=>v=.bool (qE M z).isSome/\Sat lo h1 (kU m ((qE M z).getD M) n::L)):=by
 apply PQ;unfold S9 yB;obtain⟨lv,pv,bvs,bl,ps,x,hn,D⟩:=UK s;simp only[];refine yp (zey D.dv x hM z) ?_;cases hi:idx M z with
 |none=>
  have e:qE M z=none:=by unfold qE;rw[hi];rfl
  rw[e];simp only[EE,aa6];exact s
 |some i=>
  obtain⟨hz,B,hB,hf⟩:=VX hi;have e:qE M z=some (M.set i (gone B)):=by unfold qE;rw[hi];simp[hB]
  rw[e];obtain⟨bv,b,q,cs,t,off,cp,hbv,hb,e0,e1,e2,e3,hq,hg,hl,k0,k1⟩:=D.dv.kS x hB;have gm:=D.s.get;have ln:=D.dv.rows.wO
  have hil:i<bl.length:=by
   rcases aas i bl.length with w|w
   ·exact w
   ·rw[aal w]at hb;cases hb
  have hxl:=x.len;obtain⟨q2,c2,cs2,hsv,gb,wb,lb,s3⟩:=YS (D.s.p 1) (Qb _ _) (i:=i) (by rw[kE D.len];exact hil);rw[kE D.len]at hsv;subst hsv;simp only[aba,aab,abv,abc,abP]at e0;obtain⟨⟨rfl,rfl⟩,rfl⟩:=e0;have hcs:cs=cs2/\t=114:=by rw[gb]at hg;simp at hg;exact⟨hg.1.symm,hg.2.symm⟩
  obtain⟨rfl,rfl⟩:=hcs;have hw:IntKind.wrap .i64 (z-1)=z-1:=Go.Mem.v9 (by omega) (by omega);have h3:(0:Int)<=z-1:=by omega
  have h4:z-1<(bl.length:Int):=by omega
  have h5:(z-1).toNat=i:=by omega
  have hm:zb cs (i*2+1) [.bool true]=zb cs (i*2) [bv,.bool true]:=by
   rw[aay]at k0;show cs.set (i*2+1) _=(cs.set (i*2) bv).set (i*2+1) _
   congr 1
   apply aa9;intro j;by_cases q:i*2=j
   ·subst q;rw[aaM (by omega),k0]
   ·rw[aa3 q]
  simp only[EE,aad,zw,Ww,Wt,nK,kK,JN,GV,abd,gm,hw,h3,h4,h5];rw[rC gb,aai ⟨by simp;omega,wb,rfl⟩,hm];have s4:=(s3 [bv,.bool true] rfl).p 1;simp only[EE,zb];refine⟨rfl,Vh (lv := .slice (some ⟨q2,0,none⟩) bl.length c2) (pv:=pv) (bvs:=bvs) (bl:=bl.set i (b.1,true)) (ps:=ps) (x.set (b:=(b.1,true)) (B:=gone B) rfl e2 λq=>by cases q) hn ⟨?_,by rw[aaW];exact D.len⟩⟩;rw[bO hbv];obtain⟨R,p,q⟩:=th hbv hb;exact s4.perm ((((p.trans (q (b.1,true)).symm).append_right L).cons _).cons _ |>.cons _)
theorem zdF{ps:List V}{j i:Nat}{z:Int}(h0:0<=z)(h1:z<=255):rL ps j i z ⟨1,z,v0⟩ := .inr (.inl ⟨h0,h1,rfl⟩)
theorem zfh(s:Sat lo h (kU m M n::L))(hM:M.length<=100000)(hs:small M)(z:Int):DC pu 25 [yB m,pm z] h (λv h1=>v=.bool (YW M z).isSome/\Sat lo h1 (kU m ((YW M z).getD M) n::L)):=by
 apply PW;unfold Tj yB;obtain⟨lv,pv,bvs,bl,ps,x,hn,D⟩:=UK s;simp only[];refine yp (zey D.dv x hM z) ?_;cases hi:idx M z with
 |none=>
  have e:YW M z=none:=by unfold YW;rw[hi];rfl
  rw[e];simp only[EE,aa6];exact s
 |some i=>
  obtain⟨hz,B,hB,hf⟩:=VX hi;have e:YW M z=some (M.set i (V3 B B.size)):=by unfold YW;rw[hi];simp[hB]
  rw[e];obtain⟨bv,b,q,cs,t,off,cp,hbv,hb,e0,e1,e2,e3,hq,hg,hl,k0,k1⟩:=D.dv.kS x hB;subst e0;have gm:=D.s.get;have hxl:=x.len;have hsz:=hs i B hB
  have hil:i<bl.length:=by
   rcases aas i bl.length with w|w
   ·exact w
   ·rw[aal w]at hb;cases hb
  have hw:IntKind.wrap .i64 (z-1)=z-1:=Go.Mem.v9 (by omega) (by omega);have h3:(0:Int)<=z-1:=by omega
  have h4:z-1<(bl.length:Int):=by omega
  have h5:(z-1).toNat=i:=by omega
  have bn:=(D.dv.byt i bv b hbv hb).wO;obtain⟨R,s1,back⟩:=D.focus hbv hb;simp only[EE,↓BK,aad,zw,yV,Ww,Wi,kK,JN,Hp,abd,gm,hw,h3,h4,h5,hg,k0];refine qQ (λr vs h'=>∃k:Nat,k<=b.1.length/\r=b.1.length-k/\vs=[pm k]/\Sat lo h' (yW 3 1 bv ((Vq b.1 0 (λ_=>0) k).map yb)::pt m (.cells [.slice (some ⟨q,off,none⟩) bl.length cp,pv] 61)::yW 114 2 (.slice (some ⟨q,off,none⟩) bl.length cp) (qK bvs bl)::yW 69 3 pv (ps.map V.zY)::R)) b.1.length ⟨0,by omega,rfl,rfl,s1⟩ ?_;rintro r vs h' ⟨k,hk,rfl,rfl,s2⟩;have bll:=zdL (yY s2 (Uk _)) 3;rw[aaf,kG]at bll;by_cases hkz:(k:Int)<(b.1.length:Int)
  ·obtain⟨bq,c,cs',hsv,gb,wb,lb,s3⟩:=YS s2 (Uk _) (i:=k) (by rw[aaf,kG];omega);rw[aaf,kG]at hsv;subst hsv;have q1:(0:Int)<=k:=by omega
   simp only[EE,nth,↓BK,aad,Ws,cP,Ho,As,hkz,q1,bll,aax];refine Vz gb wb lb s3 rfl rfl λh3 s4=>?_;simp only[EE,nth,inc (show k<4611686018427387904 by omega)];refine⟨b.1.length-(k+1),by omega,k+1,by omega,rfl,rfl,?_⟩
   have:((Vq b.1 0 (λ_=>0) k).map yb).set k [pm 0]=(Vq b.1 0 (λ_=>0) (k+1)).map yb:=by
    simp only[Vq,aay,ab4];rfl
   rw[<- this];exact s4
  ·have hkz2:k=b.1.length:=by omega
   subst hkz2;simp only[EE,nth,As,hkz,bn,bll];refine⟨rfl,Vh (ps:=ps) (x.set (b:=(Vq b.1 0 (λ_=>0) b.1.length,b.2)) (B:=V3 B B.size) e1 (by rw[kG];exact e2) λ_=>⟨λ_=>0,λa y hy=>?_⟩) hn (back h' (Vq b.1 0 (λ_=>0) b.1.length,b.2) _ _ ps _ ?_ s2)⟩
   ·have ha:a<b.1.length:=by
     rcases aas a b.1.length with w|w
     ·exact w
     ·rw[aal (by rw[kG];exact w)]at hy;cases hy
    rw[oj _ _ _ _ ha,aai ⟨aa8 _,by omega⟩]at hy;cases hy;show rL ps 0 (a%8) 0 (if a<B.size then zc else B.byte a);rw[aai (by omega)];exact zdF (by decide) (by decide)
   ·rw[bO hbv];apply aa9;intro j;by_cases w:i=j
    ·subst w;rw[aaM (by rw[kE D.len];exact hil),bN hbv hb];rfl
    ·rw[aa3 w]
end
def ptB(v:V):Bool:=kF v&&decide (v.k=2)
theorem zbA(v:V):ptB v=decide ((norm v).k=2):=by
 unfold ptB norm;cases kF v
 ·rfl
 ·simp
def X3(v:V)(np:Nat)(k:Nat):Int:=if (norm v).k=2 then 1000+8*np+k else if (norm v).k=1 then (norm v).n.fdiv (2^(8*k))%256 else -1
def JT(ps:List V)(v:V):List V:=if (norm v).k=2 then ps++[v] else ps
theorem EC(v:V):(norm v).k=0\/(norm v).k=1\/(norm v).k=2:=by
 unfold norm;cases g:kF v with
 |false=>exact .inl rfl
 |true=>
  rw[aai rfl];rcases Pc g with q|q|q
  ·exact .inl q
  ·exact .inr (.inl q.1)
  ·exact .inr (.inr q.1)
theorem norm_eq{v:V}(h:(norm v).k≠0):norm v=v:=by
 unfold norm at h ⊢;split
 ·rfl
 ·rename_i q;rw[aac q]at h;exact absurd rfl h
theorem Ir{ps:List V}{bs:List Int}{B:MB}{v:V}{c n:Nat}(x:UN ps bs B.byte)(hn:n+c<=bs.length)(h8:(norm v).k=2->c=8/\n%8=0):UN (JT ps v) (Vq bs n (X3 v ps.length) c) (YZ B n (norm v) c).byte:=by
 obtain⟨js,x⟩:=x;refine⟨λs=>if (norm v).k=2/\s=n/8 then ps.length else js s,λa z hz=>?_⟩
 have ha:a<bs.length:=by
  rcases aas a bs.length with w|w
  ·exact w
  ·rw[aal (by rw[kG];exact w)]at hz;cases hz
 rw[oj _ _ _ _ ha]at hz;show rL _ _ _ z (if n<=a/\a<n+c then cellOf (norm v) (a-n) else B.byte a);by_cases hin:n<=a/\a<n+c
 ·rw[aai hin]at hz ⊢;have hz:=(abN hz).symm;subst hz;unfold X3 cellOf JT;rcases EC v with k|k|k
  ·rw[k];exact .inl ⟨rfl,rfl⟩
  ·rw[k];simp only[Int.reduceEq,aad,abj,false_and]
   have e:IntKind.wrap .u8 ((norm v).n.fdiv (2^(8*(a-n))))=(norm v).n.fdiv (2^(8*(a-n)))%256:=by
    simp[IntKind.wrap,IntKind.bits,IntKind.signed]
   rw[e];exact zdF (by omega) (by omega)
  ·obtain⟨rfl,h0⟩:=h8 k;rw[k];simp only[Int.reduceEq,aad,abj,abP]
   have e:IntKind.wrap .u8 ((a-n:Nat):Int)=((a-n:Nat):Int):=by
    simp[IntKind.wrap,IntKind.bits,IntKind.signed];omega
   have e8:a%8=a-n:=by omega
   rw[aai (show a/8=n/8 by omega),e,e8];refine .inr (.inr ⟨rfl,rfl,rfl,?_⟩);show(ps++[v])[ps.length]? = some (norm v);rw[norm_eq (by rw[k];decide)];simp
 ·rw[aac hin]at hz ⊢;have y:=x a z hz;show rL (JT ps v) (if (norm v).k=2/\a/8=n/8 then ps.length else js (a/8)) (a%8) z (B.byte a);by_cases k:(norm v).k=2
  ·obtain⟨rfl,h0⟩:=h8 k;rw[aac (λq=>hin (by omega))];unfold JT;rw[aai k];exact y.more v
  ·rw[aac (λq=>k q.1)];unfold JT;rw[aac k];exact y
theorem zdQ{lo:yP}{h:za}{L:List HP}{b:Nat}{o:wm}(s:Sat lo h (pt b o::L)):∃lo1,lo.Le lo1/\Rd lo1 (λh=>h.get b=some o)/\Sat lo1 h L /\ ∀h' L',Sat lo1 h' L'->Sat lo h' L':=by
 obtain⟨a,ha,d,w,s⟩:=s;refine⟨lo.un a,yP.fF d,λh1 b1=>?_,s,λh' L' s'=>s'.mono (yP.fF d)⟩;have:Sat lo h1 [pt b o]:=⟨a,ha,d,w,b1⟩;exact this.get
section
variable {lo:yP}{h:za}{L:List HP}{m n:Nat}{M:MM}
theorem bR{n':Nat}(s:Sat lo h (kU m M n::L))(hn:n<=n'):Sat lo h (kU m M n'::L):=by
 obtain⟨lv,pv,bvs,bl,ps,x,h1,D⟩:=UK s;exact Vh x (by omega) D
theorem zc6(s:Sat lo h (kU m M n::L))(hM:M.length<=100000)(hs:small M)(hps:n<=100000000){c:Int}{p v:V}(hc:wg c)(hp:p.ok):DC pu 98 [yB m,pm c,vv p,vv v] h (λr h1=>r=.bool (wR M c p v).isSome/\Sat lo h1 (kU m ((wR M c p v).getD M) (n+1)::L)):=by
 apply L4;unfold N7 yB;simp only[EE,Value.cells];refine uL s λb6 h2 s2=>?_;simp only[];refine uL s2 λb7 h3 s3=>?_;have g7:=s3.get;have g6:=(s3.p 1).get;simp only[EE,aad,Nat.reduceAdd,ya,zh,g7];refine yp (il v _) ?_
 have tail:∀q,q=ptB v->zu pu (.func (.func 122) #[] #[]) [pi m,pm c,.agg #[pm p.k,pm p.n,pm p.b]] h3 (WA (.bool q) (pm c) (λr h1=>r=.bool (wR M c p v).isSome/\Sat lo h1 (kU m ((wR M c p v).getD M) (n+1)::L)) (pi m) (pi b6) (pi b7)):=by
  intro q hq;obtain⟨lo7,l7,rd7,s4,back7⟩:=zdQ s3;obtain⟨lo6,l6,rd6,s5,back6⟩:=zdQ s4;have rd7:=rd7.mono l6;have back:∀h' L',Sat lo6 h' L'->Sat lo h' L':=λh' L' z=>back7 _ _ (back6 _ _ z);obtain⟨lv,pv,bvs,bl,ps,x,hn,D⟩:=UK s5;refine yp (tF D.dv x hM hs hc hp) ?_
  have no:wR M c p v=none->Sat lo h3 (kU m ((wR M c p v).getD M) (n+1)::L):=by
   intro e;rw[e];exact back _ _ (bR s5 (abr _))
  have hs':wR M c p v=if (norm v).k=2/\c≠8 then none else match right M c p with
   |none=>none
   |some i=>(M[i]?).map λB=>M.set i (YZ B p.n.toNat (norm v) c.toNat):=rfl
  have hq2:q=decide ((norm v).k=2):=hq.trans (zbA v);cases hr:right M c p with
  |none=>
   have e:wR M c p v=none:=by
    rw[hs',hr];split <;> rfl
   simp only[EE,UT,UU,WA,aa6];exact⟨by rw[e];rfl,no e⟩
  |some i=>
  by_cases c8:q=true /\ ¬c=8
  ·obtain⟨rfl,c8⟩:=c8
   have e:wR M c p v=none:=by
    rw[hs',aai ⟨by simpa using hq2.symm,c8⟩]
   simp only[EE,UT,UU,WA,abd,c8];exact⟨by rw[e];rfl,no e⟩
  obtain⟨k2,hcc,hi,B,hB,hn0,hn1,hn2⟩:=cG hr;obtain⟨hpb,B',hB',hf⟩:=VX hi;rw[hB]at hB';cases hB'
  have e:wR M c p v=some (M.set i (YZ B p.n.toNat (norm v) c.toNat)):=by
   rw[hs',aac,hr]
   ·simp only[hB,abV]
   ·rintro⟨z1,z2⟩;exact c8 ⟨by rw[hq2,z1];rfl,z2⟩
  rw[e];have hsz:=hs i B hB;obtain⟨bv,b,qb,cs,t,off,cp,hbv,hb,e0,e1,e2,e3,hqq,hg,hl,k0,k1⟩:=D.dv.kS x hB;subst e0;have gm:=D.s.get;have hxl:=x.len
  have hil:i<bl.length:=by
   rcases aas i bl.length with w|w
   ·exact w
   ·rw[aal w]at hb;cases hb
  have hw:IntKind.wrap .i64 (p.b-1)=p.b-1:=Go.Mem.v9 (by omega) (by omega);have h3':(0:Int)<=p.b-1:=by omega
  have h4:p.b-1<(bl.length:Int):=by omega
  have h5:(p.b-1).toNat=i:=by omega
  have hw2:IntKind.wrap .i64 (p.n+c)=p.n+c:=Go.Mem.v9 (by omega) (by omega);obtain⟨R,s6,bk⟩:=D.focus hbv hb;obtain⟨bq,bc,bcs,hsv,_,_,_,_⟩:=YS s6 (Uk _) (i:=p.n.toNat) (by rw[aaf];omega);rw[aaf]at hsv;subst hsv;obtain⟨X,hX⟩:=OG (b:=bq) (o:=0) (cp:=bc) (h:=h3) hn0 (show p.n<=p.n+c by omega) (show p.n+c<=(b.1.length:Int) by omega);have hpc:(p.n+c-p.n).toNat=c.toNat:=by omega
  rw[hpc]at hX
  have g8:q=true->c=8/\p.n.toNat%8=0:=λz=>by
   have:c=8:=Classical.byContradiction λz2=>c8 ⟨z,z2⟩;subst this;rw[abw hn0]at hn2;exact⟨rfl,by omega⟩
  have r6:=rd6.at s6;have r7:=rd7.at s6;have bn:=(D.dv.byt i _ b hbv hb).wO
  have h8:(norm v).k=2->c.toNat=8/\p.n.toNat%8=0:=λz=>by
   have:=g8 (by rw[hq2,z];rfl);omega
  have loop:∀h4 pv',Sat lo6 h4 (yW 3 1 (.slice (some ⟨bq,0,none⟩) b.1.length bc) (b.1.map yb)::pt m (.cells [.slice (some ⟨qb,off,none⟩) bl.length cp,pv'] 61)::yW 114 2 (.slice (some ⟨qb,off,none⟩) bl.length cp) (qK bvs bl)::yW 69 3 pv' ((JT ps v).map V.zY)::R) ->
    LP (gB (pm c) (λvs34 h35=>rv [(.bool true)] h35 (λr h1=>r=.bool (some (M.set i (YZ B p.n.toNat (norm v) c.toNat))).isSome/\Sat lo h1 (kU m ((some (M.set i (YZ B p.n.toNat (norm v) c.toNat))).getD M) (n+1)::L))) (.slice (some ⟨bq,p.n.toNat,none⟩) c.toNat X) (.bool q) (pi m) (pi b7)) [pm 0] h4:=by
   intro h4 pv' s7;refine qQ (λr vs h'=>∃k:Nat,(k:Int)<=c/\r=c.toNat-k/\vs=[pm k]/\Sat lo6 h' (yW 3 1 (.slice (some ⟨bq,0,none⟩) b.1.length bc) ((Vq b.1 p.n.toNat (X3 v ps.length) k).map yb)::pt m (.cells [.slice (some ⟨qb,off,none⟩) bl.length cp,pv'] 61)::yW 114 2 (.slice (some ⟨qb,off,none⟩) bl.length cp) (qK bvs bl)::yW 69 3 pv' ((JT ps v).map V.zY)::R)) c.toNat ⟨0,by omega,rfl,rfl,s7⟩ ?_;rintro r vs h' ⟨k,hk,rfl,rfl,s8⟩;by_cases hkc:(k:Int)<c
   ·have hin:p.n.toNat+k<(Vq b.1 p.n.toNat (X3 v ps.length) k).length:=(by rw[kG];omega);have q1:(0:Int)<=k:=(by omega);have q2:(k:Int)<(c.toNat:Int):=(by omega);have qo:p.n.toNat+k*1=(p.n.toNat+k)*1:=(by omega);obtain⟨z1,z2,z3,z4,gb,wb,lb,s9⟩:=YS s8 (Uk _) (i:=p.n.toNat+k) (by rw[aaf];exact hin);rw[aaf,kG]at z4;simp only[aba,aab,abv,abc,abP]at z4;obtain⟨rfl,rfl⟩:=z4;simp only[EE,nth,↓BK,aad,Int.reduceNeg,Ws,cP,DI,DJ,gB,hkc,q1,q2,qo,aax];refine Vz gb wb lb s9 rfl rfl λh5 s10=>?_
    have e1:∀z:Int,(((Vq b.1 p.n.toNat (X3 v ps.length) k).map yb).set (p.n.toNat+k) [pm (-1)]).set (p.n.toNat+k) [pm z]=((Vq b.1 p.n.toNat (X3 v ps.length) k).set (p.n.toNat+k) z).map yb:=λz=>by
     rw[List.set_set,ab4];rfl
    have nx:∀h6,Sat lo6 h6 (yW 3 1 (.slice (some ⟨bq,0,none⟩) b.1.length bc) (((Vq b.1 p.n.toNat (X3 v ps.length) k).set (p.n.toNat+k) (X3 v ps.length k)).map yb)::pt m (.cells [.slice (some ⟨qb,off,none⟩) bl.length cp,pv'] 61)::yW 114 2 (.slice (some ⟨qb,off,none⟩) bl.length cp) (qK bvs bl)::yW 69 3 pv' ((JT ps v).map V.zY)::R)->∃r',r'<c.toNat-k /\ ∃k':Nat,(k':Int)<=c/\r'=c.toNat-k' /\ [Value.int .i64 ((k+1:Nat):Int)]=[pm k']/\Sat lo6 h6 (yW 3 1 (.slice (some ⟨bq,0,none⟩) b.1.length bc) ((Vq b.1 p.n.toNat (X3 v ps.length) k').map yb)::pt m (.cells [.slice (some ⟨qb,off,none⟩) bl.length cp,pv'] 61)::yW 114 2 (.slice (some ⟨qb,off,none⟩) bl.length cp) (qK bvs bl)::yW 69 3 pv' ((JT ps v).map V.zY)::R) :=
     λh6 z=>⟨c.toNat-(k+1),by omega,k+1,by omega,rfl,rfl,z⟩
    have q3:=inc (show k<4611686018427387904 by omega);have g10:=(s10.p 1).get
    obtain⟨y1,y2,y3,y4,gb2,wb2,lb2,s11⟩:=YS s10 (rows:=((Vq b.1 p.n.toNat (X3 v ps.length) k).map yb).set (p.n.toNat+k) [pm (-1)]) (by
     intro w hw;rcases acy hw with z|rfl
     ·exact Uk _ w z
     ·rfl) (i:=p.n.toNat+k) (by rw[aaW,aaf];exact hin)
    rw[aaW,aaf,kG]at y4;simp only[aba,aab,abv,abc,abP]at y4;obtain⟨rfl,rfl⟩:=y4;cases q with
    |true=>
     have kn:(norm v).k=2:=(by simpa using hq2.symm);have ep:JT ps v=ps++[v]:=(by unfold JT;rw[aai kn]);have SP:=yY (s10.p 3) (wP _);have pn:=SP.wO;have pl:=zbd SP 3;rw[ep,abS,List.length_singleton]at pl;have w1:IntKind.wrap .i64 (((ps.length+1:Nat):Int)-1)=ps.length:=(Go.Mem.v9 (by omega) (by omega)).trans (by omega);have w2:IntKind.wrap .i64 (8*(ps.length:Int))=8*(ps.length:Int):=Go.Mem.v9 (by omega) (by omega);have w3:IntKind.wrap .i64 (1000+8*(ps.length:Int))=1000+8*(ps.length:Int):=Go.Mem.v9 (by omega) (by omega)
     have w4:IntKind.wrap .i64 (1000+8*(ps.length:Int)+k)=X3 v ps.length k:=by
      unfold X3;rw[aai kn];exact Go.Mem.v9 (by omega) (by omega)
     simp only[EE,nth,aad,zw,Ys,Ws,FK,cP,DH,g10,pn,pl,w1,w2,w3,w4,q1,q2,qo,aax];refine Vz gb2 wb2 lb2 s11 rfl rfl λh6 s12=>?_;rw[e1]at s12;simp only[EE,nth,q3];exact nx _ s12
    |false=>
     have r7':=rd7.at s10;simp only[EE,aad,Nat.reduceAdd,ya,zh,r7'];refine yp (il v _) ?_
     have zO:(norm v).k=0->Sat lo6 h5 (yW 3 1 (.slice (some ⟨bq,0,none⟩) b.1.length bc) (((Vq b.1 p.n.toNat (X3 v ps.length) k).set (p.n.toNat+k) (X3 v ps.length k)).map yb)::pt m (.cells [.slice (some ⟨qb,off,none⟩) bl.length cp,pv'] 61)::yW 114 2 (.slice (some ⟨qb,off,none⟩) bl.length cp) (qK bvs bl)::yW 69 3 pv' ((JT ps v).map V.zY)::R):=λz=>by
      have:X3 v ps.length k = -1:=(by unfold X3;rw[z];rfl);rw[this,ab4];exact s10
     cases gv:kF v with
     |false=>
      simp only[EE,nth,gx,gy,q3];exact nx _ (zO (by unfold norm;rw[aac (by rw[gv];simp)];rfl))
     |true=>
      have nv:norm v=v:=(by unfold norm;rw[aai gv]);by_cases k1:v.k=1
      ·have w1:IntKind.wrap .i64 (8*(k:Int))=((8*k:Nat):Int):=(Go.Mem.v9 (by omega) (by omega)).trans (by omega);have w2:IntKind.wrap .u64 ((8*k:Nat):Int)=((8*k:Nat):Int):=by rw[show IntKind.wrap .u64 ((8*k:Nat):Int)=wu ((8*k:Nat):Int) from rfl,CG];omega
       have w3:(0:Int)<=((8*k:Nat):Int):=(by omega);have w5:min (8*k) (IntKind.bits .i64)=8*k:=by show min (8*k) 64=_;omega
       have w4:IntKind.wrap .i64 (BitVec.ofInt (IntKind.bits .i64) (v.n.fdiv (2^(8*k))) &&& BitVec.ofInt (IntKind.bits .i64) 255).toNat=X3 v ps.length k:=by
        unfold X3;rw[nv,aac (by omega),aai k1];exact nc _ 8 (by decide)
       simp only[EE,nth,aad,zw,xi,zj,Ws,Qe,zQ,yf,cP,DG,gx,gy,r7',k1,w1,w2,w3,w5,w4,q1,q2,qo,aax];refine Vz gb2 wb2 lb2 s11 rfl rfl λh6 s12=>?_;rw[e1]at s12;simp only[EE,nth,q3];exact nx _ s12
      ·simp only[EE,nth,zw,zj,zQ,gx,gy,r7',k1,q3];refine nx _ (zO ?_);rw[nv];have:=EC v;rw[nv]at this;have z:¬v.k=2:=λw=>by rw[nv,w]at hq2;cases hq2
       omega
   ·have hkc2:k=c.toNat:=(by omega);subst hkc2;simp only[EE,nth,gB,hkc]
    refine⟨rfl,back _ _ (Vh (ps:=JT ps v) ((show DR bl (JT ps v) M by
     unfold JT;split
     ·exact x.more v
     ·exact x).set (b:=(Vq b.1 p.n.toNat (X3 v ps.length) c.toNat,b.2)) (B:=YZ B p.n.toNat (norm v) c.toNat) e1 (by rw[kG];exact e2) λz=>Ir (e3 z) (by omega) h8) ?_ (bk h' (Vq b.1 p.n.toNat (X3 v ps.length) c.toNat,b.2) _ _ (JT ps v) _ ?_ s8))⟩
    ·unfold JT;split
     ·simp;omega
     ·omega
    ·rw[bO hbv];apply aa9;intro j;by_cases w:i=j
     ·subst w;rw[aaM (by rw[kE D.len];exact hil),bN hbv hb];rfl
     ·rw[aa3 w]
  cases q with
  |false=>
   have kn:¬(norm v).k=2:=by simpa using hq2.symm
   simp only[EE,aaB,↓BK,aad,zw,xi,yV,zj,Ww,Wi,kK,yf,xJ,JN,oW,UT,UU,WA,abd,gm,r6,hw,h3',h4,h5,hg,k0,hw2,hX,bn];exact loop _ pv (by unfold JT;rw[aac kn];exact s6)
  |true=>
   have kn:(norm v).k=2:=by simpa using hq2.symm
   have c8:c=8:=(g8 rfl).1;have s7:=s6.push (.cells [pm v.k,pm v.n,pm v.b] 69);obtain⟨b',c',h2,a1,s8⟩:=jz (s7.p 4) (wP _) v.zY rfl (by decide) 24 (by rw[aaf];omega);rw[aaf]at a1 s8
   have ha:∀r,zv pu .append [59,59] r [pv,.slice (some ⟨h3.next,0,none⟩) 1 3] (h3.push (.cells [pm v.k,pm v.n,pm v.b] 69))=some (.slice (some ⟨b',0,none⟩) (ps.length+1) c',h2):=λr=>
    (H8 r _ _ 1 v.zY _ rfl (by simp only[wJ,zk];rfl) rfl rfl).trans a1
   have pn:=xN (s6.p 3);have d8:decide (c=8)=true:=ua c8;simp only[EE,aaB,aad,Nat.reduceAdd,ya,zw,xi,yV,zj,Ww,Ys,zh,zdz,UJ,Wi,kK,FK,yf,xJ,JN,DF,oW,UT,UU,WA,abd,gm,r6,r7,hw,h3',h4,h5,hg,k0,hw2,hX,bn,d8,ha,pn];refine yw (s8.p 3) (by simp) rfl λh9 s9=>?_;simp only[↓BK];refine loop _ (.slice (some ⟨b',0,none⟩) (ps.length+1) c') ?_;have s10:=((s9.p 2).drop).f [2,0,3,1];rw[show(JT ps v).map V.zY=ps.map V.zY++[v.zY] by unfold JT;rw[aai kn];simp];exact s10
 cases g:kF v with
 |false=>
  simp only[EE,aad,Nat.reduceAdd,ya,zh,J6,J7,J8,g6];exact tail _ (by unfold ptB;rw[g];rfl)
 |true=>
  by_cases k2:v.k=2
  ·simp only[EE,aad,Nat.reduceAdd,ya,zw,zj,zh,zQ,J6,J7,J8,g6,g7,k2];exact tail _ (by unfold ptB;rw[g,k2];rfl)
  ·simp only[EE,aad,Nat.reduceAdd,ya,zw,zj,zh,zQ,J6,J7,J8,g6,g7,k2];exact tail _ (by unfold ptB;rw[g];simp[k2])
end
open Go.Rtl (xG Pg zB wG qP wF)
section
variable {lo:yP}{h:za}{L:List HP}{ty:TypeId}{n:Nat}{sv:aaa}{rows:List (List aaa)}
theorem ZT(s:Sat lo h (yW ty n sv rows::L))(hn:∀r,r∈rows->r.length=n){i j:Nat}{row:List aaa}(hr:rows[i]? = some row)(hj:j<n) :
  ∃q c cs,sv=.slice (some ⟨q,0,none⟩) rows.length c/\h.get q=some (.cells cs ty)/\h.ro<=q/\q<h.next/\i*n+n<=cs.length/\(cs.drop (i*n)).take n=row/\(∀k,k<n->cs[i*n+k]? = row[k]?) /\ ∀v,Sat lo (h.set q (some (.cells (zb cs (i*n+j) [v]) ty))) (yW ty n sv (rows.set i (row.set j v))::L):=by
 have hi:i<rows.length:=by
  rcases aas i rows.length with a|a
  ·exact a
  ·rw[aal a]at hr;cases hr
 have hrl:=hn row (aau hr);have R:=yY s hn;obtain⟨b',o,c',t',⟨off,cp,e1,rfl⟩,_,hb,hg,hl,ht,hk⟩:=R.spot hr hrl;have hlt:=s;obtain⟨q,c,cs,e2,gq,wq,lq,s2⟩:=YS s hn hi;rw[e1]at e2;simp only[aba,aab,abv,abc,abP]at e2;obtain⟨⟨rfl,rfl⟩,rfl⟩:=e2;rw[gq]at hg;simp only[aab,wm.cells.injEq]at hg;obtain⟨rfl,rfl⟩:=hg;rw[aay]at ht hl;simp only[aay]at hk;refine⟨b',cp,cs,e1,gq,wq,hb,lq,ht,hk,λv=>?_⟩
 have e:zb cs (i*n+j) [v]=zb cs (i*n) (row.set j v):=by
  apply aa9;intro x;rw[Ki (row.set j v) cs (i*n) x (by rw[aaW,hrl];exact lq),aaW,hrl];show(cs.set (i*n+j) v)[x]? = _;by_cases hx:i*n<=x/\x<i*n+n
  ·rw[aai hx];by_cases hxj:i*n+j=x
   ·subst hxj;rw[aaM (by omega),Nat.add_sub_cancel_left,aaM (by omega)]
   ·rw[aa3 hxj,aa3 (by omega),<- hk (x-i*n) (by omega)]
    congr 1;omega
  ·rw[aac hx,aa3 (by omega)]
 rw[e];exact s2 _ (by rw[aaW];exact hrl)
theorem FP{q i j:Nat}{cs row:List aaa}{v:aaa}{K:za->Prop}(gq:h.get q=some (.cells cs ty))(wq:h.ro<=q)(lq:i*n+n<=cs.length)(hj:j<n)(s3:∀v,Sat lo (h.set q (some (.cells (zb cs (i*n+j) [v]) ty))) (yW ty n sv (rows.set i (row.set j v))::L))(hc:cellOk v=true)
  (k:∀h',Sat lo h' (yW ty n sv (rows.set i (row.set j v))::L)->K h'):opt (yM h q (i*n+j) [v]) K:=by
 rw[rC gq,aai ⟨by simp;omega,wq,by simp[hc]⟩];exact k _ (s3 v)
end
structure sW where
 f:Int
 pt:Int
 zf:List V
 kS:Int
 dst:Int
def kL(rv:aaa)(d:sW):List aaa:=[pm d.f,pm d.pt,rv,pm d.kS,pm d.dst]
def qS:List aaa->List sW->List (List aaa)
 |rv::rvs,d::ds=>kL rv d::qS rvs ds
 |_,_=>[]
def JU:List aaa->List sW->List HP
 |rv::rvs,d::ds=>yW 69 3 rv (d.zf.map V.zY)::JU rvs ds
 |_,_=>[]
theorem ZS:∀{rvs:List aaa} {ds:List sW},rvs.length=ds.length->(qS rvs ds).length=ds.length
 |[],[],_=>rfl
 |_::rvs,_::ds,e=>by simp only[qS,aaD,ZS (rvs:=rvs) (ds:=ds) (by simpa using e)]
theorem ri:∀{rvs:List aaa} {ds:List sW} {rv:aaa} {d:sW},rvs.length=ds.length->qS (rvs++[rv]) (ds++[d])=qS rvs ds++[kL rv d]
 |[],[],_,_,_=>rfl
 |_::rvs,_::ds,_,_,e=>by simp only[abJ,qS,ri (by simpa using e)]
theorem Co:∀{rvs:List aaa} {ds:List sW} {rv:aaa} {d:sW},rvs.length=ds.length->JU (rvs++[rv]) (ds++[d])=JU rvs ds++[yW 69 3 rv (d.zf.map V.zY)]
 |[],[],_,_,_=>rfl
 |_::rvs,_::ds,_,_,e=>by simp only[abJ,JU,Co (by simpa using e)]
theorem iC(rvs:List aaa)(ds:List sW):∀r,r∈qS rvs ds->r.length=5:=by
 induction rvs generalizing ds with
 |nil=>intro r hr;cases hr
 |cons rv rvs ih=>
  cases ds with
  |nil=>intro r hr;cases hr
  |cons d ds=>
   intro r hr;rcases abt.1 hr with rfl|hr
   ·rfl
   ·exact ih ds r hr
structure sM (h:za) (q o:Nat) (d:sW) (rv:aaa):Prop where
 cells:∃cs t,h.get q=some (.cells cs t)/\o+5<=cs.length/\(cs.drop o).take 5=kL rv d /\ ∀k,k<5->cs[o+k]? = (kL rv d)[k]?
 lt:q<h.next
 zf:zE h rv 3 (d.zf.map V.zY)
theorem sM.old{h h':za}{q o:Nat}{d:sW}{rv:aaa}(x:sM h q o d rv)(e:Old h h'):sM h' q o d rv:=by
 obtain⟨⟨cs,t,g,r⟩,l,m⟩:=x;exact⟨⟨cs,t,(e.get q l).trans g,r⟩,aao l e.next,m.old e⟩
theorem sM.lock{h:za}{q o:Nat}{d:sW}{rv:aaa}(x:sM h q o d rv):sM h.lock q o d rv:=⟨x.cells,x.lt,x.zf.lock⟩
theorem FV{l:List V}{r:Int}(h0:0<=r)(h1:r<l.length):l[r.toNat]? = some (zS l r):=by
 unfold zS;rw[aac (by omega),aaA,aae (by omega)];rfl
theorem zgl{h:za}{q o:Nat}{d:sW}{rv:aaa}(T:sM h q o d rv){r:Int}(hr:r = -1\/(0<=r/\r<d.zf.length)):yX pu 63 [.pointer (some ⟨q,o,none⟩),pm r] h (vv (zS d.zf r)):=by
 apply vt rfl;apply Tq;unfold zds;by_cases h1:r = -1
 ·have e:zS d.zf r=v0:=by rw[h1];rfl
  simp only[EE,↓nw,Value.cells,zb,aad,Nat.reduceAdd,Int.reduceNeg,yM,ya,zh,zo,y5,zN,h1];rw[<- h1,e];rfl
 ·obtain⟨h0,h2⟩:0<=r/\r<d.zf.length:=by omega
  have T2:=(T.lock).old (Old.push _ (.cells [pm 0,pm 0,pm 0] 69));obtain⟨⟨cs,t,gq,lq,tq,kq⟩,ltq,S⟩:=T2;have k2:=kq 2 (by decide);obtain⟨b,o',c,t',⟨off,cp,rfl,rfl⟩,hi,hb,hgt,hle,htk,_⟩:=S.spot (i:=r.toNat) (r:=(zS d.zf r).zY) (by rw[aaq,FV h0 h2];rfl) rfl;rw[aaf]at *
  have htk':(c.drop (off+r.toNat*3)).take 3=[pm (zS d.zf r).k,pm (zS d.zf r).n,pm (zS d.zf r).b]:=htk;unfold kL at k2;simp only[EE,↓nw,Value.cells,zb,aad,Nat.reduceAdd,Int.reduceNeg,yM,ya,zw,Ys,zh,zo,y5,jv,X4,On,h1,gq,k2,h0,h2,hgt,hle,htk'];rfl
theorem Lv{h:za}{q o:Nat}{d:sW}{rv:aaa}(T:sM h q o d rv){i:xG}(hn:zU i.av=false)(hr:i.b = -1\/(0<=i.b/\i.b<d.zf.length)):yX pu 57 [.pointer (some ⟨q,o,none⟩),i.val] h (vv (if i.b = -1 then u6 i.k else zS d.zf i.b)):=by
 apply vt rfl;apply HQ;unfold HO;by_cases h1:i.b = -1
 ·rw[aai h1];simp only[EE,↓nw,Value.cells,Int.reduceNeg,zw,xi,zj,y5,qD,vI,AZ,h1];refine yp (Z0 i.k _) ?_;simp only[EE,zb,aad,Nat.reduceAdd,Int.reduceNeg,yM,ya,zh,zo,Nat.le_add_right];rfl
 ·rw[aac h1];obtain⟨h0,h2⟩:0<=i.b/\i.b<d.zf.length:=by omega
  have T2:=(T.lock).old ((Old.push _ (.cells [pm i.op,pm i.sub,pm i.a,pm i.b,pm i.d,pm i.k,i.av,pm i.s,pm i.t] 53)).trans (Old.push _ (.cells [pm 0,pm 0,pm 0] 69)));obtain⟨⟨cs,t,gq,lq,tq,kq⟩,ltq,S⟩:=T2;have k2:=kq 2 (by decide);obtain⟨b,o',c,t',⟨off,cp,rfl,rfl⟩,hi,hb,hgt,hle,htk,_⟩:=S.spot (i:=i.b.toNat) (r:=(zS d.zf i.b).zY) (by rw[aaq,FV h0 h2];rfl) rfl;rw[aaf]at *
  have htk':(c.drop (off+i.b.toNat*3)).take 3=[pm (zS d.zf i.b).k,pm (zS d.zf i.b).n,pm (zS d.zf i.b).b]:=htk;unfold kL at k2;simp only[EE,↓nw,Value.cells,zb,aad,Nat.reduceAdd,Int.reduceNeg,yM,ya,zw,zj,Ys,zh,zo,y5,jv,qD,X4,A5,h1,gq,k2,h0,h2,hgt,hle,htk',Nat.le_add_right];rfl
def VZ(z:Int):Bool:=decide (z=3)||(decide (z=5)||decide (12<=z))
theorem zeA(z:Int)(h:za):yX pu 100 [pm z] h (.bool (VZ z)):=by
 apply vt rfl;apply PR;unfold Ta VZ;by_cases h3:z=3
 ·simp only[EE,Int.reduceEq,Int.reduceLE,mD,mE,h3];rfl
 by_cases h5:z=5
 ·simp only[EE,Int.reduceEq,Int.reduceLE,mD,mE,h5];rfl
 ·simp only[EE,mD,mE,h3,h5];simp[Wm]
def xK(p:Pg)(mb:Nat)(S:St)(ev lk wv sv gv:aaa)(ltl:Bool):wm := .cells [p.gv,p.fv,pm p.main,yB mb,pm S.kind,pm S.exit,ev,lk,pm S.steps,wv,pm S.used,sv,.bool ltl,gv] 64
section
variable {lo:yP}{h:za}{b mb:Nat}{p:Pg}{S:St}{ev lk wv sv gv:aaa}{ltl:Bool}
theorem F5(s:Sat lo h [pt b (xK p mb S ev lk wv sv gv ltl),yW 74 3 lk (S.lk.map wk)])(hb:(S.lk.length+1)*24<=2^47)(k_ a c:Int) :
  DC pu 58 [yB b,pm k_,pm a,pm c] h (λ_ h'=>∃lk',Sat lo h' [pt b (xK p mb (xf S k_ a c) ev lk' wv sv gv ltl),yW 74 3 lk' ((xf S k_ a c).lk.map wk)]):=by
 apply pA;unfold AK yB;have gm:=s.get;unfold xK yB at gm;have n0:=xN (s.p 1);have s1:=s.push (.cells [pm k_,pm a,pm c] 74);obtain⟨b',c',h2,a1,s2⟩:=jz (s1.p 2) (uB (f:=wk) (λ_=>rfl) _) [pm k_,pm a,pm c] rfl (by decide) 24 (by rw[aaf];exact hb);rw[aaf]at a1 s2
 have ha:∀r,zv pu .append [31,31] r [lk,.slice (some ⟨h.next,0,none⟩) 1 3] (h.push (.cells [pm k_,pm a,pm c] 74))=some (.slice (some ⟨b',0,none⟩) (S.lk.length+1) c',h2):=λr=>by
  rw[zdx r _ _ 1 [pm k_,pm a,pm c] _ rfl (by simp only[wJ,zk];rfl) rfl rfl];exact a1
 have s3:=s2.p 2;have g2:=s3.get;have w2:=s3.wr;unfold xK yB at g2;simp only[EE,zb,aad,Nat.reduceAdd,Nat.reduceLeDiff,yM,zw,H2,zdy,sk,Eg,nL,YN,gm,n0,ha,g2,w2];refine⟨rfl,.slice (some ⟨b',0,none⟩) (S.lk.length+1) c',?_⟩;have e1:((xf S k_ a c).lk.map wk)=S.lk.map wk++[[pm k_,pm a,pm c]]:=by simp[xf,wk]
 rw[e1];exact((s3.set _).p 2).drop
end
def inD(d:sW)(r:Int):Prop:=0<=r/\r<d.zf.length
theorem Nr{h:za}{q o:Nat}{d:sW}{rv:aaa}(T:sM h q o d rv){r:Int}(hr:inD d r):∃cs t,h.get q=some (.cells cs t)/\cs[o+2]? = some rv /\ ∃b off cp c t',rv=.slice (some ⟨b,off,none⟩) d.zf.length cp/\b<h.next/\h.get b=some (.cells c t')/\off+r.toNat*3+3<=c.length/\(c.drop (off+r.toNat*3)).take 3=[pm (zS d.zf r).k,pm (zS d.zf r).n,pm (zS d.zf r).b] /\ ∀k,k<3->c[off+r.toNat*3+k]? = (zS d.zf r).zY[k]?:=by
 obtain⟨⟨cs,t,gq,lq,tq,kq⟩,ltq,S⟩:=T;obtain⟨b,o',c,t',⟨off,cp,e,rfl⟩,hi,hb,hgt,hle,htk,hkk⟩:=S.spot (i:=r.toNat) (r:=(zS d.zf r).zY) (by rw[aaq,FV hr.1 hr.2];rfl) rfl;rw[aaf]at e;exact⟨cs,t,gq,(kq 2 (by decide)).trans rfl,b,off,cp,c,t',e,hb,hgt,hle,htk,hkk⟩
def Wu(d:sW)(i:xG):Option V:=match yF 11 (zS d.zf i.a) (u6 i.k) with
 |some p=>if p.k=2 then some p else none
 |none=>none
section
variable {lo:yP}{h:za}{b mb q o nn:Nat}{p:Pg}{S:St}{ev lk wv sv gv rv:aaa}{ltl:Bool}{d:sW}{M:MM}
def CP(M:MM)(i:xG)(w:V):Option V->aaa
 |none => .tuple #[vv v0,.bool false]
 |some a=>if i.op=6 then wQ (kP M i.sub a) else .tuple #[vv v0,.bool (wR M i.sub a w).isSome]
def Fe(M:MM)(i:xG)(w:V):Option V->MM
 |none=>M
 |some a=>if i.op=6 then M else (wR M i.sub a w).getD M
theorem TF(T:Rd lo (λh=>sM h q o d rv))(s:Sat lo h [pt b (xK p mb S ev lk wv sv gv ltl),yW 74 3 lk (S.lk.map wk),kU mb M nn])(hL:(S.lk.length+1)*24<=2^47){i:xG}(hn:zU i.av=false)(hc:cellOk i.av=true)
  (hM:M.length<=100000) (hs:small M) (hnn:nn<=100000000) (ha:inD d i.a) (hb:i.op=7->inD d i.b) (h67:i.op=6\/i.op=7) (hk:wg i.k) (hra:wg (zS d.zf i.a).n) (hsub:wg i.sub) (hok:∀a,Wu d i=some a->a.ok) :
  DC pu 60 [yB b,.pointer (some ⟨q,o,none⟩),i.val] h (λv h'=>v=CP M i (zS d.zf i.b) (Wu d i) /\ ∃lk',Sat lo h' [pt b (xK p mb (sC S (Wu d i)) ev lk' wv sv gv ltl),yW 74 3 lk' ((sC S (Wu d i)).lk.map wk),kU mb (Fe M i (zS d.zf i.b) (Wu d i)) (nn+1)]):=by
 apply Hr;unfold Hq yB;simp only[EE,Value.cells,zw,Ys,y5,jv];refine uL s λb5 h2 s2=>?_;simp only[];refine uL s2 λb6 h4 s4=>?_;have g5:=(s4.p 1).get;obtain⟨cs,t,gq,kq,rb,ro,rc,c,t',rfl,hrb,hgr,hlr,htr,_⟩:=Nr (T.at s4) ha;have i1:=ha.1;have i2:=ha.2;simp only[EE,aad,ya,zw,xi,zj,zh,xC,vI,X4,g5,gq,kq,i1,i2,hgr,hlr,htr];refine CJ (Z0 i.k _) ?_;refine CJ (MC (op:=11) (a:=zS d.zf i.a) (b:=u6 i.k) hra hk _) ?_;unfold wQ
 have no:Wu d i=none->∀H,Sat lo H [pt b (xK p mb S ev lk wv sv gv ltl),yW 74 3 lk (S.lk.map wk),kU mb M nn]->(Value.tuple #[vv v0,.bool false])=CP M i (zS d.zf i.b) (Wu d i) /\ ∃lk',Sat lo H [pt b (xK p mb (sC S (Wu d i)) ev lk' wv sv gv ltl),yW 74 3 lk' ((sC S (Wu d i)).lk.map wk),kU mb (Fe M i (zS d.zf i.b) (Wu d i)) (nn+1)]:=by
  intro e H z;rw[e];exact⟨rfl,lk,((bR (z.p 2) (abr nn)).f [1,2,0])⟩
 cases hbin:yF 11 (zS d.zf i.a) (u6 i.k) with
 |none=>
  have e:Wu d i=none:=by unfold Wu;rw[hbin]
  simp only[EE,Value.cells,y5,lj,aca,aa6,vv,v0];refine uL s4 λb8 h8 s8=>?_;simp only[EE,Nat.reduceAdd,zo];refine yw s8 (by simp) rfl λh9 s9=>?_;simp only[EE,Nat.reduceAdd,zo,zN,lg,aF];refine yw (s9.p 1) (by simp) rfl λh10 s10=>?_;have g10:=s10.get;simp only[EE,zb,aad,Nat.reduceAdd,ya,zh,g10];exact no e _ (s10.k [3,4,5])
 |some a=>
  simp only[EE,Value.cells,y5,lj,abG,abd,vv];refine uL s4 λb8 h8 s8=>?_;simp only[EE,Nat.reduceAdd,zo];refine yw s8 (by simp) rfl λh9 s9=>?_;have g9:=s9.get;by_cases hk2:¬a.k=2
  ·have e:Wu d i=none:=by unfold Wu;rw[hbin];simp[hk2]
   simp only[EE,zb,Nat.reduceAdd,zw,zj,zo,zN,zQ,lg,aF,g9,hk2];refine yw (s9.p 1) (by simp) rfl λh10 s10=>?_;have g10:=s10.get;simp only[EE,zb,aad,Nat.reduceAdd,ya,zh,g10];exact no e _ (s10.k [3,4,5])
  have hk2:a.k=2:=acf.1 hk2;have e:Wu d i=some a:=by unfold Wu;rw[hbin];simp[hk2]
  have aok:=hok a e;rw[e];simp only[EE,zb,Nat.reduceAdd,zw,xi,zj,zQ,yf,xJ,Aw,aF,g9,hk2];obtain⟨lo1,l1,s5,fr⟩:=(s9.f [3,4]).call (L2:=[pt b (xK p mb S ev lk wv sv gv ltl),yW 74 3 lk (S.lk.map wk)]);refine CK (F5 s5 hL 2 a.b a.n) ?_;rintro v h10 ⟨lk',s6⟩;have s7:=fr _ _ s6;have g8':=(s7.p 2).get;have g5':=(s7.p 4).get;have gm:=s7.get;unfold xK yB xf at gm;rcases h67 with h6|h7
  ·simp only[EE,zb,aad,Nat.reduceAdd,ya,zw,zj,Bd,zh,zA,yi,bX,Au,lh,g8',g5',gm,h6,hk2];obtain⟨lv,pv,bvs,bl,ps,x,hps,D⟩:=UK (s7.p 5);have L:=zeC D.dv x hM hs (by omega) (c:=i.sub) (p:=a) hsub aok;unfold vv yB at L;rw[hk2]at L;refine CJ L ?_;unfold wQ;simp only[EE,Nat.reduceAdd,zo,At];refine yw (s7.p 3) (by simp) rfl λh11 s11=>?_;have g11:=s11.get;simp only[EE,zb,aad,Nat.reduceAdd,ya,zh,g11];refine⟨by simp only[CP,aai h6];rfl,lk',?_⟩;rw[show Fe M i (zS d.zf i.b) (some a)=M by simp only[Fe,aai h6]];have s12:=s11.k [1,2,5];exact(bR (s12.p 2) (abr nn)).f [1,2,0]
  ·have hib:=hb h7;have h6:¬i.op=6:=by omega
   obtain⟨cs2,t2,gq2,kq2,rb2,ro2,rc2,c2,t2',er,hrb2,hgr2,hlr2,htr2,_⟩:=Nr (T.at s7) hib;simp only[aba,aab,abv,abc,abP]at er;obtain⟨⟨rfl,rfl⟩,rfl⟩:=er;have j1:=hib.1;have j2:=hib.2;simp only[EE,zb,aad,Nat.reduceAdd,Int.reduceEq,ya,zw,zj,Bd,Ys,zh,zN,jv,zA,yi,qD,bX,X4,Av,lh,g8',g5',gm,h7,hk2,gq2,kq2,j1,j2,hgr2,hlr2,htr2];obtain⟨lo2,l2,s8',fr2⟩:=(s7.f [5]).call (L2:=[kU mb M nn]);have ST:=zc6 s8' hM hs hnn (c:=i.sub) (p:=a) (v:=zS d.zf i.b) hsub aok;unfold vv yB at ST;rw[hk2]at ST;refine Iu ST ?_;rintro r h11 ⟨rfl,s9'⟩;have s10:=fr2 _ _ s9';simp only[EE,Nat.reduceAdd,zo];refine yw (s10.p 4) (by simp) rfl λh12 s12=>?_;have g12:=s12.get;simp only[EE,zb,aad,Nat.reduceAdd,ya,zh,g12];refine⟨by simp only[CP,aac h6];rfl,lk',?_⟩;rw[show Fe M i (zS d.zf i.b) (some a)=(wR M i.sub a (zS d.zf i.b)).getD M by simp only[Fe,aac h6]];exact s12.k [2,3,1]
def uo(n:Nat)(l:List V):List V:=l++List.replicate (n-l.length) v0
theorem JR{n:Nat}{l:List V}(h:l.length<=n):(uo n l).length=n:=by unfold uo;simp;omega
theorem zaZ{n:Nat}{l:List V}{r:Int}(hr:r<n):zS (uo n l) r=zS l r:=by
 unfold zS uo;by_cases h0:r<0
 ·rw[aai h0,aai h0]
 ·rw[aac h0,aac h0,aaA,aaA,ab9];split
  ·rfl
  ·rename_i q;rw[abZ,aal (l:=l) (by omega)];split <;> rfl
theorem Gq{n:Nat}{l:List V}{r:Int}{v:V}(h0:0<=r)(h1:r<n)(hl:l.length<=n):(uo n l).set r.toNat v=uo n (um l r v):=by
 have hs:(um l r v).length=max l.length (r.toNat+1):=by
  unfold um;rw[aac (by omega)];simp;omega
 apply aa9;intro j;unfold uo;rw[hs];unfold um;rw[aac (by omega),ab0,ab9,ab9,ab0,ab9,abZ,abZ,abZ];simp only[abS,abM,aaW];by_cases e:r.toNat=j
 ·subst e;rw[aai rfl,aai (by omega),aai (by omega),aai rfl,aai (by omega)]
 ·rw[aac e,aac e];by_cases q1:j<l.length
  ·rw[aai q1,aai (by omega),aai q1]
  ·rw[aac q1,aac q1];by_cases q2:j<l.length+(r.toNat+1-l.length)
   ·rw[aai q2,aai (by omega),aai (by omega)]
   ·rw[aac q2];by_cases q3:j<n
    ·rw[aai (by omega),aai (by omega)]
    ·rw[aac (by omega),aac (by omega)]
theorem Pn(n:Nat):uo n []=List.replicate n v0:=by unfold uo;simp
theorem RU{h:za}{sv:aaa}{rows:List (List aaa)}(S:zE h sv 5 rows)(r:TypeId)(h':za):zv pu .len [62] r [sv] h'=some (pm rows.length,h'):=by
 rcases S with⟨rfl,rfl⟩|⟨b,off,cp,rfl,_⟩
 ·simp only[zbg,aaz]
 ·simp only[zbg]
variable {rvs:List aaa}{ds:List sW}{av:aaa}{args:List V}{k:Nat}{f:Go.Rtl.Fn}{dst:Int}
theorem OU(hp:Rd lo (wG · p))(ha:Rd lo (zE · av 3 (args.map V.zY)))(s:Sat lo h [pt b (xK p mb S ev lk wv sv gv ltl),yW 116 5 sv (qS rvs ds),kU mb M nn])
  (hf:p.funcs[k]? = some f) (hl:args.length=f.params.length) (hds:rvs.length=ds.length) (hmany:ds.length<=1000000) (hr:∀r,r∈f.params->0<=r/\r<f.zf) (hregs:0<=f.zf/\f.zf<=100000) (hpl:f.params.length<=100000) :
  DC pu 27 [yB b,pm (k:Nat),av,pm dst] h (λ_ h'=>
   if (zV M f.frame).2.2=0/\ds.length<20000 then ∃rv sv',Sat lo h' [pt b (xK p mb S ev lk wv sv' gv ltl),yW 116 5 sv' (qS rvs ds++[kL rv ⟨k,f.entry,uo f.zf.toNat (wt f.params args []),(zV M f.frame).2.1,dst⟩]),kU mb (zV M f.frame).1 nn,yW 69 3 rv ((uo f.zf.toNat (wt f.params args [])).map V.zY)]
   else Sat lo h' [pt b (xK p mb {S with kind:=3} ev lk wv sv gv ltl)]):=by
 apply lz;unfold mQ yB;have gm:=s.get;unfold xK yB at gm;have hP:=hp.at s;obtain⟨bf,o,cf,tf,hix,hbf,hgf,hof,htf,hkf⟩:=zE.eY hP.funcs (i:=k) (r:=f.row) (by rw[aaq,hf];rfl) rfl;have fvn:=hP.funcs.wO;have fm:=aau hf;have F:=hP.fns f fm;have pn:=F.params.wO;have pc:=F.params.iH;have cn:=F.code.wO;have cc:=F.code.iH;have htf':(cf.drop o).take 6=[.string f.nm,f.pv,pm f.zf,pm f.frame,pm f.entry,f.cv]:=htf;simp only[EE,Value.cells,aad,ya,zw,ur,sd,Eb,xB,O0,gm,hix,hgf,hof,htf'];refine uL s λb8 h2 s2=>?_;simp only[EE,Nat.reduceAdd,OF];refine yw s2 (by simp) (by simp[pc,cc];exact⟨rfl,rfl,rfl,rfl⟩) λh3 s3=>?_;have g8:=s3.get;have gm3:=(s3.p 1).get;unfold xK yB at gm3;simp only[EE,zb,Nat.reduceAdd,zw,zj,Bd,kJ,bX,g8,gm3,zb];obtain⟨lo1,l1,s4,fr⟩:=(s3.f [3]).call (L2:=[kU mb M nn]);refine Iu (OA s4 f.frame) ?_;rintro v h5 ⟨rfl,s5⟩;have s6:=fr _ _ s5;have g8:=(s6.p 1).get;have gm6:=(s6.p 2).get;unfold xK yB at gm6;have SK:=yY (s6.p 3) (iC _ _);have kn:=SK.wO;have kl:=RU SK 3;rw[ZS hds]at kl
 have stuck:∀H,Sat lo H [pt b (xK p mb {S with kind:=3} ev lk wv sv gv ltl)]->¬((zV M f.frame).2.2=0/\ds.length<20000)->if (zV M f.frame).2.2=0/\ds.length<20000 then ∃rv sv',Sat lo H [pt b (xK p mb S ev lk wv sv' gv ltl),yW 116 5 sv' (qS rvs ds++[kL rv ⟨k,f.entry,uo f.zf.toNat (wt f.params args []),(zV M f.frame).2.1,dst⟩]),kU mb (zV M f.frame).1 nn,yW 69 3 rv ((uo f.zf.toNat (wt f.params args [])).map V.zY)]
   else Sat lo H [pt b (xK p mb {S with kind:=3} ev lk wv sv gv ltl)]:=λH z q=>by rw[aac q];exact z
 by_cases e1:¬(zV M f.frame).2.2=0
 ·simp only[EE,Ws,jY,YN,Ut,WL,gU,gV,aW,e1];refine yw (s6.p 2) (by simp) rfl λh7 s7=>?_;simp only[Gj];exact stuck _ (s7.zO 1) (λq=>e1 q.1)
 have e1:(zV M f.frame).2.2=0:=acf.1 e1;by_cases e2:(ds.length:Int) ≥ 20000
 ·simp only[EE,zw,iR,Ws,jY,YN,Vu,Ut,WL,gU,gV,aW,e1,gm6,kn,kl,e2];refine yw (s6.p 2) (by simp) rfl λh7 s7=>?_;simp only[Gj];exact stuck _ (s7.zO 1) (λq=>by omega)
 simp only[aai (show(zV M f.frame).2.2=0/\ds.length<20000 from⟨e1,by omega⟩)];clear stuck;generalize hA:(zV M f.frame).1=M' at *
 generalize hB:(zV M f.frame).2.1=rB at *
 have mk:=zf9 .i64 .i64 f.zf f.zf h5 (by omega) (Int.le_refl _) (by omega)
 have hz:qO [(pm 0:aaa),pm 0,pm 0] (f.zf.toNat*3)=((uo f.zf.toNat []).map V.zY).flatten:=by
  rw[Pn,List.map_replicate];exact zgz [(pm 0:aaa),pm 0,pm 0] (by decide) f.zf.toNat
 have zl:uo f.zf.toNat []=List.replicate f.zf.toNat v0:=Pn _;simp only[EE,↓BK,zb,Nat.reduceAdd,zw,zj,iR,wi,Vu,Uv,WL,gU,gV,aW,e1,gm6,kn,kl,e2,g8,mk];rw[hz];have s7:=Zn (n:=3) (c:=f.zf.toNat+2) (ty:=69) (by omega) (wP _) rfl (s6.push (.cells ((uo f.zf.toNat []).map V.zY).flatten 69));rw[aaf,JR (aa8 _)]at s7;generalize h5.push (.cells ((uo f.zf.toNat []).map V.zY).flatten 69)=H at s7 ⊢;generalize h5.next=b0 at s7 ⊢;have an:=(ha.at s7).wO;have al:=zbd (ha.at s7) 3;refine qQ (λr vs h'=>∃j:Nat,j<=args.length/\r=args.length-j/\vs=[pm j]/\Sat lo h' [yW 69 3 (.slice (some ⟨b0,0,none⟩) f.zf.toNat (f.zf.toNat+2)) ((uo f.zf.toNat (wt (f.params.take j) args [])).map V.zY),kU mb M' nn,pt b8 (.cells [.string f.nm,f.pv,pm f.zf,pm f.frame,pm f.entry,f.cv] 45),pt b (xK p mb S ev lk wv sv gv ltl),yW 116 5 sv (qS rvs ds)]) args.length ⟨0,aa8 _,rfl,rfl,by rw[acI,show wt [] args []=[] by cases args <;> rfl];exact s7⟩ ?_;rintro r vs h' ⟨j,hj,rfl,rfl,s8⟩;have hgl:(wt (f.params.take j) args []).length<=f.zf.toNat:=Xt _ _ _ (by simp) λr hr'=>by have:=hr r (List.mem_of_mem_take hr');omega
 by_cases hc2:(j:Int)<(args.length:Int)
 ·obtain⟨w,hr1⟩:∃w,f.params[j]? = some w:=⟨_,aae (by omega)⟩;obtain⟨a,ha1⟩:∃a,args[j]? = some a:=⟨_,aae (by omega)⟩;obtain⟨b5,o5,c5,t5,ix5,lt5,g5,k5⟩:=((hp.at s8).fns f fm).params.at hr1;obtain⟨b6,o6,c6,t6,⟨off6,cp6,hav,rfl⟩,hi6,hb6,hg6,hl6,ht6,_⟩:=(ha.at s8).spot (i:=j) (r:=a.zY) (by rw[aaq,ha1];rfl) rfl;subst hav;have hi7:(0:Int)<=j:=by omega
  have ht6':(c6.drop (off6+j*3)).take 3=[pm a.k,pm a.n,pm a.b]:=ht6;have g8':=(s8.p 2).get;have hw:=hr w (aau hr1);obtain⟨z1,z2,z3,z4,gb,wb,lb,s9⟩:=YS s8 (wP _) (i:=w.toNat) (by rw[aaf,JR hgl];omega);rw[aaf,JR hgl]at z4;simp only[aba,aab,abv,abc,abP]at z4;obtain⟨rfl,rfl⟩:=z4;have hw2:w<(f.zf.toNat:Int):=by omega
  rw[aaf]at al hi6 ⊢;have w0:=hw.1;simp only[EE,nth,↓BK,aad,Nat.reduceAdd,ya,zw,yV,zj,zh,zo,uP,X4,Ji,Jj,Uu,al,hc2,g8',ix5,g5,k5,hi7,hg6,hl6,ht6',w0,hw2,aax];refine Vz gb wb lb s9 rfl rfl λh9 s10=>?_;simp only[EE,nth,inc (show j<4611686018427387904 by omega)];refine⟨args.length-(j+1),by omega,j+1,by omega,rfl,rfl,?_⟩;have hlen:(f.params.take j).length=j:=by simp;omega
  have e3:wt (f.params.take (j+1)) args []=um (wt (f.params.take j) args []) w a:=by
   rw[ab1,hr1];exact fE _ _ _ _ _ (by omega) (by rw[hlen];exact ha1)
  have e4:((uo f.zf.toNat (wt (f.params.take j) args [])).map V.zY).set w.toNat [pm a.k,pm a.n,pm a.b]=(uo f.zf.toNat (wt (f.params.take (j+1)) args [])).map V.zY:=by
   rw[e3,<- Gq w0 hw2 hgl,ab4];rfl
  rw[<- e4];exact s10
 ·have hj2:j=args.length:=by omega
  subst hj2;rw[hl,acj]at s8;have g8':=(s8.p 2).get;have gm8:=(s8.p 3).get;unfold xK yB at gm8;have s9:=s8.push (.cells [pm k,pm f.entry,.slice (some ⟨b0,0,none⟩) f.zf.toNat (f.zf.toNat+2),pm rB,pm dst] 116);obtain⟨b',c',h2,a1,s10⟩:=jz (s9.p 5) (iC _ _) [pm k,pm f.entry,.slice (some ⟨b0,0,none⟩) f.zf.toNat (f.zf.toNat+2),pm rB,pm dst] rfl (by decide) 56 (by rw[ZS hds];omega);rw[ZS hds]at a1 s10
  have hap:∀r,zv pu .append [62,62] r [sv,.slice (some ⟨h'.next,0,none⟩) 1 3] (h'.push (.cells [pm k,pm f.entry,.slice (some ⟨b0,0,none⟩) f.zf.toNat (f.zf.toNat+2),pm rB,pm dst] 116))=some (.slice (some ⟨b',0,none⟩) (ds.length+1) c',h2):=λr=>by
   rw[zfL r _ _ 1 [pm k,pm f.entry,.slice (some ⟨b0,0,none⟩) f.zf.toNat (f.zf.toNat+2),pm rB,pm dst] _ rfl (by simp only[wJ,zk];rfl) rfl rfl];exact a1
  simp only[EE,nth,zw,zj,iR,zac,pL,Rr,Xf,Vu,Uu,Jk,an,al,hc2,gm8,g8',kn,hap];refine yw (s10.p 5) (by simp) rfl λh11 s11=>?_;simp only[Gj];exact⟨.slice (some ⟨b0,0,none⟩) f.zf.toNat (f.zf.toNat+2),.slice (some ⟨b',0,none⟩) (ds.length+1) c',s11.k [0,1,4,3]⟩
end
end Go.Dm
