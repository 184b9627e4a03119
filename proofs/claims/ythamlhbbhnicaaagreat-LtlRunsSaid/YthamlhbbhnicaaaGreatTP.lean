/- A part of the proof. -/
import Derived.Test.YthamlhbbhnicaaaGreatTO
import Derived.Test.YthamlhbbhnicaaaGreatTN
set_option linter.unusedVariables false
set_option linter.unusedSimpArgs false
set_option maxRecDepth 100000
namespace Go.Dm
open Go.Ai Go.Proofs Go.Mem Go.Rm
theorem KW(v:V)(h:za):yO pu 79 [vv v] h (.bool (kN v)):=by
 apply vz rfl;obtain⟨k,n,b⟩:=v;apply mU;unfold oE kN;by_cases h0:k=0
 ·subst h0;by_cases hn:n=0
  ·simp only[EE,↓nw,Value.cells,↓BK,aad,abe,Int.reduceEq,zA,abU,xp,zj,zP,yf,xM,rW,rY,U2,hn];rfl
  ·simp only[EE,↓nw,Value.cells,↓BK,aad,abe,Int.reduceEq,zA,xp,zj,zP,yf,rW,rY,U2,hn];simp[WN,hn]
 ·by_cases h1:k=1
  ·subst h1;simp only[EE,↓nw,Value.cells,↓BK,aad,abe,zA,zj,zP,xM,E5,i0,U2,h0];rfl
  ·by_cases h2:k=2
   ·subst h2;simp only[EE,↓nw,Value.cells,↓BK,abe,zA,abU,zj,zP,xM,E4,rX,i0,U2,h0,h1];rfl
   ·simp only[EE,↓nw,Value.cells,↓BK,abe,zA,zj,zP,rX,i0,U2,h0,h1,h2];simp[WN,h2]
theorem Yj(n:Int)(h:za):yO pu 22 [pm n] h (vv (qj n)):=by
 apply vz rfl;apply zei;unfold zhJ;simp only[EE,↓nw,Value.cells,zb,aad,Nat.reduceAdd,yJ,zZ,zi,zo,y7,F8];rfl
theorem Me(b n:Int)(h:za):yO pu 50 [pm b,pm n] h (vv (AW b n)):=by
 apply vz rfl;apply zeg;unfold zhH AW;by_cases h1:b<1
 ·simp only[EE,↓nw,Value.cells,zb,aad,Nat.reduceAdd,yJ,zZ,zi,zo,y7,zM,h1];rfl
 ·simp only[EE,↓nw,Value.cells,zb,aad,abe,Nat.reduceAdd,yJ,zZ,zi,zo,y7,Mk,zbh,h1];rfl
theorem eQ(b:Bool)(h:za):yO pu 82 [.bool b] h (vv (qW b)):=by
 apply vz rfl;apply zbu;unfold zft qW;cases b with
 |true=>
  simp only[EE,↓nw,Value.cells,y7,Rq];refine yq (Yj 1 _) ?_;simp only[EE,zb,aad,Nat.reduceAdd,yJ,zZ,zi,zo];rfl
 |false=>
  simp only[EE,↓nw,Value.cells,y7,Rr];refine yq (Yj 0 _) ?_;simp only[EE,zb,aad,Nat.reduceAdd,yJ,zZ,zi,zo];rfl
theorem uK{a b c:aaa}{h:za}{R:aaa->za->Prop}(ha:zV a=false)(hb:zV b=false)(hc:zV c=false):rv [a,b,c] h R=R (.tuple #[a,b,c]) h:=by
 apply propext;simp only[rv,yC,ha,hb,hc,aaK,ZI,abQ]
theorem zgi{a b c:aaa}(ha:zV a=false)(hb:zV b=false)(hc:zV c=false):Yk (.tuple #[a,b,c]) 0=some a:=(ic (by simp only[yC,ha,hb,hc,aaK])).trans rfl
theorem zgj{a b c:aaa}(ha:zV a=false)(hb:zV b=false)(hc:zV c=false):Yk (.tuple #[a,b,c]) 1=some b:=(ic (by simp only[yC,ha,hb,hc,aaK])).trans rfl
theorem zgk{a b c:aaa}(ha:zV a=false)(hb:zV b=false)(hc:zV c=false):Yk (.tuple #[a,b,c]) 2=some c:=(ic (by simp only[yC,ha,hb,hc,aaK])).trans rfl
theorem zcL(a:Int)(h:za):yO pu 80 [pm a,.int .u64 8] h (pm (Go.Rm.ui (IntKind.wrap .i8 a))):=by
 apply vz rfl;apply IM;unfold zbj;have e:IntKind.wrap .i64 (BitVec.ofInt (IntKind.bits .i64) a &&& BitVec.ofInt (IntKind.bits .i64) 255).toNat=a%256:=pE a 8 (by decide);have w1:IntKind.wrap .i64 (1*2^(min 8 (IntKind.bits .i64)))=256:=by decide
 have w2:IntKind.wrap .i64 255=255:=by decide
 have w3:IntKind.wrap .u64 7=7:=by decide
 have w4:IntKind.wrap .i64 (1*2^(min 7 (IntKind.bits .i64)))=128:=by decide
 have x:(if a%256 ≥ 128 then a%256-256 else a%256)=Go.Rm.ui (IntKind.wrap .i8 a):=zeC a;simp only[EE,Int.reduceLE,Int.reduceSub,Int.reduceToNat,w1,w2,w3,w4,e];by_cases c:a%256 ≥ 128
 ·have w5:IntKind.wrap .i64 (a%256-256)=a%256-256:=Eh ⟨by omega,by omega⟩;simp only[EE,Int.reduceLE,Int.reduceToNat,G3,c,w1,w5];rw[aai c]at x;rw[<- x];rfl
 ·simp only[EE,c];rw[aac c]at x;rw[<- x];rfl
theorem Sq(a:Int)(h:za):yO pu 80 [pm a,.int .u64 32] h (pm (Go.Rm.ui (IntKind.wrap .i32 a))):=by
 apply vz rfl;apply IM;unfold zbj;have e:IntKind.wrap .i64 (BitVec.ofInt (IntKind.bits .i64) a &&& BitVec.ofInt (IntKind.bits .i64) 4294967295).toNat=a%4294967296:=pE a 32 (by decide);have w1:IntKind.wrap .i64 (1*2^(min 32 (IntKind.bits .i64)))=4294967296:=by decide
 have w2:IntKind.wrap .i64 4294967295=4294967295:=by decide
 have w3:IntKind.wrap .u64 31=31:=by decide
 have w4:IntKind.wrap .i64 (1*2^(min 31 (IntKind.bits .i64)))=2147483648:=by decide
 have x:(if a%4294967296 ≥ 2147483648 then a%4294967296-4294967296 else a%4294967296)=Go.Rm.ui (IntKind.wrap .i32 a):=zcK a;simp only[EE,Int.reduceLE,Int.reduceSub,Int.reduceToNat,w1,w2,w3,w4,e];by_cases c:a%4294967296 ≥ 2147483648
 ·have w5:IntKind.wrap .i64 (a%4294967296-4294967296)=a%4294967296-4294967296:=Eh ⟨by omega,by omega⟩;simp only[EE,Int.reduceLE,Int.reduceToNat,G3,c,w1,w5];rw[aai c]at x;rw[<- x];rfl
 ·simp only[EE,c];rw[aac c]at x;rw[<- x];rfl
theorem zd0(a:Int):Z7 pu .neg (.int .u64 a)=some (.int .u64 (wu (0-a))):=rfl
theorem zfi(n:Int):Go.Rm.ui (wu n)=Go.Rm.ui n:=by
 rw[Eg,Eg,Ei]
 congr 1
 apply BitVec.eq_of_toNat_eq;simp only[BitVec.toNat_ofInt];omega
theorem Is{a:Int}(h:wD a)(n:a<0):wu (0-wu a) = -a:=by
 obtain⟨h1,h2⟩:=h;rw[Ei,Ei];omega
theorem Tk{a:Int}(h:wD a)(n:¬a<0):wu a=a:=by
 obtain⟨h1,h2⟩:=h;rw[Ei];omega
theorem Bp{x y:Int}(h0:0<=x)(hx:x<=9223372036854775808)(hy:0<y):¬y=0/\wu (x.tdiv y)=x.tdiv y/\wu (x.tdiv y*y)=x.tdiv y*y/\wu (x-x.tdiv y*y)=x.tmod y/\0<=x.tmod y/\x.tmod y<y:=by
 rw[acu h0,abx h0];have e:=Int.mul_ediv_add_emod x y;rw[Int.mul_comm]at e;have m0:=Int.emod_nonneg x (show y≠0 by omega);have m1:=Int.emod_lt_of_pos x hy;have d0:0<=x/y:=Int.ediv_nonneg h0 (by omega);have d1:x/y<=x:=Int.ediv_le_self y h0;have d2:0<=x/y*y:=Int.mul_nonneg d0 (by omega);generalize x/y*y=z at e d2 ⊢;refine⟨by omega,?_,?_,?_,m0,m1⟩ <;> rw[Ei] <;> omega
def OF(a b:Int):Prop:=b=0\/(a = -9223372036854775808/\b = -1)
instance (a b:Int):Decidable (OF a b):=by unfold OF;infer_instance
def OG(a b:Int):aaa:=if OF a b then .tuple #[pm 0,pm 0,.bool false] else .tuple #[pm (Go.Rm.ui (a.tdiv b)),pm (a.tmod b),.bool true]
theorem bt:(true == false)=false:=rfl
theorem bf:(false == true)=false:=rfl
theorem zae{a b:Int}(ha:wD a)(hb:wD b)(h:za):yO pu 99 [pm a,pm b] h (OG a b):=by
 apply vz (by unfold OG;split <;> rfl);apply GZ;unfold E3;by_cases b0:b=0
 ·have e:OG a b=.tuple #[pm 0,pm 0,.bool false]:=aai (.inl b0);rw[e];simp only[EE,V8,V9,Ua,b0,uK];rfl
 by_cases am:a = -9223372036854775808/\b = -1
 ·have e:OG a b=.tuple #[pm 0,pm 0,.bool false]:=aai (.inr am);obtain⟨am,b1⟩:=am;rw[e];simp only[EE,Int.reduceEq,Int.reduceNeg,V8,V9,Ua,am,b1,uK];rfl
 have e:OG a b=.tuple #[pm (Go.Rm.ui (a.tdiv b)),pm (a.tmod b),.bool true]:=aac (by unfold OF;omega);rw[e]
 have go:XU (pm a) (pm b) (WN (.tuple #[pm (Go.Rm.ui (a.tdiv b)),pm (a.tmod b),.bool true])) [pm 0,pm 0,.bool false] h.lock:=by
  have ha1:=ha.1;have ha2:=ha.2;have hb1:=hb.1;have hb2:=hb.2;by_cases an:a<0 <;> by_cases bn:b<0
  ·obtain⟨q0,r0,q1,q2,q3,q4⟩:=Bp (x := -a) (y := -b) (by omega) (by omega) (by omega);have t1:a.tdiv b=(-a).tdiv (-b):=by rw[Int.neg_tdiv,Int.tdiv_neg,Int.neg_neg]
   have t2:a.tmod b = - ((-a).tmod (-b)):=by rw[Int.neg_tmod,Int.tmod_neg,Int.neg_neg]
   simp only[EE,nth,abU,jB,pO,SX,V4,V5,V6,V7,XU,an,bn,Is ha an,Is hb bn,q0,r0,q1,q2,uK];have z:IntKind.wrap .i64 (IntKind.wrap .u64 (0-(-a).tmod (-b)))=Go.Rm.ui (0-(-a).tmod (-b)):=zfi _;rw[Eh (n:=0-_) ⟨by omega,by omega⟩]at z;rw[t1,t2,z,Int.zero_sub];rfl
  ·obtain⟨q0,r0,q1,q2,q3,q4⟩:=Bp (x := -a) (y:=b) (by omega) (by omega) (by omega);have t1:a.tdiv b=0-(-a).tdiv b:=by rw[Int.neg_tdiv];omega
   have t2:a.tmod b = - ((-a).tmod b):=by rw[Int.neg_tmod,Int.neg_neg]
   simp only[EE,nth,jB,pO,SX,V4,V5,V6,V7,XU,an,bn,Is ha an,Tk hb bn,q0,r0,q1,q2,uK,bt];have z:IntKind.wrap .i64 (IntKind.wrap .u64 (0-(-a).tmod b))=Go.Rm.ui (0-(-a).tmod b):=zfi _;have z2:IntKind.wrap .i64 (IntKind.wrap .u64 (0-(-a).tdiv b))=Go.Rm.ui (0-(-a).tdiv b):=zfi _;rw[Eh (n:=0-_) ⟨by omega,by omega⟩]at z;rw[t1,t2,z,z2,Int.zero_sub,Int.zero_sub];rfl
  ·obtain⟨q0,r0,q1,q2,q3,q4⟩:=Bp (x:=a) (y := -b) (by omega) (by omega) (by omega);have t1:a.tdiv b=0-a.tdiv (-b):=by rw[Int.tdiv_neg];omega
   have t2:a.tmod b=a.tmod (-b):=by rw[Int.tmod_neg]
   simp only[EE,nth,jB,pO,SX,V4,V5,V6,V7,XU,an,bn,Tk ha an,Is hb bn,q0,r0,q1,q2,uK,bf];have z:IntKind.wrap .i64 (a.tmod (-b))=_:=Eh (n:=a.tmod (-b)) ⟨by omega,by omega⟩;have z2:IntKind.wrap .i64 (IntKind.wrap .u64 (0-a.tdiv (-b)))=Go.Rm.ui (0-a.tdiv (-b)):=zfi _;rw[t1,t2,z,z2];rfl
  ·obtain⟨q0,r0,q1,q2,q3,q4⟩:=Bp (x:=a) (y:=b) (by omega) (by omega) (by omega);simp only[EE,nth,abU,jB,pO,SX,V4,V5,V6,V7,XU,an,bn,Tk ha an,Tk hb bn,q0,r0,q1,q2,uK];have z:IntKind.wrap .i64 (a.tmod b)=_:=Eh (n:=a.tmod b) ⟨by omega,by omega⟩;rw[z];rfl
 by_cases am2:a = -9223372036854775808
 ·have b1:¬b = -1:=λe=>am ⟨am2,e⟩;simp only[EE,Int.reduceNeg,V8,V9,Ua,b0,am2,b1];rw[am2]at go;exact go
 ·simp only[EE,Int.reduceNeg,V8,V9,Ua,b0,am2];exact go
theorem OH(a b:Int):∃q r ok,OG a b=.tuple #[pm q,pm r,.bool ok]/\(if OF a b then ok=false else q=Go.Rm.ui (a.tdiv b)/\r=a.tmod b/\ok=true):=by
 unfold OG;split
 ·exact⟨_,_,_,rfl,rfl⟩
 ·exact⟨_,_,_,rfl,rfl,rfl,rfl⟩
theorem zeQ{op a b:Int}(ha:wD a)(hb:wD b)(h:za):yO pu 81 [pm op,pm a,pm b] h (wW (uk op a b)):=by
 apply vz rfl;apply sM;unfold Cv;obtain⟨q,r,ok,e,hq⟩:=OH a b;simp only[EE,↓nw,Value.cells,y7];refine yq (by have:=zae ha hb (h.lock.push (.cells [pm 0,pm 0,pm 0] 66));rw[e]at this;exact this) ?_;simp only[EE,↓BK,zgi,zgj,zgk];by_cases o11:op=11
 ·subst o11;simp only[EE,xE,ya];refine yq (Yj (Go.Rm.ui (a+b)) _) ?_;simp only[EE,zb,aad,Nat.reduceAdd,yJ,zZ,zi,zo];rfl
 by_cases o12:op=12
 ·subst o12;simp only[EE,Int.reduceEq,xH,xP,ya];refine yq (Yj (Go.Rm.ui (a-b)) _) ?_;simp only[EE,zb,aad,Nat.reduceAdd,yJ,zZ,zi,zo];rfl
 by_cases o13:op=13
 ·subst o13;simp only[EE,Int.reduceEq,wY,xW,xP,ya];refine yq (Yj (Go.Rm.ui (a*b)) _) ?_;simp only[EE,zb,aad,Nat.reduceAdd,yJ,zZ,zi,zo];rfl
 by_cases o14:op=14
 ·subst o14;by_cases c:OF a b
  ·rw[aai c]at hq;subst hq;simp only[EE,nth,zb,aad,Nat.reduceAdd,Int.reduceEq,yJ,zZ,zi,zo,zM,WG,y8,x9,xW,xP,ya,yc];have:uk 14 a b=none:=by unfold uk;rw[aac (by decide),aac (by decide),aac (by decide),aai (.inl rfl),aai (show b=0\/(a = -9223372036854775808/\b = -1) from c)]
   rw[this];rfl
  ·rw[aac c]at hq;obtain⟨rfl,rfl,rfl⟩:=hq;simp only[EE,nth,zb,Nat.reduceAdd,Int.reduceEq,yJ,zo,zM,QC,QD,y8,x9,xW,xP,ya,yc];refine yq (Yj _ _) ?_;simp only[EE,zb,aad,Nat.reduceAdd,yJ,zZ,zi,zo];have:uk 14 a b=some (qj (Go.Rm.ui (a.tdiv b))):=by unfold uk;rw[aac (by decide),aac (by decide),aac (by decide),aai (.inl rfl),aac (show ¬(b=0\/(a = -9223372036854775808/\b = -1)) from c),aai rfl]
   rw[this];rfl
 by_cases o15:op=15
 ·subst o15;by_cases c:OF a b
  ·rw[aai c]at hq;subst hq;simp only[EE,nth,zb,aad,Nat.reduceAdd,Int.reduceEq,yJ,zZ,zi,zo,zM,WG,y8,x9,xW,xP,ya,yc];have:uk 15 a b=none:=by unfold uk;rw[aac (by decide),aac (by decide),aac (by decide),aai (.inr rfl),aai (show b=0\/(a = -9223372036854775808/\b = -1) from c)]
   rw[this];rfl
  ·rw[aac c]at hq;obtain⟨rfl,rfl,rfl⟩:=hq;simp only[EE,nth,zb,Nat.reduceAdd,Int.reduceEq,yJ,zo,zM,QC,QD,y8,x9,xW,xP,ya,yc];refine yq (Yj _ _) ?_;simp only[EE,zb,aad,Nat.reduceAdd,yJ,zZ,zi,zo];have:uk 15 a b=some (qj (a.tmod b)):=by unfold uk;rw[aac (by decide),aac (by decide),aac (by decide),aai (.inr rfl),aac (show ¬(b=0\/(a = -9223372036854775808/\b = -1)) from c),aac (by decide)]
   rw[this];rfl
 by_cases o16:op=16
 ·subst o16;simp only[EE,nth,zb,Nat.reduceAdd,Int.reduceEq,yJ,zo,zM,vV,yV,y8,x9,xW,xP,ya,yc];refine yq (Yj (WZ (· &&& ·) a b) _) ?_;simp only[EE,zb,aad,Nat.reduceAdd,yJ,zZ,zi,zo];rfl
 by_cases o17:op=17
 ·subst o17;simp only[EE,nth,zb,Nat.reduceAdd,Int.reduceEq,yJ,zo,zM,uv,vy,yV,y8,x9,xW,xP,ya,yc];refine yq (Yj (WZ (· ||| ·) a b) _) ?_;simp only[EE,zb,aad,Nat.reduceAdd,yJ,zZ,zi,zo];rfl
 by_cases o18:op=18
 ·subst o18;have x:IntKind.wrap .i64 (IntKind.wrap .i64 (BitVec.ofInt (IntKind.bits .i64) a ||| BitVec.ofInt (IntKind.bits .i64) b).toNat-IntKind.wrap .i64 (BitVec.ofInt (IntKind.bits .i64) a &&& BitVec.ofInt (IntKind.bits .i64) b).toNat)=WZ (· ^^^ ·) a b:=xor_eq a b;simp only[EE,nth,zb,Nat.reduceAdd,Int.reduceEq,yJ,zo,zM,Ze,vU,vy,yV,y8,x9,xW,xP,ya,yc,x];refine yq (Yj (WZ (· ^^^ ·) a b) _) ?_;simp only[EE,zb,aad,Nat.reduceAdd,yJ,zZ,zi,zo];rfl
 by_cases o21:op=21
 ·subst o21;simp only[EE,nth,zb,Nat.reduceAdd,Int.reduceEq,yJ,zo,zM,Y6,uO,uu,vU,vy,yV,y8,x9,xW,xP,ya,yc];refine yq (eQ (decide (a=b)) _) ?_;simp only[EE,zb,aad,Nat.reduceAdd,yJ,zZ,zi,zo];rfl
 by_cases o22:op=22
 ·subst o22;simp only[EE,nth,zb,Nat.reduceAdd,Int.reduceEq,yJ,zo,zM,Wi,ZZ,uO,uu,vU,vy,yV,y8,x9,xW,xP,ya,yc];refine yq (eQ (!decide (a=b)) _) ?_;simp only[EE,zb,aad,Nat.reduceAdd,yJ,zZ,zi,zo];rfl
 by_cases o23:op=23
 ·subst o23;simp only[EE,nth,zb,Nat.reduceAdd,Int.reduceEq,yJ,zo,zM,Vi,Y5,ZZ,uO,uu,vU,vy,yV,y8,x9,xW,xP,ya,yc];refine yq (eQ (decide (a<b)) _) ?_;simp only[EE,zb,aad,Nat.reduceAdd,yJ,zZ,zi,zo];rfl
 by_cases o24:op=24
 ·subst o24;simp only[EE,nth,zb,Nat.reduceAdd,Int.reduceEq,yJ,zo,zM,Qa,Wh,Y5,ZZ,uO,uu,vU,vy,yV,y8,x9,xW,xP,ya,yc];refine yq (eQ (decide (a<=b)) _) ?_;simp only[EE,zb,aad,Nat.reduceAdd,yJ,zZ,zi,zo];rfl
 by_cases o25:op=25
 ·subst o25;simp only[EE,nth,zb,Nat.reduceAdd,Int.reduceEq,yJ,zo,zM,aA,Vh,Wh,Y5,ZZ,uO,uu,vU,vy,yV,y8,x9,xW,xP,ya,yc];refine yq (eQ (decide (b<a)) _) ?_;simp only[EE,zb,aad,Nat.reduceAdd,yJ,zZ,zi,zo];rfl
 by_cases o26:op=26
 ·subst o26;simp only[EE,nth,zb,Nat.reduceAdd,Int.reduceEq,yJ,zo,zM,ZY,U9,Vh,Wh,Y5,ZZ,uO,uu,vU,vy,yV,y8,x9,xW,xP,ya,yc];refine yq (eQ (decide (b<=a)) _) ?_;simp only[EE,zb,aad,Nat.reduceAdd,yJ,zZ,zi,zo];rfl
 by_cases o19:op=19
 ·subst o19;have is:uk 19 a b=if b<0\/63<b then none else some (qj (Go.Rm.ui (a*2^b.toNat))):=rfl;by_cases b0:b<0
  ·rw[is,aai (.inl b0)];simp only[EE,nth,zb,aad,Nat.reduceAdd,Int.reduceEq,yJ,zZ,zi,zo,zM,YH,ZX,Zd,qc,uu,vU,vy,yV,y8,x9,xW,xP,ya,yc,b0];rfl
  by_cases b1:63<b
  ·rw[is,aai (.inr b1)];simp only[EE,nth,zb,aad,Nat.reduceAdd,Int.reduceEq,yJ,zZ,zi,zo,zM,YH,ZX,Zd,qc,uu,vU,vy,yV,y8,x9,xW,xP,ya,yc,b0,b1];rfl
  rw[is,aac (by omega)];simp only[EE,nth,↓BK,zb,Nat.reduceAdd,Int.reduceEq,yJ,zo,zM,ZX,Zd,qc,uu,vU,vy,yV,y8,x9,xW,xP,ya,yc,b0,b1];refine qY (λm vs h'=>∃k:Nat,k<=b.toNat/\m=b.toNat-k/\vs=[pm (Go.Rm.ui (a*2^k)),pm k]/\h'=h.lock.push (.cells [pm 0,pm 0,pm 0] 66)) b.toNat ⟨0,aba _,rfl,by simp[Eh ha],rfl⟩ ?_;rintro m vs h' ⟨k,hk,rfl,rfl,rfl⟩;by_cases c:(k:Int)<b
  ·have e:IntKind.wrap .i64 (IntKind.wrap .i64 (a*2^k)+IntKind.wrap .i64 (a*2^k))=Go.Rm.ui (a*2^(k+1)):=zdO k;have e2:IntKind.wrap .i64 ((k:Int)+1)=((k+1:Nat):Int):=Go.Mem.ui (by omega) (by omega);simp only[EE,nth,↓BK,Zf,Zg,YI,c,e,e2];exact⟨b.toNat-(k+1),by omega,k+1,by omega,rfl,rfl⟩
  ·have:k=b.toNat:=by omega
   subst this;simp only[EE,nth,YI,aB,c];refine yq (Yj _ _) ?_;simp only[EE,zb,aad,Nat.reduceAdd,yJ,zZ,zi,zo];rfl
 by_cases o20:op=20
 ·subst o20;have is:uk 20 a b=if b<0\/63<b then none else some (qj (a.fdiv (2^b.toNat))):=rfl;by_cases b0:b<0
  ·rw[is,aai (.inl b0)];simp only[EE,nth,zb,aad,Nat.reduceAdd,Int.reduceEq,yJ,zZ,zi,zo,zM,YH,ZX,Zd,qc,uu,vU,vy,yV,y8,x9,xW,xP,ya,yc,b0];rfl
  by_cases b1:63<b
  ·rw[is,aai (.inr b1)];simp only[EE,nth,zb,aad,Nat.reduceAdd,Int.reduceEq,yJ,zZ,zi,zo,zM,YH,ZX,Zd,qc,uu,vU,vy,yV,y8,x9,xW,xP,ya,yc,b0,b1];rfl
  rw[is,aac (by omega)];simp only[EE,nth,↓BK,zb,Nat.reduceAdd,Int.reduceEq,yJ,zo,zM,ZX,Zd,qc,uu,vU,vy,yV,y8,x9,xW,xP,ya,yc,b0,b1];refine qY (λm vs h'=>∃k:Nat,k<=b.toNat/\m=b.toNat-k/\vs=[pm (a.fdiv (2^k)),pm k]/\h'=h.lock.push (.cells [pm 0,pm 0,pm 0] 66)) b.toNat ⟨0,aba _,rfl,by simp[Int.fdiv_one],rfl⟩ ?_;rintro m vs h' ⟨k,hk,rfl,rfl,rfl⟩;by_cases c:(k:Int)<b
  ·have e:IntKind.wrap .i64 ((IntKind.wrap .i64 (a.fdiv (2^k)-IntKind.wrap .i64 (BitVec.ofInt (IntKind.bits .i64) (a.fdiv (2^k)) &&& BitVec.ofInt (IntKind.bits .i64) 1).toNat)).tdiv 2)=a.fdiv (2^(k+1)):=(zdP (SF ha k)).trans (zaj a k);have e2:IntKind.wrap .i64 ((k:Int)+1)=((k+1:Nat):Int):=Go.Mem.ui (by omega) (by omega);simp only[EE,nth,↓BK,Int.reduceEq,ZN,Zf,Zg,YI,c,e,e2];exact⟨b.toNat-(k+1),by omega,k+1,by omega,rfl,rfl⟩
  ·have:k=b.toNat:=by omega
   subst this;simp only[EE,nth,YI,aB,c];refine yq (Yj _ _) ?_;simp only[EE,zb,aad,Nat.reduceAdd,yJ,zZ,zi,zo];rfl
 simp only[EE,nth,zb,aad,Nat.reduceAdd,yJ,zZ,zi,zo,zM,U9,Vh,Wh,Y5,ZZ,uO,uu,vU,vy,yV,y8,x9,xW,xP,ya,yc,o11,o12,o13,o14,o15,o16,o17,o18,o19,o20,o21,o22,o23,o24,o25,o26]
 have:uk op a b=none:=by
  unfold uk;rw[aac o11,aac o12,aac o13,aac (by omega),aac o16,aac o17,aac o18,aac (by omega),aac o21,aac o22,aac o23,aac o24,aac o25,aac o26]
 rw[this];rfl
theorem ziE(op:Int)(a:V)(h:za):yO pu 45 [pm op,vv a] h (wW (mM op a)):=by
 apply vz rfl;apply G7;unfold zbr;simp only[EE,↓nw,Value.cells,aad,Nat.reduceAdd,zZ,zi,y7];refine yq (KW a _) ?_
 have g3:((h.lock.push (.cells [pm a.k,pm a.n,pm a.b] 66)).push (.cells [pm 0,pm 0,pm 0] 66)).get h.next=some (.cells [pm a.k,pm a.n,pm a.b] 66):=by
  rw[zt (by show h.next<h.next+1;omega)];exact zk
 have g4:((h.lock.push (.cells [pm a.k,pm a.n,pm a.b] 66)).push (.cells [pm 0,pm 0,pm 0] 66)).get (h.next+1)=some (.cells [pm 0,pm 0,pm 0] 66):=zk;have r4:((h.lock.push (.cells [pm a.k,pm a.n,pm a.b] 66)).push (.cells [pm 0,pm 0,pm 0] 66)).ro<=h.next+1:=by show h.next<=h.next+1;omega
 generalize ((h.lock.push (.cells [pm a.k,pm a.n,pm a.b] 66)).push (.cells [pm 0,pm 0,pm 0] 66))=H at g3 g4 r4 ⊢;have hi:isInt a=(decide (a.k=1)&&kN a):=rfl;cases hg:kN a with
 |false=>
  have:mM op a=none:=by unfold mM;rw[aac (by rw[hi,hg];simp)]
  rw[this];simp only[EE,zb,aad,Nat.reduceAdd,yJ,zZ,zi,zo,zM,su,Kg,Kh,Ki,g4,r4];rfl
 |true=>
  by_cases k1:a.k=1
  ·have e:mM op a=(if op=1 then some (qj (Go.Rm.ui (0-a.n))) else if op=2 then some (qj (Go.Rm.notM a.n)) else if op=3 then some (qj (Go.Rm.ui (IntKind.wrap .i8 a.n))) else if op=4 then some (qj (Go.Rm.ui (IntKind.wrap .i32 a.n))) else none):=by
    unfold mM;rw[aai (by rw[hi,hg,k1];rfl)]
   rw[e];simp only[EE];by_cases o1:op=1
   ·subst o1;have z:IntKind.wrap .i64 (Go.Rm.notM a.n+1)=Go.Rm.ui (0-a.n):=neg_eq a.n;simp only[EE,↓BK,zA,xp,zj,zP,yf,cG,la,Kg,Kh,Ki,g3,k1,zf1,z];refine yq (Yj (Go.Rm.ui (0-a.n)) _) ?_;simp only[EE,zb,aad,abe,Nat.reduceAdd,Int.reduceEq,yJ,zZ,zi,zo,g4,r4];rfl
   by_cases o2:op=2
   ·subst o2;have z:IntKind.wrap .i64 (-1-a.n)=Go.Rm.notM a.n:=not_eq a.n;simp only[EE,↓BK,Int.reduceEq,Int.reduceNeg,zA,xp,zj,zP,yf,B8,Kf,la,Kg,Kh,Ki,g3,k1,z];refine yq (Yj (Go.Rm.notM a.n) _) ?_;simp only[EE,zb,aad,abe,Nat.reduceAdd,Int.reduceEq,yJ,zZ,zi,zo,g4,r4];rfl
   by_cases o3:op=3
   ·subst o3;simp only[EE,↓BK,Int.reduceEq,zA,xp,zj,zP,yf,B7,Jf,Kf,la,Kg,Kh,Ki,g3,k1];refine yq (zcL a.n _) ?_;simp only[B5];refine yq (Yj _ _) ?_;simp only[EE,zb,aad,abe,Nat.reduceAdd,Int.reduceEq,yJ,zZ,zi,zo,g4,r4];rfl
   by_cases o4:op=4
   ·subst o4;simp only[EE,↓BK,Int.reduceEq,zA,xp,zj,zP,yf,sw,fU,Jf,Kf,la,Kg,Kh,Ki,g3,k1];refine yq (Sq a.n _) ?_;simp only[B6];refine yq (Yj _ _) ?_;simp only[EE,zb,aad,abe,Nat.reduceAdd,Int.reduceEq,yJ,zZ,zi,zo,g4,r4];rfl
   rw[aac o1,aac o2,aac o3,aac o4];simp only[EE,↓BK,zb,aad,Nat.reduceAdd,yJ,zZ,zA,zj,zi,zo,zM,zP,fU,Jf,Kf,la,Rn,Kg,Kh,Ki,g3,g4,r4,k1,o1,o2,o3,o4];rfl
  ·have:mM op a=none:=by unfold mM;rw[aac (by rw[hi];simp[k1])]
   rw[this];simp only[EE,zb,aad,Nat.reduceAdd,yJ,zZ,zA,zj,zi,zo,zM,zP,su,Kg,Kh,Ki,g3,g4,r4,k1];rfl
theorem SN{a:V}(h:kN a=true):a.k=0\/(a.k=1/\a.b=0)\/(a.k=2/\1<=a.b):=by
 unfold kN at h;split at h
 ·exact .inl (by assumption)
 split at h
 ·simp at h;exact .inr (.inl ⟨by assumption,h⟩)
 ·simp at h;exact .inr (.inr h)
theorem yM{a:V}:(isInt a=true ↔ a.k=1/\kN a=true)/\(wK a=true ↔ a.k=2/\kN a=true):=by
 unfold isInt wK;simp
theorem Ml{op:Int}{a b:V}(h:(isInt a=false/\wK a=false)\/(isInt b=false/\wK b=false)):yG op a b=none:=by
 have z:kN (qj 0)=true:=rfl;unfold yG wO;rcases h with⟨x,y⟩|⟨x,y⟩
 ·have:¬a=qj 0:=λe=>by rw[e]at x;cases x
  simp[x,y,this]
 ·have:¬b=qj 0:=λe=>by rw[e]at x;cases x
  simp[x,y,this]
theorem Oz{op:Int}{a b:V}(ha:wD a.n)(hb:wD b.n)(h:za):yO pu 48 [pm op,vv a,vv b] h (wW (yG op a b)):=by
 apply vz rfl;apply BB;unfold IC;simp only[EE,↓nw,Value.cells,aad,Nat.reduceAdd,zZ,zi,y7];refine yq (KW a _) ?_
 have g4:(((h.lock.push (.cells [pm a.k,pm a.n,pm a.b] 66)).push (.cells [pm b.k,pm b.n,pm b.b] 66)).push (.cells [pm 0,pm 0,pm 0] 66)).get h.next=some (.cells [pm a.k,pm a.n,pm a.b] 66):=by
  rw[zt (by show h.next<h.next+1+1;omega),zt (by show h.next<h.next+1;omega)];exact zk
 have g5:(((h.lock.push (.cells [pm a.k,pm a.n,pm a.b] 66)).push (.cells [pm b.k,pm b.n,pm b.b] 66)).push (.cells [pm 0,pm 0,pm 0] 66)).get (h.next+1)=some (.cells [pm b.k,pm b.n,pm b.b] 66):=by
  rw[zt (by show h.next+1<h.next+1+1;omega)];exact zk
 have g6:(((h.lock.push (.cells [pm a.k,pm a.n,pm a.b] 66)).push (.cells [pm b.k,pm b.n,pm b.b] 66)).push (.cells [pm 0,pm 0,pm 0] 66)).get (h.next+1+1)=some (.cells [pm 0,pm 0,pm 0] 66):=zk;have r6:(((h.lock.push (.cells [pm a.k,pm a.n,pm a.b] 66)).push (.cells [pm b.k,pm b.n,pm b.b] 66)).push (.cells [pm 0,pm 0,pm 0] 66)).ro<=h.next+1+1:=by show h.next<=h.next+1+1;omega
 generalize (((h.lock.push (.cells [pm a.k,pm a.n,pm a.b] 66)).push (.cells [pm b.k,pm b.n,pm b.b] 66)).push (.cells [pm 0,pm 0,pm 0] 66))=H at g4 g5 g6 r6 ⊢;have noA:kN a=false\/a.k=0->yG op a b=none:=λq=>Ml (.inl (by unfold isInt wK;rcases q with q|q <;> simp[q]));have noB:kN b=false\/b.k=0->yG op a b=none:=λq=>Ml (.inr (by unfold isInt wK;rcases q with q|q <;> simp[q]));cases ga:kN a with
 |false=>
  rw[noA (.inl ga)];simp only[EE,zb,aad,Nat.reduceAdd,yJ,zZ,zi,zo,zM,YY,wE,wF,wI,wJ,BA,g6,r6];rfl
 |true=>
 simp only[EE,aad,Nat.reduceAdd,zZ,zi,BA,g5];refine yq (KW b _) ?_;cases gb:kN b with
 |false=>
  rw[noB (.inl gb)];simp only[EE,zb,aad,Nat.reduceAdd,yJ,zZ,zi,zo,zM,YY,wE,wF,wI,wJ,g6,r6];rfl
 |true=>
 rcases SN ga with ka|⟨ka,kab⟩|⟨ka,kab⟩
 ·rw[noA (.inr ka)];simp only[EE,zb,aad,Nat.reduceAdd,yJ,zZ,zA,zj,zi,zo,zM,zP,YY,wE,wF,wI,wJ,g4,g6,r6,ka];rfl
 ·have ia:isInt a=true:=yM.1.2 ⟨ka,ga⟩;have pa:wK a=false:=by unfold wK;rw[ka];rfl
  rcases SN gb with kb|⟨kb,kbb⟩|⟨kb,kbb⟩
  ·rw[noB (.inr kb)];simp only[EE,zb,aad,Nat.reduceAdd,Int.reduceEq,yJ,zZ,zA,zj,zi,zo,zM,zP,YY,wE,wF,wI,wJ,g4,g5,g6,r6,ka,kb];rfl
  ·have ib:isInt b=true:=yM.1.2 ⟨kb,gb⟩;have e:yG op a b=uk op a.n b.n:=by unfold yG;rw[aai (by rw[ia,ib];rfl)]
   rw[e];simp only[EE,Int.reduceEq,zA,xp,zj,zP,yf,xB,vY,vZ,wE,wF,wI,wJ,g4,g5,ka,kb];refine yq (zeQ ha hb H) ?_;simp only[xU,EE,zb,aad,Nat.reduceAdd,yJ,zZ,zi,zo,qF,g6,r6];rfl
  ·have ib:isInt b=false:=by unfold isInt;rw[kb];rfl
   have pb:wK b=true:=yM.2.2 ⟨kb,gb⟩;by_cases o11:op=11
   ·subst o11;have e:yG 11 a b=some (AW b.b (Go.Rm.ui (a.n+b.n))):=by simp[yG,ia,ib,pa,pb]
    rw[e];simp only[EE,Int.reduceEq,zA,xp,zj,zP,yf,xM,oz,uD,uE,uo,uq,vY,vZ,wE,wF,wI,wJ,g4,g5,ka,kb];refine yq (Me b.b (Go.Rm.ui (a.n+b.n)) H) ?_;simp only[EE,zb,aad,Nat.reduceAdd,yJ,zZ,zi,zo,g6,r6];rfl
   by_cases o21:op=21
   ·subst o21;by_cases n0:a.n=0
    ·have e:yG 21 a b=some (qW false):=by
      have z:a=qj 0:=(by obtain⟨x,y,z⟩:=a;dsimp only at ka n0 kab;subst ka n0 kab;rfl);have z2:¬qj 0=b:=λq=>by rw[<- q]at pb;cases pb
      simp[yG,wO,ia,ib,pa,pb];rw[<- z];simp;rw[z];simp[z2]
     rw[e];simp only[EE,Int.reduceEq,zA,xp,zj,zP,yf,yF,yx,yy,ZM,yA,yu,yw,qZ,ym,yd,um,yT,uX,uY,uD,uE,uo,uq,vY,vZ,wE,wF,wI,wJ,g4,g5,ka,kb,n0];refine yq (eQ false H) ?_;simp only[EE,zb,aad,Nat.reduceAdd,yJ,zZ,zi,zo,g6,r6];rfl
    ·have e:yG 21 a b=none:=by
      have z:¬a=qj 0:=λq=>by rw[q]at n0;exact n0 rfl
      simp[yG,wO,ia,ib,pa,pb,z]
     rw[e];simp only[EE,zb,aad,Nat.reduceAdd,Int.reduceEq,yJ,zZ,zA,xp,zj,zi,zo,zM,zP,yf,Kd,yx,yy,ZM,yA,yu,yw,qZ,ym,yd,um,yT,uX,uY,uD,uE,uo,uq,vY,vZ,wE,wF,wI,wJ,g4,g5,g6,r6,ka,kb,n0];rfl
   by_cases o22:op=22
   ·subst o22;by_cases n0:a.n=0
    ·have e:yG 22 a b=some (qW true):=by
      have z:a=qj 0:=(by obtain⟨x,y,z⟩:=a;dsimp only at ka n0 kab;subst ka n0 kab;rfl);have z2:¬qj 0=b:=λq=>by rw[<- q]at pb;cases pb
      simp[yG,wO,ia,ib,pa,pb];rw[<- z];simp;rw[z];simp[z2]
     rw[e];simp only[EE,Int.reduceEq,zA,xp,zj,zP,yf,yF,yx,yy,ZM,yA,yu,yw,qZ,ym,yd,um,yT,uX,uY,uD,uE,uo,uq,vY,vZ,wE,wF,wI,wJ,g4,g5,ka,kb,n0];refine yq (eQ true H) ?_;simp only[EE,zb,aad,Nat.reduceAdd,yJ,zZ,zi,zo,g6,r6];rfl
    ·have e:yG 22 a b=none:=by
      have z:¬a=qj 0:=λq=>by rw[q]at n0;exact n0 rfl
      simp[yG,wO,ia,ib,pa,pb,z]
     rw[e];simp only[EE,zb,aad,Nat.reduceAdd,Int.reduceEq,yJ,zZ,zA,xp,zj,zi,zo,zM,zP,yf,Kd,yx,yy,ZM,yA,yu,yw,qZ,ym,yd,um,yT,uX,uY,uD,uE,uo,uq,vY,vZ,wE,wF,wI,wJ,g4,g5,g6,r6,ka,kb,n0];rfl
   have e:yG op a b=none:=by simp[yG,ia,ib,pa,pb,o11,o21,o22]
   rw[e];by_cases o12:op=12
   ·simp only[EE,zb,aad,Nat.reduceAdd,Int.reduceEq,yJ,zZ,zA,zj,zi,zo,zM,zP,yX,um,yT,uX,uY,uD,uE,uo,uq,vY,vZ,wE,wF,wI,wJ,g4,g5,g6,r6,ka,kb,o12];rfl
   ·simp only[EE,zb,aad,Nat.reduceAdd,Int.reduceEq,yJ,zZ,zA,zj,zi,zo,zM,zP,yX,um,yT,uX,uY,uD,uE,uo,uq,vY,vZ,wE,wF,wI,wJ,g4,g5,g6,r6,ka,kb,o11,o12,o21,o22];rfl
 ·have ia:isInt a=false:=by unfold isInt;rw[ka];rfl
  have pa:wK a=true:=yM.2.2 ⟨ka,ga⟩;rcases SN gb with kb|⟨kb,kbb⟩|⟨kb,kbb⟩
  ·rw[noB (.inr kb)];simp only[EE,zb,aad,Nat.reduceAdd,Int.reduceEq,yJ,zZ,zA,zj,zi,zo,zM,zP,YY,wE,wF,wI,wJ,g4,g5,g6,r6,ka,kb];rfl
  ·have ib:isInt b=true:=yM.1.2 ⟨kb,gb⟩;have pb:wK b=false:=by unfold wK;rw[kb];rfl
   by_cases o11:op=11
   ·subst o11;have e:yG 11 a b=some (AW a.b (Go.Rm.ui (a.n+b.n))):=by simp[yG,ia,ib,pa]
    rw[e];simp only[EE,Int.reduceEq,zA,xp,zj,zP,yf,xM,xC,uo,uq,vY,vZ,wE,wF,wI,wJ,g4,g5,ka,kb];refine yq (Me a.b (Go.Rm.ui (a.n+b.n)) H) ?_;simp only[EE,zb,aad,Nat.reduceAdd,yJ,zZ,zi,zo,g6,r6];rfl
   by_cases o12:op=12
   ·subst o12;have e:yG 12 a b=some (AW a.b (Go.Rm.ui (a.n-b.n))):=by simp[yG,ia,ib,pa,pb]
    rw[e];simp only[EE,Int.reduceEq,zA,xp,zj,zP,yf,xM,xD,uX,uY,uD,uE,uo,uq,vY,vZ,wE,wF,wI,wJ,g4,g5,ka,kb];refine yq (Me a.b (Go.Rm.ui (a.n-b.n)) H) ?_;simp only[EE,zb,aad,Nat.reduceAdd,yJ,zZ,zi,zo,g6,r6];rfl
   by_cases o21:op=21
   ·subst o21;by_cases n0:b.n=0
    ·have e:yG 21 a b=some (qW false):=by
      have z:b=qj 0:=(by obtain⟨x,y,z⟩:=b;dsimp only at kb n0 kbb;subst kb n0 kbb;rfl);have z2:¬a=qj 0:=λq=>by rw[q]at pa;cases pa
      simp[yG,wO,ia,ib,pa,pb];rw[<- z];simp;rw[z];simp[z2]
     rw[e];simp only[EE,Int.reduceEq,zA,xp,zj,zP,yf,yF,yx,yy,ZM,yA,yu,yw,qZ,ym,yd,um,yT,uX,uY,uD,uE,uo,uq,vY,vZ,wE,wF,wI,wJ,g4,g5,ka,kb,n0];refine yq (eQ false H) ?_;simp only[EE,zb,aad,Nat.reduceAdd,yJ,zZ,zi,zo,g6,r6];rfl
    ·have e:yG 21 a b=none:=by
      have z:¬b=qj 0:=λq=>by rw[q]at n0;exact n0 rfl
      simp[yG,wO,ia,ib,pa,pb,z]
     rw[e];simp only[EE,zb,aad,Nat.reduceAdd,Int.reduceEq,yJ,zZ,zA,xp,zj,zi,zo,zM,zP,yf,Kd,yx,yy,ZM,yA,yu,yw,qZ,ym,yd,um,yT,uX,uY,uD,uE,uo,uq,vY,vZ,wE,wF,wI,wJ,g4,g5,g6,r6,ka,kb,n0];rfl
   by_cases o22:op=22
   ·subst o22;by_cases n0:b.n=0
    ·have e:yG 22 a b=some (qW true):=by
      have z:b=qj 0:=(by obtain⟨x,y,z⟩:=b;dsimp only at kb n0 kbb;subst kb n0 kbb;rfl);have z2:¬a=qj 0:=λq=>by rw[q]at pa;cases pa
      simp[yG,wO,ia,ib,pa,pb];rw[<- z];simp;rw[z];simp[z2]
     rw[e];simp only[EE,Int.reduceEq,zA,xp,zj,zP,yf,yF,yx,yy,ZM,yA,yu,yw,qZ,ym,yd,um,yT,uX,uY,uD,uE,uo,uq,vY,vZ,wE,wF,wI,wJ,g4,g5,ka,kb,n0];refine yq (eQ true H) ?_;simp only[EE,zb,aad,Nat.reduceAdd,yJ,zZ,zi,zo,g6,r6];rfl
    ·have e:yG 22 a b=none:=by
      have z:¬b=qj 0:=λq=>by rw[q]at n0;exact n0 rfl
      simp[yG,wO,ia,ib,pa,pb,z]
     rw[e];simp only[EE,zb,aad,Nat.reduceAdd,Int.reduceEq,yJ,zZ,zA,xp,zj,zi,zo,zM,zP,yf,Kd,yx,yy,ZM,yA,yu,yw,qZ,ym,yd,um,yT,uX,uY,uD,uE,uo,uq,vY,vZ,wE,wF,wI,wJ,g4,g5,g6,r6,ka,kb,n0];rfl
   have e:yG op a b=none:=by simp[yG,ia,ib,pa,pb,o11,o12,o21,o22]
   rw[e];simp only[EE,zb,aad,Nat.reduceAdd,Int.reduceEq,yJ,zZ,zA,zj,zi,zo,zM,zP,yX,um,yT,uX,uY,uD,uE,uo,uq,vY,vZ,wE,wF,wI,wJ,g4,g5,g6,r6,ka,kb,o11,o12,o21,o22];rfl
  ·have ib:isInt b=false:=by unfold isInt;rw[kb];rfl
   have pb:wK b=true:=yM.2.2 ⟨kb,gb⟩
   have ev:(a.n == b.n&&a.b == b.b)=decide (a=b):=by
    rw[<- veq a b,ka,kb];simp
   by_cases o21:op=21
   ·subst o21;have e:yG 21 a b=some (qW (decide (a=b) == true)):=by simp[yG,wO,ia,ib,pa,pb]
    rw[e];simp only[EE,aad,Nat.reduceAdd,Int.reduceEq,zZ,zA,abU,zj,zi,zcG,QS,zP,xi,ym,yd,um,yT,uX,uY,uD,uE,uo,uq,vY,vZ,wE,wF,wI,wJ,g4,g5,ka,kb];rw[ev];refine yq (eQ _ H) ?_;simp only[EE,zb,aad,Nat.reduceAdd,yJ,zZ,zi,zo,g6,r6];rfl
   by_cases o22:op=22
   ·subst o22;have e:yG 22 a b=some (qW (decide (a=b) == false)):=by simp[yG,wO,ia,ib,pa,pb]
    rw[e];simp only[EE,aad,Nat.reduceAdd,Int.reduceEq,zZ,zA,abU,zj,zi,zcG,QS,zP,xi,ym,yd,um,yT,uX,uY,uD,uE,uo,uq,vY,vZ,wE,wF,wI,wJ,g4,g5,ka,kb];rw[ev];refine yq (eQ _ H) ?_;simp only[EE,zb,aad,Nat.reduceAdd,yJ,zZ,zi,zo,g6,r6];rfl
   have e:yG op a b=none:=by simp[yG,ia,ib,pa,pb,o21,o22]
   rw[e];by_cases o11:op=11
   ·simp only[EE,zb,aad,Nat.reduceAdd,Int.reduceEq,yJ,zZ,zA,zj,zi,zo,zM,zP,yX,um,yT,uX,uY,uD,uE,uo,uq,vY,vZ,wE,wF,wI,wJ,g4,g5,g6,r6,ka,kb,o11];rfl
   by_cases o12:op=12
   ·simp only[EE,zb,aad,Nat.reduceAdd,Int.reduceEq,yJ,zZ,zA,zj,zi,zo,zM,zP,yX,um,yT,uX,uY,uD,uE,uo,uq,vY,vZ,wE,wF,wI,wJ,g4,g5,g6,r6,ka,kb,o12];rfl
   ·simp only[EE,zb,aad,Nat.reduceAdd,Int.reduceEq,yJ,zZ,zA,zj,zi,zo,zM,zP,yX,um,yT,uX,uY,uD,uE,uo,uq,vY,vZ,wE,wF,wI,wJ,g4,g5,g6,r6,ka,kb,o11,o12,o21,o22];rfl
open Go.Rtl (zL zC Old)
abbrev DB:=List Int×Bool
def Ac(ps:List V)(j i:Nat)(z:Int)(c:Cl):Prop :=
 (z = -1/\c=tZ)\/(0<=z/\z<=255/\c=⟨1,z,v0⟩)\/(z=1000+8*j+i/\c.k=2/\c.n=i/\ps[j]? = some c.p)
def Qq(ps:List V)(bs:List Int)(f:Nat->Cl):Prop := ∃js:Nat->Nat,∀(a:Nat) z,bs[a]? = some z->Ac ps (js (a/8)) (a%8) z (f a)
structure DR (bl:List DB) (ps:List V) (M:MM):Prop where
 len:bl.length=M.length
 k9:∀(i:Nat) b B,bl[i]? = some b->M[i]? = some B->b.2=B.uU/\B.size=b.1.length/\(B.uU=false->Qq ps b.1 B.byte)
theorem Ac.more{ps:List V}{j i:Nat}{z:Int}{c:Cl}(x:Ac ps j i z c)(v:V):Ac (ps++[v]) j i z c:=by
 rcases x with x|x|⟨x,y,z,w⟩
 ·exact .inl x
 ·exact .inr (.inl x)
 ·refine .inr (.inr ⟨x,y,z,?_⟩);rw[abj]
  ·exact w
  ·rcases aar j ps.length with q|q
   ·exact q
   ·rw[aal q]at w;cases w
theorem Qq.more{ps:List V}{bs:List Int}{f:Nat->Cl}(x:Qq ps bs f)(v:V):Qq (ps++[v]) bs f:=by
 obtain⟨js,x⟩:=x;exact⟨js,λa z hz=>(x a z hz).more v⟩
theorem DR.more{bl:List DB}{ps:List V}{M:MM}(x:DR bl ps M)(v:V):DR bl (ps++[v]) M :=
 ⟨x.len,λi b B hb hB=>⟨(x.k9 i b B hb hB).1,(x.k9 i b B hb hB).2.1,λq=>((x.k9 i b B hb hB).2.2 q).more v⟩⟩
theorem DR.get{bl:List DB}{ps:List V}{M:MM}(x:DR bl ps M){i:Nat}{B:MB}(hB:M[i]? = some B):∃b,bl[i]? = some b/\b.2=B.uU/\B.size=b.1.length/\(B.uU=false->Qq ps b.1 B.byte):=by
 have hi:i<M.length:=by
  rcases aar i M.length with q|q
  ·exact q
  ·rw[aal q]at hB;cases hB
 have hb:bl[i]? = some (bl[i]'(by rw[x.len];exact hi)):=aae _;exact⟨_,hb,x.k9 i _ B hb hB⟩
theorem DR.set{bl:List DB}{ps:List V}{M:MM}(x:DR bl ps M){i:Nat}{b:DB}{B:MB}(hb:b.2=B.uU)(hs:B.size=b.1.length)(hr:B.uU=false->Qq ps b.1 B.byte):DR (bl.set i b) ps (M.set i B):=by
 refine⟨by rw[aaW,aaW];exact x.len,λj c C hc hC=>?_⟩;by_cases e:i=j
 ·subst e
  have h1:i<bl.length:=by
   rcases aar i bl.length with q|q
   ·exact q
   ·rw[aal (by simpa using q)]at hc;cases hc
  have h2:i<M.length:=by rw[<- x.len];exact h1
  rw[aaM h1]at hc;rw[aaM h2]at hC;cases hc;cases hC;exact⟨hb,hs,hr⟩
 ·rw[aa4 e]at hc hC;exact x.k9 j c C hc hC
theorem DR.app{bl:List DB}{ps:List V}{M:MM}(x:DR bl ps M){b:DB}{B:MB}(hb:b.2=B.uU)(hs:B.size=b.1.length)(hr:B.uU=false->Qq ps b.1 B.byte):DR (bl++[b]) ps (M++[B]):=by
 refine⟨by simp[x.len],λj c C hc hC=>?_⟩;have e:=x.len;rcases aar j bl.length with q|q
 ·rw[abj q]at hc;rw[abj (by omega)]at hC;exact x.k9 j c C hc hC
 ·rw[aa5 q]at hc;rw[aa5 (by omega),<- e]at hC;cases hj:j-bl.length with
  |zero=>rw[hj]at hc hC;cases hc;cases hC;exact⟨hb,hs,hr⟩
  |succ k=>rw[hj]at hc;cases hc
def Mm(bv:aaa)(b:DB):List aaa:=[bv,.bool b.2]
def qS:List aaa->List DB->List (List aaa)
 |bv::bvs,b::bl=>Mm bv b::qS bvs bl
 |_,_=>[]
def HA:List aaa->List DB->List HP
 |bv::bvs,b::bl=>yY 3 1 bv (b.1.map yo)::HA bvs bl
 |_,_=>[]
structure DMO (lo:yU) (h:za) (m:Nat) (lv pv:aaa) (bvs:List aaa) (bl:List DB) (ps:List V) (L:List HP):Prop where
 s:Sat lo h (pt m (.cells [lv,pv] 58)::yY 95 2 lv (qS bvs bl)::yY 66 3 pv (ps.map V.z9)::(HA bvs bl++L))
 len:bvs.length=bl.length
def ja(m:Nat)(M:MM)(n:Nat):HP:=ex λlv=>ex λpv=>ex λbvs=>ex λbl=>ex λps=>j4 (fact (DR bl ps M/\ps.length<=n/\bvs.length=bl.length)::pt m (.cells [lv,pv] 58)::yY 95 2 lv (qS bvs bl)::yY 66 3 pv (ps.map V.z9)::HA bvs bl)
section
variable {lo:yU}{h:za}{L:List HP}{m n:Nat}{M:MM}{lv pv:aaa}{bvs:List aaa}{bl:List DB}{ps:List V}
theorem Qn(s:Sat lo h (ja m M n::L)):∃lv pv bvs bl ps,DR bl ps M/\ps.length<=n/\DMO lo h m lv pv bvs bl ps L:=by
 obtain⟨lv,s⟩:=s.PE;obtain⟨pv,s⟩:=s.PE;obtain⟨bvs,s⟩:=s.PE;obtain⟨bl,s⟩:=s.PE;obtain⟨ps,s⟩:=s.PE;obtain⟨⟨a,b,c⟩,s⟩:=Sat.pX.1 s.open;exact⟨lv,pv,bvs,bl,ps,a,b,s,c⟩
theorem VG(x:DR bl ps M)(hn:ps.length<=n)(D:DMO lo h m lv pv bvs bl ps L):Sat lo h (ja m M n::L) :=
 Sat.Pa lv (Sat.Pa pv (Sat.Pa bvs (Sat.Pa bl (Sat.Pa ps (Sat.close (Sat.pX.2 ⟨⟨x,hn,D.len⟩,D.s⟩))))))
theorem kM:∀{bvs:List aaa} {bl:List DB},bvs.length=bl.length->(qS bvs bl).length=bl.length
 |[],[],_=>rfl
 |_::bvs,_::bl,e=>by simp only[qS,aaE,kM (bvs:=bvs) (bl:=bl) (by simpa using e)]
theorem dN:∀{bvs:List aaa} {bl:List DB} {i:Nat} {bv:aaa} {b:DB},bvs[i]? = some bv->bl[i]? = some b->(qS bvs bl)[i]? = some (Mm bv b)
 |_::bvs,_::bl,0,bv,b,e1,e2=>by simp at e1 e2;subst e1 e2;rfl
 |_::bvs,_::bl,i+1,bv,b,e1,e2=>by simp at e1 e2;simpa only[qS,aap] using dN e1 e2
theorem QN(bvs:List aaa)(bl:List DB):∀r,r∈qS bvs bl->r.length=2:=by
 induction bvs generalizing bl with
 |nil=>intro r hr;cases hr
 |cons bv bvs ih=>
  cases bl with
  |nil=>intro r hr;cases hr
  |cons b bl=>
   intro r hr;rcases abt.1 hr with rfl|hr
   ·rfl
   ·exact ih bl r hr
theorem dO:∀{bvs:List aaa} {bl:List DB} {i:Nat} {bv:aaa} {b:DB},bvs[i]? = some bv->qS bvs (bl.set i b)=(qS bvs bl).set i (Mm bv b)
 |[],bl,i,bv,b,e=>by simp at e
 |_::bvs,[],i,bv,b,e=>by simp[qS]
 |_::bvs,_::bl,0,bv,b,e=>by simp at e;subst e;rfl
 |_::bvs,_::bl,i+1,bv,b,e=>by simp at e;simp only[aa9,qS,dO e]
theorem C4:∀{bvs:List aaa} {bl:List DB} {bv:aaa} {b:DB},bvs.length=bl.length->qS (bvs++[bv]) (bl++[b])=qS bvs bl++[Mm bv b]
 |[],[],_,_,_=>rfl
 |_::bvs,_::bl,_,_,e=>by simp only[abK,qS,C4 (by simpa using e)]
theorem Mp:∀{bvs:List aaa} {bl:List DB} {bv:aaa} {b:DB},bvs.length=bl.length->HA (bvs++[bv]) (bl++[b])=HA bvs bl++[yY 3 1 bv (b.1.map yo)]
 |[],[],_,_,_=>rfl
 |_::bvs,_::bl,_,_,e=>by simp only[abK,HA,Mp (by simpa using e)]
theorem Bd:∀{bvs:List aaa} {bl:List DB} {i:Nat} {bv:aaa} {b:DB},bvs[i]? = some bv->bl[i]? = some b->∃R,(HA bvs bl).Perm (yY 3 1 bv (b.1.map yo)::R) /\ ∀b':DB,(HA bvs (bl.set i b')).Perm (yY 3 1 bv (b'.1.map yo)::R)
 |_::bvs,_::bl,0,bv,b,e1,e2=>by
  simp at e1 e2;subst e1 e2;exact⟨_,acW _,λb'=>acW _⟩
 |v::bvs,c::bl,i+1,bv,b,e1,e2=>by
  simp at e1 e2;obtain⟨R,p,q⟩:=Bd e1 e2;exact⟨yY 3 1 v (c.1.map yo)::R,(p.cons _).trans (List.Perm.swap _ _ _),λb'=>((q b').cons _).trans (List.Perm.swap _ _ _)⟩
theorem UZ(l:List Int):∀r,r∈l.map yo->r.length=1:=qV (f:=yo) (λ_=>rfl) l
structure DV (h:za) (m:Nat) (lv pv:aaa) (bvs:List aaa) (bl:List DB) (ps:List V):Prop where
 gm:h.get m=some (.cells [lv,pv] 58)
 lt:m<h.next
 rows:zC h lv 2 (qS bvs bl)
 zg1:zC h pv 3 (ps.map V.z9)
 byt:∀(i:Nat) bv b,bvs[i]? = some bv->bl[i]? = some b->zC h bv 1 (b.1.map yo)
 len:bvs.length=bl.length
theorem DMO.dv(D:DMO lo h m lv pv bvs bl ps L):DV h m lv pv bvs bl ps:=by
 refine⟨D.s.get,D.s.lt,y6 (D.s.p 1) (QN _ _),y6 (D.s.p 2) (wV _),λi bv b e1 e2=>?_,D.len⟩;obtain⟨R,p,_⟩:=Bd e1 e2;have s:=(((D.s.drop).drop).drop).perm (p.append_right L);exact y6 s (UZ _)
theorem DV.old{h':za}(x:DV h m lv pv bvs bl ps)(e:Old h h'):DV h' m lv pv bvs bl ps :=
 ⟨by rw[e.get m x.lt];exact x.gm,aao x.lt e.next,x.rows.old e,x.zg1.old e,λi bv b e1 e2=>(x.byt i bv b e1 e2).old e,x.len⟩
theorem DV.lock(x:DV h m lv pv bvs bl ps):DV h.lock m lv pv bvs bl ps:=⟨x.gm,x.lt,x.rows.lock,x.zg1.lock,λi bv b e1 e2=>(x.byt i bv b e1 e2).lock,x.len⟩
theorem zc7{sv:aaa}{rows:List (List aaa)}(S:zC h sv 2 rows)(r:TypeId)(h':za):zB pu .len [55] r [sv] h'=some (pm rows.length,h'):=by
 rcases S with⟨rfl,rfl⟩|⟨b,off,cp,rfl,_⟩
 ·simp only[Xn,WX,kS,Bh,bG,zda,rZ,r8,r9,sa,sd,sg,sh,aaz]
 ·simp only[Xn,WX,kS,Bh,bG,zda,rZ,r8,r9,sa,sd,sg,sh]
theorem zfR{sv:aaa}{rows:List (List aaa)}(S:zC h sv 1 rows)(r:TypeId)(h':za):zB pu .len [22] r [sv] h'=some (pm rows.length,h'):=by
 rcases S with⟨rfl,rfl⟩|⟨b,off,cp,rfl,_⟩
 ·simp only[xp,yS,zj,WX,zi,kS,zP,yf,xM,UW,bG,iF,jb,jc,jd,ZT,ZU,Za,Zb,Zc,uN,vF,vG,wx,u4,u5,u6,u7,qR,u9,XD,aaz]
 ·simp only[xp,yS,zj,WX,zi,kS,zP,yf,xM,UW,bG,iF,jb,jc,jd,ZT,ZU,Za,Zb,Zc,uN,vF,vG,wx,u4,u5,u6,u7,qR,u9,XD]
end
section
variable {h:za}{m n:Nat}{M:MM}{lv pv:aaa}{bvs:List aaa}{bl:List DB}{ps:List V}
theorem DV.k9(D:DV h m lv pv bvs bl ps)(x:DR bl ps M){i:Nat}{B:MB}(hB:M[i]? = some B):∃bv b q c t off cp,bvs[i]? = some bv/\bl[i]? = some b/\lv=.slice (some ⟨q,off,none⟩) bl.length cp/\b.2=B.uU/\B.size=b.1.length/\(B.uU=false->Qq ps b.1 B.byte)/\q<h.next/\h.get q=some (.cells c t)/\off+i*2+2<=c.length/\c[off+i*2]? = some bv/\c[off+i*2+1]? = some (.bool b.2):=by
 obtain⟨b,hb,h1,h2,h3⟩:=x.get hB
 have hi:i<bl.length:=by
  rcases aar i bl.length with q|q
  ·exact q
  ·rw[aal q]at hb;cases hb
 have hbv:bvs[i]? = some (bvs[i]'(by rw[D.len];exact hi)):=aae _;obtain⟨q,o,c,t,⟨off,cp,e1,rfl⟩,hi2,hq,hg,hl,ht,hk⟩:=D.rows.spot (i:=i) (r:=Mm _ b) (dN hbv hb) rfl;rw[kM D.len]at e1 hi2;exact⟨_,b,q,c,t,off,cp,hbv,hb,e1,h1,h2,h3,hq,hg,hl,(hk 0 (by decide)).trans rfl,(hk 1 (by decide)).trans rfl⟩
theorem zgE(D:DV h m lv pv bvs bl ps)(x:DR bl ps M)(hM:M.length<=100000)(z:Int):yO pu 44 [yB m,pm z] h (.bool (idx M z).isSome):=by
 apply vz rfl;apply zeh;unfold zhI yB;have gm:=D.gm;have gl:h.lock.get m=some (.cells [lv,pv] 58):=D.gm;have ln:=D.rows.wk;have ll:=zc7 D.rows 3;rw[kM D.len,x.len]at ll;by_cases h1:z ≥ 1
 ·by_cases h2:z<=(M.length:Int)
  ·obtain⟨B,hB⟩:∃B,M[z.toNat-1]? = some B:=⟨_,aae (by omega)⟩;obtain⟨bv,b,q,c,t,off,cp,hbv,hb,rfl,e1,e2,e3,hq,hg,hl,k0,k1⟩:=D.k9 x hB;have hg':h.lock.get q=some (.cells c t):=hg;have hw:IntKind.wrap .i64 (z-1)=z-1:=Go.Mem.ui (by omega) (by omega);have h3:(0:Int)<=z-1:=by omega
   have h4:z-1<(bl.length:Int):=by have:=x.len;omega
   have h5:(z-1).toNat=z.toNat-1:=by omega
   have k1':=k1;simp only[EE,aad,zA,Xn,WX,kS,Bh,bG,rZ,r8,r9,sa,sd,sg,sh,h1,h2,gl,ln,ll,hw,h3,h4,h5,hg',k1]
   have:idx M z=if B.uU=true then none else some (z.toNat-1):=by
    unfold idx;rw[aai ⟨h1,h2⟩,hB]
   rw[this,e1];cases B.uU <;> rfl
  ·simp only[EE,zA,WX,kS,rZ,r8,r9,sa,sd,sg,sh,h1,h2,gl,ln,ll];have:idx M z=none:=by unfold idx;rw[aac (λq=>h2 q.2)]
   rw[this];rfl
 ·simp only[EE,rZ,r8,r9,sa,sd,sg,sh,h1];have:idx M z=none:=by unfold idx;rw[aac (λq=>h1 q.1)]
  rw[this];rfl
theorem Bq(D:DV h m lv pv bvs bl ps)(x:DR bl ps M)(hM:M.length<=100000)(hs:small M){c:Int}{p:V}(hc:wD c)(hp:p.ok):yO pu 100 [yB m,pm c,vv p] h (.bool (right M c p).isSome):=by
 apply vz rfl;apply mV;unfold oN yB;obtain⟨hp1,hp2,hp3⟩:=hp;have gm:∀o,(h.lock.push o).get m=some (.cells [lv,pv] 58):=λo=>(zt D.lt).trans D.gm;have ln:=D.rows.wk;by_cases hcc:c=1\/c=4\/c=8
 ·have c0:¬c=0:=by omega
  have go:qR (.bool false) (pi h.next) (pi m) (WN (.bool (right M c p).isSome)) (pm c) (.agg #[pm p.k,pm p.n,pm p.b]) (h.lock.push (.cells [pm p.k,pm p.n,pm p.b] 66)):=by
   simp only[EE,qR];refine yq (KW p _) ?_;cases gp:kN p with
   |false=>
    have e:right M c p=none:=by
     unfold right;by_cases k2:p.k=2
     ·rw[aai ⟨k2,hcc⟩]
      have:idx M p.b=none:=by
       unfold idx;rw[aac];intro q;unfold kN at gp;rw[k2]at gp;simp at gp;omega
      rw[this]
     ·rw[aac λq=>k2 q.1]
    rw[e];simp only[EE,wx,u4,u5,u6,u7];rfl
   |true=>
   by_cases k2:¬p.k=2
   ·have e:right M c p=none:=(by unfold right;rw[aac λq=>k2 q.1]);rw[e];simp only[EE,zA,zj,zP,wx,u4,u5,u6,u7,k2];rfl
   have k2:p.k=2:=acg.1 k2;simp only[EE,zA,zj,zP,xM,u4,u5,u6,u7,k2];refine yq (zgE (D.lock.old (Old.push _ _)) x hM p.b) ?_;cases hi:idx M p.b with
   |none=>
    have e:right M c p=none:=(by unfold right;rw[aai ⟨k2,hcc⟩,hi]);rw[e];simp only[EE,wx,aa8];rfl
   |some i=>
   obtain⟨hpb,B,hB,hf⟩:=Uw hi
   have e:right M c p=if 0<=p.n/\p.n<=B.size-c/\p.n.tmod c=0 then some i else none:=by
    unfold right;rw[aai ⟨k2,hcc⟩,hi];simp only[hB]
   rw[e];have hsz:=hs i B hB;by_cases n0:¬p.n ≥ 0
   ·rw[aac (by omega)];simp only[EE,zA,xp,yf,jb,jc,jd,ZT,ZU,Za,Zb,Zc,uN,vF,vG,wx,abh,n0];rfl
   have n0:p.n ≥ 0:=acg.1 n0;obtain⟨bv,b,q,cs,t,off,cp,hbv,hb,rfl,e1,e2,e3,hq,hg,hl,k0,k1⟩:=D.k9 x hB;have hg':∀o,(h.lock.push o).get q=some (.cells cs t):=λo=>(zt hq).trans hg;have hxl:=x.len
   have hil:i<bl.length:=by
    rcases aar i bl.length with z|z
    ·exact z
    ·rw[aal z]at hb;cases hb
   have hw:IntKind.wrap .i64 (p.b-1)=p.b-1:=Go.Mem.ui (by omega) (by omega);have h3:(0:Int)<=p.b-1:=by omega
   have h4:p.b-1<(bl.length:Int):=by omega
   have h5:(p.b-1).toNat=i:=by omega
   have SB:=D.byt i bv b hbv hb;have bn:=SB.wk;have bll:=zfR SB 3;rw[aaf]at bll;have hw2:IntKind.wrap .i64 ((b.1.length:Int)-c)=(b.1.length:Int)-c:=Go.Mem.ui (by omega) (by omega);by_cases n1:¬p.n<=(b.1.length:Int)-c
   ·rw[aac (by rw[e2];exact λz=>n1 z.2.1)];simp only[EE,aad,zA,xp,yS,zj,WX,kS,yf,xM,UW,bG,jb,jc,jd,ZT,ZU,Za,Zb,Zc,uN,vF,vG,wx,abh,n0,gm,hw,h3,h4,h5,hg',k0,bn,bll,hw2,n1];rfl
   have n1:p.n<=(b.1.length:Int)-c:=acg.1 n1;by_cases n2:p.n.tmod c=0
   ·rw[aai ⟨n0,by rw[e2];exact n1,n2⟩];simp only[EE,aad,zA,xp,yS,zj,WX,kS,yf,xM,UW,bG,jb,jc,jd,ZT,ZU,Za,Zb,Zc,uN,vF,vG,wx,abh,n0,gm,hw,h3,h4,h5,hg',k0,bn,bll,hw2,n1,c0,n2];rfl
   ·rw[aac λz=>n2 z.2.2];simp only[EE,aad,zA,xp,yS,zj,WX,kS,yf,xM,UW,bG,jb,jc,jd,ZT,ZU,Za,Zb,Zc,uN,vF,vG,wx,abh,n0,gm,hw,h3,h4,h5,hg',k0,bn,bll,hw2,n1,c0,n2];rfl
  rcases hcc with rfl|rfl|rfl
  ·simp only[EE,↓nw,Value.cells,aad,Nat.reduceAdd,zZ,zi,u9,XD];exact go
  ·simp only[EE,↓nw,Value.cells,aad,Nat.reduceAdd,Int.reduceEq,zZ,zi,u9,XD];exact go
  ·simp only[EE,↓nw,Value.cells,aad,Nat.reduceAdd,Int.reduceEq,zZ,zi,u9,XD];exact go
 ·have e:right M c p=none:=by unfold right;rw[aac λq=>hcc q.2]
  rw[e];have c1:¬c=1:=λq=>hcc (.inl q);have c4:¬c=4:=λq=>hcc (.inr (.inl q));have c8:¬c=8:=λq=>hcc (.inr (.inr q));simp only[EE,↓nw,Value.cells,wx,u4,u5,u6,u7,qR,u9,XD,c1,c4,c8];rfl
end
theorem zjg(n:Int):IntKind.wrap .i8 (IntKind.wrap .i64 n)=IntKind.wrap .i8 n:=by
 simp only[IntKind.wrap,IntKind.bits,IntKind.signed];simp;split <;> split <;> omega
theorem ziJ(n:Int):IntKind.wrap .i32 (IntKind.wrap .i64 n)=IntKind.wrap .i32 n:=by
 simp only[IntKind.wrap,IntKind.bits,IntKind.signed];simp;split <;> split <;> omega
theorem zii{z:Int}(h0:0<=z)(h1:z<=255):IntKind.wrap .i64 (BitVec.ofInt (IntKind.bits .i64) z &&& BitVec.ofInt (IntKind.bits .i64) 255).toNat=z:=by
 have:IntKind.wrap .i64 (BitVec.ofInt (IntKind.bits .i64) z &&& BitVec.ofInt (IntKind.bits .i64) 255).toNat=z%256:=pE z 8 (by decide);rw[this];omega
theorem zcm{h:za}{bv:aaa}{bs:List Int}(S:zC h bv 1 (bs.map yo)){a:Nat}{z:Int}(hz:bs[a]? = some z):∃q off cp cs t,bv=.slice (some ⟨q,off,none⟩) bs.length cp/\q<h.next/\h.get q=some (.cells cs t) /\ ∀(k:Nat) y,bs[k]? = some y->cs[off+k]? = some (pm y):=by
 rcases S with⟨_,e⟩|⟨q,off,cp,e,hc⟩
 ·have:bs=[]:=by simpa using e
  subst this;cases hz
 ·obtain⟨cs,t,hq,hg,hk⟩:=hc (by intro q;have:bs=[]:=by simpa using q
                                subst this;cases hz)
  refine⟨q,off,cp,cs,t,by rw[e,aaf],hq,hg,λk y hy=>?_⟩;obtain⟨h1,h2⟩:=hk k (yo y) (by rw[aaq,hy];rfl);rw[abk]at h1 h2;have:=congrArg (λl=>l[0]?) h2;simp only[acN,aa1,acA]at this;simpa [yo] using this
theorem zil{f:Nat->Cl}{n k:Nat}{z:Int}(hk:k<8)(e:(f (n+k)).n=z):IntKind.wrap .u64 (BitVec.ofInt (IntKind.bits .u64) (DP f n k) ||| BitVec.ofInt (IntKind.bits .u64) (IntKind.wrap .u64 (IntKind.wrap .u64 z*2^min (8*k) (IntKind.bits .u64)))).toNat=DP f n (k+1):=by
 rw[show min (8*k) (IntKind.bits .u64)=8*k from Nat.min_eq_left (by show 8*k<=64;omega),<- e];rfl
theorem Pm{f:Nat->Cl}{n:Nat}{c:Int}:∀{k:Nat},qU f n c k=true->c=8
 |0,h=>by simpa [qU] using h
 |k+1,h=>by
  unfold qU at h;simp only[aag]at h;exact Pm h.1.1.1
theorem Pl{f:Nat->Cl}{n:Nat}{c:Int}:∀{k:Nat},qU f n c k=true->0<k->(f (n+0)).k=2
 |0,h,q=>by omega
 |k+1,h,_=>by
  unfold qU at h;simp only[aag,aaR]at h;rcases ab8 k with q|q
  ·subst q;exact h.1.1.2
  ·exact Pl h.1.1.1 q
theorem R7{b o len cp:Nat}{lo hi:Int}{h:za}(h0:0<=lo)(h1:lo<=hi)(h2:hi<=len):∃X,Iu pu 22 (.slice (some ⟨b,o,none⟩) len cp) (some (pm lo)) (some (pm hi)) h=some (.slice (some ⟨b,o+lo.toNat,none⟩) (hi-lo).toNat X):=by
 rw[ziB,XN,aai ⟨by omega,h2⟩,aaI,XN,aai ⟨h0,by omega⟩,aaI,abk,show hi.toNat-lo.toNat=(hi-lo).toNat by omega];exact⟨_,rfl⟩
section
variable {h:za}{m n:Nat}{M:MM}{lv pv:aaa}{bvs:List aaa}{bl:List DB}{ps:List V}
theorem zgJ(D:DV h m lv pv bvs bl ps)(x:DR bl ps M)(hM:M.length<=100000)(hs:small M)(hps:ps.length<=100000000){c:Int}{p:V}(hc:wD c)(hp:p.ok):yO pu 83 [yB m,pm c,vv p] h (wW (kZ M c p)):=by
 apply vz rfl;apply TG;unfold zbn yB;simp only[EE,↓nw,Value.cells,aad,Nat.reduceAdd,zZ,zi,y7];have e2:∀a b,Old h.lock ((h.lock.push a).push b):=λa b=>(Old.push _ _).trans (Old.push _ _);have D2:=D.lock.old (e2 (.cells [pm p.k,pm p.n,pm p.b] 66) (.cells [pm 0,pm 0,pm 0] 66))
 have g5:((h.lock.push (.cells [pm p.k,pm p.n,pm p.b] 66)).push (.cells [pm 0,pm 0,pm 0] 66)).get h.next=some (.cells [pm p.k,pm p.n,pm p.b] 66):=by
  rw[zt (by show h.next<h.next+1;omega)];exact zk
 have g6:((h.lock.push (.cells [pm p.k,pm p.n,pm p.b] 66)).push (.cells [pm 0,pm 0,pm 0] 66)).get (h.next+1)=some (.cells [pm 0,pm 0,pm 0] 66):=zk;have r6:((h.lock.push (.cells [pm p.k,pm p.n,pm p.b] 66)).push (.cells [pm 0,pm 0,pm 0] 66)).ro<=h.next+1:=by show h.next<=h.next+1;omega
 refine yq (Bq D2 x hM hs hc hp) ?_;generalize ((h.lock.push (.cells [pm p.k,pm p.n,pm p.b] 66)).push (.cells [pm 0,pm 0,pm 0] 66))=H at D2 g5 g6 r6 ⊢;cases hr:right M c p with
 |none=>
  have e:kZ M c p=none:=by unfold kZ;rw[hr]
  rw[e];simp only[EE,zb,aad,Nat.reduceAdd,yJ,zZ,zi,zo,zM,IS,g6,r6,aa8];rfl
 |some i=>
 obtain⟨k2,hcc,hi,B,hB,hn0,hn1,hn2⟩:=eJ hr;obtain⟨hpb,B',hB',hf⟩:=Uw hi;rw[hB]at hB';cases hB';have e:kZ M c p=some (eY B.byte p.n.toNat c):=by unfold kZ;rw[hr];simp only[hB,abV]
 rw[e];have hsz:=hs i B hB;have gm:=D2.gm;have ln:=D2.rows.wk;obtain⟨bv,b,q,cs,t,off,cp,hbv,hb,rfl,e1,e2',e3,hq,hg,hl,k0,k1⟩:=D2.k9 x hB;obtain⟨js,hjs⟩:=e3 hf;have hxl:=x.len
 have hil:i<bl.length:=by
  rcases aar i bl.length with z|z
  ·exact z
  ·rw[aal z]at hb;cases hb
 have hw:IntKind.wrap .i64 (p.b-1)=p.b-1:=Go.Mem.ui (by omega) (by omega);have h3:(0:Int)<=p.b-1:=by omega
 have h4:p.b-1<(bl.length:Int):=by omega
 have h5:(p.b-1).toNat=i:=by omega
 have hw2:IntKind.wrap .i64 (p.n+c)=p.n+c:=Go.Mem.ui (by omega) (by omega);have hlt:∀k:Nat,(k:Int)<c->p.n.toNat+k<b.1.length:=λk hk=>by omega
 have at_:∀k:Nat,(k:Int)<c->∃z,b.1[p.n.toNat+k]? = some z:=λk hk=>⟨_,aae (hlt k hk)⟩;obtain⟨z0,hz0⟩:=at_ 0 (by omega);obtain⟨qb,ob,cb,cbs,tb,rfl,hqb,hgb,hkb⟩:=zcm (D2.byt i bv b hbv hb) hz0;obtain⟨X,hX⟩:=R7 (b:=qb) (o:=ob) (cp:=cb) (h:=H) hn0 (show p.n<=p.n+c by omega) (show p.n+c<=(b.1.length:Int) by omega);have hpc:(p.n+c-p.n).toNat=c.toNat:=by omega
 rw[hpc]at hX;simp only[EE,aaC,↓BK,aad,zA,xp,yS,zj,WX,kS,yf,xM,UW,bG,Fi,abh,gm,g5,hw,h3,h4,h5,hg,k0,hw2,hX]
 have P8:∀k:Nat,(k:Int)<c->c=8->(p.n.toNat+k)/8=p.n.toNat/8/\(p.n.toNat+k)%8=k:=λk hk h8=>by
  subst h8;rw[abx hn0]at hn2;omega
 refine qY (λr vs h'=>∃(k:Nat) (y:Int),(k:Int)<=c/\r=c.toNat-k/\vs=[.int .u64 y,.bool (Yi B.byte p.n.toNat k),.bool (qU B.byte p.n.toNat c k),pm k]/\(Yi B.byte p.n.toNat k=true->y=DP B.byte p.n.toNat k)/\h'=H) c.toNat ⟨0,0,by omega,rfl,rfl,λ_=>rfl,rfl⟩ ?_;rintro r vs h' ⟨k,y,hk,rfl,rfl,hy,rfl⟩;have hkb':∀(j:Nat) w,b.1[p.n.toNat+j]? = some w->cbs[ob+p.n.toNat+j]? = some (pm w):=λj w hw=>by rw[acz];exact hkb _ _ hw
 by_cases hkc:(k:Int)<c
 ·obtain⟨z,hz⟩:=at_ k hkc;have gz:=hkb' k z hz;have gz0:cbs[ob+p.n.toNat]? = some (pm z0):=hkb' 0 z0 hz0;have code:=hjs _ _ hz;have code0:=hjs _ _ hz0;have q1:(0:Int)<=k:=by omega
  have q2:(k:Int)<(c.toNat:Int):=by omega
  have q3:IntKind.wrap .i64 ((k:Int)+1)=((k+1:Nat):Int):=Go.Mem.ui (by omega) (by omega);have q4:IntKind.wrap .i64 (8*(k:Int))=((8*k:Nat):Int):=(Go.Mem.ui (by omega) (by omega)).trans (by omega);have q5:IntKind.wrap .u64 ((8*k:Nat):Int)=((8*k:Nat):Int):=by rw[show IntKind.wrap .u64 ((8*k:Nat):Int)=wu ((8*k:Nat):Int) from rfl,Ei];omega
  have q6:(0:Int)<=((8*k:Nat):Int):=by omega
  have q7:(0:Int)<(c.toNat:Int):=by omega
  have nx:∀(y':Int) (a' b':Bool),a'=Yi B.byte p.n.toNat (k+1)->b'=qU B.byte p.n.toNat c (k+1)->(a'=true->y'=DP B.byte p.n.toNat (k+1))->∃r',r'<c.toNat-k /\ ∃(k':Nat) (y2:Int),(k':Int)<=c/\r'=c.toNat-k' /\ [Value.int .u64 y',.bool a',.bool b',pm ((k+1:Nat):Int)]=[.int .u64 y2,.bool (Yi B.byte p.n.toNat k'),.bool (qU B.byte p.n.toNat c k'),pm k']/\(Yi B.byte p.n.toNat k'=true->y2=DP B.byte p.n.toNat k'):=by
   rintro y' a' b' rfl rfl hq;exact⟨c.toNat-(k+1),by omega,k+1,y',by omega,rfl,rfl,hq⟩
  have hkc8:k<8:=by omega
  have sA:Yi B.byte p.n.toNat (k+1)=(Yi B.byte p.n.toNat k&&decide ((B.byte (p.n.toNat+k)).k=1)):=rfl;have sP:qU B.byte p.n.toNat c (k+1)=(qU B.byte p.n.toNat c k&&decide ((B.byte (p.n.toNat+k)).k=2)&&decide (IntKind.wrap .i64 (B.byte (p.n.toNat+k)).n=k)&&decide ((B.byte (p.n.toNat+k)).p=(B.byte p.n.toNat).p)):=rfl;generalize hA:Yi B.byte p.n.toNat k=A at hy sA ⊢;generalize hP:qU B.byte p.n.toNat c k=Q at sP ⊢;rcases code with⟨ez,ec⟩|⟨ez1,ez2,ec⟩|⟨ez,ec1,ec2,ec3⟩
  ·have f1:¬z ≥ 0:=by omega
   have f2:¬z ≥ 1000:=by omega
   rw[ec]at sA sP;cases A <;> cases Q <;> (simp only[EE,nth,↓BK,aad,zA,zj,QQ,pP,bF,fu,fw,fy,fA,fB,fC,fD,fE,JD,JE,JF,JG,JH,JI,JJ,JK,JL,JM,JN,ZS,hkc,f1,f2,q1,q2,q3,q4,q5,q6,hgb,gz,aax,abk];refine nx _ _ _ (by rw[sA];rfl) (by rw[sP];rfl) (λq=>?_);cases q)
  ·have f1:z ≥ 0:=ez1;have f3:z<256:=by omega
   have f2:¬z ≥ 1000:=by omega
   have f4:=zii ez1 ez2;rw[ec]at sA sP;cases A <;> cases Q <;> (simp only[EE,nth,↓BK,aad,zA,zj,QQ,pP,bF,fu,fw,fy,fA,fB,fC,fD,fE,JD,JE,JF,JG,JH,JI,JJ,JK,JL,JM,JN,ZS,hkc,f1,f2,f3,f4,q1,q2,q3,q4,q5,q6,hgb,gz,aax,abk];refine nx _ _ _ (by rw[sA];rfl) (by rw[sP];first|rfl|(simp;done)) (λq=>?_);first|(cases q;done)|(rw[hy rfl,zil hkc8 (by rw[ec])]))
  ·have f1:z ≥ 0:=by omega
   have f3:¬z<256:=by omega
   have f2:z ≥ 1000:=by omega
   cases Q with
   |false=>
    cases A <;> (simp only[EE,nth,↓BK,aad,zA,zj,QQ,pP,bF,fu,fw,fy,fA,fB,fC,fD,fE,JD,JE,JF,JG,JH,JI,JJ,JK,JL,JM,JN,ZS,hkc,f1,f3,q1,q2,q3,q4,q5,q6,hgb,gz,aax,abk];refine nx _ _ _ (by rw[sA,ec1];rfl) (by rw[sP];rfl) (λq=>?_);cases q)
   |true=>
    have c8:=Pm hP;obtain⟨pk1,pk2⟩:=P8 k hkc c8;obtain⟨pk3,pk4⟩:=P8 0 (by omega) c8
    have fk:(B.byte (p.n.toNat+0)).k=2:=by
     rcases ab8 k with q|q
     ·subst q;exact ec1
     ·exact Pl hP q
    rcases code0 with⟨_,w⟩|⟨_,_,w⟩|⟨w1,_,_,w4⟩
    ·rw[w]at fk;cases fk
    ·rw[w]at fk;cases fk
    rw[pk3,pk4]at w1;rw[pk1,pk2]at ez;rw[pk2]at ec2;rw[pk1]at ec3;rw[pk3]at w4
    have hj:js (p.n.toNat/8)<ps.length:=by
     rcases aar (js (p.n.toNat/8)) ps.length with q|q
     ·exact q
     ·rw[aal q]at w4;cases w4
    have f5:IntKind.wrap .i64 (z0+k)=z:=(Go.Mem.ui (by omega) (by omega)).trans (by omega);have f6:z0.tmod 8=0:=by rw[abx (by omega)];omega
    have f7:qU B.byte p.n.toNat c (k+1)=true:=by
     have ep:(B.byte (p.n.toNat+k)).p=(B.byte p.n.toNat).p:=abO (ec3.symm.trans w4);have ew:IntKind.wrap .i64 ((k:Nat):Int)=k:=Go.Mem.ui (by omega) (by omega);rw[sP,ec1,ec2,ew,ep];simp
    cases A <;> (simp only[EE,nth,↓BK,aad,Int.reduceEq,Int.reduceLE,Int.reduceToNat,zA,zj,QQ,pP,bF,fu,fw,fy,fA,fB,fC,fD,fE,JD,JE,JF,JG,JH,JI,JJ,JK,JL,JM,JN,ZS,hkc,f1,f2,f3,f5,f6,q1,q2,q3,q4,q5,q6,q7,hgb,gz,gz0,aax,abk];refine nx _ _ _ (by rw[sA,ec1];rfl) f7.symm (λq=>?_);cases q)
 ·have hkc2:k=c.toNat:=by omega
  subst hkc2;unfold eY;cases hA:Yi B.byte p.n.toNat c.toNat with
  |true=>
   have hy:=hy hA;rw[aai rfl,<- hy];rcases hcc with c1|c1|c1
   ·have z1:c<8:=(by omega);have z2:IntKind.wrap .u64 (IntKind.wrap .i64 (8*c))=8:=(by rw[c1];rfl);simp only[EE,nth,jB,QQ,ZS,sk,i3,U3,hkc,z1,z2];refine yq (zcL _ _) ?_;simp only[sj];refine yq (Yj _ _) ?_;simp only[EE,zb,aad,Nat.reduceAdd,yJ,zZ,zi,zo,g6,r6,zjg];rw[aac (by omega),aac (by omega)];rfl
   ·have z1:c<8:=(by omega);have z2:IntKind.wrap .u64 (IntKind.wrap .i64 (8*c))=32:=(by rw[c1];rfl);simp only[EE,nth,jB,QQ,ZS,sk,i3,U3,hkc,z1,z2];refine yq (Sq _ _) ?_;simp only[sj];refine yq (Yj _ _) ?_;simp only[EE,zb,aad,Nat.reduceAdd,yJ,zZ,zi,zo,g6,r6,ziJ];rw[aac (by omega),aai c1];rfl
   ·have z1:¬c<8:=(by omega);simp only[EE,nth,jB,ZS,Ff,i3,U3,hkc,z1];refine yq (Yj _ _) ?_;simp only[EE,zb,aad,Nat.reduceAdd,yJ,zZ,zi,zo,g6,r6];rw[aai c1];rfl
  |false=>
   rw[aac (by simp)];cases hP:qU B.byte p.n.toNat c c.toNat with
   |false=>
    rw[aac (by simp)];simp only[EE,nth,zb,aad,Nat.reduceAdd,yJ,zZ,zi,zo,zM,ZS,Fh,U3,hkc,g6,r6];rfl
   |true=>
    rw[aai rfl];have c8:=Pm hP;have fk:=Pl hP (by omega);obtain⟨pk3,pk4⟩:=P8 0 (by omega) c8;rcases hjs _ _ hz0 with⟨_,w⟩|⟨_,_,w⟩|⟨w1,_,_,w4⟩
    ·rw[w]at fk;cases fk
    ·rw[w]at fk;cases fk
    rw[pk3,pk4]at w1;rw[pk3]at w4
    have hj:js (p.n.toNat/8)<ps.length:=by
     rcases aar (js (p.n.toNat/8)) ps.length with q|q
     ·exact q
     ·rw[aal q]at w4;cases w4
    have gz0:cbs[ob+p.n.toNat]? = some (pm z0):=hkb' 0 z0 hz0;have q7:(0:Int)<(c.toNat:Int):=by omega
    have f5:IntKind.wrap .i64 (z0-1000)=z0-1000:=Go.Mem.ui (by omega) (by omega)
    have f6:IntKind.wrap .i64 ((z0-1000).tdiv 8)=((js (p.n.toNat/8):Nat):Int):=by
     rw[acu (by omega)];exact(Go.Mem.ui (by omega) (by omega)).trans (by omega)
    obtain⟨b9,o9,c9,t9,⟨off9,cp9,rfl,rfl⟩,hi9,hb9,hg9,hl9,ht9,_⟩:=D2.zg1.spot (i:=js (p.n.toNat/8)) (r:=((B.byte p.n.toNat).p).z9) (by rw[aaq,w4];rfl) rfl;have q8:(0:Int)<=((js (p.n.toNat/8):Nat):Int):=by omega
    have q9:((js (p.n.toNat/8):Nat):Int)<(ps.length:Int):=(by omega);have ht9':(c9.drop (off9+js (p.n.toNat/8)*3)).take 3=[pm (B.byte p.n.toNat).p.k,pm (B.byte p.n.toNat).p.n,pm (B.byte p.n.toNat).p.b]:=ht9;rw[aaf]at *
    simp only[EE,nth,zb,aad,Nat.reduceAdd,Int.reduceEq,Int.reduceLE,Int.reduceToNat,yJ,zZ,zA,zj,YM,zi,zo,HF,bF,Wt,ZS,Fg,U3,hkc,gm,g6,r6,f5,f6,q7,q8,q9,hgb,gz0,hg9,hl9,ht9',aax,abk];rfl
end
open Go.Rtl (inc Yf uZ)
def VQ(bs:List Int)(n:Nat)(code:Nat->Int):Nat->List Int
 |0=>bs
 |k+1=>(VQ bs n code k).set (n+k) (code k)
theorem kO(bs:List Int)(n:Nat)(code:Nat->Int):∀k,(VQ bs n code k).length=bs.length
 |0=>rfl
 |k+1=>by simp only[VQ,aaW,kO bs n code k]
theorem rI(bs:List Int)(n:Nat)(code:Nat->Int)(a:Nat)(ha:a<bs.length):∀k,(VQ bs n code k)[a]? = if n<=a/\a<n+k then some (code (a-n)) else bs[a]?
 |0=>by rw[aac (by omega)];rfl
 |k+1=>by
  simp only[VQ];by_cases e:n+k=a
  ·subst e;rw[aaM (by rw[kO];exact ha),aai (by omega)]
   congr 2;omega
  ·rw[aa4 e,rI bs n code a ha k];by_cases q:n<=a/\a<n+k
   ·rw[aai q,aai (by omega)]
   ·rw[aac q,aac (by omega)]
theorem ziK(z:List aaa)(hz:0<z.length)(k:Nat):qX z (k*z.length)=(List.replicate k z).flatten:=by
 have hr:∀r,r∈List.replicate k z->r.length=z.length:=λr hr=>by rw[(List.mem_replicate.1 hr).2]
 apply abc;intro j;unfold qX;rw[aaq];by_cases hj:j<k*z.length
 ·rw[List.getElem?_range hj];have hq:j/z.length<k:=Nat.div_lt_of_lt_mul (by rw[Nat.mul_comm];exact hj);have hm:j%z.length<z.length:=Nat.mod_lt _ hz;have:=Yf hr (i:=j/z.length) (r:=z) (k:=j%z.length) (by rw[abZ,aai hq]) hm;rw[Nat.mul_comm,Nat.div_add_mod]at this;rw[this,aae hm];simp only[abV,aae hm,abG]
 ·rw[aal (by simp;omega),aal (by rw[uZ hr];simp;omega)];rfl
section
variable {lo:yU}{h:za}{L:List HP}{m n:Nat}{M:MM}
theorem R0(s:Sat lo h (ja m M n::L))(z:Int):DC pu 20 [yB m,pm z] h (λv h1=>v=.tuple #[pm (zW M z).2.1,pm (zW M z).2.2]/\Sat lo h1 (ja m (zW M z).1 n::L)):=by
 apply NW;unfold P0 yB;by_cases z0:z<0
 ·have e:zW M z=(M,0,1):=by unfold zW;rw[aai (.inl z0)]
  rw[e];simp only[EE,Jz,JA,z0];exact s
 by_cases z1:z>65536
 ·have e:zW M z=(M,0,1):=by unfold zW;rw[aai (.inr z1)]
  rw[e];simp only[EE,Jz,JA,z0,z1];exact s
 obtain⟨lv,pv,bvs,bl,ps,x,hn,D⟩:=Qn s;have gm:=D.s.get;have SL:=y6 (D.s.p 1) (QN _ _);have ln:=SL.wk;have ll:=zc7 SL 3;rw[kM D.len,x.len]at ll;by_cases hf:(M.length:Int) ≥ 100000
 ·have e:zW M z=(M,0,2):=by unfold zW;rw[aac (by omega),aai (by omega)]
  rw[e];simp only[EE,zA,WX,kS,rV,Jz,JA,z0,z1,gm,ln,ll,hf];exact s
 have e:zW M z=(M++[fresh z],(M.length:Int)+1,0):=by unfold zW;rw[aac (by omega),aac (by omega)]
 rw[e];have mk:=zij .i64 .i64 z z h (by omega) (Int.le_refl _) (by omega)
 have hz:qX [(pm 0:aaa)] (z.toNat*1)=((List.replicate z.toNat (0:Int)).map yo).flatten:=by
  rw[List.map_replicate];exact ziK [(pm 0:aaa)] (by decide) z.toNat
 simp only[EE,↓BK,zA,WX,kS,rV,Jz,JA,z0,z1,gm,ln,ll,hf,mk];rw[hz];have s1:=ZR (n:=1) (c:=z.toNat+2) (ty:=3) (by omega) (UZ _) rfl (D.s.push (.cells ((List.replicate z.toNat (0:Int)).map yo).flatten 3));rw[aaf,abN]at s1;generalize h.push (.cells ((List.replicate z.toNat (0:Int)).map yo).flatten 3)=H at s1 ⊢;generalize hb:h.next=b0 at s1 ⊢;clear hb;refine qY (λr vs h'=>∃k:Nat,(k:Int)<=z/\r=z.toNat-k/\vs=[pm k]/\Sat lo h' (yY 3 1 (.slice (some ⟨b0,0,none⟩) z.toNat (z.toNat+2)) ((VQ (List.replicate z.toNat 0) 0 (λ_ => -1) k).map yo)::pt m (.cells [lv,pv] 58)::yY 95 2 lv (qS bvs bl)::yY 66 3 pv (ps.map V.z9)::(HA bvs bl++L))) z.toNat ⟨0,by omega,rfl,rfl,s1⟩ ?_;rintro r vs h' ⟨k,hk,rfl,rfl,s2⟩;by_cases hkz:(k:Int)<z
 ·obtain⟨b,c,cs,hsv,gb,wb,lb,s3⟩:=Xh s2 (UZ _) (i:=k) (by rw[aaf,kO,abN];omega);rw[aaf,kO,abN]at hsv;simp only[abd,aab,abw,abg,abQ]at hsv;obtain⟨rfl,rfl⟩:=hsv;have q1:(0:Int)<=k:=by omega
  have q2:(k:Int)<(z.toNat:Int):=by omega
  simp only[EE,nth,↓BK,aad,Int.reduceNeg,WU,bF,EZ,rU,hkz,q1,q2,aax];refine V1 gb wb lb s3 rfl rfl λh3 s4=>?_;simp only[EE,nth,Int.reduceNeg,inc (show k<4611686018427387904 by omega)];refine⟨z.toNat-(k+1),by omega,k+1,by omega,rfl,rfl,?_⟩
  have:((VQ (List.replicate z.toNat 0) 0 (λ_ => -1) k).map yo).set k [pm (-1)]=(VQ (List.replicate z.toNat 0) 0 (λ_ => -1) (k+1)).map yo:=by
   simp only[VQ,aay,ab5];rfl
  rw[<- this];exact s4
 ·have hkz2:k=z.toNat:=by omega
  subst hkz2;obtain⟨bs,hbs⟩:∃bs,bs=VQ (List.replicate z.toNat 0) 0 (λ_ => -1) z.toNat:=⟨_,rfl⟩;rw[<- hbs]at s2;have hbl:bs.length=z.toNat:=by rw[hbs,kO,abN]
  have hR:Qq ps bs (λ_=>tZ):=⟨λ_=>0,λa y hy=>by
   have ha:a<z.toNat:=by
    rcases aar a z.toNat with q|q
    ·exact q
    ·rw[aal (by rw[hbl];exact q)]at hy;cases hy
   rw[hbs,rI _ _ _ _ (by rw[abN];exact ha),aai ⟨aba _,by omega⟩]at hy;exact .inl ⟨(abO hy).symm,rfl⟩⟩
  clear hbs;have gm2:=(s2.p 1).get;have s3:=s2.push (.cells [.slice (some ⟨b0,0,none⟩) z.toNat (z.toNat+2),.bool false] 95);obtain⟨b',c',h2,a1,s4⟩:=jH (s3.p 3) (QN _ _) [.slice (some ⟨b0,0,none⟩) z.toNat (z.toNat+2),.bool false] rfl (by decide) 32 (by rw[kM D.len,x.len];omega);rw[kM D.len,x.len]at a1 s4
  have ha:∀r,zB pu .append [55,55] r [lv,.slice (some ⟨h'.next,0,none⟩) 1 3] (h'.push (.cells [.slice (some ⟨b0,0,none⟩) z.toNat (z.toNat+2),.bool false] 95))=some (.slice (some ⟨b',0,none⟩) (M.length+1) c',h2):=λr=>by
   rw[zhT r _ _ 1 [.slice (some ⟨b0,0,none⟩) z.toNat (z.toNat+2),.bool false] _ rfl (by simp only[wR,zk];rfl) rfl rfl];exact a1
  simp only[EE,nth,zA,WX,zh0,zeq,zaa,kS,rU,E0,hkz,gm2,ln,ha];refine yp (s4.p 3) (by simp) rfl λh3 s5=>?_;have g5:=s5.get
  have ll2:=zc7 (y6 (s5.p 1) (by
   intro r hr;rcases aaQ.1 hr with q|q
   ·exact QN _ _ r q
   ·simp only[aaV]at q;subst q;rfl)) 3
  rw[abH,List.length_singleton,kM D.len,x.len]at ll2;simp only[EE,zb,zA,WX,kS,g5,ll2];have s6:=(s5.p 2).drop;refine⟨by rw[Int.natCast_add];rfl,VG (pv:=pv) (lv := .slice (some ⟨b',0,none⟩) (M.length+1) c') (bvs:=bvs++[.slice (some ⟨b0,0,none⟩) z.toNat (z.toNat+2)]) (bl:=bl++[(bs,false)]) (x.app (b:=(bs,false)) (B:=fresh z) rfl hbl.symm λ_=>hR) hn ⟨?_,by simp[D.len]⟩⟩;rw[C4 D.len,Mp D.len,acf];exact s6.perm (((((List.Perm.swap _ _ _).trans (List.perm_middle.symm.cons _)).cons _).cons _))
theorem DMO.focus{lv pv:aaa}{bvs:List aaa}{bl:List DB}{ps:List V}(D:DMO lo h m lv pv bvs bl ps L){i:Nat}{bv:aaa}{b:DB}(h1:bvs[i]? = some bv)(h2:bl[i]? = some b) :
  ∃R,Sat lo h (yY 3 1 bv (b.1.map yo)::pt m (.cells [lv,pv] 58)::yY 95 2 lv (qS bvs bl)::yY 66 3 pv (ps.map V.z9)::R) /\
   ∀(h':za) (b':DB) lv' pv' ps' rows',rows'=qS bvs (bl.set i b')->Sat lo h' (yY 3 1 bv (b'.1.map yo)::pt m (.cells [lv',pv'] 58)::yY 95 2 lv' rows'::yY 66 3 pv' (ps'.map V.z9)::R)->DMO lo h' m lv' pv' bvs (bl.set i b') ps' L:=by
 obtain⟨R,p,q⟩:=Bd h1 h2;refine⟨R++L,?_,λh' b' lv' pv' ps' rows' e s=>⟨?_,by rw[aaW];exact D.len⟩⟩
 ·refine D.s.perm ?_;have p2:=p.append_right L;exact((((p2.cons _).trans (List.Perm.swap _ _ _)).cons _).trans (List.Perm.swap _ _ _)).cons _ |>.trans (List.Perm.swap _ _ _)
 ·subst e;refine s.perm ?_;have p2:=(q b').append_right L
  have:∀A B C E:HP,∀X Y:List HP,Y.Perm (A::X)->(A::B::C::E::X).Perm (B::C::E::Y):=λA B C E X Y z=>
   (List.Perm.swap _ _ _).trans ((((List.Perm.swap _ _ _).trans (((List.Perm.swap _ _ _).trans (z.symm.cons _)).cons _))).cons _)
  exact this _ _ _ _ _ _ p2
theorem zcS(s:Sat lo h (ja m M n::L))(hM:M.length<=100000)(z:Int):DC pu 85 [yB m,pm z] h (λv h1=>v=.bool (qN M z).isSome/\Sat lo h1 (ja m ((qN M z).getD M) n::L)):=by
 apply TE;unfold zbl yB;obtain⟨lv,pv,bvs,bl,ps,x,hn,D⟩:=Qn s;simp only[];refine yq (zgE D.dv x hM z) ?_;cases hi:idx M z with
 |none=>
  have e:qN M z=none:=by unfold qN;rw[hi];rfl
  rw[e];simp only[EE,aa8];exact s
 |some i=>
  obtain⟨hz,B,hB,hf⟩:=Uw hi;have e:qN M z=some (M.set i (gone B)):=by unfold qN;rw[hi];simp[hB]
  rw[e];obtain⟨bv,b,q,cs,t,off,cp,hbv,hb,e0,e1,e2,e3,hq,hg,hl,k0,k1⟩:=D.dv.k9 x hB;have gm:=D.s.get;have ln:=D.dv.rows.wk
  have hil:i<bl.length:=by
   rcases aar i bl.length with w|w
   ·exact w
   ·rw[aal w]at hb;cases hb
  have hxl:=x.len;obtain⟨q2,c2,cs2,hsv,gb,wb,lb,s3⟩:=Xh (D.s.p 1) (QN _ _) (i:=i) (by rw[kM D.len];exact hil);rw[kM D.len]at hsv;subst hsv;simp only[abd,aab,abw,abg,abQ]at e0;obtain⟨⟨rfl,rfl⟩,rfl⟩:=e0;have hcs:cs=cs2/\t=95:=by rw[gb]at hg;simp at hg;exact⟨hg.1.symm,hg.2.symm⟩
  obtain⟨rfl,rfl⟩:=hcs;have hw:IntKind.wrap .i64 (z-1)=z-1:=Go.Mem.ui (by omega) (by omega);have h3:(0:Int)<=z-1:=by omega
  have h4:z-1<(bl.length:Int):=by omega
  have h5:(z-1).toNat=i:=by omega
  have hm:zb cs (i*2+1) [.bool true]=zb cs (i*2) [bv,.bool true]:=by
   rw[aay]at k0;show cs.set (i*2+1) _=(cs.set (i*2) bv).set (i*2+1) _
   congr 1
   apply abc;intro j;by_cases q:i*2=j
   ·subst q;rw[aaM (by omega),k0]
   ·rw[aa4 q]
  simp only[EE,aad,zA,WX,Xa,kS,Bh,bG,IN,abh,gm,hw,h3,h4,h5];rw[Ec gb,aai ⟨by simp;omega,wb,rfl⟩,hm];have s4:=(s3 [bv,.bool true] rfl).p 1;simp only[EE,zb];refine⟨rfl,VG (lv := .slice (some ⟨q2,0,none⟩) bl.length c2) (pv:=pv) (bvs:=bvs) (bl:=bl.set i (b.1,true)) (ps:=ps) (x.set (b:=(b.1,true)) (B:=gone B) rfl e2 λq=>by cases q) hn ⟨?_,by rw[aaW];exact D.len⟩⟩;rw[dO hbv];obtain⟨R,p,q⟩:=Bd hbv hb;exact s4.perm ((((p.trans (q (b.1,true)).symm).append_right L).cons _).cons _ |>.cons _)
theorem zfL{ps:List V}{j i:Nat}{z:Int}(h0:0<=z)(h1:z<=255):Ac ps j i z ⟨1,z,v0⟩ := .inr (.inl ⟨h0,h1,rfl⟩)
theorem zho(s:Sat lo h (ja m M n::L))(hM:M.length<=100000)(hs:small M)(z:Int):DC pu 21 [yB m,pm z] h (λv h1=>v=.bool (Xl M z).isSome/\Sat lo h1 (ja m ((Xl M z).getD M) n::L)):=by
 apply TK;unfold zbt yB;obtain⟨lv,pv,bvs,bl,ps,x,hn,D⟩:=Qn s;simp only[];refine yq (zgE D.dv x hM z) ?_;cases hi:idx M z with
 |none=>
  have e:Xl M z=none:=by unfold Xl;rw[hi];rfl
  rw[e];simp only[EE,aa8];exact s
 |some i=>
  obtain⟨hz,B,hB,hf⟩:=Uw hi;have e:Xl M z=some (M.set i (UC B B.size)):=by unfold Xl;rw[hi];simp[hB]
  rw[e];obtain⟨bv,b,q,cs,t,off,cp,hbv,hb,e0,e1,e2,e3,hq,hg,hl,k0,k1⟩:=D.dv.k9 x hB;subst e0;have gm:=D.s.get;have hxl:=x.len;have hsz:=hs i B hB
  have hil:i<bl.length:=by
   rcases aar i bl.length with w|w
   ·exact w
   ·rw[aal w]at hb;cases hb
  have hw:IntKind.wrap .i64 (z-1)=z-1:=Go.Mem.ui (by omega) (by omega);have h3:(0:Int)<=z-1:=by omega
  have h4:z-1<(bl.length:Int):=by omega
  have h5:(z-1).toNat=i:=by omega
  have bn:=(D.dv.byt i bv b hbv hb).wk;obtain⟨R,s1,back⟩:=D.focus hbv hb;simp only[EE,↓BK,aad,zA,yS,WX,kS,UW,bG,Ll,abh,gm,hw,h3,h4,h5,hg,k0];refine qY (λr vs h'=>∃k:Nat,k<=b.1.length/\r=b.1.length-k/\vs=[pm k]/\Sat lo h' (yY 3 1 bv ((VQ b.1 0 (λ_=>0) k).map yo)::pt m (.cells [.slice (some ⟨q,off,none⟩) bl.length cp,pv] 58)::yY 95 2 (.slice (some ⟨q,off,none⟩) bl.length cp) (qS bvs bl)::yY 66 3 pv (ps.map V.z9)::R)) b.1.length ⟨0,by omega,rfl,rfl,s1⟩ ?_;rintro r vs h' ⟨k,hk,rfl,rfl,s2⟩;have bll:=zfR (y6 s2 (UZ _)) 3;rw[aaf,kO]at bll;by_cases hkz:(k:Int)<(b.1.length:Int)
  ·obtain⟨bq,c,cs',hsv,gb,wb,lb,s3⟩:=Xh s2 (UZ _) (i:=k) (by rw[aaf,kO];omega);rw[aaf,kO]at hsv;subst hsv;have q1:(0:Int)<=k:=by omega
   simp only[EE,nth,↓BK,aad,WU,bF,Lj,Cc,hkz,q1,bll,aax];refine V1 gb wb lb s3 rfl rfl λh3 s4=>?_;simp only[EE,nth,inc (show k<4611686018427387904 by omega)];refine⟨b.1.length-(k+1),by omega,k+1,by omega,rfl,rfl,?_⟩
   have:((VQ b.1 0 (λ_=>0) k).map yo).set k [pm 0]=(VQ b.1 0 (λ_=>0) (k+1)).map yo:=by
    simp only[VQ,aay,ab5];rfl
   rw[<- this];exact s4
  ·have hkz2:k=b.1.length:=by omega
   subst hkz2;simp only[EE,nth,Cc,hkz,bn,bll];refine⟨rfl,VG (ps:=ps) (x.set (b:=(VQ b.1 0 (λ_=>0) b.1.length,b.2)) (B:=UC B B.size) e1 (by rw[kO];exact e2) λ_=>⟨λ_=>0,λa y hy=>?_⟩) hn (back h' (VQ b.1 0 (λ_=>0) b.1.length,b.2) _ _ ps _ ?_ s2)⟩
   ·have ha:a<b.1.length:=by
     rcases aar a b.1.length with w|w
     ·exact w
     ·rw[aal (by rw[kO];exact w)]at hy;cases hy
    rw[rI _ _ _ _ ha,aai ⟨aba _,by omega⟩]at hy;cases hy;show Ac ps 0 (a%8) 0 (if a<B.size then zc else B.byte a);rw[aai (by omega)];exact zfL (by decide) (by decide)
   ·rw[dO hbv];apply abc;intro j;by_cases w:i=j
    ·subst w;rw[aaM (by rw[kM D.len];exact hil),dN hbv hb];rfl
    ·rw[aa4 w]
end
def ptB(v:V):Bool:=kN v&&decide (v.k=2)
theorem zdy(v:V):ptB v=decide ((norm v).k=2):=by
 unfold ptB norm;cases kN v
 ·rfl
 ·simp
def Wr(v:V)(np:Nat)(k:Nat):Int:=if (norm v).k=2 then 1000+8*np+k else if (norm v).k=1 then (norm v).n.fdiv (2^(8*k))%256 else -1
def bM(ps:List V)(v:V):List V:=if (norm v).k=2 then ps++[v] else ps
theorem Gx(v:V):(norm v).k=0\/(norm v).k=1\/(norm v).k=2:=by
 unfold norm;cases g:kN v with
 |false=>exact .inl rfl
 |true=>
  rw[aai rfl];rcases SN g with q|q|q
  ·exact .inl q
  ·exact .inr (.inl q.1)
  ·exact .inr (.inr q.1)
theorem norm_eq{v:V}(h:(norm v).k≠0):norm v=v:=by
 unfold norm at h ⊢;split
 ·rfl
 ·rename_i q;rw[aac q]at h;exact absurd rfl h
theorem Mq{ps:List V}{bs:List Int}{B:MB}{v:V}{c n:Nat}(x:Qq ps bs B.byte)(hn:n+c<=bs.length)(h8:(norm v).k=2->c=8/\n%8=0):Qq (bM ps v) (VQ bs n (Wr v ps.length) c) (Xo B n (norm v) c).byte:=by
 obtain⟨js,x⟩:=x;refine⟨λs=>if (norm v).k=2/\s=n/8 then ps.length else js s,λa z hz=>?_⟩
 have ha:a<bs.length:=by
  rcases aar a bs.length with w|w
  ·exact w
  ·rw[aal (by rw[kO];exact w)]at hz;cases hz
 rw[rI _ _ _ _ ha]at hz;show Ac _ _ _ z (if n<=a/\a<n+c then cellOf (norm v) (a-n) else B.byte a);by_cases hin:n<=a/\a<n+c
 ·rw[aai hin]at hz ⊢;have hz:=(abO hz).symm;subst hz;unfold Wr cellOf bM;rcases Gx v with k|k|k
  ·rw[k];exact .inl ⟨rfl,rfl⟩
  ·rw[k];simp only[Int.reduceEq,aad,abe,false_and]
   have e:IntKind.wrap .u8 ((norm v).n.fdiv (2^(8*(a-n))))=(norm v).n.fdiv (2^(8*(a-n)))%256:=by
    simp[IntKind.wrap,IntKind.bits,IntKind.signed]
   rw[e];exact zfL (by omega) (by omega)
  ·obtain⟨rfl,h0⟩:=h8 k;rw[k];simp only[Int.reduceEq,aad,abe,abQ]
   have e:IntKind.wrap .u8 ((a-n:Nat):Int)=((a-n:Nat):Int):=by
    simp[IntKind.wrap,IntKind.bits,IntKind.signed];omega
   have e8:a%8=a-n:=by omega
   rw[aai (show a/8=n/8 by omega),e,e8];refine .inr (.inr ⟨rfl,rfl,rfl,?_⟩);show(ps++[v])[ps.length]? = some (norm v);rw[norm_eq (by rw[k];decide)];simp
 ·rw[aac hin]at hz ⊢;have y:=x a z hz;show Ac (bM ps v) (if (norm v).k=2/\a/8=n/8 then ps.length else js (a/8)) (a%8) z (B.byte a);by_cases k:(norm v).k=2
  ·obtain⟨rfl,h0⟩:=h8 k;rw[aac (λq=>hin (by omega))];unfold bM;rw[aai k];exact y.more v
  ·rw[aac (λq=>k q.1)];unfold bM;rw[aac k];exact y
theorem zfX{lo:yU}{h:za}{L:List HP}{b:Nat}{o:wA}(s:Sat lo h (pt b o::L)):∃lo1,lo.Le lo1/\Rd lo1 (λh=>h.get b=some o)/\Sat lo1 h L /\ ∀h' L',Sat lo1 h' L'->Sat lo h' L':=by
 obtain⟨a,ha,d,w,s⟩:=s;refine⟨lo.un a,yU.iE d,λh1 b1=>?_,s,λh' L' s'=>s'.mono (yU.iE d)⟩;have:Sat lo h1 [pt b o]:=⟨a,ha,d,w,b1⟩;exact this.get
section
variable {lo:yU}{h:za}{L:List HP}{m n:Nat}{M:MM}
theorem dR{n':Nat}(s:Sat lo h (ja m M n::L))(hn:n<=n'):Sat lo h (ja m M n'::L):=by
 obtain⟨lv,pv,bvs,bl,ps,x,h1,D⟩:=Qn s;exact VG x (by omega) D
theorem ze9(s:Sat lo h (ja m M n::L))(hM:M.length<=100000)(hs:small M)(hps:n<=100000000){c:Int}{p v:V}(hc:wD c)(hp:p.ok):DC pu 84 [yB m,pm c,vv p,vv v] h (λr h1=>r=.bool (wX M c p v).isSome/\Sat lo h1 (ja m ((wX M c p v).getD M) (n+1)::L)):=by
 apply N0;unfold Rj yB;simp only[EE,Value.cells];refine uI s λb6 h2 s2=>?_;simp only[];refine uI s2 λb7 h3 s3=>?_;have g7:=s3.get;have g6:=(s3.p 1).get;simp only[EE,aad,Nat.reduceAdd,zZ,zi,g7];refine yq (KW v _) ?_
 have tail:∀q,q=ptB v->zq pu (.func (.func 100) #[] #[]) [pi m,pm c,.agg #[pm p.k,pm p.n,pm p.b]] h3 (W6 (.bool q) (pm c) (λr h1=>r=.bool (wX M c p v).isSome/\Sat lo h1 (ja m ((wX M c p v).getD M) (n+1)::L)) (pi m) (pi b6) (pi b7)):=by
  intro q hq;obtain⟨lo7,l7,rd7,s4,back7⟩:=zfX s3;obtain⟨lo6,l6,rd6,s5,back6⟩:=zfX s4;have rd7:=rd7.mono l6;have back:∀h' L',Sat lo6 h' L'->Sat lo h' L':=λh' L' z=>back7 _ _ (back6 _ _ z);obtain⟨lv,pv,bvs,bl,ps,x,hn,D⟩:=Qn s5;refine yq (Bq D.dv x hM hs hc hp) ?_
  have no:wX M c p v=none->Sat lo h3 (ja m ((wX M c p v).getD M) (n+1)::L):=by
   intro e;rw[e];exact back _ _ (dR s5 (abr _))
  have hs':wX M c p v=if (norm v).k=2/\c≠8 then none else match right M c p with
   |none=>none
   |some i=>(M[i]?).map λB=>M.set i (Xo B p.n.toNat (norm v) c.toNat):=rfl
  have hq2:q=decide ((norm v).k=2):=hq.trans (zdy v);cases hr:right M c p with
  |none=>
   have e:wX M c p v=none:=by
    rw[hs',hr];split <;> rfl
   simp only[EE,Qw,Qx,W6,aa8];exact⟨by rw[e];rfl,no e⟩
  |some i=>
  by_cases c8:q=true /\ ¬c=8
  ·obtain⟨rfl,c8⟩:=c8
   have e:wX M c p v=none:=by
    rw[hs',aai ⟨by simpa using hq2.symm,c8⟩]
   simp only[EE,Qw,Qx,W6,abh,c8];exact⟨by rw[e];rfl,no e⟩
  obtain⟨k2,hcc,hi,B,hB,hn0,hn1,hn2⟩:=eJ hr;obtain⟨hpb,B',hB',hf⟩:=Uw hi;rw[hB]at hB';cases hB'
  have e:wX M c p v=some (M.set i (Xo B p.n.toNat (norm v) c.toNat)):=by
   rw[hs',aac,hr]
   ·simp only[hB,abV]
   ·rintro⟨z1,z2⟩;exact c8 ⟨by rw[hq2,z1];rfl,z2⟩
  rw[e];have hsz:=hs i B hB;obtain⟨bv,b,qb,cs,t,off,cp,hbv,hb,e0,e1,e2,e3,hqq,hg,hl,k0,k1⟩:=D.dv.k9 x hB;subst e0;have gm:=D.s.get;have hxl:=x.len
  have hil:i<bl.length:=by
   rcases aar i bl.length with w|w
   ·exact w
   ·rw[aal w]at hb;cases hb
  have hw:IntKind.wrap .i64 (p.b-1)=p.b-1:=Go.Mem.ui (by omega) (by omega);have h3':(0:Int)<=p.b-1:=by omega
  have h4:p.b-1<(bl.length:Int):=by omega
  have h5:(p.b-1).toNat=i:=by omega
  have hw2:IntKind.wrap .i64 (p.n+c)=p.n+c:=Go.Mem.ui (by omega) (by omega);obtain⟨R,s6,bk⟩:=D.focus hbv hb;obtain⟨bq,bc,bcs,hsv,_,_,_,_⟩:=Xh s6 (UZ _) (i:=p.n.toNat) (by rw[aaf];omega);rw[aaf]at hsv;subst hsv;obtain⟨X,hX⟩:=R7 (b:=bq) (o:=0) (cp:=bc) (h:=h3) hn0 (show p.n<=p.n+c by omega) (show p.n+c<=(b.1.length:Int) by omega);have hpc:(p.n+c-p.n).toNat=c.toNat:=by omega
  rw[hpc]at hX
  have g8:q=true->c=8/\p.n.toNat%8=0:=λz=>by
   have:c=8:=Classical.byContradiction λz2=>c8 ⟨z,z2⟩;subst this;rw[abx hn0]at hn2;exact⟨rfl,by omega⟩
  have r6:=rd6.at s6;have r7:=rd7.at s6;have bn:=(D.dv.byt i _ b hbv hb).wk
  have h8:(norm v).k=2->c.toNat=8/\p.n.toNat%8=0:=λz=>by
   have:=g8 (by rw[hq2,z];rfl);omega
  have loop:∀h4 pv',Sat lo6 h4 (yY 3 1 (.slice (some ⟨bq,0,none⟩) b.1.length bc) (b.1.map yo)::pt m (.cells [.slice (some ⟨qb,off,none⟩) bl.length cp,pv'] 58)::yY 95 2 (.slice (some ⟨qb,off,none⟩) bl.length cp) (qS bvs bl)::yY 66 3 pv' ((bM ps v).map V.z9)::R) ->
    LP (i9 (pm c) (λvs34 h35=>rv [(.bool true)] h35 (λr h1=>r=.bool (some (M.set i (Xo B p.n.toNat (norm v) c.toNat))).isSome/\Sat lo h1 (ja m ((some (M.set i (Xo B p.n.toNat (norm v) c.toNat))).getD M) (n+1)::L))) (.slice (some ⟨bq,p.n.toNat,none⟩) c.toNat X) (.bool q) (pi m) (pi b7)) [pm 0] h4:=by
   intro h4 pv' s7;refine qY (λr vs h'=>∃k:Nat,(k:Int)<=c/\r=c.toNat-k/\vs=[pm k]/\Sat lo6 h' (yY 3 1 (.slice (some ⟨bq,0,none⟩) b.1.length bc) ((VQ b.1 p.n.toNat (Wr v ps.length) k).map yo)::pt m (.cells [.slice (some ⟨qb,off,none⟩) bl.length cp,pv'] 58)::yY 95 2 (.slice (some ⟨qb,off,none⟩) bl.length cp) (qS bvs bl)::yY 66 3 pv' ((bM ps v).map V.z9)::R)) c.toNat ⟨0,by omega,rfl,rfl,s7⟩ ?_;rintro r vs h' ⟨k,hk,rfl,rfl,s8⟩;by_cases hkc:(k:Int)<c
   ·have hin:p.n.toNat+k<(VQ b.1 p.n.toNat (Wr v ps.length) k).length:=(by rw[kO];omega);have q1:(0:Int)<=k:=(by omega);have q2:(k:Int)<(c.toNat:Int):=(by omega);have qo:p.n.toNat+k*1=(p.n.toNat+k)*1:=(by omega);obtain⟨z1,z2,z3,z4,gb,wb,lb,s9⟩:=Xh s8 (UZ _) (i:=p.n.toNat+k) (by rw[aaf];exact hin);rw[aaf,kO]at z4;simp only[abd,aab,abw,abg,abQ]at z4;obtain⟨rfl,rfl⟩:=z4;simp only[EE,nth,↓BK,aad,Int.reduceNeg,WU,bF,Fw,Fx,i9,hkc,q1,q2,qo,aax];refine V1 gb wb lb s9 rfl rfl λh5 s10=>?_
    have e1:∀z:Int,(((VQ b.1 p.n.toNat (Wr v ps.length) k).map yo).set (p.n.toNat+k) [pm (-1)]).set (p.n.toNat+k) [pm z]=((VQ b.1 p.n.toNat (Wr v ps.length) k).set (p.n.toNat+k) z).map yo:=λz=>by
     rw[List.set_set,ab5];rfl
    have nx:∀h6,Sat lo6 h6 (yY 3 1 (.slice (some ⟨bq,0,none⟩) b.1.length bc) (((VQ b.1 p.n.toNat (Wr v ps.length) k).set (p.n.toNat+k) (Wr v ps.length k)).map yo)::pt m (.cells [.slice (some ⟨qb,off,none⟩) bl.length cp,pv'] 58)::yY 95 2 (.slice (some ⟨qb,off,none⟩) bl.length cp) (qS bvs bl)::yY 66 3 pv' ((bM ps v).map V.z9)::R)->∃r',r'<c.toNat-k /\ ∃k':Nat,(k':Int)<=c/\r'=c.toNat-k' /\ [Value.int .i64 ((k+1:Nat):Int)]=[pm k']/\Sat lo6 h6 (yY 3 1 (.slice (some ⟨bq,0,none⟩) b.1.length bc) ((VQ b.1 p.n.toNat (Wr v ps.length) k').map yo)::pt m (.cells [.slice (some ⟨qb,off,none⟩) bl.length cp,pv'] 58)::yY 95 2 (.slice (some ⟨qb,off,none⟩) bl.length cp) (qS bvs bl)::yY 66 3 pv' ((bM ps v).map V.z9)::R) :=
     λh6 z=>⟨c.toNat-(k+1),by omega,k+1,by omega,rfl,rfl,z⟩
    have q3:=inc (show k<4611686018427387904 by omega);have g10:=(s10.p 1).get
    obtain⟨y1,y2,y3,y4,gb2,wb2,lb2,s11⟩:=Xh s10 (rows:=((VQ b.1 p.n.toNat (Wr v ps.length) k).map yo).set (p.n.toNat+k) [pm (-1)]) (by
     intro w hw;rcases acC hw with z|rfl
     ·exact UZ _ w z
     ·rfl) (i:=p.n.toNat+k) (by rw[aaW,aaf];exact hin)
    rw[aaW,aaf,kO]at y4;simp only[abd,aab,abw,abg,abQ]at y4;obtain⟨rfl,rfl⟩:=y4;cases q with
    |true=>
     have kn:(norm v).k=2:=(by simpa using hq2.symm);have ep:bM ps v=ps++[v]:=(by unfold bM;rw[aai kn]);have SP:=y6 (s10.p 3) (wV _);have pn:=SP.wk;have pl:=zc8 SP 3;rw[ep,abH,List.length_singleton]at pl;have w1:IntKind.wrap .i64 (((ps.length+1:Nat):Int)-1)=ps.length:=(Go.Mem.ui (by omega) (by omega)).trans (by omega);have w2:IntKind.wrap .i64 (8*(ps.length:Int))=8*(ps.length:Int):=Go.Mem.ui (by omega) (by omega);have w3:IntKind.wrap .i64 (1000+8*(ps.length:Int))=1000+8*(ps.length:Int):=Go.Mem.ui (by omega) (by omega)
     have w4:IntKind.wrap .i64 (1000+8*(ps.length:Int)+k)=Wr v ps.length k:=by
      unfold Wr;rw[aai kn];exact Go.Mem.ui (by omega) (by omega)
     simp only[EE,nth,aad,zA,YM,WU,HF,bF,Fv,g10,pn,pl,w1,w2,w3,w4,q1,q2,qo,aax];refine V1 gb2 wb2 lb2 s11 rfl rfl λh6 s12=>?_;rw[e1]at s12;simp only[EE,nth,q3];exact nx _ s12
    |false=>
     have r7':=rd7.at s10;simp only[EE,aad,Nat.reduceAdd,zZ,zi,r7'];refine yq (KW v _) ?_
     have zJ:(norm v).k=0->Sat lo6 h5 (yY 3 1 (.slice (some ⟨bq,0,none⟩) b.1.length bc) (((VQ b.1 p.n.toNat (Wr v ps.length) k).set (p.n.toNat+k) (Wr v ps.length k)).map yo)::pt m (.cells [.slice (some ⟨qb,off,none⟩) bl.length cp,pv'] 58)::yY 95 2 (.slice (some ⟨qb,off,none⟩) bl.length cp) (qS bvs bl)::yY 66 3 pv' ((bM ps v).map V.z9)::R):=λz=>by
      have:Wr v ps.length k = -1:=(by unfold Wr;rw[z];rfl);rw[this,ab5];exact s10
     cases gv:kN v with
     |false=>
      simp only[EE,nth,i6,i7,q3];exact nx _ (zJ (by unfold norm;rw[aac (by rw[gv];simp)];rfl))
     |true=>
      have nv:norm v=v:=(by unfold norm;rw[aai gv]);by_cases k1:v.k=1
      ·have w1:IntKind.wrap .i64 (8*(k:Int))=((8*k:Nat):Int):=(Go.Mem.ui (by omega) (by omega)).trans (by omega);have w2:IntKind.wrap .u64 ((8*k:Nat):Int)=((8*k:Nat):Int):=by rw[show IntKind.wrap .u64 ((8*k:Nat):Int)=wu ((8*k:Nat):Int) from rfl,Ei];omega
       have w3:(0:Int)<=((8*k:Nat):Int):=(by omega);have w5:min (8*k) (IntKind.bits .i64)=8*k:=by show min (8*k) 64=_;omega
       have w4:IntKind.wrap .i64 (BitVec.ofInt (IntKind.bits .i64) (v.n.fdiv (2^(8*k))) &&& BitVec.ofInt (IntKind.bits .i64) 255).toNat=Wr v ps.length k:=by
        unfold Wr;rw[nv,aac (by omega),aai k1];exact pE _ 8 (by decide)
       simp only[EE,nth,aad,zA,xp,zj,WU,QQ,zP,yf,bF,Fu,i6,i7,r7',k1,w1,w2,w3,w5,w4,q1,q2,qo,aax];refine V1 gb2 wb2 lb2 s11 rfl rfl λh6 s12=>?_;rw[e1]at s12;simp only[EE,nth,q3];exact nx _ s12
      ·simp only[EE,nth,zA,zj,zP,i6,i7,r7',k1,q3];refine nx _ (zJ ?_);rw[nv];have:=Gx v;rw[nv]at this;have z:¬v.k=2:=λw=>by rw[nv,w]at hq2;cases hq2
       omega
   ·have hkc2:k=c.toNat:=(by omega);subst hkc2;simp only[EE,nth,i9,hkc]
    refine⟨rfl,back _ _ (VG (ps:=bM ps v) ((show DR bl (bM ps v) M by
     unfold bM;split
     ·exact x.more v
     ·exact x).set (b:=(VQ b.1 p.n.toNat (Wr v ps.length) c.toNat,b.2)) (B:=Xo B p.n.toNat (norm v) c.toNat) e1 (by rw[kO];exact e2) λz=>Mq (e3 z) (by omega) h8) ?_ (bk h' (VQ b.1 p.n.toNat (Wr v ps.length) c.toNat,b.2) _ _ (bM ps v) _ ?_ s8))⟩
    ·unfold bM;split
     ·simp;omega
     ·omega
    ·rw[dO hbv];apply abc;intro j;by_cases w:i=j
     ·subst w;rw[aaM (by rw[kM D.len];exact hil),dN hbv hb];rfl
     ·rw[aa4 w]
  cases q with
  |false=>
   have kn:¬(norm v).k=2:=by simpa using hq2.symm
   simp only[EE,aaC,↓BK,aad,zA,xp,yS,zj,WX,kS,yf,xM,UW,bG,ss,Qw,Qx,W6,abh,gm,r6,hw,h3',h4,h5,hg,k0,hw2,hX,bn];exact loop _ pv (by unfold bM;rw[aac kn];exact s6)
  |true=>
   have kn:(norm v).k=2:=by simpa using hq2.symm
   have c8:c=8:=(g8 rfl).1;have s7:=s6.push (.cells [pm v.k,pm v.n,pm v.b] 66);obtain⟨b',c',h2,a1,s8⟩:=jH (s7.p 4) (wV _) v.z9 rfl (by decide) 24 (by rw[aaf];omega);rw[aaf]at a1 s8
   have ha:∀r,zB pu .append [56,56] r [pv,.slice (some ⟨h3.next,0,none⟩) 1 3] (h3.push (.cells [pm v.k,pm v.n,pm v.b] 66))=some (.slice (some ⟨b',0,none⟩) (ps.length+1) c',h2):=λr=>
    (Mb r _ _ 1 v.z9 _ rfl (by simp only[wR,zk];rfl) rfl rfl).trans a1
   have pn:=xR (s6.p 3);have d8:decide (c=8)=true:=uj c8;simp only[EE,aaC,aad,Nat.reduceAdd,zZ,zA,xp,yS,zj,WX,YM,zi,zfD,Qm,kS,HF,yf,xM,UW,bG,Ft,ss,Qw,Qx,W6,abh,gm,r6,r7,hw,h3',h4,h5,hg,k0,hw2,hX,bn,d8,ha,pn];refine yp (s8.p 3) (by simp) rfl λh9 s9=>?_;simp only[↓BK];refine loop _ (.slice (some ⟨b',0,none⟩) (ps.length+1) c') ?_;have s10:=((s9.p 2).drop).f [2,0,3,1];rw[show(bM ps v).map V.z9=ps.map V.z9++[v.z9] by unfold bM;rw[aai kn];simp];exact s10
 cases g:kN v with
 |false=>
  simp only[EE,aad,Nat.reduceAdd,zZ,zi,cC,cD,cE,g6];exact tail _ (by unfold ptB;rw[g];rfl)
 |true=>
  by_cases k2:v.k=2
  ·simp only[EE,aad,Nat.reduceAdd,zZ,zA,zj,zi,zP,cC,cD,cE,g6,g7,k2];exact tail _ (by unfold ptB;rw[g,k2];rfl)
  ·simp only[EE,aad,Nat.reduceAdd,zZ,zA,zj,zi,zP,cC,cD,cE,g6,g7,k2];exact tail _ (by unfold ptB;rw[g];simp[k2])
end
open Go.Rtl (xG Pg zu wB qE wt)
section
variable {lo:yU}{h:za}{L:List HP}{ty:TypeId}{n:Nat}{sv:aaa}{rows:List (List aaa)}
theorem Z6(s:Sat lo h (yY ty n sv rows::L))(hn:∀r,r∈rows->r.length=n){i j:Nat}{row:List aaa}(hr:rows[i]? = some row)(hj:j<n) :
  ∃q c cs,sv=.slice (some ⟨q,0,none⟩) rows.length c/\h.get q=some (.cells cs ty)/\h.ro<=q/\q<h.next/\i*n+n<=cs.length/\(cs.drop (i*n)).take n=row/\(∀k,k<n->cs[i*n+k]? = row[k]?) /\ ∀v,Sat lo (h.set q (some (.cells (zb cs (i*n+j) [v]) ty))) (yY ty n sv (rows.set i (row.set j v))::L):=by
 have hi:i<rows.length:=by
  rcases aar i rows.length with a|a
  ·exact a
  ·rw[aal a]at hr;cases hr
 have hrl:=hn row (aau hr);have R:=y6 s hn;obtain⟨b',o,c',t',⟨off,cp,e1,rfl⟩,_,hb,hg,hl,ht,hk⟩:=R.spot hr hrl;have hlt:=s;obtain⟨q,c,cs,e2,gq,wq,lq,s2⟩:=Xh s hn hi;rw[e1]at e2;simp only[abd,aab,abw,abg,abQ]at e2;obtain⟨⟨rfl,rfl⟩,rfl⟩:=e2;rw[gq]at hg;simp only[aab,wA.cells.injEq]at hg;obtain⟨rfl,rfl⟩:=hg;rw[aay]at ht hl;simp only[aay]at hk;refine⟨b',cp,cs,e1,gq,wq,hb,lq,ht,hk,λv=>?_⟩
 have e:zb cs (i*n+j) [v]=zb cs (i*n) (row.set j v):=by
  apply abc;intro x;rw[KU (row.set j v) cs (i*n) x (by rw[aaW,hrl];exact lq),aaW,hrl];show(cs.set (i*n+j) v)[x]? = _;by_cases hx:i*n<=x/\x<i*n+n
  ·rw[aai hx];by_cases hxj:i*n+j=x
   ·subst hxj;rw[aaM (by omega),Nat.add_sub_cancel_left,aaM (by omega)]
   ·rw[aa4 hxj,aa4 (by omega),<- hk (x-i*n) (by omega)]
    congr 1;omega
  ·rw[aac hx,aa4 (by omega)]
 rw[e];exact s2 _ (by rw[aaW];exact hrl)
theorem HN{q i j:Nat}{cs row:List aaa}{v:aaa}{K:za->Prop}(gq:h.get q=some (.cells cs ty))(wq:h.ro<=q)(lq:i*n+n<=cs.length)(hj:j<n)(s3:∀v,Sat lo (h.set q (some (.cells (zb cs (i*n+j) [v]) ty))) (yY ty n sv (rows.set i (row.set j v))::L))(hc:yN v=true)
  (k:∀h',Sat lo h' (yY ty n sv (rows.set i (row.set j v))::L)->K h'):opt (yJ h q (i*n+j) [v]) K:=by
 rw[Ec gq,aai ⟨by simp;omega,wq,by simp[hc]⟩];exact k _ (s3 v)
end
structure A8 where
 f:Int
 pt:Int
 zf:List V
 k9:Int
 dst:Int
def kU(rv:aaa)(d:A8):List aaa:=[pm d.f,pm d.pt,rv,pm d.k9,pm d.dst]
def kd:List aaa->List A8->List (List aaa)
 |rv::rvs,d::ds=>kU rv d::kd rvs ds
 |_,_=>[]
def bN:List aaa->List A8->List HP
 |rv::rvs,d::ds=>yY 66 3 rv (d.zf.map V.z9)::bN rvs ds
 |_,_=>[]
theorem Z5:∀{rvs:List aaa} {ds:List A8},rvs.length=ds.length->(kd rvs ds).length=ds.length
 |[],[],_=>rfl
 |_::rvs,_::ds,e=>by simp only[kd,aaE,Z5 (rvs:=rvs) (ds:=ds) (by simpa using e)]
theorem tP:∀{rvs:List aaa} {ds:List A8} {rv:aaa} {d:A8},rvs.length=ds.length->kd (rvs++[rv]) (ds++[d])=kd rvs ds++[kU rv d]
 |[],[],_,_,_=>rfl
 |_::rvs,_::ds,_,_,e=>by simp only[abK,kd,tP (by simpa using e)]
theorem D0:∀{rvs:List aaa} {ds:List A8} {rv:aaa} {d:A8},rvs.length=ds.length->bN (rvs++[rv]) (ds++[d])=bN rvs ds++[yY 66 3 rv (d.zf.map V.z9)]
 |[],[],_,_,_=>rfl
 |_::rvs,_::ds,_,_,e=>by simp only[abK,bN,D0 (by simpa using e)]
theorem l8(rvs:List aaa)(ds:List A8):∀r,r∈kd rvs ds->r.length=5:=by
 induction rvs generalizing ds with
 |nil=>intro r hr;cases hr
 |cons rv rvs ih=>
  cases ds with
  |nil=>intro r hr;cases hr
  |cons d ds=>
   intro r hr;rcases abt.1 hr with rfl|hr
   ·rfl
   ·exact ih ds r hr
structure AV (h:za) (q o:Nat) (d:A8) (rv:aaa):Prop where
 cells:∃cs t,h.get q=some (.cells cs t)/\o+5<=cs.length/\(cs.drop o).take 5=kU rv d /\ ∀k,k<5->cs[o+k]? = (kU rv d)[k]?
 lt:q<h.next
 zf:zC h rv 3 (d.zf.map V.z9)
theorem AV.old{h h':za}{q o:Nat}{d:A8}{rv:aaa}(x:AV h q o d rv)(e:Old h h'):AV h' q o d rv:=by
 obtain⟨⟨cs,t,g,r⟩,l,m⟩:=x;exact⟨⟨cs,t,(e.get q l).trans g,r⟩,aao l e.next,m.old e⟩
theorem AV.lock{h:za}{q o:Nat}{d:A8}{rv:aaa}(x:AV h q o d rv):AV h.lock q o d rv:=⟨x.cells,x.lt,x.zf.lock⟩
theorem HT{l:List V}{r:Int}(h0:0<=r)(h1:r<l.length):l[r.toNat]? = some (zT l r):=by
 unfold zT;rw[aac (by omega),aaB,aae (by omega)];rfl
theorem ziw{h:za}{q o:Nat}{d:A8}{rv:aaa}(T:AV h q o d rv){r:Int}(hr:r = -1\/(0<=r/\r<d.zf.length)):yO pu 52 [.pointer (some ⟨q,o,none⟩),pm r] h (vv (zT d.zf r)):=by
 apply vz rfl;apply zbz;unfold zfw;by_cases h1:r = -1
 ·have e:zT d.zf r=v0:=by rw[h1];rfl
  simp only[EE,↓nw,Value.cells,zb,aad,Nat.reduceAdd,Int.reduceNeg,yJ,zZ,zi,zo,y7,zM,h1];rw[<- h1,e];rfl
 ·obtain⟨h0,h2⟩:0<=r/\r<d.zf.length:=by omega
  have T2:=(T.lock).old (Old.push _ (.cells [pm 0,pm 0,pm 0] 66));obtain⟨⟨cs,t,gq,lq,tq,kq⟩,ltq,S⟩:=T2;have k2:=kq 2 (by decide);obtain⟨b,o',c,t',⟨off,cp,rfl,rfl⟩,hi,hb,hgt,hle,htk,_⟩:=S.spot (i:=r.toNat) (r:=(zT d.zf r).z9) (by rw[aaq,HT h0 h2];rfl) rfl;rw[aaf]at *
  have htk':(c.drop (off+r.toNat*3)).take 3=[pm (zT d.zf r).k,pm (zT d.zf r).n,pm (zT d.zf r).b]:=htk;unfold kU at k2;simp only[EE,↓nw,Value.cells,zb,aad,Nat.reduceAdd,Int.reduceNeg,yJ,zZ,zA,YM,zi,zo,y7,Ye,Wt,RJ,h1,gq,k2,h0,h2,hgt,hle,htk'];rfl
theorem Nv{h:za}{q o:Nat}{d:A8}{rv:aaa}(T:AV h q o d rv){i:xG}(hn:zV i.av=false)(hr:i.b = -1\/(0<=i.b/\i.b<d.zf.length)):yO pu 46 [.pointer (some ⟨q,o,none⟩),i.val] h (vv (if i.b = -1 then qj i.k else zT d.zf i.b)):=by
 apply vz rfl;apply LR;unfold LQ;by_cases h1:i.b = -1
 ·rw[aai h1];simp only[EE,↓nw,Value.cells,Int.reduceNeg,zA,xp,zj,y7,qM,vR,CO,h1];refine yq (Yj i.k _) ?_;simp only[EE,zb,aad,Nat.reduceAdd,Int.reduceNeg,yJ,zZ,zi,zo,Nat.le_add_right];rfl
 ·rw[aac h1];obtain⟨h0,h2⟩:0<=i.b/\i.b<d.zf.length:=by omega
  have T2:=(T.lock).old ((Old.push _ (.cells [pm i.op,pm i.sub,pm i.a,pm i.b,pm i.d,pm i.k,i.av,pm i.s,pm i.t] 51)).trans (Old.push _ (.cells [pm 0,pm 0,pm 0] 66)));obtain⟨⟨cs,t,gq,lq,tq,kq⟩,ltq,S⟩:=T2;have k2:=kq 2 (by decide);obtain⟨b,o',c,t',⟨off,cp,rfl,rfl⟩,hi,hb,hgt,hle,htk,_⟩:=S.spot (i:=i.b.toNat) (r:=(zT d.zf i.b).z9) (by rw[aaq,HT h0 h2];rfl) rfl;rw[aaf]at *
  have htk':(c.drop (off+i.b.toNat*3)).take 3=[pm (zT d.zf i.b).k,pm (zT d.zf i.b).n,pm (zT d.zf i.b).b]:=htk;unfold kU at k2;simp only[EE,↓nw,Value.cells,zb,aad,Nat.reduceAdd,Int.reduceNeg,yJ,zZ,zA,zj,YM,zi,zo,y7,qM,Ye,Wt,CP,h1,gq,k2,h0,h2,hgt,hle,htk',Nat.le_add_right];rfl
def W0(z:Int):Bool:=decide (z=3)||(decide (z=5)||decide (12<=z))
theorem HW(z:Int)(h:za):yO pu 86 [pm z] h (.bool (W0 z)):=by
 apply vz rfl;apply si;unfold BM W0;by_cases h3:z=3
 ·simp only[EE,Int.reduceEq,Int.reduceLE,WC,Xp,h3];rfl
 by_cases h5:z=5
 ·simp only[EE,Int.reduceEq,Int.reduceLE,WC,Xp,h5];rfl
 ·simp only[EE,WC,Xp,h3,h5];simp[WN]
def xN(p:Pg)(mb:Nat)(S:St)(ev lk wv sv gv:aaa)(ltl:Bool):wA := .cells [p.gv,p.fv,pm p.main,yB mb,pm S.kind,pm S.exit,ev,lk,pm S.steps,wv,pm S.used,sv,.bool ltl,gv] 61
section
variable {lo:yU}{h:za}{b mb:Nat}{p:Pg}{S:St}{ev lk wv sv gv:aaa}{ltl:Bool}
theorem H0(s:Sat lo h [pt b (xN p mb S ev lk wv sv gv ltl),yY 71 3 lk (S.lk.map wy)])(hb:(S.lk.length+1)*24<=2^47)(k_ a c:Int) :
  DC pu 47 [yB b,pm k_,pm a,pm c] h (λ_ h'=>∃lk',Sat lo h' [pt b (xN p mb (xh S k_ a c) ev lk' wv sv gv ltl),yY 71 3 lk' ((xh S k_ a c).lk.map wy)]):=by
 apply sR;unfold Cy yB;have gm:=s.get;unfold xN yB at gm;have n0:=xR (s.p 1);have s1:=s.push (.cells [pm k_,pm a,pm c] 71);obtain⟨b',c',h2,a1,s2⟩:=jH (s1.p 2) (qV (f:=wy) (λ_=>rfl) _) [pm k_,pm a,pm c] rfl (by decide) 24 (by rw[aaf];exact hb);rw[aaf]at a1 s2
 have ha:∀r,zB pu .append [31,31] r [lk,.slice (some ⟨h.next,0,none⟩) 1 3] (h.push (.cells [pm k_,pm a,pm c] 71))=some (.slice (some ⟨b',0,none⟩) (S.lk.length+1) c',h2):=λr=>by
  rw[zfB r _ _ 1 [pm k_,pm a,pm c] _ rfl (by simp only[wR,zk];rfl) rfl rfl];exact a1
 have s3:=s2.p 2;have g2:=s3.get;have w2:=s3.wr;unfold xN yB at g2;simp only[EE,zb,aad,Nat.reduceAdd,Nat.reduceLeDiff,yJ,zA,L6,zfC,AB,Ga,pV,Xc,gm,n0,ha,g2,w2];refine⟨rfl,.slice (some ⟨b',0,none⟩) (S.lk.length+1) c',?_⟩;have e1:((xh S k_ a c).lk.map wy)=S.lk.map wy++[[pm k_,pm a,pm c]]:=by simp[xh,wy]
 rw[e1];exact((s3.set _).p 2).drop
end
def inD(d:A8)(r:Int):Prop:=0<=r/\r<d.zf.length
theorem Pp{h:za}{q o:Nat}{d:A8}{rv:aaa}(T:AV h q o d rv){r:Int}(hr:inD d r):∃cs t,h.get q=some (.cells cs t)/\cs[o+2]? = some rv /\ ∃b off cp c t',rv=.slice (some ⟨b,off,none⟩) d.zf.length cp/\b<h.next/\h.get b=some (.cells c t')/\off+r.toNat*3+3<=c.length/\(c.drop (off+r.toNat*3)).take 3=[pm (zT d.zf r).k,pm (zT d.zf r).n,pm (zT d.zf r).b] /\ ∀k,k<3->c[off+r.toNat*3+k]? = (zT d.zf r).z9[k]?:=by
 obtain⟨⟨cs,t,gq,lq,tq,kq⟩,ltq,S⟩:=T;obtain⟨b,o',c,t',⟨off,cp,e,rfl⟩,hi,hb,hgt,hle,htk,hkk⟩:=S.spot (i:=r.toNat) (r:=(zT d.zf r).z9) (by rw[aaq,HT hr.1 hr.2];rfl) rfl;rw[aaf]at e;exact⟨cs,t,gq,(kq 2 (by decide)).trans rfl,b,off,cp,c,t',e,hb,hgt,hle,htk,hkk⟩
def WW(d:A8)(i:xG):Option V:=match yG 11 (zT d.zf i.a) (qj i.k) with
 |some p=>if p.k=2 then some p else none
 |none=>none
section
variable {lo:yU}{h:za}{b mb q o nn:Nat}{p:Pg}{S:St}{ev lk wv sv gv rv:aaa}{ltl:Bool}{d:A8}{M:MM}
def Ev(M:MM)(i:xG)(w:V):Option V->aaa
 |none => .tuple #[vv v0,.bool false]
 |some a=>if i.op=6 then wW (kZ M i.sub a) else .tuple #[vv v0,.bool (wX M i.sub a w).isSome]
def He(M:MM)(i:xG)(w:V):Option V->MM
 |none=>M
 |some a=>if i.op=6 then M else (wX M i.sub a w).getD M
theorem zbL(T:Rd lo (λh=>AV h q o d rv))(s:Sat lo h [pt b (xN p mb S ev lk wv sv gv ltl),yY 71 3 lk (S.lk.map wy),ja mb M nn])(hL:(S.lk.length+1)*24<=2^47){i:xG}(hn:zV i.av=false)(hc:yN i.av=true)
  (hM:M.length<=100000) (hs:small M) (hnn:nn<=100000000) (ha:inD d i.a) (hb:i.op=7->inD d i.b) (h67:i.op=6\/i.op=7) (hk:wD i.k) (hra:wD (zT d.zf i.a).n) (hsub:wD i.sub) (hok:∀a,WW d i=some a->a.ok) :
  DC pu 49 [yB b,.pointer (some ⟨q,o,none⟩),i.val] h (λv h'=>v=Ev M i (zT d.zf i.b) (WW d i) /\ ∃lk',Sat lo h' [pt b (xN p mb (AL S (WW d i)) ev lk' wv sv gv ltl),yY 71 3 lk' ((AL S (WW d i)).lk.map wy),ja mb (He M i (zT d.zf i.b) (WW d i)) (nn+1)]):=by
 apply Ln;unfold Lm yB;simp only[EE,Value.cells,zA,YM,y7,Ye];refine uI s λb5 h2 s2=>?_;simp only[];refine uI s2 λb6 h4 s4=>?_;have g5:=(s4.p 1).get;obtain⟨cs,t,gq,kq,rb,ro,rc,c,t',rfl,hrb,hgr,hlr,htr,_⟩:=Pp (T.at s4) ha;have i1:=ha.1;have i2:=ha.2;simp only[EE,aad,zZ,zA,xp,zj,zi,xk,vR,Wt,g5,gq,kq,i1,i2,hgr,hlr,htr];refine El (Yj i.k _) ?_;refine El (Oz (op:=11) (a:=zT d.zf i.a) (b:=qj i.k) hra hk _) ?_;unfold wW
 have no:WW d i=none->∀H,Sat lo H [pt b (xN p mb S ev lk wv sv gv ltl),yY 71 3 lk (S.lk.map wy),ja mb M nn]->(Value.tuple #[vv v0,.bool false])=Ev M i (zT d.zf i.b) (WW d i) /\ ∃lk',Sat lo H [pt b (xN p mb (AL S (WW d i)) ev lk' wv sv gv ltl),yY 71 3 lk' ((AL S (WW d i)).lk.map wy),ja mb (He M i (zT d.zf i.b) (WW d i)) (nn+1)]:=by
  intro e H z;rw[e];exact⟨rfl,lk,((dR (z.p 2) (abr nn)).f [1,2,0])⟩
 cases hbin:yG 11 (zT d.zf i.a) (qj i.k) with
 |none=>
  have e:WW d i=none:=by unfold WW;rw[hbin]
  simp only[EE,Value.cells,y7,m4,acb,aa8,vv,v0];refine uI s4 λb8 h8 s8=>?_;simp only[EE,Nat.reduceAdd,zo];refine yp s8 (by simp) rfl λh9 s9=>?_;simp only[EE,Nat.reduceAdd,zo,zM,mZ,cL];refine yp (s9.p 1) (by simp) rfl λh10 s10=>?_;have g10:=s10.get;simp only[EE,zb,aad,Nat.reduceAdd,zZ,zi,g10];exact no e _ (s10.k [3,4,5])
 |some a=>
  simp only[EE,Value.cells,y7,m4,abG,abh,vv];refine uI s4 λb8 h8 s8=>?_;simp only[EE,Nat.reduceAdd,zo];refine yp s8 (by simp) rfl λh9 s9=>?_;have g9:=s9.get;by_cases hk2:¬a.k=2
  ·have e:WW d i=none:=by unfold WW;rw[hbin];simp[hk2]
   simp only[EE,zb,Nat.reduceAdd,zA,zj,zo,zM,zP,mZ,cL,g9,hk2];refine yp (s9.p 1) (by simp) rfl λh10 s10=>?_;have g10:=s10.get;simp only[EE,zb,aad,Nat.reduceAdd,zZ,zi,g10];exact no e _ (s10.k [3,4,5])
  have hk2:a.k=2:=acg.1 hk2;have e:WW d i=some a:=by unfold WW;rw[hbin];simp[hk2]
  have aok:=hok a e;rw[e];simp only[EE,zb,Nat.reduceAdd,zA,xp,zj,zP,yf,xM,Cg,cL,g9,hk2];obtain⟨lo1,l1,s5,fr⟩:=(s9.f [3,4]).call (L2:=[pt b (xN p mb S ev lk wv sv gv ltl),yY 71 3 lk (S.lk.map wy)]);refine Em (H0 s5 hL 2 a.b a.n) ?_;rintro v h10 ⟨lk',s6⟩;have s7:=fr _ _ s6;have g8':=(s7.p 2).get;have g5':=(s7.p 4).get;have gm:=s7.get;unfold xN yB xh at gm;rcases h67 with h6|h7
  ·simp only[EE,zb,aad,Nat.reduceAdd,zZ,zA,zj,CV,zi,zw,yj,dX,Ce,m3,g8',g5',gm,h6,hk2];obtain⟨lv,pv,bvs,bl,ps,x,hps,D⟩:=Qn (s7.p 5);have L:=zgJ D.dv x hM hs (by omega) (c:=i.sub) (p:=a) hsub aok;unfold vv yB at L;rw[hk2]at L;refine El L ?_;unfold wW;simp only[EE,Nat.reduceAdd,zo,Cd];refine yp (s7.p 3) (by simp) rfl λh11 s11=>?_;have g11:=s11.get;simp only[EE,zb,aad,Nat.reduceAdd,zZ,zi,g11];refine⟨by simp only[Ev,aai h6];rfl,lk',?_⟩;rw[show He M i (zT d.zf i.b) (some a)=M by simp only[He,aai h6]];have s12:=s11.k [1,2,5];exact(dR (s12.p 2) (abr nn)).f [1,2,0]
  ·have hib:=hb h7;have h6:¬i.op=6:=by omega
   obtain⟨cs2,t2,gq2,kq2,rb2,ro2,rc2,c2,t2',er,hrb2,hgr2,hlr2,htr2,_⟩:=Pp (T.at s7) hib;simp only[abd,aab,abw,abg,abQ]at er;obtain⟨⟨rfl,rfl⟩,rfl⟩:=er;have j1:=hib.1;have j2:=hib.2;simp only[EE,zb,aad,Nat.reduceAdd,Int.reduceEq,zZ,zA,zj,CV,YM,zi,zM,zw,yj,qM,dX,Ye,Wt,Cf,m3,g8',g5',gm,h7,hk2,gq2,kq2,j1,j2,hgr2,hlr2,htr2];obtain⟨lo2,l2,s8',fr2⟩:=(s7.f [5]).call (L2:=[ja mb M nn]);have ST:=ze9 s8' hM hs hnn (c:=i.sub) (p:=a) (v:=zT d.zf i.b) hsub aok;unfold vv yB at ST;rw[hk2]at ST;refine Mt ST ?_;rintro r h11 ⟨rfl,s9'⟩;have s10:=fr2 _ _ s9';simp only[EE,Nat.reduceAdd,zo];refine yp (s10.p 4) (by simp) rfl λh12 s12=>?_;have g12:=s12.get;simp only[EE,zb,aad,Nat.reduceAdd,zZ,zi,g12];refine⟨by simp only[Ev,aac h6];rfl,lk',?_⟩;rw[show He M i (zT d.zf i.b) (some a)=(wX M i.sub a (zT d.zf i.b)).getD M by simp only[He,aac h6]];exact s12.k [2,3,1]
def uB(n:Nat)(l:List V):List V:=l++List.replicate (n-l.length) v0
theorem bK{n:Nat}{l:List V}(h:l.length<=n):(uB n l).length=n:=by unfold uB;simp;omega
theorem zcV{n:Nat}{l:List V}{r:Int}(hr:r<n):zT (uB n l) r=zT l r:=by
 unfold zT uB;by_cases h0:r<0
 ·rw[aai h0,aai h0]
 ·rw[aac h0,aac h0,aaB,aaB,aca];split
  ·rfl
  ·rename_i q;rw[abZ,aal (l:=l) (by omega)];split <;> rfl
theorem Io{n:Nat}{l:List V}{r:Int}{v:V}(h0:0<=r)(h1:r<n)(hl:l.length<=n):(uB n l).set r.toNat v=uB n (uz l r v):=by
 have hs:(uz l r v).length=max l.length (r.toNat+1):=by
  unfold uz;rw[aac (by omega)];simp;omega
 apply abc;intro j;unfold uB;rw[hs];unfold uz;rw[aac (by omega),ab0,aca,aca,ab0,aca,abZ,abZ,abZ];simp only[abH,abN,aaW];by_cases e:r.toNat=j
 ·subst e;rw[aai rfl,aai (by omega),aai (by omega),aai rfl,aai (by omega)]
 ·rw[aac e,aac e];by_cases q1:j<l.length
  ·rw[aai q1,aai (by omega),aai q1]
  ·rw[aac q1,aac q1];by_cases q2:j<l.length+(r.toNat+1-l.length)
   ·rw[aai q2,aai (by omega),aai (by omega)]
   ·rw[aac q2];by_cases q3:j<n
    ·rw[aai (by omega),aai (by omega)]
    ·rw[aac (by omega),aac (by omega)]
theorem S3(n:Nat):uB n []=List.replicate n v0:=by unfold uB;simp
theorem zat{h:za}{sv:aaa}{rows:List (List aaa)}(S:zC h sv 5 rows)(r:TypeId)(h':za):zB pu .len [59] r [sv] h'=some (pm rows.length,h'):=by
 rcases S with⟨rfl,rfl⟩|⟨b,off,cp,rfl,_⟩
 ·simp only[zdb,aaz]
 ·simp only[zdb]
variable {rvs:List aaa}{ds:List A8}{av:aaa}{args:List V}{k:Nat}{f:Go.Rtl.Fn}{dst:Int}
theorem Sm(hp:Rd lo (wB · p))(ha:Rd lo (zC · av 3 (args.map V.z9)))(s:Sat lo h [pt b (xN p mb S ev lk wv sv gv ltl),yY 97 5 sv (kd rvs ds),ja mb M nn])
  (hf:p.funcs[k]? = some f) (hl:args.length=f.params.length) (hds:rvs.length=ds.length) (hmany:ds.length<=1000000) (hr:∀r,r∈f.params->0<=r/\r<f.zf) (hregs:0<=f.zf/\f.zf<=100000) (hpl:f.params.length<=100000) :
  DC pu 23 [yB b,pm (k:Nat),av,pm dst] h (λ_ h'=>
   if (zW M f.frame).2.2=0/\ds.length<20000 then ∃rv sv',Sat lo h' [pt b (xN p mb S ev lk wv sv' gv ltl),yY 97 5 sv' (kd rvs ds++[kU rv ⟨k,f.entry,uB f.zf.toNat (wC f.params args []),(zW M f.frame).2.1,dst⟩]),ja mb (zW M f.frame).1 nn,yY 66 3 rv ((uB f.zf.toNat (wC f.params args [])).map V.z9)]
   else Sat lo h' [pt b (xN p mb {S with kind:=3} ev lk wv sv gv ltl)]):=by
 apply nc;unfold oV yB;have gm:=s.get;unfold xN yB at gm;have hP:=hp.at s;obtain⟨bf,o,cf,tf,hix,hbf,hgf,hof,htf,hkf⟩:=zC.dJ hP.funcs (i:=k) (r:=f.row) (by rw[aaq,hf];rfl) rfl;have fvn:=hP.funcs.wk;have fm:=aau hf;have F:=hP.fns f fm;have pn:=F.params.wk;have pc:=F.params.eT;have cn:=F.code.wk;have cc:=F.code.eT;have htf':(cf.drop o).take 6=[.string f.nm,f.pv,pm f.zf,pm f.frame,pm f.entry,f.cv]:=htf;simp only[EE,Value.cells,aad,zZ,zA,ue,mw,mC,xj,Ss,gm,hix,hgf,hof,htf'];refine uI s λb8 h2 s2=>?_;simp only[EE,Nat.reduceAdd,FZ];refine yp s2 (by simp) (by simp[pc,cc];exact⟨rfl,rfl,rfl,rfl⟩) λh3 s3=>?_;have g8:=s3.get;have gm3:=(s3.p 1).get;unfold xN yB at gm3;simp only[EE,zb,Nat.reduceAdd,zA,zj,CV,kQ,dX,g8,gm3,zb];obtain⟨lo1,l1,s4,fr⟩:=(s3.f [3]).call (L2:=[ja mb M nn]);refine Mt (R0 s4 f.frame) ?_;rintro v h5 ⟨rfl,s5⟩;have s6:=fr _ _ s5;have g8:=(s6.p 1).get;have gm6:=(s6.p 2).get;unfold xN yB at gm6;have SK:=y6 (s6.p 3) (l8 _ _);have kn:=SK.wk;have kl:=zat SK 3;rw[Z5 hds]at kl
 have stuck:∀H,Sat lo H [pt b (xN p mb {S with kind:=3} ev lk wv sv gv ltl)]->¬((zW M f.frame).2.2=0/\ds.length<20000)->if (zW M f.frame).2.2=0/\ds.length<20000 then ∃rv sv',Sat lo H [pt b (xN p mb S ev lk wv sv' gv ltl),yY 97 5 sv' (kd rvs ds++[kU rv ⟨k,f.entry,uB f.zf.toNat (wC f.params args []),(zW M f.frame).2.1,dst⟩]),ja mb (zW M f.frame).1 nn,yY 66 3 rv ((uB f.zf.toNat (wC f.params args [])).map V.z9)]
   else Sat lo H [pt b (xN p mb {S with kind:=3} ev lk wv sv gv ltl)]:=λH z q=>by rw[aac q];exact z
 by_cases e1:¬(zW M f.frame).2.2=0
 ·simp only[EE,WU,j8,Xc,U6,Vg,lG,lH,dq,e1];refine yp (s6.p 2) (by simp) rfl λh7 s7=>?_;simp only[Ih];exact stuck _ (s7.zJ 1) (λq=>e1 q.1)
 have e1:(zW M f.frame).2.2=0:=acg.1 e1;by_cases e2:(ds.length:Int) ≥ 20000
 ·simp only[EE,zA,mz,WU,j8,Xc,VU,U6,Vg,lG,lH,dq,e1,gm6,kn,kl,e2];refine yp (s6.p 2) (by simp) rfl λh7 s7=>?_;simp only[Ih];exact stuck _ (s7.zJ 1) (λq=>by omega)
 simp only[aai (show(zW M f.frame).2.2=0/\ds.length<20000 from⟨e1,by omega⟩)];clear stuck;generalize hA:(zW M f.frame).1=M' at *
 generalize hB:(zW M f.frame).2.1=rB at *
 have mk:=zik .i64 .i64 f.zf f.zf h5 (by omega) (Int.le_refl _) (by omega)
 have hz:qX [(pm 0:aaa),pm 0,pm 0] (f.zf.toNat*3)=((uB f.zf.toNat []).map V.z9).flatten:=by
  rw[S3,List.map_replicate];exact ziK [(pm 0:aaa),pm 0,pm 0] (by decide) f.zf.toNat
 have zl:uB f.zf.toNat []=List.replicate f.zf.toNat v0:=S3 _;simp only[EE,↓BK,zb,Nat.reduceAdd,zA,zj,mz,wh,VU,U8,Vg,lG,lH,dq,e1,gm6,kn,kl,e2,g8,mk];rw[hz];have s7:=ZR (n:=3) (c:=f.zf.toNat+2) (ty:=66) (by omega) (wV _) rfl (s6.push (.cells ((uB f.zf.toNat []).map V.z9).flatten 66));rw[aaf,bK (aba _)]at s7;generalize h5.push (.cells ((uB f.zf.toNat []).map V.z9).flatten 66)=H at s7 ⊢;generalize h5.next=b0 at s7 ⊢;have an:=(ha.at s7).wk;have al:=zc8 (ha.at s7) 3;refine qY (λr vs h'=>∃j:Nat,j<=args.length/\r=args.length-j/\vs=[pm j]/\Sat lo h' [yY 66 3 (.slice (some ⟨b0,0,none⟩) f.zf.toNat (f.zf.toNat+2)) ((uB f.zf.toNat (wC (f.params.take j) args [])).map V.z9),ja mb M' nn,pt b8 (.cells [.string f.nm,f.pv,pm f.zf,pm f.frame,pm f.entry,f.cv] 49),pt b (xN p mb S ev lk wv sv gv ltl),yY 97 5 sv (kd rvs ds)]) args.length ⟨0,aba _,rfl,rfl,by rw[acK,show wC [] args []=[] by cases args <;> rfl];exact s7⟩ ?_;rintro r vs h' ⟨j,hj,rfl,rfl,s8⟩;have hgl:(wC (f.params.take j) args []).length<=f.zf.toNat:=XQ _ _ _ (by simp) λr hr'=>by have:=hr r (List.mem_of_mem_take hr');omega
 by_cases hc2:(j:Int)<(args.length:Int)
 ·obtain⟨w,hr1⟩:∃w,f.params[j]? = some w:=⟨_,aae (by omega)⟩;obtain⟨a,ha1⟩:∃a,args[j]? = some a:=⟨_,aae (by omega)⟩;obtain⟨b5,o5,c5,t5,ix5,lt5,g5,k5⟩:=((hp.at s8).fns f fm).params.at hr1;obtain⟨b6,o6,c6,t6,⟨off6,cp6,hav,rfl⟩,hi6,hb6,hg6,hl6,ht6,_⟩:=(ha.at s8).spot (i:=j) (r:=a.z9) (by rw[aaq,ha1];rfl) rfl;subst hav;have hi7:(0:Int)<=j:=by omega
  have ht6':(c6.drop (off6+j*3)).take 3=[pm a.k,pm a.n,pm a.b]:=ht6;have g8':=(s8.p 2).get;have hw:=hr w (aau hr1);obtain⟨z1,z2,z3,z4,gb,wb,lb,s9⟩:=Xh s8 (wV _) (i:=w.toNat) (by rw[aaf,bK hgl];omega);rw[aaf,bK hgl]at z4;simp only[abd,aab,abw,abg,abQ]at z4;obtain⟨rfl,rfl⟩:=z4;have hw2:w<(f.zf.toNat:Int):=by omega
  rw[aaf]at al hi6 ⊢;have w0:=hw.1;simp only[EE,nth,↓BK,aad,Nat.reduceAdd,zZ,zA,yS,zj,zi,zo,uA,Wt,J7,J8,U7,al,hc2,g8',ix5,g5,k5,hi7,hg6,hl6,ht6',w0,hw2,aax];refine V1 gb wb lb s9 rfl rfl λh9 s10=>?_;simp only[EE,nth,inc (show j<4611686018427387904 by omega)];refine⟨args.length-(j+1),by omega,j+1,by omega,rfl,rfl,?_⟩;have hlen:(f.params.take j).length=j:=by simp;omega
  have e3:wC (f.params.take (j+1)) args []=uz (wC (f.params.take j) args []) w a:=by
   rw[ab1,hr1];exact iB _ _ _ _ _ (by omega) (by rw[hlen];exact ha1)
  have e4:((uB f.zf.toNat (wC (f.params.take j) args [])).map V.z9).set w.toNat [pm a.k,pm a.n,pm a.b]=(uB f.zf.toNat (wC (f.params.take (j+1)) args [])).map V.z9:=by
   rw[e3,<- Io w0 hw2 hgl,ab5];rfl
  rw[<- e4];exact s10
 ·have hj2:j=args.length:=by omega
  subst hj2;rw[hl,ack]at s8;have g8':=(s8.p 2).get;have gm8:=(s8.p 3).get;unfold xN yB at gm8;have s9:=s8.push (.cells [pm k,pm f.entry,.slice (some ⟨b0,0,none⟩) f.zf.toNat (f.zf.toNat+2),pm rB,pm dst] 97);obtain⟨b',c',h2,a1,s10⟩:=jH (s9.p 5) (l8 _ _) [pm k,pm f.entry,.slice (some ⟨b0,0,none⟩) f.zf.toNat (f.zf.toNat+2),pm rB,pm dst] rfl (by decide) 56 (by rw[Z5 hds];omega);rw[Z5 hds]at a1 s10
  have hap:∀r,zB pu .append [59,59] r [sv,.slice (some ⟨h'.next,0,none⟩) 1 3] (h'.push (.cells [pm k,pm f.entry,.slice (some ⟨b0,0,none⟩) f.zf.toNat (f.zf.toNat+2),pm rB,pm dst] 97))=some (.slice (some ⟨b',0,none⟩) (ds.length+1) c',h2):=λr=>by
   rw[zhU r _ _ 1 [pm k,pm f.entry,.slice (some ⟨b0,0,none⟩) f.zf.toNat (f.zf.toNat+2),pm rB,pm dst] _ rfl (by simp only[wR,zk];rfl) rfl rfl];exact a1
  simp only[EE,nth,zA,zj,mz,zca,AX,zab,XC,VU,U7,J9,an,al,hc2,gm8,g8',kn,hap];refine yp (s10.p 5) (by simp) rfl λh11 s11=>?_;simp only[Ih];exact⟨.slice (some ⟨b0,0,none⟩) f.zf.toNat (f.zf.toNat+2),.slice (some ⟨b',0,none⟩) (ds.length+1) c',s11.k [0,1,4,3]⟩
end
end Go.Dm
