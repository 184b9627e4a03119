import Derived.Test.YtpjjmindjodknaaGreatTJ
set_option linter.unusedVariables false
set_option linter.unusedSimpArgs false
set_option maxRecDepth 100000
namespace Go.Ar
open Go.Ai Go.Proofs
open Go.Rtl (zv zE Old z8 yS)
open Go.Rm (aG)
open Go.As (zo fW KF VA u4 kY ZI)
def zM(k:Int):Bool:=decide (-2147483648<=k)&&decide (k<=2147483647)
theorem XV(k:Int)(h:za):vw pu 37 [pm k] h (.bool (zM k)):=by
 apply z8;apply Ga;unfold H5;by_cases a:k ≥ -2147483648
 ·by_cases b:k<=2147483647
  ·simp only[EE,Int.reduceNeg,J3,a,b];simp[yS,zM];omega
  ·simp only[EE,Int.reduceNeg,J3,a,b];simp[yS,zM];omega
 ·simp only[EE,Int.reduceNeg,J3,a];simp[yS,zM];omega
theorem zcc(k:Int)(h:za):vw pu 56 [pm k] h (.bool (ZI k)):=by
 apply z8;apply NC;unfold TF;by_cases a:k ≥ 21
 ·by_cases b:k<=26
  ·simp only[EE,lT,a,b];simp[yS,ZI];omega
  ·simp only[EE,lT,a,b];simp[yS,ZI];omega
 ·simp only[EE,lT,a];simp[yS,ZI];omega
theorem D5(n:Int)(h:za):vw pu 55 [pm n] h (.bool (kY n)):=by
 apply z8;apply LC;unfold NB;by_cases h11:n=11
 ·subst h11;simp only[EE,XY,XZ,X0,X2,X3];rfl
 by_cases h12:n=12
 ·subst h12;simp only[EE,Int.reduceEq,XY,XZ,X0,X2,X3];rfl
 by_cases h13:n=13
 ·subst h13;simp only[EE,Int.reduceEq,XY,XZ,X0,X2,X3];rfl
 by_cases h16:n=16
 ·subst h16;simp only[EE,Int.reduceEq,XY,XZ,X0,X2,X3];rfl
 by_cases h17:n=17
 ·subst h17;simp only[EE,Int.reduceEq,XY,XZ,X0,X2,X3];rfl
 by_cases h18:n=18
 ·subst h18;simp only[EE,Int.reduceEq,XY,XZ,X0,X2,X3];rfl
 simp only[EE,XY,XZ,X0,X2,X3,h11,h12,h13,h16,h17,h18];have e:kY n=false:=by unfold kY;simp;omega
 rw[e];rfl
theorem JL(x:zo)(h:za):vw pu 54 [x.val] h (.bool (VA x.op)):=by
 apply z8;apply DT;unfold DS;obtain⟨op,r,m,sub,cc,l,k⟩:=x;by_cases h1:op=1
 ·subst h1;simp only[EE,nth,↓nw,Value.cells,↓BK,zu,zg,zc,vP];rfl
 by_cases h2:op=2
 ·subst h2;simp only[EE,nth,↓nw,Value.cells,↓BK,Int.reduceEq,zu,zg,zc,uu,vP];rfl
 by_cases h3:op=3
 ·subst h3;simp only[EE,nth,↓nw,Value.cells,↓BK,Int.reduceEq,zu,zg,zc,ql,uu,vP];rfl
 by_cases h5:op=5
 ·subst h5;simp only[EE,nth,↓nw,Value.cells,↓BK,Int.reduceEq,zu,zg,zc,qH,ql,uu,vP];rfl
 by_cases h6:op=6
 ·subst h6;simp only[EE,nth,↓nw,Value.cells,↓BK,Int.reduceEq,zu,zg,zc,kS,qH,ql,uu,vP];rfl
 by_cases h7:op=7
 ·subst h7;simp only[EE,nth,↓nw,Value.cells,↓BK,Int.reduceEq,zu,zg,zc,jT,kS,qH,ql,uu,vP];rfl
 by_cases h8:op=8
 ·subst h8;simp only[EE,nth,↓nw,Value.cells,↓BK,Int.reduceEq,zu,zg,zc,ZF,jT,kS,qH,ql,uu,vP];rfl
 by_cases h9:op=9
 ·subst h9;simp only[EE,nth,↓nw,Value.cells,↓BK,Int.reduceEq,zu,zg,zc,Yq,ZF,jT,kS,qH,ql,uu,vP];rfl
 by_cases h10:op=10
 ·subst h10;simp only[EE,nth,↓nw,Value.cells,↓BK,Int.reduceEq,zu,zg,zc,Xx,Yq,ZF,jT,kS,qH,ql,uu,vP];rfl
 by_cases h11:op=11
 ·subst h11;simp only[EE,nth,↓nw,Value.cells,↓BK,Int.reduceEq,zu,zg,zc,Vj,Xx,Yq,ZF,jT,kS,qH,ql,uu,vP];rfl
 by_cases h12:op=12
 ·subst h12;simp only[EE,nth,↓nw,Value.cells,↓BK,Int.reduceEq,zu,zg,zc,QO,Vj,Xx,Yq,ZF,jT,kS,qH,ql,uu,vP];rfl
 by_cases h17:op=17
 ·subst h17;simp only[EE,nth,↓nw,Value.cells,↓BK,Int.reduceEq,zu,zg,zc,QO,Vj,Xx,Yq,ZF,jT,kS,qH,ql,uu,vP];rfl
 simp only[EE,nth,↓nw,Value.cells,↓BK,zu,zg,zc,QO,Vj,Xx,Yq,ZF,jT,kS,qH,ql,uu,vP,h1,h2,h3,h5,h6,h7,h8,h9,h10,h11,h12,h17];have e:VA op=false:=by unfold VA;simp;omega
 rw[e];rfl
theorem SG(x:zo)(h:za):vw pu 53 [x.val] h (.tuple #[.bool (fW x.op),.bool (KF x.op)]):=by
 apply aG rfl;apply F8;unfold H3;obtain⟨op,r,m,sub,cc,l,k⟩:=x;simp only[EE,↓nw,Value.cells,Nat.reduceAdd,jY,vu];refine VM (JL ⟨op,r,m,sub,cc,l,k⟩ _) ?_;by_cases h1:op=1
 ·subst h1;simp only[EE,nth,↓BK,zu,zg,zc,vS,vT,vU,vf,vh,vi,vj,vk,vm,show VA 1=true from rfl];rfl
 by_cases h3:op=3
 ·subst h3;simp only[EE,nth,↓BK,Int.reduceEq,zu,zg,zc,ur,vS,vT,vU,vf,vh,vi,vj,vk,vm,show VA 3=true from rfl];rfl
 by_cases h5:op=5
 ·subst h5;simp only[EE,nth,↓BK,Int.reduceEq,zu,zg,zc,uY,uK,ur,vS,vT,vU,vf,vh,vi,vj,vk,vm,show VA 5=true from rfl];rfl
 by_cases h7:op=7
 ·subst h7;simp only[EE,nth,↓BK,Int.reduceEq,zu,zg,zc,qi,uY,uK,ur,vS,vT,vU,vf,vh,vi,vj,vk,vm,show VA 7=true from rfl];rfl
 by_cases h10:op=10
 ·subst h10;simp only[EE,nth,↓BK,Int.reduceEq,zu,zg,zc,qD,qi,uY,uK,ur,vS,vT,vU,vf,vh,vi,vj,vk,vm,show VA 10=true from rfl];rfl
 by_cases h2:op=2
 ·subst h2;simp only[EE,nth,↓BK,Int.reduceEq,zu,zg,zc,qW,qD,qi,uY,uK,ur,vS,vT,vU,vf,vh,vi,vj,vk,vm,show VA 2=true from rfl];rfl
 by_cases h6:op=6
 ·subst h6;simp only[EE,nth,↓BK,Int.reduceEq,zu,zg,zc,qW,qD,qi,uY,uK,ur,vS,vT,vU,vf,vh,vi,vj,vk,vm,show VA 6=true from rfl];rfl
 by_cases h8:op=8
 ·subst h8;simp only[EE,nth,↓BK,Int.reduceEq,zu,zg,zc,qW,qD,qi,uY,uK,ur,vS,vT,vU,vf,vh,vi,vj,vk,vm,show VA 8=true from rfl];rfl
 by_cases h9:op=9
 ·subst h9;simp only[EE,nth,↓BK,Int.reduceEq,zu,zg,zc,qW,qD,qi,uY,uK,ur,vS,vT,vU,vf,vh,vi,vj,vk,vm,show VA 9=true from rfl];rfl
 by_cases h11:op=11
 ·subst h11;simp only[EE,nth,↓BK,Int.reduceEq,zu,zg,zc,qW,qD,qi,uY,uK,ur,vS,vT,vU,vf,vh,vi,vj,vk,vm,show VA 11=true from rfl];rfl
 by_cases h12:op=12
 ·subst h12;simp only[EE,nth,↓BK,Int.reduceEq,zu,zg,zc,qW,qD,qi,uY,uK,ur,vS,vT,vU,vf,vh,vi,vj,vk,vm,show VA 12=true from rfl];rfl
 by_cases h17:op=17
 ·subst h17;simp only[EE,nth,↓BK,Int.reduceEq,zu,zg,zc,qW,qD,qi,uY,uK,ur,vS,vT,vU,vf,vh,vi,vj,vk,vm,show VA 17=true from rfl];rfl
 by_cases h4:op=4
 ·subst h4;simp only[EE,nth,↓BK,Int.reduceEq,zu,zg,zc,uK,ur,vS,vT,vU,vf,vh,vi,vj,vk,vm,show VA 4=false from rfl];rfl
 by_cases h15:op=15
 ·subst h15;simp only[EE,nth,↓BK,Int.reduceEq,zu,zg,zc,qW,qD,qi,uY,uK,ur,vS,vT,vU,vf,vh,vi,vj,vk,vm,show VA 15=false from rfl];rfl
 by_cases h16:op=16
 ·subst h16;simp only[EE,nth,↓BK,Int.reduceEq,zu,zg,zc,qW,qD,qi,uY,uK,ur,vS,vT,vU,vf,vh,vi,vj,vk,vm,show VA 16=false from rfl];rfl
 by_cases h14:op=14
 ·subst h14;simp only[EE,nth,↓BK,Int.reduceEq,zu,zg,zc,qW,qD,qi,uY,uK,ur,vS,vT,vU,vf,vh,vi,vj,vk,vm,show VA 14=false from rfl];rfl
 have e3:VA op=false:=by unfold VA;simp;omega
 simp only[EE,nth,↓BK,zu,zg,zc,qW,qD,qi,uY,uK,ur,vS,vT,vU,vf,vh,vi,vj,vk,vm,e3,h1,h3,h5,h7,h10,h4,h15,h16,h14];have e1:fW op=false:=by unfold fW;simp;omega
 have e2:KF op=false:=by unfold KF;simp;omega
 rw[e1,e2];rfl
def tailD(i:zo):Bool :=
 if i.op=3\/i.op=4 then decide (i.sub=1\/i.sub=4\/i.sub=8)&&zM i.k
 else if i.op=5\/i.op=16 then zM i.k
 else if i.op=7 then kY i.sub
 else if i.op=8 then kY i.sub&&zM i.k
 else if i.op=9 then decide (i.sub=1\/i.sub=2)
 else if i.op=10 then decide (i.sub=3\/i.sub=4)
 else if i.op=11 then decide (i.sub=19\/i.sub=20)&&(decide (0<=i.k)&&decide (i.k<=63))
 else if i.op=12 then decide (i.sub=19\/i.sub=20)
 else if i.op=17 then ZI i.cc
 else if i.op=19 then ZI i.cc&&(decide (0<=i.l)&&decide (i.l<=10000000))
 else if i.op=18\/i.op=20 then decide (0<=i.l)&&decide (i.l<=10000000)
 else if i.op=23\/i.op=24 then decide (0<=i.k)&&decide (i.k<=65536)
 else true
section
variable {H:za}{b:Nat}{B:Bool}{vs:List aaa}{x:zo}
theorem zdi{r m sub cc l k:Int}(g:H.get b=some (.cells (zo.row ⟨3,r,m,sub,cc,l,k⟩) 42))(hB:B=tailD ⟨3,r,m,sub,cc,l,k⟩):zp (pi b) (yS B) vs H:=by
 by_cases s1:sub=1
 ·subst s1;simp only[EE,nth,↓BK,zu,xP,zg,zc,zn,zC,jK,jL,jM,jN,jO,km,zI,zp,g];refine VM (XV k _) ?_;simp only[EE];rw[hB];simp[yS,tailD]
 by_cases s4:sub=4
 ·subst s4;simp only[EE,nth,↓BK,zu,xP,zg,zc,zn,zC,jK,jL,jM,jN,jO,km,zI,zp,g,s1];refine VM (XV k _) ?_;simp only[EE];rw[hB];simp[yS,tailD,s1]
 by_cases s8:sub=8
 ·subst s8;simp only[EE,nth,↓BK,zu,xP,zg,zc,zn,zC,jK,jL,jM,jN,jO,km,zI,zp,g,s1,s4];refine VM (XV k _) ?_;simp only[EE];rw[hB];simp[yS,tailD,s1,s4]
 simp only[EE,nth,↓BK,zu,zg,zc,zn,jK,jL,jM,jN,jO,km,zI,zp,g,s1,s4,s8];rw[hB];simp[yS,tailD,s1,s4,s8]
theorem zdj{r m sub cc l k:Int}(g:H.get b=some (.cells (zo.row ⟨4,r,m,sub,cc,l,k⟩) 42))(hB:B=tailD ⟨4,r,m,sub,cc,l,k⟩):zp (pi b) (yS B) vs H:=by
 by_cases s1:sub=1
 ·subst s1;simp only[EE,nth,↓BK,Int.reduceEq,zu,xP,zg,zc,zn,zC,jK,jL,jM,jN,jO,km,zI,zp,g];refine VM (XV k _) ?_;simp only[EE];rw[hB];simp[yS,tailD]
 by_cases s4:sub=4
 ·subst s4;simp only[EE,nth,↓BK,Int.reduceEq,zu,xP,zg,zc,zn,zC,jK,jL,jM,jN,jO,km,zI,zp,g,s1];refine VM (XV k _) ?_;simp only[EE];rw[hB];simp[yS,tailD,s1]
 by_cases s8:sub=8
 ·subst s8;simp only[EE,nth,↓BK,Int.reduceEq,zu,xP,zg,zc,zn,zC,jK,jL,jM,jN,jO,km,zI,zp,g,s1,s4];refine VM (XV k _) ?_;simp only[EE];rw[hB];simp[yS,tailD,s1,s4]
 simp only[EE,nth,↓BK,Int.reduceEq,zu,zg,zc,zn,jK,jL,jM,jN,jO,km,zI,zp,g,s1,s4,s8];rw[hB];simp[yS,tailD,s1,s4,s8]
theorem zdk{r m sub cc l k:Int}(g:H.get b=some (.cells (zo.row ⟨5,r,m,sub,cc,l,k⟩) 42))(hB:B=tailD ⟨5,r,m,sub,cc,l,k⟩):zp (pi b) (yS B) vs H:=by
 simp only[EE,nth,↓BK,Int.reduceEq,zu,xP,zg,zc,zC,KX,zV,zI,zp,g];refine VM (XV k _) ?_;simp only[EE];rw[hB];simp[yS,tailD]
theorem zci{r m sub cc l k:Int}(g:H.get b=some (.cells (zo.row ⟨16,r,m,sub,cc,l,k⟩) 42))(hB:B=tailD ⟨16,r,m,sub,cc,l,k⟩):zp (pi b) (yS B) vs H:=by
 simp only[EE,nth,↓BK,Int.reduceEq,zu,xP,zg,zc,zC,KX,zV,zI,zp,g];refine VM (XV k _) ?_;simp only[EE];rw[hB];simp[yS,tailD]
theorem zdl{r m sub cc l k:Int}(g:H.get b=some (.cells (zo.row ⟨7,r,m,sub,cc,l,k⟩) 42))(hB:B=tailD ⟨7,r,m,sub,cc,l,k⟩):zp (pi b) (yS B) vs H:=by
 simp only[EE,nth,↓BK,Int.reduceEq,zu,zg,zc,zn,iU,ya,zV,zI,zp,g];refine VM (D5 sub _) ?_;simp only[EE];rw[hB];simp[yS,tailD]
theorem zdm{r m sub cc l k:Int}(g:H.get b=some (.cells (zo.row ⟨8,r,m,sub,cc,l,k⟩) 42))(hB:B=tailD ⟨8,r,m,sub,cc,l,k⟩):zp (pi b) (yS B) vs H:=by
 simp only[EE,nth,↓BK,Int.reduceEq,zu,zg,zc,zn,yc,ya,zV,zI,zp,g];refine VM (D5 sub _) ?_;cases ha:kY sub with
 |false=>
  simp only[EE,ca,cg];rw[hB];simp[yS,tailD,ha]
 |true=>
  simp only[EE,zu,xP,zC,ca,cg,g];refine VM (XV k _) ?_;simp only[EE];rw[hB];simp[yS,tailD,ha]
theorem zdn{r m sub cc l k:Int}(g:H.get b=some (.cells (zo.row ⟨9,r,m,sub,cc,l,k⟩) 42))(hB:B=tailD ⟨9,r,m,sub,cc,l,k⟩):zp (pi b) (yS B) vs H:=by
 by_cases s1:sub=1
 ·subst s1;simp only[EE,nth,↓BK,Int.reduceEq,zu,zg,zc,zn,QI,V1,yh,yc,ya,zV,zI,zp,g];rw[hB];simp[yS,tailD]
 by_cases s2:sub=2
 ·subst s2;simp only[EE,nth,↓BK,Int.reduceEq,zu,zg,zc,zn,QI,V1,yh,yc,ya,zV,zI,zp,g,s1];rw[hB];simp[yS,tailD,s1]
 simp only[EE,nth,↓BK,Int.reduceEq,zu,zg,zc,zn,QI,V1,yh,yc,ya,zV,zI,zp,g,s1,s2];rw[hB];simp[yS,tailD,s1,s2]
theorem zcf{r m sub cc l k:Int}(g:H.get b=some (.cells (zo.row ⟨10,r,m,sub,cc,l,k⟩) 42))(hB:B=tailD ⟨10,r,m,sub,cc,l,k⟩):zp (pi b) (yS B) vs H:=by
 by_cases s3:sub=3
 ·subst s3;simp only[EE,nth,↓BK,Int.reduceEq,zu,zg,zc,zn,QJ,V0,yu,yh,yc,ya,zV,zI,zp,g];rw[hB];simp[yS,tailD]
 by_cases s4:sub=4
 ·subst s4;simp only[EE,nth,↓BK,Int.reduceEq,zu,zg,zc,zn,QJ,V0,yu,yh,yc,ya,zV,zI,zp,g,s3];rw[hB];simp[yS,tailD,s3]
 simp only[EE,nth,↓BK,Int.reduceEq,zu,zg,zc,zn,QJ,V0,yu,yh,yc,ya,zV,zI,zp,g,s3,s4];rw[hB];simp[yS,tailD,s3,s4]
theorem zch{r m sub cc l k:Int}(g:H.get b=some (.cells (zo.row ⟨12,r,m,sub,cc,l,k⟩) 42))(hB:B=tailD ⟨12,r,m,sub,cc,l,k⟩):zp (pi b) (yS B) vs H:=by
 by_cases s19:sub=19
 ·subst s19;simp only[EE,nth,↓BK,Int.reduceEq,zu,zg,zc,zn,VY,VZ,wh,yK,yu,yh,yc,ya,zV,zI,zp,g];rw[hB];simp[yS,tailD]
 by_cases s20:sub=20
 ·subst s20;simp only[EE,nth,↓BK,Int.reduceEq,zu,zg,zc,zn,VY,VZ,wh,yK,yu,yh,yc,ya,zV,zI,zp,g,s19];rw[hB];simp[yS,tailD,s19]
 simp only[EE,nth,↓BK,Int.reduceEq,zu,zg,zc,zn,VY,VZ,wh,yK,yu,yh,yc,ya,zV,zI,zp,g,s19,s20];rw[hB];simp[yS,tailD,s19,s20]
theorem zcg{r m sub cc l k:Int}(g:H.get b=some (.cells (zo.row ⟨11,r,m,sub,cc,l,k⟩) 42))(hB:B=tailD ⟨11,r,m,sub,cc,l,k⟩):zp (pi b) (yS B) vs H:=by
 by_cases s19:sub=19
 ·subst s19;by_cases k0:0<=k
  ·by_cases k1:k<=63
   ·simp only[EE,nth,↓BK,Int.reduceEq,zu,xP,zg,zc,zn,zC,jl,jm,jn,jo,jq,jt,yK,yu,yh,yc,ya,zV,zI,zp,g,k0,k1];rw[hB];simp[yS,tailD,k0,k1]
   ·simp only[EE,nth,↓BK,Int.reduceEq,zu,xP,zg,zc,zn,zC,jl,jm,jn,jo,jq,jt,yK,yu,yh,yc,ya,zV,zI,zp,g,k0,k1];rw[hB];simp[yS,tailD,k0,k1]
  ·simp only[EE,nth,↓BK,Int.reduceEq,zu,xP,zg,zc,zn,zC,jl,jm,jn,jo,jq,jt,yK,yu,yh,yc,ya,zV,zI,zp,g,k0];rw[hB];simp[yS,tailD,k0]
 by_cases s20:sub=20
 ·subst s20;by_cases k0:0<=k
  ·by_cases k1:k<=63
   ·simp only[EE,nth,↓BK,Int.reduceEq,zu,xP,zg,zc,zn,zC,jl,jm,jn,jo,jq,jt,yK,yu,yh,yc,ya,zV,zI,zp,g,s19,k0,k1];rw[hB];simp[yS,tailD,s19,k0,k1]
   ·simp only[EE,nth,↓BK,Int.reduceEq,zu,xP,zg,zc,zn,zC,jl,jm,jn,jo,jq,jt,yK,yu,yh,yc,ya,zV,zI,zp,g,s19,k0,k1];rw[hB];simp[yS,tailD,s19,k0,k1]
  ·simp only[EE,nth,↓BK,Int.reduceEq,zu,xP,zg,zc,zn,zC,jl,jm,jn,jo,jq,jt,yK,yu,yh,yc,ya,zV,zI,zp,g,s19,k0];rw[hB];simp[yS,tailD,s19,k0]
 simp only[EE,nth,↓BK,Int.reduceEq,zu,zg,zc,zn,jl,jm,jn,jo,jq,jt,yK,yu,yh,yc,ya,zV,zI,zp,g,s19,s20];rw[hB];simp[yS,tailD,s19,s20]
theorem zcj{r m sub cc l k:Int}(g:H.get b=some (.cells (zo.row ⟨17,r,m,sub,cc,l,k⟩) 42))(hB:B=tailD ⟨17,r,m,sub,cc,l,k⟩):zp (pi b) (yS B) vs H:=by
 simp only[EE,nth,↓BK,Int.reduceEq,zu,zg,zc,aj,iT,w8,wh,yK,yu,yh,yc,ya,zV,zI,zp,g];refine VM (zcc cc _) ?_;simp only[EE];rw[hB];simp[yS,tailD]
theorem zcl{r m sub cc l k:Int}(g:H.get b=some (.cells (zo.row ⟨19,r,m,sub,cc,l,k⟩) 42))(hB:B=tailD ⟨19,r,m,sub,cc,l,k⟩):zp (pi b) (yS B) vs H:=by
 simp only[EE,nth,↓BK,Int.reduceEq,zu,zg,zc,aj,vx,w8,wh,yK,yu,yh,yc,ya,zV,zI,zp,g];refine VM (zcc cc _) ?_;cases ha:ZI cc with
 |false=>
  simp only[EE,X4,X5,X6,X7];rw[hB];simp[yS,tailD,ha]
 |true=>
  by_cases k0:0<=l
  ·by_cases k1:l<=10000000
   ·simp only[EE,zu,zg,xw,X4,X5,X6,X7,g,k0,k1];rw[hB];simp[yS,tailD,ha,k0,k1]
   ·simp only[EE,zu,zg,xw,X4,X5,X6,X7,g,k0,k1];rw[hB];simp[yS,tailD,ha,k0,k1]
  ·simp only[EE,zu,zg,xw,X4,X5,X6,X7,g,k0];rw[hB];simp[yS,tailD,ha,k0]
theorem zck{r m sub cc l k:Int}(g:H.get b=some (.cells (zo.row ⟨18,r,m,sub,cc,l,k⟩) 42))(hB:B=tailD ⟨18,r,m,sub,cc,l,k⟩):zp (pi b) (yS B) vs H:=by
 by_cases k0:0<=l
 ·by_cases k1:l<=10000000
  ·simp only[EE,nth,↓BK,Int.reduceEq,zu,zg,zc,xw,Zz,ZC,vO,vx,w8,wh,yK,yu,yh,yc,ya,zV,zI,zp,g,k0,k1];rw[hB];simp[yS,tailD,k0,k1]
  ·simp only[EE,nth,↓BK,Int.reduceEq,zu,zg,zc,xw,Zz,ZC,vO,vx,w8,wh,yK,yu,yh,yc,ya,zV,zI,zp,g,k0,k1];rw[hB];simp[yS,tailD,k0,k1]
 ·simp only[EE,nth,↓BK,Int.reduceEq,zu,zg,zc,xw,Zz,ZC,vO,vx,w8,wh,yK,yu,yh,yc,ya,zV,zI,zp,g,k0];rw[hB];simp[yS,tailD,k0]
theorem zcm{r m sub cc l k:Int}(g:H.get b=some (.cells (zo.row ⟨20,r,m,sub,cc,l,k⟩) 42))(hB:B=tailD ⟨20,r,m,sub,cc,l,k⟩):zp (pi b) (yS B) vs H:=by
 by_cases k0:0<=l
 ·by_cases k1:l<=10000000
  ·simp only[EE,nth,↓BK,Int.reduceEq,zu,zg,zc,xw,Zz,ZC,vO,vx,w8,wh,yK,yu,yh,yc,ya,zV,zI,zp,g,k0,k1];rw[hB];simp[yS,tailD,k0,k1]
  ·simp only[EE,nth,↓BK,Int.reduceEq,zu,zg,zc,xw,Zz,ZC,vO,vx,w8,wh,yK,yu,yh,yc,ya,zV,zI,zp,g,k0,k1];rw[hB];simp[yS,tailD,k0,k1]
 ·simp only[EE,nth,↓BK,Int.reduceEq,zu,zg,zc,xw,Zz,ZC,vO,vx,w8,wh,yK,yu,yh,yc,ya,zV,zI,zp,g,k0];rw[hB];simp[yS,tailD,k0]
theorem zcn{r m sub cc l k:Int}(g:H.get b=some (.cells (zo.row ⟨23,r,m,sub,cc,l,k⟩) 42))(hB:B=tailD ⟨23,r,m,sub,cc,l,k⟩):zp (pi b) (yS B) vs H:=by
 by_cases k0:0<=k
 ·by_cases k1:k<=65536
  ·simp only[EE,nth,↓BK,Int.reduceEq,zu,xP,zg,zc,zC,ZA,ZB,jr,vO,vx,w8,wh,yK,yu,yh,yc,ya,zV,zI,zp,g,k0,k1];rw[hB];simp[yS,tailD,k0,k1]
  ·simp only[EE,nth,↓BK,Int.reduceEq,zu,xP,zg,zc,zC,ZA,ZB,jr,vO,vx,w8,wh,yK,yu,yh,yc,ya,zV,zI,zp,g,k0,k1];rw[hB];simp[yS,tailD,k0,k1]
 ·simp only[EE,nth,↓BK,Int.reduceEq,zu,xP,zg,zc,zC,ZA,ZB,jr,vO,vx,w8,wh,yK,yu,yh,yc,ya,zV,zI,zp,g,k0];rw[hB];simp[yS,tailD,k0]
theorem zco{r m sub cc l k:Int}(g:H.get b=some (.cells (zo.row ⟨24,r,m,sub,cc,l,k⟩) 42))(hB:B=tailD ⟨24,r,m,sub,cc,l,k⟩):zp (pi b) (yS B) vs H:=by
 by_cases k0:0<=k
 ·by_cases k1:k<=65536
  ·simp only[EE,nth,↓BK,Int.reduceEq,zu,xP,zg,zc,zC,ZA,ZB,jr,vO,vx,w8,wh,yK,yu,yh,yc,ya,zV,zI,zp,g,k0,k1];rw[hB];simp[yS,tailD,k0,k1]
  ·simp only[EE,nth,↓BK,Int.reduceEq,zu,xP,zg,zc,zC,ZA,ZB,jr,vO,vx,w8,wh,yK,yu,yh,yc,ya,zV,zI,zp,g,k0,k1];rw[hB];simp[yS,tailD,k0,k1]
 ·simp only[EE,nth,↓BK,Int.reduceEq,zu,xP,zg,zc,zC,ZA,ZB,jr,vO,vx,w8,wh,yK,yu,yh,yc,ya,zV,zI,zp,g,k0];rw[hB];simp[yS,tailD,k0]
theorem hH(g:H.get b=some (.cells x.row 42))(hB:B=tailD x):zp (pi b) (yS B) vs H:=by
 obtain⟨op,r,m,sub,cc,l,k⟩:=x;by_cases o3:op=3
 ·subst o3;exact zdi g hB
 by_cases o4:op=4
 ·subst o4;exact zdj g hB
 by_cases o5:op=5
 ·subst o5;exact zdk g hB
 by_cases o16:op=16
 ·subst o16;exact zci g hB
 by_cases o7:op=7
 ·subst o7;exact zdl g hB
 by_cases o8:op=8
 ·subst o8;exact zdm g hB
 by_cases o9:op=9
 ·subst o9;exact zdn g hB
 by_cases o10:op=10
 ·subst o10;exact zcf g hB
 by_cases o11:op=11
 ·subst o11;exact zcg g hB
 by_cases o12:op=12
 ·subst o12;exact zch g hB
 by_cases o17:op=17
 ·subst o17;exact zcj g hB
 by_cases o19:op=19
 ·subst o19;exact zcl g hB
 by_cases o18:op=18
 ·subst o18;exact zck g hB
 by_cases o20:op=20
 ·subst o20;exact zcm g hB
 by_cases o23:op=23
 ·subst o23;exact zcn g hB
 by_cases o24:op=24
 ·subst o24;exact zco g hB
 simp only[EE,nth,↓BK,zu,zg,zc,jr,vO,vx,w8,wh,yK,yu,yh,yc,ya,zV,zI,zp,g,o3,o4,o5,o16,o7,o8,o9,o10,o11,o12,o17,o19,o18,o20,o23,o24];rw[hB];simp[yS,tailD,o3,o4,o5,o16,o7,o8,o9,o10,o11,o12,o17,o19,o18,o20,o23,o24]
end
def Xh(x:zo):Bool := !(fW x.op&&(decide (x.r<0)||decide (15<x.r)))
def Wl(x:zo):Bool := !(KF x.op&&(decide (x.m<0)||decide (15<x.m)))
def UK(x:zo):Bool := !(VA x.op&&decide (x.r=4))
def aP(x:zo):Bool := !(KF x.op&&(decide (x.m=4) && !u4 x.op))
def zO(x:zo):Bool := !decide (x.op<1)&&(!decide (26<x.op)&&(Xh x&&(Wl x&&(UK x&&(aP x&&tailD x)))))
section
variable {H:za}{b:Nat}{B:Bool}{vs:List aaa}{x:zo}
theorem lA{mb:Bool}(hm:KF x.op=mb)(g:H.get b=some (.cells x.row 42))(hB:B=(aP x&&tailD x)):kn (.bool mb) (pi b) (yS B) vs H:=by
 cases mb with
 |false=>
  simp only[EE,ju,jv,jw,jx,jy,jz,jA,jB,jC,kn];exact hH g (by rw[hB];simp[aP,hm])
 |true=>
  by_cases m4:x.m=4
  ·by_cases o3:x.op=3
   ·simp only[EE,zu,zg,zc,yP,ju,jv,jw,jx,jy,jz,jA,jB,jC,kn,g,m4,o3];exact hH g (by rw[hB];simp[aP,u4,o3])
   by_cases o4:x.op=4
   ·simp only[EE,Int.reduceEq,zu,zg,zc,yP,ju,jv,jw,jx,jy,jz,jA,jB,jC,kn,g,m4,o4];exact hH g (by rw[hB];simp[aP,u4,o4])
   by_cases o5:x.op=5
   ·simp only[EE,Int.reduceEq,zu,zg,zc,yP,ju,jv,jw,jx,jy,jz,jA,jB,jC,kn,g,m4,o5];exact hH g (by rw[hB];simp[aP,u4,o5])
   by_cases o1:x.op=1
   ·simp only[EE,Int.reduceEq,zu,zg,zc,yP,ju,jv,jw,jx,jy,jz,jA,jB,jC,kn,g,m4,o1];exact hH g (by rw[hB];simp[aP,u4,o1])
   simp only[EE,zu,zg,zc,yP,ju,jv,jw,jx,jy,jz,jA,jB,jC,kn,g,m4,o3,o4,o5,o1];have e:u4 x.op=false:=by unfold u4;simp[o3,o4,o5,o1]
   rw[hB];simp[yS,aP,hm,m4,e]
  ·simp only[EE,zu,zg,yP,ju,jv,jw,jx,jy,jz,jA,jB,jC,kn,g,m4];exact hH g (by rw[hB];simp[aP,m4])
theorem Ct:vw pu 27 [x.val] H (.bool (zO x)):=by
 apply z8;generalize H.lock=L;apply C4;unfold C3;simp only[EE,↓nw,Value.cells,Nat.reduceAdd,jY,vu];have g:(L.push (.cells x.row 42)).get L.next=some (.cells x.row 42):=wQ;generalize L.push (.cells x.row 42)=G at g ⊢;generalize L.next=b at g ⊢;simp only[];refine VM (SG x _) ?_;by_cases c1:x.op<1
 ·simp only[EE,zu,zg,zc,xQ,xR,xS,v8,v9,ua,ub,uc,ud,ue,uf,ug,uh,ui,uj,uk,um,uo,g,c1];simp[yS,zO,c1]
 by_cases c2:x.op>26
 ·simp only[EE,zu,zg,zc,xQ,xR,xS,v8,v9,ua,ub,uc,ud,ue,uf,ug,uh,ui,uj,uk,um,uo,g,c1,c2];have c2':26<x.op:=c2;simp[yS,zO,c2']
 have c2':¬26<x.op:=c2;cases hr:fW x.op with
 |false=>
  cases hm:KF x.op with
  |false=>
   simp only[EE,Nat.reduceAdd,jY,zu,zg,vu,zc,v8,v9,ua,ub,uc,ud,ue,uf,ug,uh,ui,uj,uk,um,uo,g,c1,c2];refine VM (JL x _) ?_;cases hw:VA x.op with
   |false=>
    simp only[EE,xQ,xR,xS];refine lA (x:=x) (B:=zO x) hm g ?_;simp[zO,Xh,Wl,UK,c1,c2',hr,hm,hw]
   |true=>
    by_cases r4:x.r=4
    ·simp only[EE,zu,zg,yy,xQ,xR,xS,g,r4];simp[yS,zO,Xh,Wl,UK,hw,r4]
    ·simp only[EE,zu,zg,yy,xQ,xR,xS,g,r4];refine lA (x:=x) (B:=zO x) hm g ?_;simp[zO,Xh,Wl,UK,c1,c2',hr,hm,hw,r4]
  |true=>
   by_cases m0:x.m<0
   ·simp only[EE,zu,zg,zc,yP,xQ,xR,xS,v8,v9,ua,ub,uc,ud,ue,uf,ug,uh,ui,uj,uk,um,uo,g,c1,c2,m0];simp[yS,zO,Xh,Wl,hm,m0]
   by_cases m1:x.m>15
   ·simp only[EE,zu,zg,zc,yP,xQ,xR,xS,v8,v9,ua,ub,uc,ud,ue,uf,ug,uh,ui,uj,uk,um,uo,g,c1,c2,m0,m1];have m1':15<x.m:=m1;simp[yS,zO,Xh,Wl,hm,m1']
   have m1':¬15<x.m:=m1;simp only[EE,Nat.reduceAdd,jY,zu,zg,vu,zc,yP,v8,v9,ua,ub,uc,ud,ue,uf,ug,uh,ui,uj,uk,um,uo,g,c1,c2,m0,m1];refine VM (JL x _) ?_;cases hw:VA x.op with
   |false=>
    simp only[EE,xQ,xR,xS];refine lA (x:=x) (B:=zO x) hm g ?_;simp[zO,Xh,Wl,UK,c1,c2',hr,hm,m0,m1',hw]
   |true=>
    by_cases r4:x.r=4
    ·simp only[EE,zu,zg,yy,xQ,xR,xS,g,r4];simp[yS,zO,Xh,Wl,UK,hw,r4]
    ·simp only[EE,zu,zg,yy,xQ,xR,xS,g,r4];refine lA (x:=x) (B:=zO x) hm g ?_;simp[zO,Xh,Wl,UK,c1,c2',hr,hm,m0,m1',hw,r4]
 |true=>
  by_cases r0:x.r<0
  ·simp only[EE,zu,zg,zc,yy,xQ,xR,xS,v8,v9,ua,ub,uc,ud,ue,uf,ug,uh,ui,uj,uk,um,uo,g,c1,c2,r0];simp[yS,zO,Xh,hr,r0]
  by_cases r1:x.r>15
  ·simp only[EE,zu,zg,zc,yy,xQ,xR,xS,v8,v9,ua,ub,uc,ud,ue,uf,ug,uh,ui,uj,uk,um,uo,g,c1,c2,r0,r1];have r1':15<x.r:=r1;simp[yS,zO,Xh,hr,r1']
  have r1':¬15<x.r:=r1;cases hm:KF x.op with
  |false=>
   simp only[EE,Nat.reduceAdd,jY,zu,zg,vu,zc,yy,v8,v9,ua,ub,uc,ud,ue,uf,ug,uh,ui,uj,uk,um,uo,g,c1,c2,r0,r1];refine VM (JL x _) ?_;cases hw:VA x.op with
   |false=>
    simp only[EE,xQ,xR,xS];refine lA (x:=x) (B:=zO x) hm g ?_;simp[zO,Xh,Wl,UK,c1,c2',hr,r0,r1',hm,hw]
   |true=>
    by_cases r4:x.r=4
    ·simp only[EE,zu,zg,yy,xQ,xR,xS,g,r4];simp[yS,zO,Xh,Wl,UK,hw,r4]
    ·simp only[EE,zu,zg,yy,xQ,xR,xS,g,r4];refine lA (x:=x) (B:=zO x) hm g ?_;simp[zO,Xh,Wl,UK,c1,c2',hr,r0,r1',hm,hw,r4]
  |true=>
   by_cases m0:x.m<0
   ·simp only[EE,zu,zg,zc,yy,yP,xQ,xR,xS,v8,v9,ua,ub,uc,ud,ue,uf,ug,uh,ui,uj,uk,um,uo,g,c1,c2,r0,r1,m0];simp[yS,zO,Xh,Wl,hm,m0]
   by_cases m1:x.m>15
   ·simp only[EE,zu,zg,zc,yy,yP,xQ,xR,xS,v8,v9,ua,ub,uc,ud,ue,uf,ug,uh,ui,uj,uk,um,uo,g,c1,c2,r0,r1,m0,m1];have m1':15<x.m:=m1;simp[yS,zO,Xh,Wl,hm,m1']
   have m1':¬15<x.m:=m1;simp only[EE,Nat.reduceAdd,jY,zu,zg,vu,zc,yy,yP,v8,v9,ua,ub,uc,ud,ue,uf,ug,uh,ui,uj,uk,um,uo,g,c1,c2,r0,r1,m0,m1];refine VM (JL x _) ?_;cases hw:VA x.op with
   |false=>
    simp only[EE,xQ,xR,xS];refine lA (x:=x) (B:=zO x) hm g ?_;simp[zO,Xh,Wl,UK,c1,c2',hr,r0,r1',hm,m0,m1',hw]
   |true=>
    by_cases r4:x.r=4
    ·simp only[EE,zu,zg,yy,xQ,xR,xS,g,r4];simp[yS,zO,Xh,Wl,UK,hw,r4]
    ·simp only[EE,zu,zg,yy,xQ,xR,xS,g,r4];refine lA (x:=x) (B:=zO x) hm g ?_;simp[zO,Xh,Wl,UK,c1,c2',hr,r0,r1',hm,m0,m1',hw,r4]
end
open Go.Rtl (inc)
open Go.Rm (Rd Rd.of Rd.at isO)
open Go.As (Xn vp x8)
def yB:List zo->Int->Nat->Int
 |[],_,_ => -1
 |x::xs,l,n=>if x.op=20/\x.l=l then (n:Nat) else yB xs l (n+1)
theorem Kf{h:za}{f:Go.As.Fn}(F:Xn h f)(l:Int):vw pu 28 [f.val,pm l] h (pm (yB f.code l 0)):=by
 apply aG rfl;replace F:=F.lock;generalize h.lock=L at F;apply UP;intro wf;apply FY;unfold HA;have s0:Sat (.of L) L []:=Sat.self wf.2;have RF:Rd (.of L) (Xn · f):=Rd.of (yH.Wx L) F λh' o=>F.old o;have cn:=F.code.Kc;have cc:=F.code.Au;simp only[EE,Value.cells,↓zB];refine vR s0 λb2 h2 s2=>?_;have g2:=s2.get;simp only[];have F2:=RF.at s2;have cl:=x8 F2.code 3;refine kW (λm vs h'=>∃i:Nat,i<=f.code.length/\m=f.code.length-i/\vs=[pm 0,pm (i:Nat)]/\h'=h2/\yB f.code l 0=yB (f.code.drop i) l i) f.code.length ⟨0,aaS _,rfl,rfl,rfl,rfl⟩ ?_;rintro m vs h' ⟨i,hi,rfl,rfl,rfl,he⟩;unfold tC;by_cases hc:(i:Int)<(f.code.length:Int)
 ·obtain⟨x,hx⟩:∃x,f.code[i]? = some x:=⟨_,aag (by omega)⟩
  have hd:f.code.drop i=x::f.code.drop (i+1):=by
   rw[abB (by omega)];rw[aag (by omega)]at hx;rw[abg hx]
  rw[hd]at he;obtain⟨bi,oi,ci,ti,ha,hbi,hgi,hle,htk,hki⟩:=vp F2.code (i:=i) (r:=x.row) (by rw[aay,hx];rfl) rfl;have q0:=hki 0 (by decide);have q0:ci[oi]? = some (pm x.op):=q0;have q5:=hki 5 (by decide);have q5:ci[oi+5]? = some (pm x.l):=q5;have hin:=inc (show i<4611686018427387904 by have:=F.Gu;omega);by_cases e1:x.op=20
  ·by_cases e2:x.l=l
   ·simp only[EE,nth,↓zB,zu,zg,qd,zc,xw,wP,JM,JN,JO,JP,JQ,hc,g2,cn,cl,ha,hgi,q0,q5,e1,e2];show Value.int .i64 (i:Nat)=.int .i64 (yB f.code l 0);rw[he];unfold yB;rw[aah ⟨e1,e2⟩]
   ·simp only[EE,nth,↓zB,zu,zg,qd,zc,xw,wP,JM,JN,JO,JP,JQ,f9,hc,g2,cn,cl,ha,hgi,q0,q5,e1,e2,hin];refine⟨f.code.length-(i+1),by omega,i+1,by omega,rfl,rfl,?_⟩;rw[he]
    conv=>lhs;unfold yB
    rw[aae (λq=>e2 q.2)]
  ·simp only[EE,nth,↓zB,zu,zg,qd,zc,wP,JM,JN,JO,JP,JQ,f9,hc,g2,cn,cl,ha,hgi,q0,e1,hin];refine⟨f.code.length-(i+1),by omega,i+1,by omega,rfl,rfl,?_⟩;rw[he]
   conv=>lhs;unfold yB
   rw[aae (λq=>e1 q.1)]
 ·have e:i=f.code.length:=by omega
  subst e;simp only[EE,nth,Int.reduceNeg,zu,qd,wP,hc,g2,cn,cl];show Value.int .i64 (-1)=.int .i64 (yB f.code l 0);rw[he,List.drop_length];rfl
open Go.Rtl (Gl Z1 W2 QW get_some)
open Go.As (Pg uQ We qu kU vq BX)
def Wq(l:List zo):Bool:=l.any λx => !decide (x.op=20)
def jj(code:List zo)(n:Nat)(x:zo):Bool := !(decide (x.op=20) && !decide (yB code x.l 0=(n:Int))) && !(decide (x.op=18\/x.op=19)&&decide (yB code x.l 0<0))
def jk(p:Pg)(x:zo):Bool := !(decide (x.op=21)&&(decide (x.sub<0)||decide ((p.funcs.length:Int)<=x.sub))) && !(decide (x.op=6)&&(decide (x.sub<0)||(decide ((p.globals.length:Int)<=x.sub)||(decide (x.k<0)||decide (p.globals.getD x.sub.toNat 0<x.k)))))
def wK(p:Pg)(code:List zo)(n:Nat)(x:zo):Bool:=zO x&&(jj code n x&&jk p x)
def EU(p:Pg)(code:List zo)(n:Nat):Bool:=match code[n]? with
 |none=>true
 |some x=>wK p code n x
def Qb(p:Pg)(code:List zo):Bool:=(List.range code.length).all (EU p code)
def Qc(p:Pg)(f:Go.As.Fn):Bool:=Qb p f.code&&(Wq f.code && !decide (100000<(f.code.length:Int)))
def uZ(p:Pg):Bool:=Go.As.uR p&&(p.globals.all BX&&p.funcs.all (Qc p))
theorem Et{p:Pg}{code:List zo}{n:Nat}{x:zo}(hx:code[n]? = some x)(h:wK p code n x=false):Qb p code=false:=by
 have hn:n<code.length:=by
  rcases aaI n code.length with q|q
  ·exact q
  ·rw[aas q]at hx;cases hx
 unfold Qb;rw[List.all_eq_false];exact⟨n,by simpa using hn,by unfold EU;rw[hx];simp[h]⟩
theorem At{p:Pg}{code:List zo}(h:∀n x,n<code.length->code[n]? = some x->wK p code n x=true):Qb p code=true:=by
 unfold Qb;rw[aav];intro n hn;have hn:n<code.length:=by simpa using hn
 unfold EU;rw[aag hn];exact h n _ hn (aag hn)
section
variable {p:Pg}{f:Go.As.Fn}{lo:yH}{H:za}{b1 b5:Nat}{R:aaa->za->Prop}{J:List aaa->za->Prop}
theorem zaF(RP:Rd lo (uQ · p))(hfm:f∈p.funcs)(s:Sat lo H [pt b5 (.cells f.row 50),pt b1 (.cells p.row 25)])(v:aaa)
  (kb:Qb p f.code=false->∀h,R (.bool false) h)
  (k:∀h v,Qb p f.code=true->Sat lo h [pt b5 (.cells f.row 50),pt b1 (.cells p.row 25)]->J [v,.bool (Wq f.code)] h) :
  LP (bX (pi b5) J R (pi b1)) [v,.bool false,pm 0] H:=by
 refine kW (λn vs h'=>∃(i:Nat) (v0:aaa),i<=f.code.length/\n=f.code.length-i/\vs=[v0,.bool (Wq (f.code.take i)),pm (i:Nat)]/\(∀m x,m<i->f.code[m]? = some x->wK p f.code m x=true)/\Sat lo h' [pt b5 (.cells f.row 50),pt b1 (.cells p.row 25)]) f.code.length ⟨0,v,aaS _,rfl,rfl,λm x hm=>by omega,s⟩ ?_;rintro n vs h' ⟨i,v0,hi,rfl,rfl,hall,s⟩;have P:=RP.at s;have F:=P.fns f hfm;have g5:=s.get;have cn:=F.code.Kc;have cc:=F.code.Au;have cl:=λh'=>x8 F.code 3 h';have gvn:=P.globals.Kc;have fvn:=P.funcs.Kc;have gl:=λh'=>vq P.globals 3 h';have fl:=λh'=>kU P.funcs 3 h';unfold bX;by_cases hc:(i:Int)<(f.code.length:Int)
 ·obtain⟨x,hx,hxm⟩:=get_some (l:=f.code) (k:=i) (by omega);obtain⟨bi,oi,ci,ti,ha,hbi,hgi,hle,htk,hki⟩:=vp F.code (i:=i) (r:=x.row) (by rw[aay,hx];rfl) rfl;have et:f.code.take (i+1)=f.code.take i++[x]:=by rw[abw,hx];rfl
  have hsn:Wq (f.code.take (i+1))=(Wq (f.code.take i) || !decide (x.op=20)):=by rw[et];simp[Wq]
  have hin:=inc (show i<4611686018427387904 by have:=F.Gu;omega);have no:wK p f.code i x=false->∀h,R (.bool false) h:=λe=>kb (Et hx e)
  have go:wK p f.code i x=true->∀m y,m<i+1->f.code[m]? = some y->wK p f.code m y=true:=λe m y hm hy=>by
   by_cases q:m=i
   ·subst q;rw[hx]at hy;cases hy;exact e
   ·exact hall m y (by omega) hy
  simp only[EE,nth,Value.cells,↓zB,jY,zu,vu,qd,uM,wP,nd,hc,g5,cn,cl,ha,hgi,hle,htk];refine vR s λb8 h2 s2=>?_;simp only[EE,Nat.reduceAdd,yV];refine zY s2 (by simp) rfl λh3 s3=>?_;have g8:=s3.get;have g5:=(s3.p 1).get;have g1:=(s3.p 2).get;have st:=s3.drop
  have go2:wK p f.code i x=true->∀(w:aaa) (sb:Bool),sb=(Wq (f.code.take i) || !decide (x.op=20))->∃m,m<f.code.length-i /\ ∃(i':Nat) (v0:aaa),i'<=f.code.length/\m=f.code.length-i' /\ [w,Value.bool sb,pm ((i+1:Nat):Int)]=[v0,.bool (Wq (f.code.take i')),pm (i':Nat)]/\(∀m x,m<i'->f.code[m]? = some x->wK p f.code m x=true)/\Sat lo h3 [pt b5 (.cells f.row 50),pt b1 (.cells p.row 25)]:=λe w sb hsb=>
   ⟨f.code.length-(i+1),by omega,i+1,w,by omega,rfl,by rw[hsn,hsb],go e,st⟩
  cases hsb:Wq (f.code.take i) with
  |true=>
   rw[hsb]at go2;simp only[EE,nth,zt,Nat.reduceAdd,jY,vu,zc,bV,bW,g8];refine VM (Ct (x:=x)) ?_;cases hR:zO x with
   |false=>
    simp only[EE,y9];exact no (by simp[wK,hR]) _
   |true=>
    by_cases o20:x.op=20
    ·simp only[EE,zt,Nat.reduceAdd,jY,zu,zg,Zf,zc,xw,xJ,xK,xL,y9,g8,g5,o20];refine gZ (by simp only[yk];rfl) (Kf ((RP.at s3).fns f hfm) x.l) ?_;by_cases e1:yB f.code x.l 0=(i:Int)
     ·simp only[EE,nth,zt,Nat.reduceAdd,Int.reduceEq,zu,zg,zc,wX,wY,wq,wt,wu,wx,wy,wz,wA,wB,wC,wD,wE,wF,wG,wH,xC,xD,xE,xF,xG,xH,xI,yE,yF,yW,yX,yY,yZ,y4,y5,y6,y8,uU,g8,hin,o20,e1];exact go2 (by simp[wK,jj,jk,hR,o20,e1]) _ _ (by simp)
     ·simp only[EE,nth,yE,yF,yW,yX,yY,yZ,y4,y5,y6,y8,e1];exact no (by simp[wK,jj,jk,hR,o20,e1]) _
    by_cases o18:x.op=18
    ·simp only[EE,zt,Nat.reduceAdd,Int.reduceEq,jY,zu,zg,Zf,zc,xw,yW,yX,yY,yZ,y4,y5,y6,y8,xJ,xK,xL,y9,g8,g5,o18];refine gZ (by simp only[yk];rfl) (Kf ((RP.at s3).fns f hfm) x.l) ?_;by_cases e1:yB f.code x.l 0<0
     ·simp only[EE,yE,yF,e1];exact no (by simp[wK,jj,jk,hR,o18,e1]) _
     ·simp only[EE,nth,zt,Nat.reduceAdd,Int.reduceEq,zu,zg,zc,wX,wY,wq,wt,wu,wx,wy,wz,wA,wB,wC,wD,wE,wF,wG,wH,xC,xD,xE,xF,xG,xH,xI,yE,yF,uU,g8,hin,o18,e1];exact go2 (by simp[wK,jj,jk,hR,o18,e1]) _ _ (by simp)
    by_cases o19:x.op=19
    ·simp only[EE,zt,Nat.reduceAdd,Int.reduceEq,jY,zu,zg,Zf,zc,xw,yW,yX,yY,yZ,y4,y5,y6,y8,xJ,xK,xL,y9,g8,g5,o19];refine gZ (by simp only[yk];rfl) (Kf ((RP.at s3).fns f hfm) x.l) ?_;by_cases e1:yB f.code x.l 0<0
     ·simp only[EE,yE,yF,e1];exact no (by simp[wK,jj,jk,hR,o19,e1]) _
     ·simp only[EE,nth,zt,Nat.reduceAdd,Int.reduceEq,zu,zg,zc,wX,wY,wq,wt,wu,wx,wy,wz,wA,wB,wC,wD,wE,wF,wG,wH,xC,xD,xE,xF,xG,xH,xI,yE,yF,uU,g8,hin,o19,e1];exact go2 (by simp[wK,jj,jk,hR,o19,e1]) _ _ (by simp)
    by_cases o21:x.op=21
    ·by_cases e1:x.sub<0
     ·simp only[EE,zt,Nat.reduceAdd,Int.reduceEq,zu,zg,zc,zn,xC,xD,xE,xF,xG,xH,xI,yE,yF,yW,yX,yY,yZ,y4,y5,y6,y8,xJ,xK,xL,y9,g8,o21,e1];exact no (by simp[wK,jj,jk,hR,o21,e1]) _
     by_cases e2:x.sub ≥ (p.funcs.length:Int)
     ·simp only[EE,zt,Nat.reduceAdd,Int.reduceEq,zu,vI,zg,yO,zc,zn,xC,xD,xE,xF,xG,xH,xI,yE,yF,yW,yX,yY,yZ,y4,y5,y6,y8,xJ,xK,xL,y9,g8,g1,fvn,fl,o21,e1,e2];have e2:(p.funcs.length:Int)<=x.sub:=e2;exact no (by simp[wK,jj,jk,hR,o21,e2]) _
     simp only[EE,nth,zt,Nat.reduceAdd,Int.reduceEq,zu,vI,zg,yO,zc,zn,wX,wY,wq,wt,wu,wx,wy,wz,wA,wB,wC,wD,wE,wF,wG,wH,xC,xD,xE,xF,xG,xH,xI,yE,yF,yW,yX,yY,yZ,y4,y5,y6,y8,xJ,xK,xL,y9,uU,g8,g1,fvn,fl,hin,o21,e1,e2];have e2:¬(p.funcs.length:Int)<=x.sub:=e2;exact go2 (by simp[wK,jj,jk,hR,o21,e1,e2]) _ _ (by simp)
    by_cases o6:x.op=6
    ·by_cases e1:x.sub<0
     ·simp only[EE,zt,Nat.reduceAdd,Int.reduceEq,zu,zg,zc,zn,wX,wY,wq,wt,wu,wx,wy,wz,wA,wB,wC,wD,wE,wF,wG,wH,xC,xD,xE,xF,xG,xH,xI,yE,yF,yW,yX,yY,yZ,y4,y5,y6,y8,xJ,xK,xL,y9,g8,o6,e1];exact no (by simp[wK,jj,jk,hR,o6,e1]) _
     by_cases e2:x.sub ≥ (p.globals.length:Int)
     ·simp only[EE,zt,Nat.reduceAdd,Int.reduceEq,zu,wi,zg,xp,zc,zn,wX,wY,wq,wt,wu,wx,wy,wz,wA,wB,wC,wD,wE,wF,wG,wH,xC,xD,xE,xF,xG,xH,xI,yE,yF,yW,yX,yY,yZ,y4,y5,y6,y8,xJ,xK,xL,y9,g8,g1,gvn,gl,o6,e1,e2];have e2:(p.globals.length:Int)<=x.sub:=e2;exact no (by simp[wK,jj,jk,hR,o6,e2]) _
     by_cases e3:x.k<0
     ·simp only[EE,zt,Nat.reduceAdd,Int.reduceEq,zu,xP,wi,zg,xp,zc,zn,zC,wX,wY,wq,wt,wu,wx,wy,wz,wA,wB,wC,wD,wE,wF,wG,wH,xC,xD,xE,xF,xG,xH,xI,yE,yF,yW,yX,yY,yZ,y4,y5,y6,y8,xJ,xK,xL,y9,g8,g1,gvn,gl,o6,e1,e2,e3];exact no (by simp[wK,jj,jk,hR,o6,e3]) _
     obtain⟨z,hz,hzm⟩:=get_some (l:=p.globals) (k:=x.sub.toNat) (by omega);obtain⟨bz,oz,cz,tz,haz,hbz,hgz,hatz⟩:=qu (RP.at s3).globals hz;rw[acf (by omega)]at haz;have hd:p.globals.getD x.sub.toNat 0=z:=by rw[abd,hz];rfl
     by_cases e4:x.k>z
     ·simp only[EE,zt,Nat.reduceAdd,Int.reduceEq,zu,xP,wi,zg,xp,zc,zn,zC,wX,wY,wq,wt,wu,wx,wy,wz,wA,wB,wC,wD,wE,wF,wG,wH,xC,xD,xE,xF,xG,xH,xI,yE,yF,yW,yX,yY,yZ,y4,y5,y6,y8,xJ,xK,xL,y9,g8,g1,gvn,gl,o6,e1,e2,e3,haz,hgz,hatz,e4];have e4:z<x.k:=e4;exact no (by simp only[wK,jj,jk,hd];simp[hR,o6,e4]) _
     simp only[EE,nth,zt,Nat.reduceAdd,Int.reduceEq,zu,xP,wi,zg,xp,zc,zn,zC,wX,wY,wq,wt,wu,wx,wy,wz,wA,wB,wC,wD,wE,wF,wG,wH,xC,xD,xE,xF,xG,xH,xI,yE,yF,yW,yX,yY,yZ,y4,y5,y6,y8,xJ,xK,xL,y9,uU,g8,g1,gvn,gl,hin,o6,e1,e2,e3,haz,hgz,hatz,e4];have e4:¬z<x.k:=e4;have e2:¬(p.globals.length:Int)<=x.sub:=e2;exact go2 (by simp only[wK,jj,jk,hd];simp[hR,o6,e1,e2,e3,e4]) _ _ (by simp)
    simp only[EE,nth,zt,Nat.reduceAdd,zu,zg,zc,wX,wY,wq,wt,wu,wx,wy,wz,wA,wB,wC,wD,wE,wF,wG,wH,xC,xD,xE,xF,xG,xH,xI,yE,yF,yW,yX,yY,yZ,y4,y5,y6,y8,xJ,xK,xL,y9,uU,g8,hin,o20,o18,o19,o21,o6];exact go2 (by simp[wK,jj,jk,hR,o20,o18,o19,o21,o6]) _ _ (by simp)
  |false=>
   rw[hsb]at go2;simp only[EE,nth,zt,Nat.reduceAdd,jY,zu,zg,vu,zc,bV,bW,g8];refine VM (Ct (x:=x)) ?_;cases hR:zO x with
   |false=>
    simp only[EE,y9];exact no (by simp[wK,hR]) _
   |true=>
    by_cases o20:x.op=20
    ·simp only[EE,zt,Nat.reduceAdd,jY,zu,zg,Zf,zc,xw,xJ,xK,xL,y9,g8,g5,o20];refine gZ (by simp only[yk];rfl) (Kf ((RP.at s3).fns f hfm) x.l) ?_;by_cases e1:yB f.code x.l 0=(i:Int)
     ·simp only[EE,nth,zt,Nat.reduceAdd,Int.reduceEq,zu,zg,zc,wX,wY,wq,wt,wu,wx,wy,wz,wA,wB,wC,wD,wE,wF,wG,wH,xC,xD,xE,xF,xG,xH,xI,yE,yF,yW,yX,yY,yZ,y4,y5,y6,y8,uU,g8,hin,o20,e1];exact go2 (by simp[wK,jj,jk,hR,o20,e1]) _ _ (by simp[o20])
     ·simp only[EE,nth,yE,yF,yW,yX,yY,yZ,y4,y5,y6,y8,e1];exact no (by simp[wK,jj,jk,hR,o20,e1]) _
    by_cases o18:x.op=18
    ·simp only[EE,zt,Nat.reduceAdd,Int.reduceEq,jY,zu,zg,Zf,zc,xw,yW,yX,yY,yZ,y4,y5,y6,y8,xJ,xK,xL,y9,g8,g5,o18];refine gZ (by simp only[yk];rfl) (Kf ((RP.at s3).fns f hfm) x.l) ?_;by_cases e1:yB f.code x.l 0<0
     ·simp only[EE,yE,yF,e1];exact no (by simp[wK,jj,jk,hR,o18,e1]) _
     ·simp only[EE,nth,zt,Nat.reduceAdd,Int.reduceEq,zu,zg,zc,wX,wY,wq,wt,wu,wx,wy,wz,wA,wB,wC,wD,wE,wF,wG,wH,xC,xD,xE,xF,xG,xH,xI,yE,yF,uU,g8,hin,o18,e1];exact go2 (by simp[wK,jj,jk,hR,o18,e1]) _ _ (by simp[o18])
    by_cases o19:x.op=19
    ·simp only[EE,zt,Nat.reduceAdd,Int.reduceEq,jY,zu,zg,Zf,zc,xw,yW,yX,yY,yZ,y4,y5,y6,y8,xJ,xK,xL,y9,g8,g5,o19];refine gZ (by simp only[yk];rfl) (Kf ((RP.at s3).fns f hfm) x.l) ?_;by_cases e1:yB f.code x.l 0<0
     ·simp only[EE,yE,yF,e1];exact no (by simp[wK,jj,jk,hR,o19,e1]) _
     ·simp only[EE,nth,zt,Nat.reduceAdd,Int.reduceEq,zu,zg,zc,wX,wY,wq,wt,wu,wx,wy,wz,wA,wB,wC,wD,wE,wF,wG,wH,xC,xD,xE,xF,xG,xH,xI,yE,yF,uU,g8,hin,o19,e1];exact go2 (by simp[wK,jj,jk,hR,o19,e1]) _ _ (by simp[o19])
    by_cases o21:x.op=21
    ·by_cases e1:x.sub<0
     ·simp only[EE,zt,Nat.reduceAdd,Int.reduceEq,zu,zg,zc,zn,xC,xD,xE,xF,xG,xH,xI,yE,yF,yW,yX,yY,yZ,y4,y5,y6,y8,xJ,xK,xL,y9,g8,o21,e1];exact no (by simp[wK,jj,jk,hR,o21,e1]) _
     by_cases e2:x.sub ≥ (p.funcs.length:Int)
     ·simp only[EE,zt,Nat.reduceAdd,Int.reduceEq,zu,vI,zg,yO,zc,zn,xC,xD,xE,xF,xG,xH,xI,yE,yF,yW,yX,yY,yZ,y4,y5,y6,y8,xJ,xK,xL,y9,g8,g1,fvn,fl,o21,e1,e2];have e2:(p.funcs.length:Int)<=x.sub:=e2;exact no (by simp[wK,jj,jk,hR,o21,e2]) _
     simp only[EE,nth,zt,Nat.reduceAdd,Int.reduceEq,zu,vI,zg,yO,zc,zn,wX,wY,wq,wt,wu,wx,wy,wz,wA,wB,wC,wD,wE,wF,wG,wH,xC,xD,xE,xF,xG,xH,xI,yE,yF,yW,yX,yY,yZ,y4,y5,y6,y8,xJ,xK,xL,y9,uU,g8,g1,fvn,fl,hin,o21,e1,e2];have e2:¬(p.funcs.length:Int)<=x.sub:=e2;exact go2 (by simp[wK,jj,jk,hR,o21,e1,e2]) _ _ (by simp[o21])
    by_cases o6:x.op=6
    ·by_cases e1:x.sub<0
     ·simp only[EE,zt,Nat.reduceAdd,Int.reduceEq,zu,zg,zc,zn,wX,wY,wq,wt,wu,wx,wy,wz,wA,wB,wC,wD,wE,wF,wG,wH,xC,xD,xE,xF,xG,xH,xI,yE,yF,yW,yX,yY,yZ,y4,y5,y6,y8,xJ,xK,xL,y9,g8,o6,e1];exact no (by simp[wK,jj,jk,hR,o6,e1]) _
     by_cases e2:x.sub ≥ (p.globals.length:Int)
     ·simp only[EE,zt,Nat.reduceAdd,Int.reduceEq,zu,wi,zg,xp,zc,zn,wX,wY,wq,wt,wu,wx,wy,wz,wA,wB,wC,wD,wE,wF,wG,wH,xC,xD,xE,xF,xG,xH,xI,yE,yF,yW,yX,yY,yZ,y4,y5,y6,y8,xJ,xK,xL,y9,g8,g1,gvn,gl,o6,e1,e2];have e2:(p.globals.length:Int)<=x.sub:=e2;exact no (by simp[wK,jj,jk,hR,o6,e2]) _
     by_cases e3:x.k<0
     ·simp only[EE,zt,Nat.reduceAdd,Int.reduceEq,zu,xP,wi,zg,xp,zc,zn,zC,wX,wY,wq,wt,wu,wx,wy,wz,wA,wB,wC,wD,wE,wF,wG,wH,xC,xD,xE,xF,xG,xH,xI,yE,yF,yW,yX,yY,yZ,y4,y5,y6,y8,xJ,xK,xL,y9,g8,g1,gvn,gl,o6,e1,e2,e3];exact no (by simp[wK,jj,jk,hR,o6,e3]) _
     obtain⟨z,hz,hzm⟩:=get_some (l:=p.globals) (k:=x.sub.toNat) (by omega);obtain⟨bz,oz,cz,tz,haz,hbz,hgz,hatz⟩:=qu (RP.at s3).globals hz;rw[acf (by omega)]at haz;have hd:p.globals.getD x.sub.toNat 0=z:=by rw[abd,hz];rfl
     by_cases e4:x.k>z
     ·simp only[EE,zt,Nat.reduceAdd,Int.reduceEq,zu,xP,wi,zg,xp,zc,zn,zC,wX,wY,wq,wt,wu,wx,wy,wz,wA,wB,wC,wD,wE,wF,wG,wH,xC,xD,xE,xF,xG,xH,xI,yE,yF,yW,yX,yY,yZ,y4,y5,y6,y8,xJ,xK,xL,y9,g8,g1,gvn,gl,o6,e1,e2,e3,haz,hgz,hatz,e4];have e4:z<x.k:=e4;exact no (by simp only[wK,jj,jk,hd];simp[hR,o6,e4]) _
     simp only[EE,nth,zt,Nat.reduceAdd,Int.reduceEq,zu,xP,wi,zg,xp,zc,zn,zC,wX,wY,wq,wt,wu,wx,wy,wz,wA,wB,wC,wD,wE,wF,wG,wH,xC,xD,xE,xF,xG,xH,xI,yE,yF,yW,yX,yY,yZ,y4,y5,y6,y8,xJ,xK,xL,y9,uU,g8,g1,gvn,gl,hin,o6,e1,e2,e3,haz,hgz,hatz,e4];have e4:¬z<x.k:=e4;have e2:¬(p.globals.length:Int)<=x.sub:=e2;exact go2 (by simp only[wK,jj,jk,hd];simp[hR,o6,e1,e2,e3,e4]) _ _ (by simp[o6])
    simp only[EE,nth,zt,Nat.reduceAdd,zu,zg,zc,wX,wY,wq,wt,wu,wx,wy,wz,wA,wB,wC,wD,wE,wF,wG,wH,xC,xD,xE,xF,xG,xH,xI,yE,yF,yW,yX,yY,yZ,y4,y5,y6,y8,xJ,xK,xL,y9,uU,g8,hin,o20,o18,o19,o21,o6];exact go2 (by simp[wK,jj,jk,hR,o20,o18,o19,o21,o6]) _ _ (by simp[o20])
 ·have e:i=f.code.length:=by omega
  subst e;rw[abD];simp only[EE,nth,zu,qd,wP,hc,g5,cn,cl];exact k h' v0 (At λn x hn hx=>hall n x hn hx) s
end
open Go.As (uR)
section
variable {p:Pg}{lo:yH}{H:za}{b1:Nat}
theorem Sf(RP:Rd lo (uQ · p))(s:Sat lo H [pt b1 (.cells p.row 25)]){B:Bool}(hB:B=p.funcs.all (Qc p))(v:aaa):LP (bY (pi b1) (λvs76 h77=>yS B (.bool true) h77) (yS B)) [v,pm 0] H:=by
 refine kW (λn vs h'=>∃(i:Nat) (v0:aaa),i<=p.funcs.length/\n=p.funcs.length-i/\vs=[v0,pm (i:Nat)]/\(∀k,k<i->Gl p.funcs (Qc p) k=true)/\Sat lo h' [pt b1 (.cells p.row 25)])
  p.funcs.length ⟨0,v,aaS _,rfl,rfl,λk hk=>by omega,s⟩ ?_
 rintro n vs h' ⟨i,v0,hi,rfl,rfl,hall,s⟩;have P:=RP.at s;have g1:=s.get;have fvn:=P.funcs.Kc;have fl:=λh'=>kU P.funcs 3 h';unfold bY;by_cases hc:(i:Int)<(p.funcs.length:Int)
 ·obtain⟨f,hf,hfm⟩:=get_some (l:=p.funcs) (k:=i) (by omega);obtain⟨bi,oi,ci,ti,ha,hbi,hgi,hle,htk,_⟩:=We P.funcs (i:=i) (r:=f.row) (by rw[aay,hf];rfl) rfl;have cvn:=(P.fns f hfm).code.Kc;have cvc:=(P.fns f hfm).code.Au;have cl:=λh'=>x8 (P.fns f hfm).code 3 h';have hin:=inc (show i<4611686018427387904 by have:=P.Sa;omega);have no:Qc p f=false->B=false:=λe=>by rw[hB,W2 hf e]
  simp only[EE,nth,Value.cells,↓zB,jY,zu,vI,Zf,Wf,yO,nh,hc,g1,fvn,fl,ha,hgi,hle,htk];refine vR s λb5 h2 s2=>?_;simp only[EE,Nat.reduceAdd,Wd];refine zY s2 (by simp) (by simp[cvc];rfl) λh3 s3=>?_;simp only[nth,↓zB];refine zaF RP hfm s3 _ (λe h=>?_) (λh4 w hgood s4=>?_)
  ·show Value.bool false=.bool B;rw[no (by unfold Qc;rw[e];rfl)]
  ·have g5:=s4.get;unfold ng;cases hs:Wq f.code with
   |false=>
    simp only[EE,nth,QF,QG,QH];rw[no (by unfold Qc;simp[hs])];rfl
   |true=>
    by_cases c1:(f.code.length:Int)>100000
    ·simp only[EE,nth,zu,qd,wP,QF,QG,QH,g5,cvn,cl,c1];rw[no (by have c1:100000<(f.code.length:Int):=c1;unfold Qc;simp[c1])];rfl
    ·simp only[EE,nth,zu,qd,wP,QF,QG,QH,ni,g5,cvn,cl,c1,hin]
     exact⟨p.funcs.length-(i+1),by omega,i+1,_,by omega,rfl,rfl,λk hk=>(by
      by_cases q:k=i
      ·subst q;rw[QW hf];have c1:¬100000<(f.code.length:Int):=c1;unfold Qc;simp[hgood,hs,c1]
      ·exact hall k (by omega)),s4.k [1]⟩
 ·have hi9:i=p.funcs.length:=by omega
  subst hi9;simp only[EE,nth,zu,vI,yO,hc,g1,fvn,fl];rw[hB,Z1 hall];rfl
theorem Sj(RP:Rd lo (uQ · p))(s:Sat lo H [pt b1 (.cells p.row 25)]){B:Bool}(hB:B=(p.globals.all BX&&p.funcs.all (Qc p))){vs:List aaa}:bZ (pi b1) (yS B) vs H:=by
 unfold bZ;simp only[↓zB]
 refine kW (λn vs h'=>∃(i:Nat) (v0:aaa),i<=p.globals.length/\n=p.globals.length-i/\vs=[v0,pm (i:Nat)]/\(∀k,k<i->Gl p.globals BX k=true)/\Sat lo h' [pt b1 (.cells p.row 25)])
  p.globals.length ⟨0,nth vs 0,aaS _,rfl,rfl,λk hk=>by omega,s⟩ ?_
 rintro n vs h' ⟨i,v0,hi,rfl,rfl,hall,s⟩;have P:=RP.at s;have g1:=s.get;have gvn:=P.globals.Kc;have gl:=λh'=>vq P.globals 3 h';unfold tI;by_cases hc:(i:Int)<(p.globals.length:Int)
 ·obtain⟨z,hz,hzm⟩:=get_some (l:=p.globals) (k:=i) (by omega);obtain⟨bi,oi,ci,ti,ha,hbi,hgi,hat⟩:=qu P.globals hz;have no:BX z=false->B=false:=λe=>by rw[hB,W2 hz e];rfl
  have hin:=inc (show i<4611686018427387904 by have:=P.OT;omega);by_cases z0:z<0
  ·simp only[EE,nth,↓zB,zu,wi,zg,xp,JT,JU,JV,JW,JX,hc,g1,gvn,gl,ha,hgi,hat,z0];rw[no (by unfold BX;simp[z0])];rfl
  by_cases z1:z>65536
  ·simp only[EE,nth,↓zB,zu,wi,zg,xp,JT,JU,JV,JW,JX,hc,g1,gvn,gl,ha,hgi,hat,z0,z1];rw[no (by have z1:65536<z:=z1;unfold BX;simp[z1])];rfl
  simp only[EE,nth,↓zB,zu,wi,zg,xp,JT,JU,JV,JW,JX,tH,hc,g1,gvn,gl,ha,hgi,hat,z0,z1,hin]
  exact⟨p.globals.length-(i+1),by omega,i+1,_,by omega,rfl,rfl,λk hk=>(by
   by_cases q:k=i
   ·subst q;rw[QW hz];have z1:¬65536<z:=z1;unfold BX;simp[z0,z1]
   ·exact hall k (by omega)),s⟩
 ·have hi9:i=p.globals.length:=by omega
  subst hi9;simp only[EE,nth,↓zB,zu,wi,xp,hc,g1,gvn,gl];refine Sf (B:=B) RP s ?_ _;rw[hB,Z1 hall];rfl
theorem eS{h:za}(P:uQ h p):vw pu 11 [p.val] h (.bool (uZ p)):=by
 apply z8;replace P:=P.lock;generalize h.lock=L at P;apply UP;intro wf;apply F3;unfold HF;have s0:Sat (.of L) L []:=Sat.self wf.2;have RP:Rd (.of L) (uQ · p):=Rd.of (yH.Wx L) P λh' o=>P.old o;have gvn:=P.globals.Kc;have fvn:=P.funcs.Kc;have gvc:=P.globals.Au;have fvc:=P.funcs.Au;have fl:=λh'=>kU P.funcs 3 h';have gl:=λh'=>vq P.globals 3 h';simp only[EE,Value.cells];refine vR s0 λb1 h2 s2=>?_;have g1:=s2.get;have no:uR p=false->uZ p=false:=λe=>by unfold uZ;rw[e];rfl
 by_cases c4:(p.globals.length:Int)>200
 ·simp only[EE,zu,wi,xp,Zo,Zp,Zq,Zr,Zs,Zt,Zu,Zv,Zw,Zx,Zy,g1,gvn,gl,c4];rw[no (by have c4:(200:Int)<p.globals.length:=c4;unfold uR;simp[c4])];rfl
 by_cases c3:(p.funcs.length:Int)>100
 ·simp only[EE,zu,wi,vI,xp,yO,Zo,Zp,Zq,Zr,Zs,Zt,Zu,Zv,Zw,Zx,Zy,g1,fvn,fl,gvn,gl,c4,c3];rw[no (by have c3:(100:Int)<p.funcs.length:=c3;unfold uR;simp[c3])];rfl
 by_cases c1:p.main<0
 ·simp only[EE,zu,wi,vI,zg,xp,yO,vZ,Zo,Zp,Zq,Zr,Zs,Zt,Zu,Zv,Zw,Zx,Zy,g1,fvn,fl,gvn,gl,c4,c3,c1];rw[no (by unfold uR;simp[c1])];rfl
 by_cases c2:p.main ≥ (p.funcs.length:Int)
 ·simp only[EE,zu,wi,vI,zg,xp,yO,vZ,Zo,Zp,Zq,Zr,Zs,Zt,Zu,Zv,Zw,Zx,Zy,g1,fvn,fl,gvn,gl,c4,c3,c1,c2];rw[no (by have c2:(p.funcs.length:Int)<=p.main:=c2;unfold uR;simp[c2])];rfl
 by_cases c5:p.params<0
 ·simp only[EE,zu,wi,vI,zg,xp,yO,vZ,qx,Zo,Zp,Zq,Zr,Zs,Zt,Zu,Zv,Zw,Zx,Zy,g1,fvn,fl,gvn,gl,c4,c3,c1,c2,c5];rw[no (by unfold uR;simp[c5])];rfl
 by_cases c6:p.params>6
 ·simp only[EE,zu,wi,vI,zg,xp,yO,vZ,qx,Zo,Zp,Zq,Zr,Zs,Zt,Zu,Zv,Zw,Zx,Zy,g1,fvn,fl,gvn,gl,c4,c3,c1,c2,c5,c6];rw[no (by have c6:6<p.params:=c6;unfold uR;simp[c6])];rfl
 simp only[EE,zu,wi,vI,zg,xp,yO,vZ,qx,Zo,Zp,Zq,Zr,Zs,Zt,Zu,Zv,Zw,Zx,Zy,g1,fvn,fl,gvn,gl,c4,c3,c1,c2,c5,c6];refine Sj RP s2 ?_
 have hs:uR p=true:=by
  have c2:¬(p.funcs.length:Int)<=p.main:=c2;have c3:¬(100:Int)<p.funcs.length:=c3;have c4:¬(200:Int)<p.globals.length:=c4;have c6:¬6<p.params:=c6;unfold uR;simp[c1,c2,c3,c4,c5,c6]
 unfold uZ;rw[hs];rfl
end
open Go.As (wL sG uH Vu lB j6 hasB Jo ZO yn)
theorem vz(k:Int):Jo k=zM k:=by
 unfold Jo zM;rw[ab9];simp only[aaG,aac,IntKind.wrap,IntKind.bits,IntKind.signed];simp;omega
theorem BY(m:List (Int×aaa))(a l:Int):hasB (ZN m a (.bool true)) l=(decide (a=l)||hasB m l):=by
 unfold hasB;rw[Js];by_cases h:a=l
 ·rw[aah h];simp[h]
 ·rw[aae h];simp[h]
def jF(l:Int)(x:zo):Bool:=decide (x.op=20/\x.l=l)
def Zi:List zo->List (Int×aaa)->Bool
 |[],_=>true
 |x::xs,m=>if x.op=20 then !hasB m x.l&&Zi xs (ZN m x.l (.bool true)) else Zi xs m
def oC:List zo->List (Int×aaa)->List (Int×aaa)
 |[],m=>m
 |x::xs,m=>if x.op=20 then oC xs (ZN m x.l (.bool true)) else oC xs m
theorem mD(gl:List Int):∀(xs:List zo) (m:List (Int×aaa)) (b:Bool),j6 gl xs m b=if (xs.all (uH gl)&&Zi xs m)=true then some (oC xs m,b||Wq xs) else none
 |[],m,b=>by simp[j6,Zi,oC,Wq]
 |x::xs,m,b=>by
  unfold j6 Zi oC;by_cases h1:uH gl x=false
  ·rw[aah h1];simp[h1]
  have h1':uH gl x=true:=by simpa using h1
  rw[aae h1];by_cases h2:x.op=20
  ·rw[aah h2,aah h2,aah h2];by_cases h3:hasB m x.l=true
   ·rw[aah h3];simp[h3]
   ·have h3':hasB m x.l=false:=(by simpa using h3);rw[aae h3,mD gl xs];simp[h1',h3',Wq,h2]
  ·rw[aae h2,aae h2,aae h2,mD gl xs];simp[h1',Wq,h2]
theorem has_add:∀(xs:List zo) (m:List (Int×aaa)) (l:Int),hasB (oC xs m) l=(hasB m l||xs.any (jF l))
 |[],m,l=>by simp[oC]
 |x::xs,m,l=>by
  unfold oC;by_cases h:x.op=20
  ·rw[aah h,has_add xs,BY];simp[jF,h,Bool.or_assoc,Bool.or_comm,Bool.or_left_comm]
  ·rw[aae h,has_add xs];simp[jF,h]
theorem po:∀(xs:List zo) (m:List (Int×aaa)),Zi xs m=true ↔ ∀(n:Nat) x,xs[n]? = some x->x.op=20->hasB m x.l=false /\ ∀(j:Nat) y,j<n->xs[j]? = some y->jF x.l y=false
 |[],m=>by simp[Zi]
 |x::xs,m=>by
  unfold Zi;have ih:=λm'=>po xs m';by_cases h:x.op=20
  ·rw[aah h,aac,ih]
   constructor
   ·rintro⟨h1,h2⟩ n y hy ho;cases n with
    |zero=>simp only[aaC,aab]at hy;subst hy;exact⟨by simpa using h1,λj z hj=>by omega⟩
    |succ n=>
     simp only[aaR]at hy;obtain⟨a,b⟩:=h2 n y hy ho;rw[BY]at a;simp only[aba,aam]at a;refine⟨a.2,λj z hj hz=>?_⟩;cases j with
     |zero=>simp only[aaC,aab]at hz;subst hz;simp[jF,h,a.1]
     |succ j=>simp only[aaR]at hz;exact b j z (by omega) hz
   ·intro H;refine⟨by have:=(H 0 x rfl h).1;simp[this],λn y hy ho=>?_⟩;obtain⟨a,b⟩:=H (n+1) y (by simpa using hy) ho;rw[BY];have c:=b 0 x (by omega) rfl;refine⟨?_,λj z hj hz=>b (j+1) z (by omega) (by simpa using hz)⟩;have c:¬x.l=y.l:=by simpa [jF,h] using c
    simp[a,c]
  ·rw[aae h,ih]
   constructor
   ·intro H n y hy ho;cases n with
    |zero=>simp only[aaC,aab]at hy;subst hy;exact absurd ho h
    |succ n=>
     simp only[aaR]at hy;obtain⟨a,b⟩:=H n y hy ho;refine⟨a,λj z hj hz=>?_⟩;cases j with
     |zero=>simp only[aaC,aab]at hz;subst hz;simp[jF,h]
     |succ j=>simp only[aaR]at hz;exact b j z (by omega) hz
   ·intro H n y hy ho;obtain⟨a,b⟩:=H (n+1) y (by simpa using hy) ho;exact⟨a,λj z hj hz=>b (j+1) z (by omega) (by simpa using hz)⟩
theorem Jn:∀(xs:List zo) (l:Int) (k:Nat),(yB xs l k = -1/\xs.any (jF l)=false) \/ ∃j:Nat,yB xs l k=((k+j:Nat):Int)/\(∃x,xs[j]? = some x/\jF l x=true) /\ ∀(i:Nat) y,i<j->xs[i]? = some y->jF l y=false
 |[],l,k => .inl ⟨rfl,rfl⟩
 |x::xs,l,k=>by
  unfold yB;by_cases h:x.op=20/\x.l=l
  ·rw[aah h];exact .inr ⟨0,rfl,⟨x,rfl,by unfold jF;exact aa1 h⟩,λi y hi=>by omega⟩
  ·rw[aae h];have hx:jF l x=false:=by unfold jF;exact aaT h
   rcases Jn xs l (k+1) with⟨a,b⟩|⟨j,a,⟨y,hy,hl⟩,b⟩
   ·exact .inl ⟨a,by simp[hx,b]⟩
   ·refine .inr ⟨j+1,by rw[a];omega,⟨y,by simpa using hy,hl⟩,λi z hi hz=>?_⟩;cases i with
    |zero=>simp only[aaC,aab]at hz;subst hz;exact hx
    |succ i=>exact b i z (by omega) (by simpa using hz)
theorem pB{code:List zo}{n:Nat}{x:zo}(hx:code[n]? = some x)(h:x.op=20):(yB code x.l 0=(n:Int)) ↔ ∀(j:Nat) y,j<n->code[j]? = some y->jF x.l y=false:=by
 have hl:jF x.l x=true:=by simp[jF,h]
 rcases Jn code x.l 0 with⟨a,b⟩|⟨j,a,⟨y,hy,hyl⟩,b⟩
 ·rw[List.any_eq_false]at b;exact absurd hl (b x (aax hx))
 ·rw[a]
  constructor
  ·intro q;have:j=n:=by omega
   subst this;exact b
  ·intro q;rcases Nat.lt_trichotomy j n with c|c|c
   ·have:=q j y c hy;rw[this]at hyl;cases hyl
   ·omega
   ·have:=b n x c hx;rw[this]at hl;cases hl
theorem hU(code:List zo)(l:Int):(yB code l 0<0) ↔ code.any (jF l)=false:=by
 rcases Jn code l 0 with⟨a,b⟩|⟨j,a,⟨y,hy,hyl⟩,b⟩
 ·rw[a,b];simp
 ·rw[a];have:code.any (jF l)=true:=List.any_eq_true.2 ⟨y,aax hy,hyl⟩;rw[this]
  constructor
  ·intro q;omega
  ·intro q;cases q
theorem zcT{op:Int}(h:VA op=true):fW op=true:=by
 unfold VA at h;unfold fW;simp only[aaG]at h ⊢;omega
theorem Th(x:zo):ZO x=(Xh x&&(Wl x&&(UK x&&aP x))):=by
 unfold ZO Xh Wl UK aP;have hw := @zcT x.op;generalize fW x.op=R at hw ⊢;generalize VA x.op=W at hw ⊢;generalize KF x.op=M;generalize u4 x.op=F;rw[ab9];cases R <;> cases W <;> cases M <;> cases F <;> simp at hw ⊢ <;> omega
def jG(x:zo):Bool := !decide (x.op=18\/x.op=19)||(decide (0<=x.l)&&decide (x.l<=10000000))
def Wk(gl:List Int)(x:zo):Bool := !(decide (x.op=6)&&(decide (x.sub<0)||(decide ((gl.length:Int)<=x.sub)||(decide (x.k<0)||decide (gl.getD x.sub.toNat 0<x.k)))))
theorem Tk(gl:List Int)(x:zo):(yn gl x&&jG x)=(tailD x&&Wk gl x):=by
 obtain⟨op,r,m,sub,cc,l,k⟩:=x;by_cases o3:op=3
 ·subst o3;simp[yn,tailD,jG,Wk,vz]
 by_cases o4:op=4
 ·subst o4;simp[yn,tailD,jG,Wk,vz]
 by_cases o5:op=5
 ·subst o5;simp[yn,tailD,jG,Wk,vz]
 by_cases o16:op=16
 ·subst o16;simp[yn,tailD,jG,Wk,vz]
 by_cases o7:op=7
 ·subst o7;simp[yn,tailD,jG,Wk,vz]
 by_cases o8:op=8
 ·subst o8;simp[yn,tailD,jG,Wk,vz]
 by_cases o9:op=9
 ·subst o9;simp[yn,tailD,jG,Wk,vz]
 by_cases o10:op=10
 ·subst o10;simp[yn,tailD,jG,Wk,vz]
 by_cases o11:op=11
 ·subst o11;simp[yn,tailD,jG,Wk,vz]
 by_cases o12:op=12
 ·subst o12;simp[yn,tailD,jG,Wk,vz]
 by_cases o17:op=17
 ·subst o17;simp[yn,tailD,jG,Wk,vz]
 by_cases o19:op=19
 ·subst o19;simp[yn,tailD,jG,Wk,vz]
 by_cases o18:op=18
 ·subst o18;simp[yn,tailD,jG,Wk,vz]
 by_cases o20:op=20
 ·subst o20;simp[yn,tailD,jG,Wk,vz]
 by_cases o23:op=23
 ·subst o23;simp[yn,tailD,jG,Wk,vz]
 by_cases o24:op=24
 ·subst o24;simp[yn,tailD,jG,Wk,vz]
 by_cases o6:op=6
 ·subst o6;rw[ab9];simp[yn,tailD,jG,Wk]
 simp[yn,tailD,jG,Wk,o3,o4,o5,o16,o7,o8,o9,o10,o11,o12,o17,o19,o18,o20,o23,o24,o6]
theorem OV(gl:List Int)(x:zo):(uH gl x&&jG x)=(zO x&&Wk gl x):=by
 have t:=Tk gl x;unfold uH zO;rw[Th];have a:decide (1<=x.op) = !decide (x.op<1):=by rw[ab9];simp
 have b:decide (x.op<=26) = !decide (26<x.op):=by rw[ab9];simp
 rw[a,b];generalize yn gl x=T at t ⊢;generalize jG x=J at t ⊢;generalize tailD x=D at t ⊢;generalize Wk gl x=L at t ⊢;generalize decide (x.op<1)=U;generalize decide (26<x.op)=V;cases Xh x <;> cases Wl x <;> cases UK x <;> cases aP x <;> cases U <;> cases V <;> simp;exact t
theorem I8(p:Pg)(x:zo):jk p x=(!(decide (x.op=21)&&(decide (x.sub<0)||decide ((p.funcs.length:Int)<=x.sub)))&&Wk p.globals x):=rfl
theorem pQ{gl:List Int}{x:zo}:(uH gl x=true/\jG x=true) ↔ (zO x=true/\Wk gl x=true):=by
 have:=OV gl x;rw[<- aac,<- aac,this]
theorem Mv{gl:List Int}{y:zo}{l:Int}(h:uH gl y=true)(hl:jF l y=true):0<=l/\l<=10000000:=by
 unfold jF at hl;have hl:=aa7 hl;unfold uH at h;simp only[aac]at h;obtain⟨_,_,_,h⟩:=h;unfold yn at h;simp[hl.1,hl.2]at h;exact h
theorem RX(p:Pg)(code:List zo):(code.all (uH p.globals)&&Zi code []&&code.all (Vu p.funcs.length (oC code [])))=Qb p code:=by
 rw[ab9];simp only[aac,aav];have hany:∀l,hasB (oC code []) l=code.any (jF l):=λl=>by rw[has_add];rfl
 constructor
 ·rintro⟨⟨h1,h2⟩,h3⟩;refine At λn x hn hx=>?_;have hm:=aax hx;have i:=h1 x hm;have hp:=h3 x hm;unfold Vu at hp;rw[hany]at hp;simp only[aac,aao]at hp;obtain⟨p1,p2⟩:=hp
  have jp:(x.op=18\/x.op=19)->code.any (jF x.l)=true:=λq=>by
   rw[aa1 q]at p1;simpa using p1
  have j:jG x=true:=by
   unfold jG;by_cases q:x.op=18\/x.op=19
   ·obtain⟨y,hy,hyl⟩:=List.any_eq_true.1 (jp q);have:=Mv (h1 y hy) hyl;simp[this]
   ·simp[q]
  obtain⟨d,le⟩:=pQ.1 ⟨i,j⟩;unfold wK;rw[d,I8,le,acz,abr]
  have lb:jj code n x=true:=by
   unfold jj
   have a:(decide (x.op=20) && !decide (yB code x.l 0=(n:Int)))=false:=by
    by_cases q:x.op=20
    ·have:=((po code []).1 h2 n x hx q).2;rw[aa1 ((pB hx q).2 this)];simp
    ·simp[q]
   have b:(decide (x.op=18\/x.op=19)&&decide (yB code x.l 0<0))=false:=by
    by_cases q:x.op=18\/x.op=19
    ·have e:¬yB code x.l 0<0:=λz=>by rw[hU,jp q]at z;cases z
     rw[aaT e];simp
    ·simp[q]
   rw[a,b];rfl
  rw[lb,p2];rfl
 ·intro h
  have H:∀n x,code[n]? = some x->wK p code n x=true:=λn x hx=>by
   rcases hq:wK p code n x with _|_
   ·rw[Et hx hq]at h;cases h
   ·rfl
  have G:∀n x,code[n]? = some x->uH p.globals x=true/\jj code n x=true/\(decide (x.op=21)&&(decide (x.sub<0)||decide ((p.funcs.length:Int)<=x.sub)))=false:=λn x hx=>by
   have:=H n x hx;unfold wK at this;rw[I8]at this;simp only[aac,aao]at this;obtain⟨a,b,c,d⟩:=this;exact⟨(pQ.2 ⟨a,d⟩).1,b,c⟩
  refine⟨⟨λx hx=>?_,(po code []).2 λn x hx q=>⟨rfl,?_⟩⟩,λx hx=>?_⟩
  ·obtain⟨n,hn,rfl⟩:=abO hx;exact(G n _ (aag hn)).1
  ·have:=(G n x hx).2.1;unfold jj at this;simp only[aac,aao]at this;have a:=this.1;rw[aa1 q]at a;have a:yB code x.l 0=(n:Int):=by simpa using a
   exact(pB hx q).1 a
  ·obtain⟨n,hn,rfl⟩:=abO hx;obtain⟨_,lb,c⟩:=G n _ (aag hn);unfold Vu;rw[hany,c,acj,acz];unfold jj at lb;simp only[aac,aao]at lb;have b:=lb.2;by_cases q:code[n].op=18\/code[n].op=19
   ·rw[aa1 q]at b;have b:¬yB code code[n].l 0<0:=by simpa using b
    have e:code.any (jF code[n].l)=true:=by
     rcases hq:code.any (jF code[n].l) with _|_
     ·exact absurd ((hU _ _).2 hq) b
     ·rfl
    rw[e];simp
   ·rw[aaT q];rfl
theorem zcs(p:Pg)(f:Go.As.Fn):Qc p f=sG p f:=by
 unfold Qc sG;rw[mD,<- RX];by_cases h:(f.code.all (uH p.globals)&&Zi f.code [])=true
 ·rw[aah h,h];simp only[lB,abr,acA];cases f.code.all (Vu p.funcs.length (oC f.code [])) <;> cases Wq f.code <;> simp
 ·rw[aae h];have h:(f.code.all (uH p.globals)&&Zi f.code [])=false:=by simpa using h
  rw[h];simp[lB]
theorem uS(p:Pg):uZ p=wL p:=by
 unfold uZ wL
 have e:p.funcs.all (Qc p)=p.funcs.all (sG p):=by
  congr 1
  exact funext λf=>zcs p f
 rw[e];rfl
end Go.Ar
namespace Go.En
open Go.Ai Go.Proofs
open Go.As (zo Pg)
abbrev u8(n:Int):Int:=IntKind.wrap .u8 n
def xz(n:Nat)(v:Int):List Int:=(List.range n).map λi=>u8 (v.fdiv (2^(8*i)))
def zH(base a b:Int):Int:=base+(if 8<=a then 4 else 0)+(if 8<=b then 1 else 0)
def xB(a b:Int):Int:=192+a%8*8+b%8
def VD(a m:Int):List Int:=if m%8=4 then [128+a%8*8+m%8,36] else [128+a%8*8+m%8]
def u1(a m k:Int):List Int:=VD a m++xz 4 k
def vC(cc:Int):Int:=if cc=21 then 4 else if cc=22 then 5 else if cc=23 then 12 else if cc=26 then 13 else if cc=24 then 14 else 15
def kY(s:Int):Int:=if s=11 then 1 else if s=12 then 41 else if s=16 then 33 else if s=17 then 9 else 49
def UC(s:Int):Int:=if s=11 then 0 else if s=17 then 1 else if s=16 then 4 else if s=12 then 5 else 6
def P3(s:Int):Int:=if s=20 then 7 else 4
def ze(x:zo)(d:Int):List Int :=
 if x.op=1 then [zH 72 x.m x.r,137,xB x.m x.r]
 else if x.op=2 then (if Go.Ar.zM x.k=true then [zH 72 0 x.r,199,xB 0 x.r]++xz 4 x.k else [zH 72 0 x.r,184+x.r%8]++xz 8 x.k)
 else if x.op=3 then (if x.sub=8 then [zH 72 x.r x.m,139]++u1 x.r x.m x.k else if x.sub=4 then [zH 72 x.r x.m,99]++u1 x.r x.m x.k else [zH 72 x.r x.m,15,190]++u1 x.r x.m x.k)
 else if x.op=4 then (if x.sub=8 then [zH 72 x.r x.m,137]++u1 x.r x.m x.k else if x.sub=4 then [zH 64 x.r x.m,137]++u1 x.r x.m x.k else [zH 64 x.r x.m,136]++u1 x.r x.m x.k)
 else if x.op=5 then [zH 72 x.r x.m,141]++u1 x.r x.m x.k
 else if x.op=6 then [zH 72 x.r 0,141,5+x.r%8*8]++xz 4 d
 else if x.op=7 then (if x.sub=13 then [zH 72 x.r x.m,15,175,xB x.r x.m] else [zH 72 x.m x.r,kY x.sub,xB x.m x.r])
 else if x.op=8 then (if x.sub=13 then [zH 72 x.r x.r,105,xB x.r x.r]++xz 4 x.k else [zH 72 0 x.r,129,xB (UC x.sub) x.r]++xz 4 x.k)
 else if x.op=9 then [zH 72 0 x.r,247,xB (if x.sub=2 then 2 else 3) x.r]
 else if x.op=10 then (if x.sub=3 then [zH 72 x.r x.m,15,190,xB x.r x.m] else [zH 72 x.r x.m,99,xB x.r x.m])
 else if x.op=11 then [zH 72 0 x.r,193,xB (P3 x.sub) x.r,u8 x.k]
 else if x.op=12 then [zH 72 0 x.r,211,xB (P3 x.sub) x.r]
 else if x.op=13 then [72,153]
 else if x.op=14 then [zH 72 0 x.m,247,xB 7 x.m]
 else if x.op=15 then [zH 72 x.m x.r,57,xB x.m x.r]
 else if x.op=16 then [zH 72 0 x.r,129,xB 7 x.r]++xz 4 x.k
 else if x.op=17 then [zH 64 0 x.r,15,144+vC x.cc,xB 0 x.r,zH 72 x.r x.r,15,182,xB x.r x.r]
 else if x.op=18 then 233::xz 4 d
 else if x.op=19 then [15,128+vC x.cc]++xz 4 d
 else if x.op=21 then 232::xz 4 d
 else if x.op=22 then [195]
 else if x.op=23 then [72,129,236]++xz 4 x.k
 else if x.op=24 then [72,129,196]++xz 4 x.k
 else if x.op=25 then [72,237]
 else if x.op=26 then [72,239]
 else []
def ym(x:zo):Nat:=(ze x 0).length
theorem wW(n:Nat)(v:Int):(xz n v).length=n:=by unfold xz;simp
theorem Sn{c:Prop}[Decidable c]{a b a' b':List Int}(h1:a.length=a'.length)(h2:b.length=b'.length):(if c then a else b).length=(if c then a' else b').length:=by
 split
 ·exact h1
 ·exact h2
theorem fS(x:zo)(d:Int):(ze x d).length=ym x:=by
 unfold ym ze
 repeat' with_reducible apply Sn
 all_goals simp only[wW,abc,aaB]
open Go.Ar (yB hU pB)
def zD:List zo->Nat
 |[]=>0
 |x::xs=>ym x+zD xs
def xq:List Go.As.Fn->Nat->List Nat
 |[],_=>[]
 |f::fs,n=>n::xq fs (n+zD f.code)
def yg:List Go.As.Fn->Nat
 |[]=>0
 |f::fs=>zD f.code+yg fs
def yi:List Int->Int->List Int
 |[],_=>[]
 |g::gs,a=>a::yi gs (a+(g+31)/16*16)
def Jw:List zo->Nat->List (Int×aaa)->List (Int×aaa)
 |[],_,m=>m
 |x::xs,n,m=>Jw xs (n+ym x) (if x.op=20 then ZN m x.l (.int .i64 (n:Nat)) else m)
theorem Qs:∀xs ys:List zo,zD (xs++ys)=zD xs+zD ys
 |[],ys=>by rw[abv];show _=0+_;omega
 |x::xs,ys=>by
  show ym x+zD (xs++ys)=ym x+zD xs+zD ys;rw[Qs xs ys];omega
theorem u3:∀(fs:List Go.As.Fn) (n:Nat),(xq fs n).length=fs.length
 |[],n=>rfl
 |f::fs,n=>by show(xq fs _).length+1=fs.length+1;rw[u3 fs]
theorem Qu:∀(fs:List Go.As.Fn) (n i:Nat),i<fs.length->(xq fs n)[i]? = some (n+yg (fs.take i))
 |[],n,i,h=>by cases h
 |f::fs,n,0,h=>rfl
 |f::fs,n,i+1,h=>by
  show(xq fs (n+zD f.code))[i]? = some (n+(zD f.code+yg (fs.take i)));rw[Qu fs _ i (by simpa using h)]
  congr 1;omega
theorem ak:∀(gs:List Int) (a:Int),(yi gs a).length=gs.length
 |[],a=>rfl
 |g::gs,a=>by show(yi gs _).length+1=gs.length+1;rw[ak gs]
theorem Ur{x:zo}(h:x.op=20):ym x=0:=by
 unfold ym ze;simp[h]
theorem O5{k:Int}:∀(xs:List zo) (n:Nat) (m:List (Int×aaa)),(∀x,x∈xs->x.op=20->¬x.l=k)->ZJ (Jw xs n m) k=ZJ m k
 |[],n,m,h=>rfl
 |x::xs,n,m,h=>by
  show ZJ (Jw xs _ _) k=_;rw[O5 xs _ _ λy hy=>h y (aar _ hy)];by_cases e:x.op=20
  ·rw[aah e,Js,aae (h x aak e)]
  ·rw[aae e]
theorem O2{k:Int}{x:zo}(e:x.op=20)(ek:x.l=k):∀(ys zs:List zo) (n:Nat) (m:List (Int×aaa)),(∀z,z∈zs->z.op=20->¬z.l=k)->ZJ (Jw (ys++x::zs) n m) k=some (.int .i64 ((n+zD ys:Nat):Int))
 |[],zs,n,m,h=>by
  show ZJ (Jw zs _ _) k=_;rw[O5 zs _ _ h,aah e,Js,aah ek];rfl
 |y::ys,zs,n,m,h=>by
  show ZJ (Jw (ys++x::zs) _ _) k=_;rw[O2 e ek ys zs _ _ h];show _=some (Value.int .i64 ((n+(ym y+zD ys):Nat):Int));rw[abq]
def uG(gl:List Int)(st:List Nat)(code:List zo)(o:Nat)(x:zo):Int :=
 if x.op=18\/x.op=19 then ((o+zD (code.take (yB code x.l 0).toNat):Nat):Int)
 else if x.op=21 then ((st[x.sub.toNat]?.getD 0:Nat):Int)
 else if x.op=6 then gl[x.sub.toNat]?.getD 0+x.k
 else 0
def Wv(gl:List Int)(st:List Nat)(code:List zo)(o n:Nat)(x:zo):Int :=
 if x.op=18\/x.op=19\/x.op=21\/x.op=6 then uG gl st code o x-((n+ym x:Nat):Int) else 0
def uP(gl:List Int)(st:List Nat)(code:List zo)(o:Nat):List zo->Nat->List Int
 |[],_=>[]
 |x::xs,n=>ze x (Wv gl st code o n x)++uP gl st code o xs (n+ym x)
def Yf(gl:List Int)(st:List Nat):List Go.As.Fn->Nat->List Int
 |[],_=>[]
 |f::fs,n=>uP gl st f.code n f.code n++Yf gl st fs (n+zD f.code)
theorem W6(gl:List Int)(st:List Nat)(code:List zo)(o:Nat):∀(xs:List zo) (n:Nat),(uP gl st code o xs n).length=zD xs
 |[],n=>rfl
 |x::xs,n=>by
  show(ze x _++uP gl st code o xs _).length=ym x+zD xs;rw[aaB,fS,W6]
theorem W7(gl:List Int)(st:List Nat):∀(fs:List Go.As.Fn) (n:Nat),(Yf gl st fs n).length=yg fs
 |[],n=>rfl
 |f::fs,n=>by
  show(uP gl st f.code n f.code n++Yf gl st fs _).length=zD f.code+yg fs;rw[aaB,W6,W7]
def jW(p:Pg):List Int:=Yf (yi p.globals 16777216) (xq p.funcs 0) p.funcs 0
open Go.As (wL)
open Go.Ar (Jn jF uZ uS)
def VP(x:zo):Prop:=x.op=18\/x.op=19\/x.op=21\/x.op=6
theorem QY{x:zo}(h:¬VP x)(d:Int):ze x d=ze x 0:=by
 unfold VP at h;have h18:¬x.op=18:=λe=>h (.inl e);have h19:¬x.op=19:=λe=>h (.inr (.inl e));have h21:¬x.op=21:=λe=>h (.inr (.inr (.inl e)));have h6:¬x.op=6:=λe=>h (.inr (.inr (.inr e)));unfold ze;simp only[aae h18,aae h19,aae h21,aae h6]
theorem Ma{x:zo}(h:VP x)(d:Int):4<=ym x/\ze x d=(ze x 0).take (ym x-4)++xz 4 d:=by
 unfold VP at h;unfold ym;rcases h with h|h|h|h <;> (unfold ze;simp[h,xz,List.range,List.range.loop])
theorem AL{code:List zo}(u:∀(j:Nat) y,code[j]? = some y->y.op=20->yB code y.l 0=(j:Int)){l:Int}(h:¬yB code l 0<0)(n:Nat)(m:List (Int×aaa)) :
  ZJ (Jw code n m) l=some (.int .i64 ((n+zD (code.take (yB code l 0).toNat):Nat):Int)):=by
 rcases Jn code l 0 with⟨a,b⟩|⟨j,a,⟨y,hy,hyl⟩,b⟩
 ·omega
 ·have hl:y.op=20/\y.l=l:=by simpa [jF] using hyl
  have e:(yB code l 0).toNat=j:=by rw[a];simp
  rw[e];have hj:j<code.length:=(aaM.1 hy).1
  have hd:code=code.take j++y::code.drop (j+1):=by
   have:=abB hj;rw[aag hj]at hy;rw[abg hy]at this;rw[<- this,abl]
  conv=>lhs;rw[hd]
  refine O2 hl.1 hl.2 _ _ n m λz hz hz20 hzl=>?_;obtain⟨i,hi⟩:=abW hz;rw[aaQ]at hi;have:=u _ z hi hz20;rw[hzl,a]at this;omega
theorem Sr{p:Pg}(h:wL p=true){f:Go.As.Fn}(fm:f∈p.funcs):(∀(j:Nat) y,f.code[j]? = some y->y.op=20->yB f.code y.l 0=(j:Int)) /\ ∀x,x∈f.code->x.op=18\/x.op=19->¬yB f.code x.l 0<0:=by
 rw[<- uS]at h;unfold uZ at h;simp only[aac,aav]at h;have h:=h.2.2 f fm;unfold Go.Ar.Qc at h;simp only[aac]at h;have h1:=h.1;unfold Go.Ar.Qb at h1;rw[aav]at h1
 have at_:∀(n:Nat) x,f.code[n]? = some x->Go.Ar.wK p f.code n x=true:=λn x hx=>by
  have hn:=(aaM.1 hx).1;have:=h1 n (by simpa using hn);unfold Go.Ar.EU at this;rw[hx]at this;exact this
 refine⟨λj y hy hl=>?_,λx hx o=>?_⟩
 ·have e:=at_ j y hy;unfold Go.Ar.wK Go.Ar.jj at e;simp only[aac,aao]at e;have e2:=e.2.1.1;rw[aa1 hl]at e2;simpa using e2
 ·obtain⟨n,hn⟩:=abW hx;have d:=at_ n x hn;unfold Go.Ar.wK Go.Ar.jj at d;simp only[aac,aao]at d;obtain⟨_,d4⟩:=d.2.1;rw[aa1 o]at d4;simpa using d4
theorem zaU{c:Prop}[Decidable c]{a b:List Int}{n:Nat}(h1:a.length<=n)(h2:b.length<=n):(if c then a else b).length<=n:=by
 split
 ·exact h1
 ·exact h2
theorem PJ(a m:Int):(VD a m).length<=2:=by
 unfold VD;split
 ·exact aaj _
 ·exact abx _
theorem size_le(x:zo):ym x<=10:=by
 unfold ym ze
 repeat' with_reducible apply zaU
 all_goals have:=PJ x.r x.m
 all_goals simp only[u1,wW,abc,aaB,abH]at *
 all_goals omega
theorem rP:∀xs:List zo,zD xs<=10*xs.length
 |[]=>aaj _
 |x::xs=>by
  have:=size_le x;have:=rP xs;show ym x+zD xs<=10*(xs.length+1);omega
theorem Hk(xs:List zo)(x:zo):zD (xs++[x])=zD xs+ym x:=by
 rw[Qs];rfl
theorem rR(f:Go.As.Fn):∀fs:List Go.As.Fn,yg (fs++[f])=yg fs+zD f.code
 |[]=>by show zD f.code+0=0+zD f.code;omega
 |g::fs=>by
  show zD g.code+yg (fs++[f])=zD g.code+yg fs+zD f.code;rw[rR f fs];omega
theorem lF(f:Go.As.Fn):∀(fs:List Go.As.Fn) (n:Nat),xq (fs++[f]) n=xq fs n++[n+yg fs]
 |[],n=>rfl
 |g::fs,n=>by
  show n::xq (fs++[f]) _=n::(xq fs _++[n+(zD g.code+yg fs)]);rw[lF f fs,abq]
theorem AK(x:zo):∀(xs:List zo) (n:Nat) (m:List (Int×aaa)),Jw (xs++[x]) n m=if x.op=20 then ZN (Jw xs n m) x.l (.int .i64 ((n+zD xs:Nat):Int)) else Jw xs n m
 |[],n,m=>rfl
 |y::ys,n,m=>by
  show Jw (ys++[x]) _ _=_;rw[AK x ys,abq];rfl
def j3:List Int->Int->Int
 |[],a=>a
 |g::gs,a=>j3 gs (a+(g+31)/16*16)
theorem cQ(g:Int):∀(gs:List Int) (a:Int),yi (gs++[g]) a=yi gs a++[j3 gs a]/\j3 (gs++[g]) a=j3 gs a+(g+31)/16*16
 |[],a=>⟨rfl,rfl⟩
 |k::gs,a=>by
  have:=cQ g gs (a+(k+31)/16*16);exact⟨by show a::yi (gs++[g]) _=a::(yi gs _++[j3 gs _]);rw[this.1],this.2⟩
theorem Qh:∀(gs:List Int) (a:Int),(∀g,g∈gs->0<=g/\g<=65536)->a<=j3 gs a/\j3 gs a<=a+65552*gs.length
 |[],a,h=>by show a<=a/\a<=a+65552*((0:Nat):Int);omega
 |g::gs,a,h=>by
  have hg:=h g aak;have:=Qh gs (a+(g+31)/16*16) λx hx=>h x (aar _ hx);show a<=j3 gs _/\j3 gs _<=a+65552*((gs.length+1:Nat):Int);omega
theorem Qi:∀(gs:List Int) (a:Int) (i:Nat),i<gs.length->(yi gs a)[i]? = some (j3 (gs.take i) a)
 |[],a,i,h=>by cases h
 |g::gs,a,0,h=>rfl
 |g::gs,a,i+1,h=>by
  show(yi gs _)[i]? = some (j3 (gs.take i) _);exact Qi gs _ i (by simpa using h)
theorem oZ(gl:List Int)(st:List Nat)(code:List zo)(o:Nat)(x:zo):∀(xs:List zo) (n:Nat),uP gl st code o (xs++[x]) n=uP gl st code o xs n++ze x (Wv gl st code o (n+zD xs) x)
 |[],n=>by show ze x _++[]=[]++ze x _;rw[abm];rfl
 |y::ys,n=>by
  show ze y _++uP gl st code o (ys++[x]) _=ze y _++uP gl st code o ys _++ze x (Wv gl st code o (n+(ym y+zD ys)) x);rw[oZ gl st code o x ys,abq,aa4]
theorem pb(gl:List Int)(st:List Nat)(f:Go.As.Fn):∀(fs:List Go.As.Fn) (n:Nat),Yf gl st (fs++[f]) n=Yf gl st fs n++uP gl st f.code (n+yg fs) f.code (n+yg fs)
 |[],n=>by show uP gl st f.code n f.code n++[]=[]++_;rw[abm];rfl
 |g::fs,n=>by
  show uP gl st g.code n g.code n++Yf gl st (fs++[f]) _=uP gl st g.code n g.code n++Yf gl st fs _++uP gl st f.code (n+(zD g.code+yg fs)) f.code (n+(zD g.code+yg fs));rw[pb gl st f fs,abq,aa4]
end Go.En
namespace Go.Rtl
open Go.Ai Go.Proofs Go.Mem
open Go.Rm (j7 zQ zS xO yU JJ yG xx yx Z4 yJ Rd Rd.at)
section
variable {lo:yH}{h:za}{L:List HP}{b mb wb fb b1 b2:Nat}{world:List Int}{ev lk gl cl kv wn:aaa}{fi:List Nat}{kept:Option (Int->Bool)}{R:aaa->za->Prop}
theorem fT{h:za}{sv:aaa}{zs:List Int}(S:zE h sv 1 (zs.map zQ)):zv h sv zs:=by
 have T:=S;rcases S with⟨e,e2⟩|⟨b,off,cp,rfl,hc⟩
 ·exact .inl ⟨e,by simpa using e2⟩
 ·refine .inr ⟨b,off,cp,by rw[aaq],λhz=>?_⟩;obtain⟨c,t,hb,hg,hat⟩:=hc (by simpa using hz);refine⟨c,t,hb,hg,λi z hiz=>?_⟩;obtain⟨b2,o,c2,t2,⟨off2,cp2,e1,e2⟩,_,_,hg2,_,_,h3⟩:=T.spot (i:=i) (r:=zQ z) (by rw[aay,hiz];rfl) rfl;simp only[Value.slice.injEq,aab,Addr.mk.injEq]at e1;obtain⟨⟨rfl,rfl,_⟩,_,rfl⟩:=e1;rw[hg]at hg2;cases hg2;have:=h3 0 (by decide);rw[e2,abI,Nat.add_zero]at this;exact this
end
def ints(zs:List Int):List aaa:=zs.map λz => pm z
theorem OX(zs:List Int):(ints zs).all xX=true:=by
 rw[aav];intro v hv;simp only[ints,aa0]at hv;obtain⟨z,_,rfl⟩:=hv;rfl
theorem Ji(c n:Nat):vW c n≠0:=by
 unfold vW;split
 ·cases Nat.ble n _ <;> simp
 ·simp
def Qv(lo h:za)(l:aaa)(zs:List Int):Prop:=(l=.slice none 0 0/\zs=[]) \/ ∃b c,l=.slice (some ⟨b,0,none⟩) zs.length c/\c≠0/\lo.next<=b/\b<h.next/\h.ro<=b/\h.get b=some (.cells (ints zs) 3)
section
variable {lo h:za}{l:aaa}{zs:List Int}
theorem Oc(S:Qv lo h l zs)(e:Old lo h)(hro:h.ro<=h.next){x:aaa}{n:Nat}{ys:List Int}(hn:U3 x=some n)(hy:ys.length=n)(hf:qp h n 1 x=some (ints ys))(hb:zs.length+n<=17592186044416) :
  ∃l' h',zF pu .append [22,22] 22 [l,x] h=some (l',h')/\Qv lo h' l' (zs++ys)/\Old lo h'/\h'.ro<=h'.next/\h.next<=h'.next/\(qC h->qC h') /\ ∀b,b<lo.next->h'.get b=h.get b:=by
 have hap:=WB 22 l x n (ints ys) h hn hf (OX ys) (by simp[ints,hy]);rw[hap];have n0:=e.next;rcases S with⟨rfl,rfl⟩|⟨b,c,rfl,hc,hb1,hb2,hb3,hg⟩
 ·by_cases h0:n=0
  ·have:ys=[]:=aa9.1 (by omega);subst this;exact⟨_,_,by simp only[Jc,h0,abZ],.inl ⟨rfl,rfl⟩,e,hro,aaj _,id,λ_ _=>rfl⟩
  ·refine⟨.slice (some ⟨h.next,0,none⟩) n 1,h.push (.cells (ints ys) 3),?_,.inr ⟨h.next,1,by simp[hy],by decide,by omega,aa6 _,hro,by rw[wQ];rfl⟩,e.trans (Old.push _ _),abN hro,abx _,λw=>Uu w _,λb hb=>yR (by omega)⟩;simp only[Jc,h0,ab1];rw[aah (by omega)]
 ·by_cases h0:n=0
  ·have:ys=[]:=aa9.1 (by omega);subst this;exact⟨.slice (some ⟨b,0,none⟩) zs.length c,h,by simp only[Jc,h0,abZ],.inr ⟨b,c,by simp,hc,hb1,hb2,hb3,by simpa using hg⟩,e,hro,aaj _,id,λ_ _=>rfl⟩
  ·have hroom:roomFor c (zs.length+n) 8=true:=by
    unfold roomFor;cases Nat.beq c 2 <;> simp only[aaw,aaH,abS] <;> omega
   have hl:(ints zs).length=zs.length:=by simp[ints]
   refine⟨.slice (some ⟨h.next,0,none⟩) (zs.length+n) (vW c (zs.length+n)),(h.set b none).push (.cells (ints (zs++ys)) 3),?_,.inr ⟨h.next,vW c (zs.length+n),by simp[hy],Ji _ _,by omega,aa6 _,hro,wQ⟩,?_,abN hro,abx _,λw=>Uu (wf_set w hb2 _) _,λb' hb'=>?_⟩
   ·simp only[Jc,h0,ab1,hg];rw[aah ⟨hc,trivial,hb3,by rw[hl];omega,hroom,by decide⟩]
    congr 3
    rw[abG,ab2 (by rw[hl];omega)];simp[ints]
   ·refine⟨by show lo.next<=h.next+1;omega,e.ro,λb' hb'=>?_⟩;rw[yR (by show b'<h.next;omega),qL (by omega)];exact e.get b' hb'
   ·rw[yR (by show b'<h.next;omega),qL (by omega)]
end
section
variable {lo h:za}{l:aaa}{zs:List Int}
theorem zv.first(S:zv h l zs):U3 l=some zs.length/\qp h zs.length 1 l=some (ints zs):=by
 rcases S with⟨rfl,rfl⟩|⟨b,off,cp,rfl,hc⟩
 ·exact⟨rfl,rfl⟩
 ·refine⟨rfl,?_⟩;by_cases h0:zs=[]
  ·subst h0;rfl
  ·obtain⟨c,t,hb,hg,hat⟩:=hc h0;have hne:0<zs.length:=List.length_pos_iff.2 h0
   have hlen:off+zs.length<=c.length:=by
    have:=hat (zs.length-1) _ (aag (by omega));rcases aaI (off+(zs.length-1)) c.length with q|q
    ·omega
    ·rw[aas q]at this;cases this
   simp only[qp,hg];rw[show Nat.beq (zs.length*1) 0=false by cases hz:Nat.beq (zs.length*1) 0 with|false=>rfl|true=>have:=aal hz;omega];rw[show Nat.ble (off+zs.length*1) c.length=true by simpa using hlen];simp only[aaH,aaw,aab,abI];apply abz;intro i;by_cases hi:i<zs.length
   ·rw[aaW hi,aaQ,hat i _ (aag hi)];simp[ints,hi]
   ·rw[aas (by simp;omega),aas (by simp[ints];omega)]
end
def FV:aaa->List Nat
 | .slice (some a) _ _=>[a.block]
 |_=>[]
section
variable {lo h:za}{l:aaa}{rows:List (List aaa)}{t:TypeId}
end
theorem W9(h h2:za):(vE h h2).ro=h.ro:=rfl
theorem wT(h h2:za):(vE h h2).next=h2.next:=rfl
theorem oJ{h:za}{x:aaa}{zs:List Int}{e:Nat}(S:zv (h.push (.cells [] 3)) x zs)(bD:zs.length<=17592186043904)(hro:h.ro<=h.next)(he:h.next<e){K:aaa->za->Prop}(k:∀v h6,Qv h h6 v zs->Old h h6->h6.ro<=h6.next->K v h6) :
  oI pu [22,22] 22 [.slice (some ⟨h.next,0,none⟩) 0 2,x] (some (h.next,e)) (h.push (.cells [] 3)) (h.push (.cells [] 3)) K:=by
 refine⟨⟨aaj _,he,by rw[wQ];simp⟩,?_⟩;have W:Qv h (h.push (.cells [] 3)) (.slice (some ⟨h.next,0,none⟩) 0 2) [] := .inr ⟨h.next,2,rfl,by decide,aaj _,aa6 _,hro,wQ⟩;obtain⟨l',h',a1,a2,a3,a4,a5,a6,a7⟩:=Oc W (Old.push _ _) (abN hro) S.first.1 rfl S.first.2 (by simpa using(by omega:zs.length<=17592186044416));rw[a1,Zl rfl,Zl S.Kc,Ka];show K l' _;have hr:(vE (Qr (h.push (.cells [] 3)) (.slice (some ⟨h.next,0,none⟩) 0 2) h') h').ro=h.ro:=by rw[W9,mC];rfl
 have a5':h.next+1<=h'.next:=a5
 have gg:∀b,(vE (Qr (h.push (.cells [] 3)) (.slice (some ⟨h.next,0,none⟩) 0 2) h') h').get b=if h.next<=b/\b<h'.next then h'.get b else h.get b:=by
  intro b;rw[wU,Qn];show(if h.next+1<=b/\b<h'.next then h'.get b else ((h.push (.cells [] 3)).set h.next (h'.get h.next)).get b)=_;by_cases hb:h.next+1<=b/\b<h'.next
  ·rw[aah hb,aah ⟨by omega,hb.2⟩]
  ·rw[aae hb];by_cases hb2:b=h.next
   ·subst hb2;rw[Z3,aah ⟨aaj _,by omega⟩]
   ·rw[qL hb2,aae (by omega),za.vJ,aae hb2]
 refine k _ _ ?_ ⟨by rw[wT];omega,hr,λb hb=>by rw[gg,aae (by omega)]⟩ ?_
 ·rw[abv]at a2;rcases a2 with q|⟨b,c,q1,q2,q3,q4,q5,q6⟩
  ·exact .inl q
  ·refine .inr ⟨b,c,q1,q2,q3,q4,?_,?_⟩
   ·rw[hr];omega
   ·rw[gg,aah ⟨q3,q4⟩];exact q6
 ·rw[hr,wT];omega
theorem Qv.shape{lo h:za}{v:aaa}{zs:List Int}(S:Qv lo h v zs):∃a n c,v=.slice a n c:=by
 rcases S with⟨rfl,_⟩|⟨_,_,rfl,_⟩ <;> exact⟨_,_,_,rfl⟩
section
variable {lo:yH}{h h':za}{L:List HP}
theorem wm{A:HP}(s:Sat lo h L)(hA:A∈L):Sat lo h [A]:=by
 obtain⟨a,b,rfl⟩:=aaP hA;exact(s.perm (List.perm_middle)).yN 1
theorem Cw{A:HP}{M:List HP}(s:Sat lo h (Qt M::L))(hA:A∈M):Sat lo h [A]:=wm s.open (aaK _ hA)
theorem VG{A:HP}{M:List HP}(s:Sat lo h (A::Qt M::L)):Sat lo h (Qt (M++[A])::L):=by
 apply Sat.close;have s2:=Sat.open (s.f [1,0]);rw[aa4];exact s2
theorem Km(s:Sat lo h L):Sat lo h (Qt []::L):=Sat.close (M:=[]) s
theorem MZ(s:Sat lo h L)(e:Old h h')(hr:h'.ro<=h'.next){b:Nat}{o:wS}(h1:h.next<=b)(h2:b<h'.next)(hg:h'.get b=some o):Sat lo h' (pt b o::L):=by
 have rk:=s.base.Fw
 have low:∀y z,(yH.of h).get y=some z->y<h.next/\z=h.get y:=λy z q=>by
  unfold yH.of at q;dsimp only at q;split at q
  ·cases q;exact⟨by assumption,rfl⟩
  ·cases q
 refine s.join (L':=[pt b o]) ⟨λy=>if y=b then some o else none,λ_=>rfl,λy p q=>?_,λy p q=>?_,⟨e.ro,hr,λy z q=>?_⟩⟩
 ·dsimp only at q;split at q
  ·rename_i q2;subst q2;unfold yH.of;dsimp only;rw[aae (by omega)]
  ·cases q
 ·dsimp only at q;split at q
  ·rename_i q2;subst q2;show h.ro<=_;omega
  ·cases q
 ·by_cases q2:y=b
  ·subst q2;rw[yH.uB (o:=o) (by rw[aah rfl])]at q;cases q;exact⟨hg,h2⟩
  ·rw[yH.qA (by rw[aae q2])]at q;obtain⟨a,rfl⟩:=low y z q;exact⟨e.get y a,aap a e.next⟩
theorem AH:∀(zs:List Int),ints zs=(zs.map zQ).flatten
 |[]=>rfl
 |z::zs=>by
  have:=AH zs;unfold ints at this ⊢;rw[abo,abo,acb,this];rfl
theorem Rh{v:aaa}{zs:List Int}(W:Qv h h' v zs)(e:Old h h')(hr:h'.ro<=h'.next)(s:Sat lo h L):Sat lo h' (j7 3 1 v (zs.map zQ)::L):=by
 rcases W with⟨rfl,rfl⟩|⟨b,c,rfl,hc,h1,h2,h3,h4⟩
 ·exact xO _ _ (s.Pd e.next e.ro e.get)
 ·have:=yU (n:=1) (ty:=3) (rows:=zs.map zQ) (c:=c) hc (yJ (f:=zQ) (λ_=>rfl) zs) (AH zs) (MZ s e hr h1 h2 h4)
  rwa [aaq]at this
theorem JI(s:Sat lo h L){v:aaa}{zs:List Int}(hm:j7 3 1 v (zs.map zQ)∈L):zv h v zs:=fT (yx (wm s hm) (yJ (f:=zQ) (λ_=>rfl) zs))
end
end Go.Rtl
namespace Go.Eb
open Go.Ai Go.Proofs
open Go.Rtl (zv zE Old inc FV wm xU Ji W9 wT)
open Go.Rm (j7 zS xO yU JJ yG xx yx yJ)
open Go.En (xz u8)
def yI(z:Int):List aaa:=[.int .u8 z]
def uO(v:aaa)(zs:List Int):HP:=j7 5 1 v (zs.map yI)
def xb(h:za)(v:aaa)(zs:List Int):Prop:=zE h v 1 (zs.map yI)
theorem wO(zs:List Int):∀r,r∈zs.map yI->r.length=1:=yJ (f:=yI) (λ_=>rfl) zs
section
variable {lo:yH}{h h':za}{L:List HP}{x y:aaa}{xs ys:List Int}
theorem xt(s:Sat lo h (uO x xs::L)):zR x=false:=yG s
theorem k8(s:Sat lo h (uO x xs::L)):xX x=true:=xx s
theorem yD(s:Sat lo h L)(hm:uO x xs∈L):xb h x xs:=yx (wm s hm) (wO xs)
theorem BL(s:Sat lo h L):Sat lo h (uO (.slice none 0 0) []::L):=xO _ _ s
theorem Ys:∀zs:List Int,(zs.map yI).flatten=zs.map λz=>Value.int .u8 z
 |[]=>rfl
 |z::zs=>by rw[abo,acb,Ys zs];rfl
theorem Ap(zs:List Int):(zs.map λz=>Value.int .u8 z).all xX=true:=by
 rw[aav];intro v hv;obtain⟨z,_,rfl⟩:=aa0.1 hv;rfl
theorem wM(s:Sat lo h L)(zs:List Int)(c:Nat)(hc:c≠0):Sat lo (h.push (.cells (zs.map λz=>Value.int .u8 z) 5)) (uO (.slice (some ⟨h.next,0,none⟩) zs.length c) zs::L):=by
 have:=yU (ty:=5) (n:=1) (rows:=zs.map yI) (c:=c) hc (wO zs) (Ys zs).symm (s.push (.cells (zs.map λz=>Value.int .u8 z) 5))
 rwa [aaq]at this
theorem vy(S:xb h y ys):U3 y=some ys.length/\qp h ys.length 1 y=some (ys.map λz=>Value.int .u8 z):=by
 have a:=S.lK;have b:=S.first (by decide) (wO ys);rw[aaq]at a b;rw[Ys]at b;exact⟨a,b⟩
theorem Xl(s:Sat lo h (uO x xs::L))(S:xb h y ys)(bD:xs.length+ys.length<=140737488355328) :
  ∃a n c h',(∀r,zF Tryz.prog .append [29,29] r [x,y] h=some (.slice a n c,h'))/\Sat lo h' (uO (.slice a n c) (xs++ys)::L)/\(qC h->qC h')/\h.next<=h'.next/\h'.ro=h.ro/\(∀b,b<h.next->b∉FV x->h'.get b=h.get b)/\(∀q,a=some q->q.block∈FV x\/h.next<=q.block):=by
 obtain⟨hn,hf⟩:=vy S;have hap:=λr=>Ua r x y ys.length (ys.map λz=>Value.int .u8 z) h hn hf (Ap ys) (by simp);have hr3:=wO (xs++ys);have hlen:((xs++ys).map yI).length=xs.length+ys.length:=by simp
 by_cases h0:ys.length=0
 ·have e0:ys=[]:=aa9.1 h0;subst e0;rcases zS s with⟨rfl,e2,s'⟩|⟨b,c,cs,rfl,hc,hl,hf2,s'⟩
  ·have:xs=[]:=by simpa using e2
   subst this;exact⟨none,0,0,h,λr=>by rw[hap];rfl,s,id,aaj _,rfl,λ_ _ _=>rfl,λq hq=>by cases hq⟩
  ·rw[aaq]at s hap ⊢;exact⟨some ⟨b,0,none⟩,xs.length,c,h,λr=>by rw[hap];rfl,by rw[abm];exact s,id,aaj _,rfl,λ_ _ _=>rfl,λq hq=>by cases hq;exact .inl (aat.2 rfl)⟩
 rcases zS s with⟨rfl,e2,s'⟩|⟨b,c,cs,rfl,hc,hl,hf2,s'⟩
 ·have:xs=[]:=by simpa using e2
  subst this;refine⟨some ⟨h.next,0,none⟩,ys.length,1,h.push (.cells (ys.map λz=>Value.int .u8 z) 5),λr=>?_,?_,λw=>Go.Rtl.Uu w _,abx _,rfl,λb hb _=>yR hb,λq hq=>by cases hq;exact .inr (aaj _)⟩
  ·rw[hap];simp only[Jc];rw[aae h0,aah (by simp at bD;omega)]
  ·have q:=wM s' ys 1 (by decide);rw[abv];exact q
 ·rw[aaq]at hl hf2 s hap ⊢
  have hroom:roomFor c (xs.length+ys.length) 1=true:=by
   unfold roomFor;cases Nat.beq c 2 <;> simp only[aaw,aaH,abS] <;> omega
  refine⟨some ⟨h.next,0,none⟩,xs.length+ys.length,vW c (xs.length+ys.length),(h.set b none).push (.cells (((cs.drop 0).take (xs.length*1))++(ys.map λz=>Value.int .u8 z)) 5),λr=>?_,?_,λw=>Go.Rtl.Uu (Go.Rtl.wf_set w s'.lt _) _,abx _,rfl,λb' hb hne=>?_,λq hq=>by cases hq;exact .inr (aaj _)⟩
  ·rw[hap];simp only[Jc,s'.get];rw[aae h0,aah ⟨hc,trivial,s'.wr,by omega,hroom,by decide⟩]
  ·have q:=yU (ty:=5) (n:=1) (rows:=(xs++ys).map yI) (c:=vW c (xs.length+ys.length)) (cs:=((cs.drop 0).take (xs.length*1))++(ys.map λz=>Value.int .u8 z)) (Ji _ _) hr3 (by rw[abG,hf2,aaY,List.flatten_append,Ys ys]) ((s'.forget none).push (.cells (((cs.drop 0).take (xs.length*1))++(ys.map λz=>Value.int .u8 z)) 5));rw[hlen]at q;exact q
  ·simp only[FV,aat]at hne;rw[yR (by show b'<h.next;exact hb),qL hne]
theorem eK(s:Sat lo h (uO x xs::L))(z:Int)(bD:xs.length<=140737488300000) :
  ∃a n c h',(∀r,zF Tryz.prog .append [29,29] r [x,.slice (some ⟨h.next,0,none⟩) 1 3] (h.push (.cells [.int .u8 z] 5))=some (.slice a n c,h'))/\Sat lo h' (uO (.slice a n c) (xs++[z])::L)/\(qC h->qC h'):=by
 have s1:=(wM s [z] 3 (by decide)).f [1,0];obtain⟨a,n,c,h',a1,s2,w2,_⟩:=Xl (y := .slice (some ⟨h.next,0,none⟩) 1 3) s1 (yD s1 (aar _ aak)) (by show xs.length+1<=_;omega);exact⟨a,n,c,h',a1,(s2.p 1).drop,λw=>w2 (Go.Rtl.Uu w _)⟩
theorem Gj{f t:Nat}(s:Sat lo h (uO x xs::L))(hx:∀b,b∈FV x->f<=b/\b<t)(S:xb h y ys)(bD:xs.length+ys.length<=140737488355328)(hyn:zR y=false){K:aaa->za->Prop}
  (k:∀a n c h',Sat lo h' (uO (.slice a n c) (xs++ys)::L)->K (.slice a n c) h'):oI Tryz.prog [29,29] 29 [x,y] (some (f,t)) h h K:=by
 obtain⟨a,n,c,h',a1,s2,w2,n2,r2,g2,b2⟩:=Xl s S bD;refine⟨?_,?_⟩
 ·rcases zS s with⟨rfl,e2,s'⟩|⟨b,c,cs,rfl,hc,hl,hf2,s'⟩
  ·trivial
  ·have:=hx b (aat.2 rfl);exact⟨this.1,this.2,by rw[s'.get];simp⟩
 ·rw[a1,Zl (xt s),Zl hyn,Ka];show K _ _;have gn:(vE (Qr h x h') h').next=h'.next:=wT _ _;have gr:(vE (Qr h x h') h').ro=h'.ro:=by rw[W9,mC,r2]
  refine k a n c _ (s2.Pd (Nat.le_of_eq gn.symm) gr λb hb=>?_);rw[wU,Qn];by_cases hb1:h.next<=b/\b<h'.next
  ·rw[aah hb1]
  ·rw[aae hb1];have hlt:b<h.next:=by omega
   by_cases hbx:b∈FV x
   ·rcases zS s with⟨rfl,e2,s'⟩|⟨b3,c,cs,rfl,hc,hl,hf2,s'⟩
    ·cases hbx
    ·have:=aat.1 hbx;subst this;show(h.set b (h'.get b)).get b=_;rw[Z3]
   ·have:(Qr h x h').get b=h.get b:=by
     rcases fk h x h' b with q|⟨⟨q,n,m,e1,e2⟩,e3⟩
     ·exact q
     ·subst e1;exact absurd (by rw[e2];exact aat.2 rfl) hbx
    rw[this,g2 b hlt hbx]
theorem U9{P:Program}{g:FuncId}{args:List aaa}{hv:za}{K R:aaa->za->Prop}(hc:xW P g=true)(hn:yk args=true)(wf:qC h)(s:Sat lo h L)(vn:hv.next=h.next)(vg:∀b o,hv.get b=some o->h.get b=some o)(d:DC P g args hv.lock R)
  (hk:∀v h2,R v h2->(∀L',Sat (.of hv.lock) h2 L'->Sat lo (vE h h2) (L'++L))->qC (vE h h2)->K v (vE h h2)):Vp P g args hv h K:=by
 have wl:qC hv.lock:=⟨λb o hb=>by
  have:=wf.1 b o (vg b o hb);show b<hv.next;rw[vn];exact this,aaj _⟩
 obtain⟨v,h1,r,af,t⟩:=d wl;have nx:h.next<=h1.next:=by have:=af.next;rw[<- vn];exact this
 have w1:=wl.af af;have gn:(vE h h1).next=h1.next:=wT _ _;refine⟨hc,hn,v,h1,t,af,hk v h1 r (λL' s2=>?_) ⟨λb o hb=>?_,?_⟩⟩
 ·
  have s3:Sat (.of h.lock) (vE h.lock h1) L':=by
   refine s2.to (λb hb hl=>?_) ?_ ?_ ?_ ?_
   ·unfold yH.of at hl ⊢;dsimp only at hl ⊢;split at hl
    ·cases hl
    ·rename_i q;rw[aae (by intro q2;exact q (by show b<hv.next;rw[vn];exact q2))]
   ·have:=(Sat.self (h:=h.lock) (aaj _)).Pd (h':=vE h.lock h1) (by rw[wT];exact nx) rfl (λb hb=>by rw[wU,aae (by intro q;exact absurd hb (by have:=q.1;show ¬b<h.next;have:h.next<=b:=this;omega))]);exact this.base
   ·show h.next=hv.next;rw[vn]
   ·rw[wT];exact aaj _
   ·intro b hb hl
    have:¬b<h.next:=by
     intro q;unfold yH.of at hl;dsimp only at hl;rw[aah (by show b<hv.next;rw[vn];exact q)]at hl;cases hl
    rw[wU,aah ⟨by show h.next<=b;omega,hb⟩]
  have s4:=s.vE s3;refine s4.Pd ?_ rfl λb hb=>?_
  ·rw[wT,wT,wT];exact aaj _
  ·rw[wT,wT]at hb;rw[wU,wU,wU,wT];by_cases q:h.next<=b/\b<h1.next
   ·rw[aah q,aah q,aah (show h.lock.next<=b/\b<h1.next from q)]
   ·rw[aae q,aae q]
 ·rw[wU]at hb;rw[gn];split at hb
  ·rename_i q;exact q.2
  ·exact aap (wf.1 b o hb) nx
 ·rw[gn];exact aaU wf.2 nx
end
end Go.Eb
namespace Go.En
open Go.Ai Go.Proofs
abbrev orU(a b:Int):Int:=IntKind.wrap .u8 (BitVec.ofInt (IntKind.bits .u8) a ||| BitVec.ofInt (IntKind.bits .u8) b).toNat
abbrev zde(a:Int):Int:=IntKind.wrap .i64 (BitVec.ofInt (IntKind.bits .i64) a &&& BitVec.ofInt (IntKind.bits .i64) 7).toNat
theorem hP{a:Int}{n:Nat}(h0:0<=a)(h1:a<n):∃k:Fin n,a=(k.1:Int):=⟨⟨a.toNat,by omega⟩,by show a=((a.toNat:Nat):Int);omega⟩
theorem RJ{a:Int}(h0:0<=a)(h1:a<16):zde a=a%8:=by
 obtain⟨k,rfl⟩:=hP (n:=16) h0 h1
 revert k;decide
theorem zc7{a b:Int}(a0:0<=a)(a1:a<8)(b0:0<=b)(b1:b<8):orU (orU 192 (IntKind.wrap .u8 (IntKind.wrap .u8 a*2^(min (3:Int).toNat (IntKind.bits .u8))))) (IntKind.wrap .u8 b)=192+a*8+b:=by
 obtain⟨k,rfl⟩:=hP (n:=8) a0 a1;obtain⟨j,rfl⟩:=hP (n:=8) b0 b1
 revert k j;decide
theorem zcP{a b:Int}(a0:0<=a)(a1:a<8)(b0:0<=b)(b1:b<8):orU (orU 128 (IntKind.wrap .u8 (IntKind.wrap .u8 a*2^(min (3:Int).toNat (IntKind.bits .u8))))) (IntKind.wrap .u8 b)=128+a*8+b:=by
 obtain⟨k,rfl⟩:=hP (n:=8) a0 a1;obtain⟨j,rfl⟩:=hP (n:=8) b0 b1
 revert k j;decide
theorem za4{a:Int}(a0:0<=a)(a1:a<8):orU 5 (IntKind.wrap .u8 (IntKind.wrap .u8 a*2^(min (3:Int).toNat (IntKind.bits .u8))))=5+a*8:=by
 obtain⟨k,rfl⟩:=hP (n:=8) a0 a1
 revert k;decide
theorem sN(a:Int):0<=a%8/\a%8<8:=by omega
theorem SB{i:Nat}(hi:i<8)(v:Int):IntKind.wrap .u8 (v.fdiv (2^(min ((8*(i:Nat):Int)).toNat (IntKind.bits .i64))))=u8 (v.fdiv (2^(8*i))):=by
 have e:min ((8*(i:Nat):Int)).toNat (IntKind.bits .i64)=8*i:=by
  have:IntKind.bits .i64=64:=rfl;rw[this];omega
 rw[e]
theorem E3(n:Nat)(v:Int):xz (n+1) v=xz n v++[u8 (v.fdiv (2^(8*n)))]:=by
 unfold xz;rw[aca,aaY];rfl
abbrev orV(a b:Int):Int:=IntKind.wrap .u64 (BitVec.ofInt (IntKind.bits .u64) a ||| BitVec.ofInt (IntKind.bits .u64) b).toNat
theorem SS{i:Nat}(hi:i<8){v z:Int}(v0:0<=v)(v1:v<2^(8*i))(z0:0<=z)(z1:z<256) :
  orV v (IntKind.wrap .u64 (IntKind.wrap .u64 z*2^(min ((8*(i:Nat):Int)).toNat (IntKind.bits .u64))))=v+z*2^(8*i):=by
 have e:min ((8*(i:Nat):Int)).toNat (IntKind.bits .u64)=8*i:=by
  have:IntKind.bits .u64=64:=rfl;rw[this];omega
 rw[e];obtain⟨a,rfl⟩:=Int.eq_ofNat_of_zero_le v0;obtain⟨c,rfl⟩:=Int.eq_ofNat_of_zero_le z0;have ha:a<2^(8*i):=by exact_mod_cast v1
 have hc:c<256:=by exact_mod_cast z1
 have hp:(2:Nat)^(8*i)*256<=2^64:=by
  have:(256:Nat)=2^8:=rfl;rw[this,<- Nat.pow_add];exact Nat.pow_le_pow_right (by decide) (by omega)
 have hcp:c*2^(8*i)+a<2^64:=by
  have:c*2^(8*i)+2^(8*i)<=256*2^(8*i):=by
   have:=abJ (2^(8*i)) (show c+1<=256 by omega);rw[acq,Nat.one_mul]at this;exact this
  omega
 have w1:∀n:Nat,n<2^64->IntKind.wrap .u64 (n:Int)=n:=λn hn=>by
  simp only[IntKind.wrap,IntKind.bits,IntKind.signed];simp;omega
 have w2:IntKind.wrap .u64 (c:Int)=c:=w1 c (by omega);rw[w2];have e2:((c:Int)*2^(8*i))=((c*2^(8*i):Nat):Int):=by push_cast;rfl
 rw[e2,w1 _ (by omega)];show IntKind.wrap .u64 (((BitVec.ofInt 64 (a:Int) ||| BitVec.ofInt 64 ((c*2^(8*i):Nat):Int)).toNat:Nat):Int)=_;rw[BitVec.ofInt_natCast,BitVec.ofInt_natCast,BitVec.toNat_or,BitVec.toNat_ofNat,BitVec.toNat_ofNat,Nat.mod_eq_of_lt (by omega),Nat.mod_eq_of_lt (by omega)]
 have e3:a ||| c*2^(8*i)=c*2^(8*i)+a:=by
  rw[Nat.or_comm,Nat.mul_comm,Nat.two_pow_add_eq_or_of_lt ha]
 rw[e3,w1 _ hcp]
 push_cast
 omega
def VL:List Int->Int
 |[]=>0
 |z::zs=>z+256*VL zs
theorem Cy:∀(xs:List Int) (z:Int),VL (xs++[z])=VL xs+z*2^(8*xs.length)
 |[],z=>by show z+256*0=0+z*2^0;omega
 |x::xs,z=>by
  show x+256*VL (xs++[z])=x+256*VL xs+z*2^(8*(xs.length+1));rw[Cy xs z]
  have:(2:Int)^(8*(xs.length+1))=256*2^(8*xs.length):=by
   rw[Nat.mul_add,Int.pow_add];show _*(256:Int)=_;rw[Int.mul_comm]
  rw[this,Int.mul_add]
  have:256*(z*2^(8*xs.length))=z*(256*(2:Int)^(8*xs.length)):=by
   rw[<- Int.mul_assoc,<- Int.mul_assoc,Int.mul_comm 256 z]
  omega
theorem rT:∀(xs:List Int),(∀x,x∈xs->0<=x/\x<256)->0<=VL xs/\VL xs<2^(8*xs.length)
 |[],h=>by show(0:Int)<=0/\(0:Int)<1;omega
 |x::xs,h=>by
  have a:=h x aak;have b:=rT xs λy hy=>h y (aar _ hy)
  have:(2:Int)^(8*(xs.length+1))=256*2^(8*xs.length):=by
   rw[Nat.mul_add,Int.pow_add];show _*(256:Int)=_;rw[Int.mul_comm]
  show 0<=x+256*VL xs/\x+256*VL xs<2^(8*(xs.length+1));rw[this];omega
theorem bJ(n:Int):u8 n=n%256:=by
 simp only[u8,IntKind.wrap,IntKind.bits,IntKind.signed];simp
theorem Pq(v a:Int)(ha:0<a):v%(a*256)=v%a+v/a%256*a:=by
 have h1:=Int.emod_add_mul_ediv v a;have h2:=Int.emod_add_mul_ediv (v/a) 256;have h3:=Int.emod_nonneg v (show a≠0 by omega);have h4:=Int.emod_lt_of_pos v ha;have h5:0<=v/a%256:=by omega
 have h6:v/a%256<=255:=by omega
 have h7:0<=v/a%256*a:=Int.mul_nonneg h5 (Int.le_of_lt ha);have h8:v/a%256*a<=255*a:=Int.mul_le_mul_of_nonneg_right h6 (Int.le_of_lt ha)
 have e:v=(v%a+v/a%256*a)+a*256*(v/a/256):=by
  have:a*(v/a)=v/a%256*a+a*256*(v/a/256):=by
   conv=>lhs;rw[<- h2]
   rw[Int.mul_add,Int.mul_comm a,Int.mul_assoc]
  omega
 conv=>lhs;rw[e]
 rw[Int.add_mul_emod_self_left,Int.emod_eq_of_lt (by omega) (by omega)]
theorem mz(v:Int):∀n:Nat,VL (xz n v)=v%2^(8*n)
 |0=>by show(0:Int)=v%1;omega
 |n+1=>by
  rw[E3,Cy,wW,mz v n,bJ,Int.fdiv_eq_ediv_of_nonneg _ (by exact Int.le_of_lt (Int.pow_pos (by decide)))]
  have e:(2:Int)^(8*(n+1))=2^(8*n)*256:=by
   rw[Nat.mul_add,Int.pow_add];rfl
  rw[e,Pq v _ (Int.pow_pos (by decide))]
open Go.Mem (qU)
def xa(xs:List Int):Prop := ∀x,x∈xs->0<=x/\x<256
theorem ku(n:Nat)(v:Int):xa (xz n v):=by
 intro x hx;unfold xz at hx;obtain⟨i,_,rfl⟩:=aa0.1 hx;rw[bJ];omega
theorem Lm:∀(xs ys:List Int),xs.length=ys.length->xa xs->xa ys->VL xs=VL ys->xs=ys
 |[],[],_,_,_,_=>rfl
 |[],y::ys,h,_,_,_=>by cases h
 |x::xs,[],h,_,_,_=>by cases h
 |x::xs,y::ys,h,hx,hy,e=>by
  have a:=hx x aak;have b:=hy y aak;have e:x+256*VL xs=y+256*VL ys:=e;have e1:x=y:=by omega
  have e2:VL xs=VL ys:=by omega
  rw[e1,Lm xs ys (by simpa using h) (λz hz=>hx z (aar _ hz)) (λz hz=>hy z (aar _ hz)) e2]
theorem Ph{n:Nat}{v:Int}{bs:List Int}(hl:bs.length=n)(hb:xa bs)(h:v%2^(8*n)=VL bs):xz n v=bs :=
 Lm _ _ (by rw[wW,hl]) (ku n v) hb (by rw[mz,h])
def KA(bs:List Int):Int:=IntKind.wrap .i64 (IntKind.wrap .i32 (VL bs))
def fo(bs:List Int):Int:=IntKind.wrap .i64 (VL bs)
theorem MA{bs:List Int}(hl:bs.length=4)(hb:xa bs):xz 4 (KA bs)=bs:=by
 have:=rT bs hb;rw[hl]at this;refine Ph hl hb ?_;unfold KA;simp only[IntKind.wrap,IntKind.bits,IntKind.signed];simp;split <;> split <;> omega
theorem MC{bs:List Int}(hl:bs.length=8)(hb:xa bs):xz 8 (fo bs)=bs:=by
 have:=rT bs hb;rw[hl]at this;refine Ph hl hb ?_;unfold fo;simp only[IntKind.wrap,IntKind.bits,IntKind.signed];simp;split <;> omega
theorem aq{k:Int}(h:Go.Ar.zM k=true):KA (xz 4 k)=k:=by
 unfold Go.Ar.zM at h;rw[aac,aaG,aaG]at h;unfold KA;rw[mz];simp only[IntKind.wrap,IntKind.bits,IntKind.signed];simp;split <;> split <;> omega
theorem Mp{k:Int}(h:qU k):fo (xz 8 k)=k:=by
 unfold qU at h;unfold fo;rw[mz];simp only[IntKind.wrap,IntKind.bits,IntKind.signed];simp;split <;> omega
theorem lr{bs:List Int}(hl:bs.length=4)(hb:xa bs):Go.Ar.zM (KA bs)=true:=by
 have:=rT bs hb;rw[hl]at this;unfold Go.Ar.zM KA;rw[aac,aaG,aaG];simp only[IntKind.wrap,IntKind.bits,IntKind.signed];simp;split <;> split <;> omega
end Go.En
namespace Go.Eb
open Go.Ai Go.Proofs
open Go.Rtl (zv zE Old inc yS z8 Jv x9)
open Go.En
def lO(n:Int)(v:aaa)(_:za):Prop:=v=.int .u8 n
theorem uA{f:FuncId}{args:List aaa}{h:za}{n:Int}(d:DC Tryz.prog f args h.lock (lO n)):vw Tryz.prog f args h (.int .u8 n):=vw.of rfl d
theorem IA(k:Int)(h:za):vw Tryz.prog 48 [.int .i64 k] h (.bool (Go.Ar.zM k)):=by
 apply z8;apply F4;unfold HH;rw[<- Go.Ar.vz];unfold Go.As.Jo;by_cases hk:k=IntKind.wrap .i64 (IntKind.wrap .i32 k)
 ·simp only[EE,ma,mc];simp[yS]
 ·simp only[EE,ma,mc];simp[yS]
theorem Lc{base:Int}(hb:base=72\/base=64)(a b:Int)(h:za):vw Tryz.prog 49 [.int .u8 base,.int .i64 a,.int .i64 b] h (.int .u8 (zH base a b)):=by
 apply uA;apply NN;unfold TK lO zH;rcases hb with rfl|rfl
 ·by_cases h1:a ≥ 8
  ·by_cases h2:b ≥ 8
   ·simp only[EE,nth,Int.reduceAdd,WT,h1,h2] <;> rfl
   ·simp only[EE,nth,Int.reduceAdd,WT,h1,h2] <;> rfl
  ·by_cases h2:b ≥ 8
   ·simp only[EE,nth,Int.reduceAdd,WT,h1,h2] <;> rfl
   ·simp only[EE,nth,Int.reduceAdd,WT,h1,h2] <;> rfl
 ·by_cases h1:a ≥ 8
  ·by_cases h2:b ≥ 8
   ·simp only[EE,nth,Int.reduceAdd,WT,h1,h2] <;> rfl
   ·simp only[EE,nth,Int.reduceAdd,WT,h1,h2] <;> rfl
  ·by_cases h2:b ≥ 8
   ·simp only[EE,nth,Int.reduceAdd,WT,h1,h2] <;> rfl
   ·simp only[EE,nth,Int.reduceAdd,WT,h1,h2] <;> rfl
theorem Uf{cc:Int}(h0:21<=cc)(h1:cc<=26)(h:za):vw Tryz.prog 83 [.int .i64 cc] h (.int .u8 (vC cc)):=by
 apply uA;apply nc;unfold iS lO;have:cc=21\/cc=22\/cc=23\/cc=24\/cc=25\/cc=26:=by omega
 rcases this with rfl|rfl|rfl|rfl|rfl|rfl <;> (simp only[EE,↓zB,Int.reduceEq,aZ,a8,a9,ba,bh];rfl)
theorem ae(s:Int)(h:za):vw Tryz.prog 51 [.int .i64 s] h (.int .u8 (kY s)):=by
 apply uA;apply Bm;unfold tD lO kY;by_cases h1:s=11
 ·subst h1;simp only[EE,↓zB,Int.reduceEq,YN]
 by_cases h2:s=12
 ·subst h2;simp only[EE,↓zB,Int.reduceEq,XX,YN]
 by_cases h3:s=16
 ·subst h3;simp only[EE,↓zB,Int.reduceEq,VW,XX,YN]
 by_cases h4:s=17
 ·subst h4;simp only[EE,↓zB,Int.reduceEq,KW,VW,XX,YN]
 simp only[EE,↓zB,KW,VW,XX,YN,h1,h2,h3,h4]
theorem Pj{i:Nat}(hi:i<8)(v:Int):IntKind.wrap .i64 (8*(i:Int))=((8*i:Nat):Int):=by
 rw[Go.Mem.Rq (by omega) (by omega)];push_cast;rfl
section
variable {lo:yH}{h:za}{L:List HP}
theorem fy{n:Nat}(hn:n<=8)(v:Int):DC Tryz.prog 26 [.int .i64 n,.int .i64 v] h (λr h'=>Sat (.of h) h' [uO r (xz n v)]):=by
 apply UP;intro wf;apply Dy;unfold Dx;have s0:Sat (.of h) h []:=Sat.self wf.2;simp only[↓zB];refine kW (λm vs h'=>∃(i:Nat) (r:aaa),i<=n/\m=n-i/\vs=[r,.int .i64 (i:Nat)]/\Sat (.of h) h' [uO r (xz i v)]) n ⟨0,.slice none 0 0,aaS _,rfl,rfl,BL s0⟩ ?_;rintro m vs h' ⟨i,r,hi,rfl,rfl,s⟩;have rn:=xt s;unfold nI;by_cases hc:(i:Int)<(n:Int)
 ·have hin:=inc (show i<4611686018427387904 by omega);have e8:=Pj (show i<8 by omega) v;have lb:=SB (show i<8 by omega) v;have c0:(0:Int)<=((8*i:Nat):Int):=by omega
  have hl:(xz i v).length=i:=wW i v;obtain⟨a,l,c,h2,a1,s2,_⟩:=eK s (IntKind.wrap .u8 (v.fdiv (2^(min ((8*(i:Nat):Int)).toNat (IntKind.bits .i64))))) (by omega);have ec:(8*(i:Nat):Int)=((8*i:Nat):Int):=by push_cast;rfl
  rw[ec]at a1;simp only[EE,nth,↓zB,xr,Gw,nG,nH,hc,rn,e8,c0,a1,hin];refine⟨n-(i+1),by omega,i+1,.slice a l c,by omega,rfl,rfl,?_⟩;rw[E3,<- lb];exact s2
 ·have e:i=n:=by omega
  subst e;simp only[EE,nth,hc,rn];exact s
end
section
variable {lo:yH}{h:za}{L:List HP}{ov:aaa}{ops:List Int}{a b base k:Int}
theorem oG(h0:0<=a)(h1:a<16):IntKind.wrap .i64 (BitVec.ofInt (IntKind.bits .i64) a &&& BitVec.ofInt (IntKind.bits .i64) 7).toNat=a%8:=RJ h0 h1
theorem zc6(a b:Int):IntKind.wrap .u8 (BitVec.ofInt (IntKind.bits .u8) (IntKind.wrap .u8 (BitVec.ofInt (IntKind.bits .u8) 192 ||| BitVec.ofInt (IntKind.bits .u8) (IntKind.wrap .u8 (IntKind.wrap .u8 (a%8)*2^(min 3 (IntKind.bits .u8))))).toNat) ||| BitVec.ofInt (IntKind.bits .u8) (IntKind.wrap .u8 (b%8))).toNat=xB a b:=zc7 (sN a).1 (sN a).2 (sN b).1 (sN b).2
theorem zcO(a b:Int):IntKind.wrap .u8 (BitVec.ofInt (IntKind.bits .u8) (IntKind.wrap .u8 (BitVec.ofInt (IntKind.bits .u8) 128 ||| BitVec.ofInt (IntKind.bits .u8) (IntKind.wrap .u8 (IntKind.wrap .u8 (a%8)*2^(min 3 (IntKind.bits .u8))))).toNat) ||| BitVec.ofInt (IntKind.bits .u8) (IntKind.wrap .u8 (b%8))).toNat=128+a%8*8+b%8:=zcP (sN a).1 (sN a).2 (sN b).1 (sN b).2
theorem iu(hb:base=72\/base=64)(O:xb h ov ops)(hl:ops.length<=100)(a0:0<=a)(a1:a<16)(b0:0<=b)(b1:b<16) :
  DC Tryz.prog 47 [.int .u8 base,ov,.int .i64 a,.int .i64 b] h (λr h'=>Sat (.of h) h' [uO r (zH base a b::ops++[xB a b])]):=by
 apply UP;intro wf;apply LI;unfold NM;have s0:Sat (.of h) h []:=Sat.self wf.2;have on:=O.Kc;refine VM (Lc hb a b h) ?_;have s1:Sat (.of h) (h.push (.cells [.int .u8 (zH base a b)] 5)) [uO (.slice (some ⟨h.next,0,none⟩) 1 3) [zH base a b]]:=wM s0 [zH base a b] 3 (by decide);obtain⟨x1,n1,c1,h2,e1,s2,_⟩:=Xl s1 (O.old (Old.push _ _)) (by simp;omega);obtain⟨x2,n2,c2,h3,e2,s3,_⟩:=eK s2 (xB a b) (by simp;omega);have q1:=oG a0 a1;have q2:=oG b0 b1;have q3:=zc6 a b;simp only[EE,Int.reduceLE,Int.reduceToNat,xr,ph,DN,on,e1,q1,q2,q3,e2];exact s3
theorem MD(R:Int)(ops:List Int)(a m k:Int):(if m%8=4 then zH base a m::ops++[128+a%8*8+m%8]++[36] else zH base a m::ops++[128+a%8*8+m%8])++xz 4 k=zH base a m::ops++u1 a m k:=by
 unfold u1 VD;split <;> simp
theorem Pp(hb:base=72\/base=64)(O:xb h ov ops)(hl:ops.length<=100)(a0:0<=a)(a1:a<16)(b0:0<=b)(b1:b<16)(k:Int) :
  DC Tryz.prog 50 [.int .u8 base,ov,.int .i64 a,.int .i64 b,.int .i64 k] h (λr h'=>Sat (.of h) h' [uO r (zH base a b::ops++u1 a b k)]):=by
 apply UP;intro wf;apply DA;unfold Dz;have s0:Sat (.of h) h []:=Sat.self wf.2;have on:=O.Kc;refine VM (Lc hb a b h) ?_;have s1:Sat (.of h) (h.push (.cells [.int .u8 (zH base a b)] 5)) [uO (.slice (some ⟨h.next,0,none⟩) 1 3) [zH base a b]]:=wM s0 [zH base a b] 3 (by decide);obtain⟨x1,n1,c1,h2,e1,s2,_⟩:=Xl s1 (O.old (Old.push _ _)) (by simp;omega);obtain⟨x2,n2,c2,h3,e2,s3,_⟩:=eK s2 (128+a%8*8+b%8) (by simp;omega);have q1:=oG a0 a1;have q2:=oG b0 b1;have q3:=zcO a b
 have go:∀{x:aaa} {xs:List Int} {h3:za},Sat (.of h) h3 [uO x xs]->xs.length<=1000->xs++xz 4 k=zH base a b::ops++u1 a b k->cr (.int .i64 k) (λr h'=>Sat (.of h) h' [uO r (zH base a b::ops++u1 a b k)]) [x] h3:=λ{x xs h3} s3 hx ex=>by
  unfold cr;have xn:=xt s3;simp only[];refine KI (fy (n:=4) (by decide) k) ?_;rintro r h4 s4;have s5:=s3.join s4;have rn:=xt s4;obtain⟨x4,n4,c4,h5,e4,s6,_⟩:=Xl (s5.f [1,0]) (yD s5 aak) (by rw[wW];omega);simp only[EE,nth,xn,rn,e4];have:=s6.k [0];rw[ex]at this;exact this
 simp only[EE,Int.reduceLE,Int.reduceToNat,xr,ph,nK,on,e1,q1,q2,q3,e2];have ms:=MD (base:=base) 0 ops a b k;by_cases hm:b%8=4
 ·rw[aah hm]at ms;obtain⟨x5,n5,c5,h6,e5,s5,_⟩:=eK s3 36 (by simp;omega);simp only[EE,xr,nJ,hm,e5];exact go s5 (by simp;omega) ms
 ·rw[aae hm]at ms;simp only[EE,hm];exact go s3 (by simp;omega) ms
end
section
variable {lo:yH}{h:za}{L:List HP}{x y ov:aaa}{xs ys ops zs:List Int}{a b base k:Int}{K:aaa->za->Prop}
theorem Vw(wf:qC h)(o:wS):qC (h.push o):=Go.Rtl.Uu wf o
theorem bw(s:Sat lo h (uO y ys::uO x xs::L))(bD:xs.length+ys.length<=1000){r:TypeId}(k:∀v h',zR v=false->Sat lo h' (uO v (xs++ys)::uO y ys::L)->K v h'):zP (nb [x,y] (zF Tryz.prog .append [29,29] r [x,y] h)) K:=by
 have s1:=s.f [1,0];obtain⟨a,n,c,h',a1,s2,_⟩:=Xl s1 (yD s1 (aar _ aak)) (by omega);rw[a1,Zl (xt s1),Zl (xt s),Ka];exact k _ _ rfl s2
theorem zae(s:Sat lo h (uO x xs::L))(bD:xs.length<=1000){z:Int}{r:TypeId}(k:∀v h',zR v=false->Sat lo h' (uO v (xs++[z])::L)->K v h') :
  zP (nb [x,.slice (some ⟨h.next,0,none⟩) 1 3] (zF Tryz.prog .append [29,29] r [x,.slice (some ⟨h.next,0,none⟩) 1 3] (h.push (.cells [.int .u8 z] 5)))) K:=by
 obtain⟨a,n,c,h',a1,s2,_⟩:=eK s z (by omega);rw[a1,Zl (xt s),Zl rfl,Ka];exact k _ _ rfl s2
section
variable (hb:base=72\/base=64)(a0:0<=a/\a<16)(b0:0<=b/\b<16)
include hb a0 b0
theorem UI(s:Sat lo h (uO ov ops::L))(hl:ops.length<=100)(k:∀r h',zR r=false->Sat lo h' (uO r (zH base a b::ops++[xB a b])::uO ov ops::L)->K r h') :
  zL Tryz.prog (.func (.func 47) #[] #[]) [.int .u8 base,ov,.int .i64 a,.int .i64 b] h K:=by
 have on:=xt s;refine sE (by simp only[yk,on,aaH];rfl) (iu hb (yD s aak) hl a0.1 a0.2 b0.1 b0.2) ?_;rintro r h' s2;exact k r h' (xt s2) (s.join s2)
theorem Vx(s:Sat lo h (uO ov ops::L))(hl:ops.length<=100){z:Int}(k:∀r h',zR r=false->Sat lo h' (uO r (zH base a b::ops++u1 a b z)::uO ov ops::L)->K r h') :
  zL Tryz.prog (.func (.func 50) #[] #[]) [.int .u8 base,ov,.int .i64 a,.int .i64 b,.int .i64 z] h K:=by
 have on:=xt s;refine sE (by simp only[yk,on,aaH];rfl) (Pp hb (yD s aak) hl a0.1 a0.2 b0.1 b0.2 z) ?_;rintro r h' s2;exact k r h' (xt s2) (s.join s2)
theorem Cs(s:Sat lo h (uO ov ops::L))(wf:qC h)(hl:ops.length<=100)(k:∀r h',qC h'->zR r=false->Sat lo h' (uO r (zH base a b::ops++[xB a b])::uO ov ops::L)->K r h') :
  Ue Tryz.prog 47 [.int .u8 base,ov,.int .i64 a,.int .i64 b] h K:=by
 have on:=xt s;refine Ih (by kernel_rfl) (by simp only[yk,on,aaH];rfl) wf s (iu hb (yD s aak).lock hl a0.1 a0.2 b0.1 b0.2) ?_;rintro r h2 s2 gr w2;exact k r _ w2 (xt s2) (gr _ s2)
theorem fM(s:Sat lo h (uO ov ops::L))(wf:qC h)(hl:ops.length<=100){hv:za}(vn:hv.next=h.next)(vg:∀b o,hv.get b=some o->h.get b=some o)(O:xb hv ov ops)(k:∀r h',qC h'->h.next<=h'.next->zR r=false->Sat lo h' (uO r (zH base a b::ops++[xB a b])::uO ov ops::L)->K r h') :
  Vp Tryz.prog 47 [.int .u8 base,ov,.int .i64 a,.int .i64 b] hv h K:=by
 have on:=xt s;refine U9 (by kernel_rfl) (by simp only[yk,on,aaH];rfl) wf s vn vg (iu hb O.lock hl a0.1 a0.2 b0.1 b0.2) ?_;rintro r h2 s2 gr w2;have s3:=gr _ s2;refine k r _ w2 ?_ (xt s2) s3;rw[Go.Rtl.wT];rcases Go.Rm.zS s2 with⟨_,_,s4⟩|⟨q,c,cs,_,_,_,_,s4⟩
 ·have:=s4.base.Fw;have e:h2.ro=hv.next:=s4.base.ro;omega
 ·have:=s4.base.Fw;have e:h2.ro=hv.next:=s4.base.ro;omega
end
theorem Jx(s:Sat lo h L){n:Nat}{m:Int}(hm:m=(n:Int))(hn:n<=8){z:Int}(k:∀r h',zR r=false->Sat lo h' (uO r (xz n z)::L)->K r h') :
  zL Tryz.prog (.func (.func 26) #[] #[]) [.int .i64 m,.int .i64 z] h K:=by
 subst hm;refine KI (fy hn z) ?_;rintro r h' s2;exact k r h' (xt s2) (s.join s2)
theorem fA(s:Sat lo h L)(wf:qC h){n:Nat}{m:Int}(hm:m=(n:Int))(hn:n<=8){z:Int}(k:∀r h',qC h'->zR r=false->Sat lo h' (uO r (xz n z)::L)->K r h') :
  Ue Tryz.prog 26 [.int .i64 m,.int .i64 z] h K:=by
 subst hm;refine Ih (by kernel_rfl) rfl wf s (fy hn z) ?_;rintro r h2 s2 gr w2;exact k r _ w2 (xt s2) (gr _ s2)
theorem ik(s:Sat lo h L)(wf:qC h){n:Nat}{m:Int}(hm:m=(n:Int))(hn:n<=8){z:Int}{hv:za}(vn:hv.next=h.next)(vg:∀b o,hv.get b=some o->h.get b=some o)(k:∀r h',qC h'->zR r=false->Sat lo h' (uO r (xz n z)::L)->K r h') :
  Vp Tryz.prog 26 [.int .i64 m,.int .i64 z] hv h K:=by
 subst hm;refine U9 (by kernel_rfl) rfl wf s vn vg (fy hn z) ?_;rintro r h2 s2 gr w2;exact k r _ w2 (xt s2) (gr _ s2)
theorem Yt{h:za}{n m b:Nat}{o:wS}(hg:h.get b=some o)(hb:b<n):(cut h n m).get b=some o:=by rw[qt hb];exact hg
theorem Gv{h:za}{n m b:Nat}{o:wS}(hg:(cut h n m).get b=some o):h.get b=some o:=by
 rw[mi]at hg;split at hg
 ·cases hg
 ·exact hg
end
end Go.Eb
namespace Go.En
open Go.Ai Go.Proofs
open Go.As (zo Pg)
abbrev RS:=Nat×Bool
def WY:zo:=⟨0,0,0,0,0,0,0⟩
def zU(c:Bool)(s:RS):RS:=(s.1,s.2||c)
def zw(b:List Int)(s:RS):Int×RS:=match b[s.1]? with
 |some v=>(v,(s.1+1,s.2))
 |none=>(0,(s.1,true))
def qQ(b:List Int):Nat->RS->List Int×RS
 |0,s=>([],s)
 |n+1,s=>((qQ b n s).1++[(zw b (qQ b n s).2).1],(zw b (qQ b n s).2).2)
def wk(b:List Int)(s:RS):Int×RS:=(KA (qQ b 4 s).1,(qQ b 4 s).2)
def W3(b:List Int)(s:RS):Int×RS:=(fo (qQ b 8 s).1,(qQ b 8 s).2)
structure lJ where
 reg:Int
 rm:Int
 memory:Bool
 place:Bool
 k:Int
def qP(b ahead:Int):Int:=b/8%8+(if ahead/4%2=1 then 8 else 0)
def Y3(b ahead:Int):Int:=b%8+(if ahead%2=1 then 8 else 0)
def iB(b:List Int)(rm:Int)(s:RS):RS:=if rm%8=4 then zU (decide (¬(zw b s).1=36)) (zw b s).2 else s
def uy(b:List Int)(ahead:Int)(s:RS):lJ×RS :=
 let t:=zw b s
 let reg:=qP t.1 ahead
 let rm:=Y3 t.1 ahead
 if t.1/64=3 then (⟨reg,rm,false,false,0⟩,t.2)
 else if t.1/64=2 then (⟨reg,rm,true,false,(wk b (iB b rm t.2)).1⟩,(wk b (iB b rm t.2)).2)
 else if t.1/64=0 then (⟨reg,rm,false,true,(wk b (zU (decide (¬t.1%8=5)||decide (ahead%2=1)) t.2)).1⟩,(wk b (zU (decide (¬t.1%8=5)||decide (ahead%2=1)) t.2)).2)
 else (⟨reg,rm,false,false,0⟩,zU true t.2)
def Jj(c:Int):Option Int:=if c=4 then some 21 else if c=5 then some 22 else if c=12 then some 23 else if c=13 then some 26 else if c=14 then some 24 else if c=15 then some 25 else none
theorem Iy{cc:Int}(h0:21<=cc)(h1:cc<=26):Jj (vC cc)=some cc:=by
 have:cc=21\/cc=22\/cc=23\/cc=24\/cc=25\/cc=26:=by omega
 rcases this with rfl|rfl|rfl|rfl|rfl|rfl <;> rfl
theorem SN{c cc:Int}(h:Jj c=some cc):21<=cc/\cc<=26/\vC cc=c:=by
 unfold Jj at h
 repeat' split at h
 all_goals first|(cases h;done)|(have h:=abg h;subst h;subst_vars;decide)
def Zh(c:Int)(s:RS):Int×RS:=match Jj c with
 |some cc=>(cc,s)
 |none=>(0,zU true s)
def qe(op:Int):Int:=if op=1 then 11 else if op=41 then 12 else if op=33 then 16 else if op=9 then 17 else if op=49 then 18 else 0
def uz(op second:Int)(o:lJ)(s:RS):zo×RS :=
 if op=139 then (⟨3,o.reg,o.rm,8,0,0,o.k⟩,s)
 else if op=99 then (⟨3,o.reg,o.rm,4,0,0,o.k⟩,s)
 else if op=15/\second=190 then (⟨3,o.reg,o.rm,1,0,0,o.k⟩,s)
 else if op=137 then (⟨4,o.reg,o.rm,8,0,0,o.k⟩,s)
 else if op=141 then (⟨5,o.reg,o.rm,0,0,0,o.k⟩,s)
 else (⟨3,o.reg,o.rm,0,0,0,o.k⟩,zU true s)
def Ww(b:List Int)(o:lJ)(s:RS):zo×RS :=
 let t:=wk b s
 if o.reg=7 then (⟨16,o.rm,0,0,0,0,t.1⟩,t.2)
 else if o.rm=4/\o.reg=5 then (⟨23,0,0,0,0,0,t.1⟩,t.2)
 else if o.rm=4/\o.reg=0 then (⟨24,0,0,0,0,0,t.1⟩,t.2)
 else (⟨8,o.rm,0,qe (o.reg*8+1),0,0,t.1⟩,zU (decide (qe (o.reg*8+1)=0)) t.2)
def singleR(b:List Int)(op:Int)(o:lJ)(s:RS):zo×RS :=
 if op=199 then (⟨2,o.rm,0,0,0,0,(wk b (zU (decide (¬o.reg=0)) s)).1⟩,(wk b (zU (decide (¬o.reg=0)) s)).2)
 else if op=129 then Ww b o s
 else if op=247/\o.reg=2 then (⟨9,o.rm,0,2,0,0,0⟩,s)
 else if op=247/\o.reg=3 then (⟨9,o.rm,0,1,0,0,0⟩,s)
 else if op=247/\o.reg=7 then (⟨14,0,o.rm,0,0,0,0⟩,s)
 else if op=193 then (⟨11,o.rm,0,if o.reg=7 then 20 else 19,0,0,(zw b (zU (decide (¬o.reg=4 /\ ¬o.reg=7)) s)).1⟩,(zw b (zU (decide (¬o.reg=4 /\ ¬o.reg=7)) s)).2)
 else if op=211 then (⟨12,o.rm,0,if o.reg=7 then 20 else 19,0,0,0⟩,zU (decide (¬o.reg=4 /\ ¬o.reg=7)) s)
 else (WY,zU true s)
def qR(b:List Int)(op second:Int)(o:lJ)(s:RS):zo×RS :=
 if ¬qe op=0 then (⟨7,o.rm,o.reg,qe op,0,0,0⟩,s)
 else if op=137 then (⟨1,o.rm,o.reg,0,0,0,0⟩,s)
 else if op=99 then (⟨10,o.reg,o.rm,4,0,0,0⟩,s)
 else if op=57 then (⟨15,o.rm,o.reg,0,0,0,0⟩,s)
 else if op=105 then (⟨8,o.reg,0,13,0,0,(wk b (zU (decide (¬o.reg=o.rm)) s)).1⟩,(wk b (zU (decide (¬o.reg=o.rm)) s)).2)
 else if op=15 then (if second=175 then (⟨7,o.reg,o.rm,13,0,0,0⟩,s) else if second=190 then (⟨10,o.reg,o.rm,3,0,0,0⟩,s) else (WY,zU true s))
 else singleR b op o s
def uE(b:List Int)(ahead op second:Int)(s:RS):zo×RS :=
 let o:=uy b ahead s
 if o.1.place=true then (⟨6,o.1.reg,0,0,0,0,o.1.k⟩,zU (decide (¬op=141)) o.2)
 else if o.1.memory=true then uz op second o.1 o.2
 else qR b op second o.1 o.2
def Yk(b:List Int)(ahead:Int)(s:RS):zo×RS :=
 let t:=zw b s
 if 184<=t.1/\t.1<=191 then (⟨2,t.1-184+ahead%2*8,0,0,0,0,(W3 b (zU (decide (ahead/4%2=1)) t.2)).1⟩,(W3 b (zU (decide (ahead/4%2=1)) t.2)).2)
 else if t.1=153 then (⟨13,0,0,0,0,0,0⟩,zU (decide (¬ahead=72)) t.2)
 else if t.1=237 then (⟨25,0,0,0,0,0,0⟩,zU (decide (¬ahead=72)) t.2)
 else if t.1=239 then (⟨26,0,0,0,0,0,0⟩,zU (decide (¬ahead=72)) t.2)
 else if t.1=15 then uE b ahead t.1 (zw b t.2).1 (zw b t.2).2
 else uE b ahead t.1 0 t.2
def Yj(b:List Int):List Int->RS->RS
 |[],s=>s
 |z::zs,s=>Yj b zs (zU (decide (¬(zw b s).1=z)) (zw b s).2)
def Cx(b:List Int)(ahead:Int)(s:RS):zo×RS :=
 let t:=zw b s
 let c:=Zh (u8 (t.1-144)) t.2
 let o:=uy b ahead c.2
 (⟨17,o.1.rm,0,0,c.1,0,0⟩,Yj b [zH 72 o.1.rm o.1.rm,15,182,xB o.1.rm o.1.rm] (zU (o.1.memory||o.1.place||decide (¬o.1.reg=0)) o.2))
def jZ(b:List Int)(ahead:Int)(s:RS):zo×RS :=
 let t:=zw b s
 if t.1=136\/t.1=137 then
  (⟨4,(uy b ahead t.2).1.reg,(uy b ahead t.2).1.rm,if t.1=136 then 1 else 4,0,0,(uy b ahead t.2).1.k⟩,zU (!(uy b ahead t.2).1.memory) (uy b ahead t.2).2)
 else if t.1=15 then Cx b ahead t.2
 else (WY,zU true t.2)
def xM(b:List Int):zo×Bool×RS :=
 let t:=zw b (0,false)
 if t.1=233 then (⟨18,0,0,0,0,0,(wk b t.2).1⟩,true,(wk b t.2).2)
 else if t.1=232 then (⟨21,0,0,0,0,0,(wk b t.2).1⟩,true,(wk b t.2).2)
 else if t.1=15 then
  (let c:=Zh (u8 ((zw b t.2).1-128)) (zw b t.2).2
   (⟨19,0,0,0,c.1,0,(wk b c.2).1⟩,true,(wk b c.2).2))
 else if t.1=195 then (⟨22,0,0,0,0,0,0⟩,false,t.2)
 else if t.1=72\/t.1=73\/t.1=76\/t.1=77 then ((Yk b t.1 t.2).1,decide ((Yk b t.1 t.2).1.op=6),(Yk b t.1 t.2).2)
 else if t.1=64\/t.1=65\/t.1=68\/t.1=69 then ((jZ b t.1 t.2).1,false,(jZ b t.1 t.2).2)
 else (WY,false,zU true t.2)
theorem Cd(pre rest:List Int)(z:Int)(c:Bool):zw (pre++z::rest) (pre.length,c)=(z,(pre.length+1,c)):=by
 unfold zw;have:(pre++z::rest)[pre.length]? = some z:=by rw[aaZ (aaj _),acw];rfl
 rw[this]
theorem Cc(pre rest xs:List Int)(c:Bool):∀n:Nat,n<=xs.length->qQ (pre++(xs++rest)) n (pre.length,c)=(xs.take n,(pre.length+n,c))
 |0,h=>rfl
 |n+1,h=>by
  unfold qQ;rw[Cc pre rest xs c n (by omega)]
  have e:pre++(xs++rest)=(pre++xs.take n)++xs[n]::(xs.drop (n+1)++rest):=by
   have:=abB (show n<xs.length by omega);have e0:xs=xs.take n++xs[n]::xs.drop (n+1):=by rw[<- this,abl]
   rw[aa4]
   congr 1
   conv=>lhs;rw[e0]
   rw[aa4];rfl
  have el:pre.length+n=(pre++xs.take n).length:=by rw[aaB,aa3,acr (by omega)]
  have:=Cd (pre++xs.take n) (xs.drop (n+1)++rest) xs[n] c;simp only;rw[e,el,this,List.take_succ_eq_append_getElem (by omega)];simp only[aaB,aa3,acr (show n<=xs.length by omega)];rfl
theorem SJ(pre rest:List Int)(k:Int)(hk:Go.Ar.zM k=true)(c:Bool){n:Nat}(hn:n=pre.length):wk (pre++(xz 4 k++rest)) (n,c)=(k,(n+4,c)):=by
 subst hn;unfold wk;rw[Cc pre rest (xz 4 k) c 4 (by rw[wW];exact aaj _)];simp only;rw[ab2 (by rw[wW];exact aaj _),aq hk]
theorem SK(pre rest:List Int)(k:Int)(hk:Go.Mem.qU k)(c:Bool){n:Nat}(hn:n=pre.length):W3 (pre++(xz 8 k++rest)) (n,c)=(k,(n+8,c)):=by
 subst hn;unfold W3;rw[Cc pre rest (xz 8 k) c 8 (by rw[wW];exact aaj _)];simp only;rw[ab2 (by rw[wW];exact aaj _),Mp hk]
theorem fP(a b:Int):(zH 72 a b=72\/zH 72 a b=73\/zH 72 a b=76\/zH 72 a b=77)/\(zH 72 a b/4%2=1 ↔ 8<=a)/\(zH 72 a b%2=1 ↔ 8<=b):=by
 unfold zH;split <;> split <;> omega
theorem I9(a b:Int):(zH 64 a b=64\/zH 64 a b=65\/zH 64 a b=68\/zH 64 a b=69)/\(zH 64 a b/4%2=1 ↔ 8<=a)/\(zH 64 a b%2=1 ↔ 8<=b):=by
 unfold zH;split <;> split <;> omega
theorem fL{a b w x:Int}(h0:0<=a)(h1:a<16)(hw:w/4%2=1 ↔ 8<=a)(hx:x/8%8=a%8):qP x w=a:=by
 unfold qP;by_cases h:8<=a
 ·rw[aah (hw.2 h)];omega
 ·rw[aae (λq=>h (hw.1 q))];omega
theorem Hg{b w x:Int}(h0:0<=b)(h1:b<16)(hw:w%2=1 ↔ 8<=b)(hx:x%8=b%8):Y3 x w=b:=by
 unfold Y3;by_cases h:8<=b
 ·rw[aah (hw.2 h)];omega
 ·rw[aae (λq=>h (hw.1 q))];omega
theorem XM(a b:Int):xB a b/64=3/\xB a b/8%8=a%8/\xB a b%8=b%8:=by
 unfold xB;omega
theorem Ch{pre rest:List Int}{a b w:Int}(a0:0<=a)(a1:a<16)(b0:0<=b)(b1:b<16)(ha:w/4%2=1 ↔ 8<=a)(hb:w%2=1 ↔ 8<=b)(c:Bool){n:Nat}(hn:n=pre.length) :
  uy (pre++xB a b::rest) w (n,c)=(⟨a,b,false,false,0⟩,(n+1,c)):=by
 subst hn;have t:=XM a b;unfold uy;simp only[Cd,t.1,abZ];rw[fL (b:=b) a0 a1 ha t.2.1,Hg b0 b1 hb t.2.2]
theorem j0{b pre rest:List Int}{z:Int}{n:Nat}(c:Bool)(hb:b=pre++z::rest)(hn:n=pre.length):zw b (n,c)=(z,(n+1,c)):=by
 subst hb hn;exact Cd pre rest z c
theorem Ym{b pre rest:List Int}{k:Int}{n:Nat}(hk:Go.Ar.zM k=true)(c:Bool)(hb:b=pre++(xz 4 k++rest))(hn:n=pre.length):wk b (n,c)=(k,(n+4,c)):=by
 subst hb;exact SJ pre rest k hk c hn
theorem SL{b pre rest:List Int}{k:Int}{n:Nat}(hk:Go.Mem.qU k)(c:Bool)(hb:b=pre++(xz 8 k++rest))(hn:n=pre.length):W3 b (n,c)=(k,(n+8,c)):=by
 subst hb;exact SK pre rest k hk c hn
theorem Uq(a m:Int):(128+a%8*8+m%8)/64=2/\(128+a%8*8+m%8)/8%8=a%8/\(128+a%8*8+m%8)%8=m%8:=by
 omega
theorem Cg{bs pre rest:List Int}{a m k w:Int}(a0:0<=a)(a1:a<16)(b0:0<=m)(b1:m<16)(hk:Go.Ar.zM k=true)(ha:w/4%2=1 ↔ 8<=a)(hb:w%2=1 ↔ 8<=m)(c:Bool){n:Nat}(he:bs=pre++(u1 a m k++rest))(hn:n=pre.length) :
  uy bs w (n,c)=(⟨a,m,true,false,k⟩,(n+(u1 a m k).length,c)):=by
 have t:=Uq a m;have t2:¬(128+a%8*8+m%8)/64=3:=by omega
 have r1:qP (128+a%8*8+m%8) w=a:=fL (b:=m) a0 a1 ha t.2.1;have r2:Y3 (128+a%8*8+m%8) w=m:=Hg b0 b1 hb t.2.2;unfold u1 VD at he ⊢;unfold uy;by_cases hm:m%8=4
 ·rw[aah hm]at he ⊢;have h1:zw bs (n,c)=(128+a%8*8+m%8,(n+1,c)):=j0 (pre:=pre) (rest:=36::(xz 4 k++rest)) c (by rw[he];rfl) hn;have h2:zw bs (n+1,c)=(36,(n+1+1,c)):=j0 (pre:=pre++[128+a%8*8+m%8]) (rest:=xz 4 k++rest) c (by rw[he];simp) (by simp[hn]);have h3:wk bs (n+1+1,c)=(k,(n+1+1+4,c)):=Ym (pre:=pre++[128+a%8*8+m%8,36]) (rest:=rest) hk c (by rw[he];simp) (by simp[hn])
  have h4:iB bs m (n+1,c)=(n+1+1,c):=by
   unfold iB zU;rw[aah hm,h2];simp
  simp only[h1,t.1,t2,ab1,abZ,r1,r2,h4,h3,aaB,abc,abH,wW];simp
 ·rw[aae hm]at he ⊢;have h1:zw bs (n,c)=(128+a%8*8+m%8,(n+1,c)):=j0 (pre:=pre) (rest:=xz 4 k++rest) c (by rw[he];rfl) hn;have h3:wk bs (n+1,c)=(k,(n+1+4,c)):=Ym (pre:=pre++[128+a%8*8+m%8]) (rest:=rest) hk c (by rw[he];simp) (by simp[hn])
  have h4:iB bs m (n+1,c)=(n+1,c):=by
   unfold iB;rw[aae hm]
  simp only[h1,t.1,t2,ab1,abZ,r1,r2,h4,h3,aaB,abc,abH,wW];simp
section
variable {bs rest:List Int}{w o a b m k s2:Int}{n:Nat}{c:Bool}
theorem Qk(hw:w=72\/w=73\/w=76\/w=77)(he:bs=w::rest):xM bs=((Yk bs w (1,false)).1,decide ((Yk bs w (1,false)).1.op=6),(Yk bs w (1,false)).2):=by
 have h1:zw bs (0,false)=(w,(1,false)):=j0 (pre:=[]) false he rfl;unfold xM;simp only[h1];rw[aae (by omega),aae (by omega),aae (by omega),aae (by omega),aah hw]
theorem pR(hw:w=64\/w=65\/w=68\/w=69)(he:bs=w::rest):xM bs=((jZ bs w (1,false)).1,false,(jZ bs w (1,false)).2):=by
 have h1:zw bs (0,false)=(w,(1,false)):=j0 (pre:=[]) false he rfl;unfold xM;simp only[h1];rw[aae (by omega),aae (by omega),aae (by omega),aae (by omega),aae (by omega),aah hw]
theorem CC(he:bs=w::o::rest)(h1:¬(184<=o/\o<=191))(h2:¬o=153)(h3:¬o=237)(h4:¬o=239)(h5:¬o=15):Yk bs w (1,false)=uE bs w o 0 (2,false):=by
 have e:zw bs (1,false)=(o,(2,false)):=j0 (pre:=[w]) false he rfl;unfold Yk;simp only[e];rw[aae h1,aae h2,aae h3,aae h4,aae h5]
theorem Lr(he:bs=w::15::s2::rest):Yk bs w (1,false)=uE bs w 15 s2 (3,false):=by
 have e:zw bs (1,false)=(15,(2,false)):=j0 (pre:=[w]) false he rfl;have e2:zw bs (2,false)=(s2,(3,false)):=j0 (pre:=[w,15]) false he rfl;unfold Yk;simp only[e,e2];rw[aae (by decide),aae (by decide),aae (by decide),aae (by decide),abZ]
theorem oU(h:uy bs w (n,c)=(⟨a,b,false,false,0⟩,(n+1,c))):uE bs w o s2 (n,c)=qR bs o s2 ⟨a,b,false,false,0⟩ (n+1,c):=by
 unfold uE;simp only[h];rw[aae (by simp),aae (by simp)]
theorem oT{l:Nat}(h:uy bs w (n,c)=(⟨a,b,true,false,k⟩,(n+l,c))):uE bs w o s2 (n,c)=uz o s2 ⟨a,b,true,false,k⟩ (n+l,c):=by
 unfold uE;simp only[h];rw[aae (by simp),abZ]
theorem qf(a0:0<=a)(a1:a<16)(b0:0<=b)(b1:b<16)(he:bs=zH 72 a b::o::xB a b::rest)(h1:¬(184<=o/\o<=191))(h2:¬o=153)(h3:¬o=237)(h4:¬o=239)(h5:¬o=15) :
  xM bs=((qR bs o 0 ⟨a,b,false,false,0⟩ (3,false)).1,decide ((qR bs o 0 ⟨a,b,false,false,0⟩ (3,false)).1.op=6),(qR bs o 0 ⟨a,b,false,false,0⟩ (3,false)).2):=by
 have r:=fP a b;have q:=Ch (pre:=[zH 72 a b,o]) (rest:=rest) a0 a1 b0 b1 r.2.1 r.2.2 false (n:=2) rfl;have q:uy bs (zH 72 a b) (2,false)=(⟨a,b,false,false,0⟩,(3,false)):=by rw[he];exact q
 rw[Qk r.1 he,CC he h1 h2 h3 h4 h5,oU q]
theorem rJ(a0:0<=a)(a1:a<16)(b0:0<=b)(b1:b<16)(he:bs=zH 72 a b::15::s2::xB a b::rest) :
  xM bs=((qR bs 15 s2 ⟨a,b,false,false,0⟩ (4,false)).1,decide ((qR bs 15 s2 ⟨a,b,false,false,0⟩ (4,false)).1.op=6),(qR bs 15 s2 ⟨a,b,false,false,0⟩ (4,false)).2):=by
 have r:=fP a b;have q:=Ch (pre:=[zH 72 a b,15,s2]) (rest:=rest) a0 a1 b0 b1 r.2.1 r.2.2 false (n:=3) rfl;have q:uy bs (zH 72 a b) (3,false)=(⟨a,b,false,false,0⟩,(4,false)):=by rw[he];exact q
 rw[Qk r.1 he,Lr he,oU q]
end
section
variable {rest:List Int}{r m k:Int}(r0:0<=r)(r1:r<16)(m0:0<=m)(m1:m<16)
theorem zbo(r0:0<=r)(r1:r<16)(m0:0<=m)(m1:m<16):xM (ze ⟨1,r,m,0,0,0,0⟩ 0++rest)=(⟨1,r,m,0,0,0,0⟩,false,(3,false)):=by
 have e:ze ⟨1,r,m,0,0,0,0⟩ 0++rest=zH 72 m r::137::xB m r::rest:=rfl;rw[qf m0 m1 r0 r1 e (by decide) (by decide) (by decide) (by decide) (by decide)];rfl
theorem S6(r0:0<=r)(r1:r<16)(m0:0<=m)(m1:m<16):xM (ze ⟨15,r,m,0,0,0,0⟩ 0++rest)=(⟨15,r,m,0,0,0,0⟩,false,(3,false)):=by
 have e:ze ⟨15,r,m,0,0,0,0⟩ 0++rest=zH 72 m r::57::xB m r::rest:=rfl;rw[qf m0 m1 r0 r1 e (by decide) (by decide) (by decide) (by decide) (by decide)];rfl
theorem SZ(r0:0<=r)(r1:r<16)(m0:0<=m)(m1:m<16):xM (ze ⟨10,r,m,4,0,0,0⟩ 0++rest)=(⟨10,r,m,4,0,0,0⟩,false,(3,false)):=by
 have e:ze ⟨10,r,m,4,0,0,0⟩ 0++rest=zH 72 r m::99::xB r m::rest:=rfl;rw[qf r0 r1 m0 m1 e (by decide) (by decide) (by decide) (by decide) (by decide)];rfl
theorem PO(r0:0<=r)(r1:r<16)(m0:0<=m)(m1:m<16):xM (ze ⟨10,r,m,3,0,0,0⟩ 0++rest)=(⟨10,r,m,3,0,0,0⟩,false,(4,false)):=by
 have e:ze ⟨10,r,m,3,0,0,0⟩ 0++rest=zH 72 r m::15::190::xB r m::rest:=rfl;rw[rJ r0 r1 m0 m1 e];rfl
end
section
variable {rest:List Int}{r m k s:Int}
theorem zbs(r0:0<=r)(r1:r<16)(m0:0<=m)(m1:m<16)(hs:s=11\/s=12\/s=16\/s=17\/s=18):xM (ze ⟨7,r,m,s,0,0,0⟩ 0++rest)=(⟨7,r,m,s,0,0,0⟩,false,(3,false)):=by
 have e:∀s:Int,¬s=13->ze ⟨7,r,m,s,0,0,0⟩ 0++rest=zH 72 m r::kY s::xB m r::rest:=λs h=>by
  have:ze ⟨7,r,m,s,0,0,0⟩ 0=if s=13 then [zH 72 r m,15,175,xB r m] else [zH 72 m r,kY s,xB m r]:=rfl;rw[this,aae h];rfl
 rcases hs with rfl|rfl|rfl|rfl|rfl <;>
  (rw[qf m0 m1 r0 r1 (e _ (by decide)) (by decide) (by decide) (by decide) (by decide) (by decide)];rfl)
theorem Tf(r0:0<=r)(r1:r<16)(m0:0<=m)(m1:m<16):xM (ze ⟨7,r,m,13,0,0,0⟩ 0++rest)=(⟨7,r,m,13,0,0,0⟩,false,(4,false)):=by
 have e:ze ⟨7,r,m,13,0,0,0⟩ 0++rest=zH 72 r m::15::175::xB r m::rest:=rfl;rw[rJ r0 r1 m0 m1 e];rfl
theorem zbu(r0:0<=r)(r1:r<16)(hs:s=1\/s=2):xM (ze ⟨9,r,0,s,0,0,0⟩ 0++rest)=(⟨9,r,0,s,0,0,0⟩,false,(3,false)):=by
 rcases hs with rfl|rfl
 ·have e:ze ⟨9,r,0,1,0,0,0⟩ 0++rest=zH 72 3 r::247::xB 3 r::rest:=rfl;rw[qf (by decide) (by decide) r0 r1 e (by decide) (by decide) (by decide) (by decide) (by decide)];rfl
 ·have e:ze ⟨9,r,0,2,0,0,0⟩ 0++rest=zH 72 2 r::247::xB 2 r::rest:=rfl;rw[qf (by decide) (by decide) r0 r1 e (by decide) (by decide) (by decide) (by decide) (by decide)];rfl
theorem S5(m0:0<=m)(m1:m<16):xM (ze ⟨14,0,m,0,0,0,0⟩ 0++rest)=(⟨14,0,m,0,0,0,0⟩,false,(3,false)):=by
 have e:ze ⟨14,0,m,0,0,0,0⟩ 0++rest=zH 72 7 m::247::xB 7 m::rest:=rfl;rw[qf (by decide) (by decide) m0 m1 e (by decide) (by decide) (by decide) (by decide) (by decide)];rfl
theorem S4(r0:0<=r)(r1:r<16)(hs:s=19\/s=20):xM (ze ⟨12,r,0,s,0,0,0⟩ 0++rest)=(⟨12,r,0,s,0,0,0⟩,false,(3,false)):=by
 rcases hs with rfl|rfl
 ·have e:ze ⟨12,r,0,19,0,0,0⟩ 0++rest=zH 72 4 r::211::xB 4 r::rest:=rfl;rw[qf (by decide) (by decide) r0 r1 e (by decide) (by decide) (by decide) (by decide) (by decide)];rfl
 ·have e:ze ⟨12,r,0,20,0,0,0⟩ 0++rest=zH 72 7 r::211::xB 7 r::rest:=rfl;rw[qf (by decide) (by decide) r0 r1 e (by decide) (by decide) (by decide) (by decide) (by decide)];rfl
theorem S7(r0:0<=r)(r1:r<16)(hk:Go.Ar.zM k=true):xM (ze ⟨16,r,0,0,0,0,k⟩ 0++rest)=(⟨16,r,0,0,0,0,k⟩,false,(7,false)):=by
 have e:ze ⟨16,r,0,0,0,0,k⟩ 0++rest=zH 72 7 r::129::xB 7 r::(xz 4 k++rest):=rfl;have q:wk (zH 72 7 r::129::xB 7 r::(xz 4 k++rest)) (3,false)=(k,(7,false)):=Ym (pre:=[zH 72 7 r,129,xB 7 r]) hk false rfl rfl;rw[qf (by decide) (by decide) r0 r1 e (by decide) (by decide) (by decide) (by decide) (by decide),e];have p:qR (zH 72 7 r::129::xB 7 r::(xz 4 k++rest)) 129 0 ⟨7,r,false,false,0⟩ (3,false)=(⟨16,r,0,0,0,0,(wk (zH 72 7 r::129::xB 7 r::(xz 4 k++rest)) (3,false)).1⟩,(wk (zH 72 7 r::129::xB 7 r::(xz 4 k++rest)) (3,false)).2):=rfl;rw[p,q];rfl
theorem Cq(o:Int)(b2:Int)(hx:(o=13/\b2=153)\/(o=25/\b2=237)\/(o=26/\b2=239)):xM (ze ⟨o,0,0,0,0,0,0⟩ 0++rest)=(⟨o,0,0,0,0,0,0⟩,false,(2,false)):=by
 rcases hx with⟨rfl,rfl⟩|⟨rfl,rfl⟩|⟨rfl,rfl⟩ <;> rfl
theorem Tc:xM (ze ⟨22,0,0,0,0,0,0⟩ 0++rest)=(⟨22,0,0,0,0,0,0⟩,false,(1,false)):=rfl
end
end Go.En
