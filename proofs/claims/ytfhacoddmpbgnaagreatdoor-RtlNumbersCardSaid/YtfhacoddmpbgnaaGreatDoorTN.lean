/- A part of the proof. -/
import Derived.Test.YtfhacoddmpbgnaaGreatDoorTM
import Derived.Test.YtfhacoddmpbgnaaGreatDoorTI
import Derived.Test.YtfhacoddmpbgnaaGreatDoorTG
set_option linter.unusedVariables false
set_option linter.unusedSimpArgs false
set_option maxRecDepth 100000
namespace Go.Rm
open Go.Ai Go.Proofs Go.Mem
open Go.Rtl (yM Pg zA)
abbrev vv (a:V):Value := .agg #[.int .i64 a.k,.int .i64 a.n,.int .i64 a.b]
def YP (u:Value) (v:Value) (_:za):Prop:=v=u
theorem ZS {f:FuncId} {args:List Value} {h:za} {u:Value} (hs:fy u=true) (d:DC Tryz.prog f args h.lock (YP u)):xx Tryz.prog f args h u:=xx.of hs d
def w6 (o:Option V):Value := .tuple #[vv (o.getD v0),.bool o.isSome]
theorem ZQ (n:Int) (h:za):xx Tryz.prog 49 [.int .i64 n] h (vv (j1 n)):=ZS rfl ((Go.Mem.ZQ n h.lock).mono fun v h1 e=>e.1)
theorem mI (a:V) (h:za):xx Tryz.prog 119 [vv a] h (.bool (Kp a)):=Go.Mem.mI a h
theorem I9 (b n:Int) (h:za):xx Tryz.prog 86 [.int .i64 b,.int .i64 n] h (vv (CN b n)):=by
 apply ZS rfl
 apply Ix
 unfold Oe CN
 by_cases h1:b < 1
 ·simp -implicitDefEqProofs only [EE,↓nw,Value.cells,zf,if_true,Nat.reduceAdd,yU,zZ,zn,zI,xz,yo,h1];rfl
 ·simp -implicitDefEqProofs only [EE,↓nw,Value.cells,zf,if_true,if_false,Nat.reduceAdd,yU,zZ,zn,zI,xz,Bt,E0,h1];rfl
theorem xF (a:V) (h:za):xx Tryz.prog 114 [vv a] h (.bool (isInt a)):=by
 apply ZS rfl
 apply C6
 unfold ER isInt
 by_cases h1:a.k=1
 ·simp -implicitDefEqProofs only [EE,↓nw,Value.cells,if_true,Nat.reduceAdd,zZ,zC,zj,zn,xk,dY,h1]
  refine zi (by kernel_rfl) rfl (mI ⟨1,a.n,a.b⟩ _) ?_
  simp -implicitDefEqProofs only [EE]
  have:a=⟨1,a.n,a.b⟩:=by rw [<- h1]
  rw [<- this];simp [YP,h1]
 ·simp -implicitDefEqProofs only [EE,↓nw,Value.cells,zC,zj,xk,dY,h1];simp [YP]
theorem wX (a:V) (h:za):xx Tryz.prog 116 [vv a] h (.bool (wZ a)):=by
 apply ZS rfl
 apply C7
 unfold ES wZ
 by_cases h1:a.k=2
 ·simp -implicitDefEqProofs only [EE,↓nw,Value.cells,if_true,Nat.reduceAdd,zZ,zC,zj,zn,xk,dZ,h1]
  refine zi (by kernel_rfl) rfl (mI ⟨2,a.n,a.b⟩ _) ?_
  simp -implicitDefEqProofs only [EE]
  have:a=⟨2,a.n,a.b⟩:=by rw [<- h1]
  rw [<- this];simp [YP,h1]
 ·simp -implicitDefEqProofs only [EE,↓nw,Value.cells,zC,zj,xk,dZ,h1];simp [YP]
theorem Qn (b:Bool) (h:za):xx Tryz.prog 131 [.bool b] h (vv (Xq b)):=by
 apply ZS rfl
 apply Db
 unfold EZ Xq
 cases b with
 | true=>
   simp -implicitDefEqProofs only [EE,↓nw,Value.cells,xz,pX]
   refine zi (by kernel_rfl) rfl (ZQ 1 _) ?_
   simp -implicitDefEqProofs only [EE,zf,if_true,Nat.reduceAdd,yU,zZ,zn,zI];rfl
 | false=>
   simp -implicitDefEqProofs only [EE,↓nw,Value.cells,xz,pY]
   refine zi (by kernel_rfl) rfl (ZQ 0 _) ?_
   simp -implicitDefEqProofs only [EE,zf,if_true,Nat.reduceAdd,yU,zZ,zn,zI];rfl
theorem mN (op a b:Int) (h:za):xx Tryz.prog 115 [.int .i64 op,.int .i64 a,.int .i64 b] h (w6 (ks op a b)):=by
 apply ZS rfl
 apply Gy
 unfold Is
 by_cases o11:op=11
 ·subst o11
  simp -implicitDefEqProofs only [EE,↓nw,Value.cells,↓BK,xz,ph,yQ]
  refine zi (by kernel_rfl) rfl (ZQ (ZV (a + b)) _) ?_
  simp -implicitDefEqProofs only [EE,zf,if_true,Nat.reduceAdd,yU,zZ,zn,zI];rfl
 by_cases o12:op=12
 ·subst o12
  simp -implicitDefEqProofs only [EE,↓nw,Value.cells,↓BK,Int.reduceEq,xz,pf,yW,yQ]
  refine zi (by kernel_rfl) rfl (ZQ (ZV (a - b)) _) ?_
  simp -implicitDefEqProofs only [EE,zf,if_true,Nat.reduceAdd,yU,zZ,zn,zI];rfl
 by_cases o13:op=13
 ·subst o13
  simp -implicitDefEqProofs only [EE,↓nw,Value.cells,↓BK,Int.reduceEq,xz,pd,y5,yW,yQ]
  refine zi (by kernel_rfl) rfl (ZQ (ZV (a * b)) _) ?_
  simp -implicitDefEqProofs only [EE,zf,if_true,Nat.reduceAdd,yU,zZ,zn,zI];rfl
 by_cases o14:op=14
 ·subst o14
  by_cases b0:b=0
  ·simp -implicitDefEqProofs only [EE,nth,↓nw,Value.cells,↓BK,zf,if_true,Nat.reduceAdd,Int.reduceEq,yU,zZ,zn,zI,xz,yo,QV,ZF,ZG,ZH,jC,xg,y5,yW,yQ,xh,b0];simp [YP,w6,ks,v0]
  by_cases am:a = -9223372036854775808
  ·by_cases b1:b = -1
   ·simp -implicitDefEqProofs only [EE,nth,↓nw,Value.cells,↓BK,zf,if_true,Nat.reduceAdd,Int.reduceEq,Int.reduceNeg,yU,zZ,zn,zI,xz,yo,QV,ZF,ZG,ZH,jC,xg,y5,yW,yQ,xh,am,b1];simp [YP,w6,ks,v0]
   ·simp -implicitDefEqProofs only [EE,nth,↓nw,Value.cells,↓BK,zf,Nat.reduceAdd,Int.reduceEq,Int.reduceNeg,yU,zI,xz,yo,lh,QW,ZF,ZG,ZH,jC,xg,y5,yW,yQ,xh,b0,am,b1]
    refine zi (by kernel_rfl) rfl (ZQ (ZV (Int.tdiv (-9223372036854775808) b)) _) ?_
    simp -implicitDefEqProofs only [EE,zf,if_true,Nat.reduceAdd,Int.reduceNeg,yU,zZ,zn,zI]
    simp [YP,w6,ks,b0,b1]
  ·simp -implicitDefEqProofs only [EE,nth,↓nw,Value.cells,↓BK,zf,Nat.reduceAdd,Int.reduceEq,Int.reduceNeg,yU,zI,xz,yo,lh,QW,ZF,ZG,ZH,jC,xg,y5,yW,yQ,xh,b0,am]
   refine zi (by kernel_rfl) rfl (ZQ (ZV (a.tdiv b)) _) ?_
   simp -implicitDefEqProofs only [EE,zf,if_true,Nat.reduceAdd,yU,zZ,zn,zI]
   simp [YP,w6,ks,b0,am]
 by_cases o15:op=15
 ·subst o15
  by_cases b0:b=0
  ·simp -implicitDefEqProofs only [EE,nth,↓nw,Value.cells,↓BK,zf,if_true,Nat.reduceAdd,Int.reduceEq,yU,zZ,zn,zI,xz,yo,QV,ZF,ZG,ZH,jC,xg,y5,yW,yQ,xh,b0];simp [YP,w6,ks,v0]
  by_cases am:a = -9223372036854775808
  ·by_cases b1:b = -1
   ·simp -implicitDefEqProofs only [EE,nth,↓nw,Value.cells,↓BK,zf,if_true,Nat.reduceAdd,Int.reduceEq,Int.reduceNeg,yU,zZ,zn,zI,xz,yo,QV,ZF,ZG,ZH,jC,xg,y5,yW,yQ,xh,am,b1];simp [YP,w6,ks,v0]
   ·simp -implicitDefEqProofs only [EE,nth,↓nw,Value.cells,↓BK,zf,Nat.reduceAdd,Int.reduceEq,Int.reduceNeg,yU,zI,xz,yo,lj,QW,ZF,ZG,ZH,jC,xg,y5,yW,yQ,xh,b0,am,b1]
    refine zi (by kernel_rfl) rfl (ZQ ((Int.tmod (-9223372036854775808) b)) _) ?_
    simp -implicitDefEqProofs only [EE,zf,if_true,Nat.reduceAdd,Int.reduceNeg,yU,zZ,zn,zI]
    simp [YP,w6,ks,b0,b1]
  ·simp -implicitDefEqProofs only [EE,nth,↓nw,Value.cells,↓BK,zf,Nat.reduceAdd,Int.reduceEq,Int.reduceNeg,yU,zI,xz,yo,lj,QW,ZF,ZG,ZH,jC,xg,y5,yW,yQ,xh,b0,am]
   refine zi (by kernel_rfl) rfl (ZQ ((a.tmod b)) _) ?_
   simp -implicitDefEqProofs only [EE,zf,if_true,Nat.reduceAdd,yU,zZ,zn,zI]
   simp [YP,w6,ks,b0,am]
 by_cases o16:op=16
 ·subst o16
  simp -implicitDefEqProofs only [EE,nth,↓nw,Value.cells,↓BK,zf,Nat.reduceAdd,Int.reduceEq,yU,zI,xz,yo,o9,wT,xg,y5,yW,yQ,xh]
  refine zi (by kernel_rfl) rfl (ZQ (rm (· &&& ·) a b) _) ?_
  simp -implicitDefEqProofs only [EE,zf,if_true,Nat.reduceAdd,yU,zZ,zn,zI];rfl
 by_cases o17:op=17
 ·subst o17
  simp -implicitDefEqProofs only [EE,nth,↓nw,Value.cells,↓BK,zf,Nat.reduceAdd,Int.reduceEq,yU,zI,xz,yo,o8,vg,wT,xg,y5,yW,yQ,xh]
  refine zi (by kernel_rfl) rfl (ZQ (rm (· ||| ·) a b) _) ?_
  simp -implicitDefEqProofs only [EE,zf,if_true,Nat.reduceAdd,yU,zZ,zn,zI];rfl
 by_cases o18:op=18
 ·subst o18
  simp -implicitDefEqProofs only [EE,nth,↓nw,Value.cells,↓BK,zf,Nat.reduceAdd,Int.reduceEq,yU,zI,xz,yo,o7,vr,vg,wT,xg,y5,yW,yQ,xh]
  refine zi (by kernel_rfl) rfl (ZQ (rm (· ^^^ ·) a b) _) ?_
  simp -implicitDefEqProofs only [EE,zf,if_true,Nat.reduceAdd,yU,zZ,zn,zI];rfl
 by_cases o19:op=19
 ·subst o19
  by_cases b0:b < 0
  ·simp -implicitDefEqProofs only [EE,nth,↓nw,Value.cells,↓BK,zf,if_true,Nat.reduceAdd,Int.reduceEq,yU,zZ,zn,zI,xz,yo,QX,Yb,Ye,vP,vr,vg,wT,xg,y5,yW,yQ,xh,b0];simp [YP,w6,ks,v0,b0]
  by_cases b1:63 < b
  ·simp -implicitDefEqProofs only [EE,nth,↓nw,Value.cells,↓BK,zf,if_true,Nat.reduceAdd,Int.reduceEq,yU,zZ,zn,zI,xz,yo,QX,Yb,Ye,vP,vr,vg,wT,xg,y5,yW,yQ,xh,b0,b1];simp [YP,w6,ks,v0,b1]
  have b2:0<=b:=by omega
  have b3:min b.toNat 64=b.toNat:=by omega
  simp -implicitDefEqProofs only [EE,nth,↓nw,Value.cells,↓BK,zf,Nat.reduceAdd,Int.reduceEq,yU,zI,xz,yo,AX,dW,Yb,Ye,vP,vr,vg,wT,xg,y5,yW,yQ,xh,b0,b1,b2,IntKind.bits,b3]
  refine zi (by kernel_rfl) rfl (ZQ (ZV (a * 2 ^ b.toNat)) _) ?_
  simp -implicitDefEqProofs only [EE,zf,if_true,Nat.reduceAdd,yU,zZ,zn,zI]
  simp [YP,w6,ks,b0,b1]
 by_cases o20:op=20
 ·subst o20
  by_cases b0:b < 0
  ·simp -implicitDefEqProofs only [EE,nth,↓nw,Value.cells,↓BK,zf,if_true,Nat.reduceAdd,Int.reduceEq,yU,zZ,zn,zI,xz,yo,QX,Yb,Ye,vP,vr,vg,wT,xg,y5,yW,yQ,xh,b0];simp [YP,w6,ks,v0,b0]
  by_cases b1:63 < b
  ·simp -implicitDefEqProofs only [EE,nth,↓nw,Value.cells,↓BK,zf,if_true,Nat.reduceAdd,Int.reduceEq,yU,zZ,zn,zI,xz,yo,QX,Yb,Ye,vP,vr,vg,wT,xg,y5,yW,yQ,xh,b0,b1];simp [YP,w6,ks,v0,b1]
  have b2:0<=b:=by omega
  have b3:min b.toNat 64=b.toNat:=by omega
  simp -implicitDefEqProofs only [EE,nth,↓nw,Value.cells,↓BK,zf,Nat.reduceAdd,Int.reduceEq,yU,zI,xz,yo,oT,dW,Yb,Ye,vP,vr,vg,wT,xg,y5,yW,yQ,xh,b0,b1,b2,IntKind.bits,b3]
  refine zi (by kernel_rfl) rfl (ZQ (a.fdiv (2 ^ b.toNat)) _) ?_
  simp -implicitDefEqProofs only [EE,zf,if_true,Nat.reduceAdd,yU,zZ,zn,zI]
  simp [YP,w6,ks,b0,b1]
 by_cases o21:op=21
 ·subst o21
  simp -implicitDefEqProofs only [EE,nth,↓nw,Value.cells,↓BK,zf,Nat.reduceAdd,Int.reduceEq,yU,zI,xz,yo,oZ,Zt,vP,vr,vg,wT,xg,y5,yW,yQ,xh]
  refine zi (by kernel_rfl) rfl (Qn (decide (a=b)) _) ?_
  simp -implicitDefEqProofs only [EE,zf,if_true,Nat.reduceAdd,yU,zZ,zn,zI];rfl
 by_cases o22:op=22
 ·subst o22
  simp -implicitDefEqProofs only [EE,nth,↓nw,Value.cells,↓BK,zf,Nat.reduceAdd,Int.reduceEq,yU,zI,xz,yo,oY,Yd,Zt,vP,vr,vg,wT,xg,y5,yW,yQ,xh]
  refine zi (by kernel_rfl) rfl (Qn (!decide (a=b)) _) ?_
  simp -implicitDefEqProofs only [EE,zf,if_true,Nat.reduceAdd,yU,zZ,zn,zI];rfl
 by_cases o23:op=23
 ·subst o23
  simp -implicitDefEqProofs only [EE,nth,↓nw,Value.cells,↓BK,zf,Nat.reduceAdd,Int.reduceEq,yU,zI,xz,yo,oX,XE,Yd,Zt,vP,vr,vg,wT,xg,y5,yW,yQ,xh]
  refine zi (by kernel_rfl) rfl (Qn (decide (a < b)) _) ?_
  simp -implicitDefEqProofs only [EE,zf,if_true,Nat.reduceAdd,yU,zZ,zn,zI];rfl
 by_cases o24:op=24
 ·subst o24
  simp -implicitDefEqProofs only [EE,nth,↓nw,Value.cells,↓BK,zf,Nat.reduceAdd,Int.reduceEq,yU,zI,xz,yo,oW,VY,XE,Yd,Zt,vP,vr,vg,wT,xg,y5,yW,yQ,xh]
  refine zi (by kernel_rfl) rfl (Qn (decide (a<=b)) _) ?_
  simp -implicitDefEqProofs only [EE,zf,if_true,Nat.reduceAdd,yU,zZ,zn,zI];rfl
 by_cases o25:op=25
 ·subst o25
  simp -implicitDefEqProofs only [EE,nth,↓nw,Value.cells,↓BK,zf,Nat.reduceAdd,Int.reduceEq,yU,zI,xz,yo,oV,KY,VY,XE,Yd,Zt,vP,vr,vg,wT,xg,y5,yW,yQ,xh]
  refine zi (by kernel_rfl) rfl (Qn (decide (b < a)) _) ?_
  simp -implicitDefEqProofs only [EE,zf,if_true,Nat.reduceAdd,yU,zZ,zn,zI];rfl
 by_cases o26:op=26
 ·subst o26
  simp -implicitDefEqProofs only [EE,nth,↓nw,Value.cells,↓BK,zf,Nat.reduceAdd,Int.reduceEq,yU,zI,xz,yo,oU,dX,KY,VY,XE,Yd,Zt,vP,vr,vg,wT,xg,y5,yW,yQ,xh]
  refine zi (by kernel_rfl) rfl (Qn (decide (b<=a)) _) ?_
  simp -implicitDefEqProofs only [EE,zf,if_true,Nat.reduceAdd,yU,zZ,zn,zI];rfl
 simp -implicitDefEqProofs only [EE,nth,↓nw,Value.cells,↓BK,zf,if_true,Nat.reduceAdd,yU,zZ,zn,zI,xz,yo,dX,KY,VY,XE,Yd,Zt,vP,vr,vg,wT,xg,y5,yW,yQ,xh,o11,o12,o13,o14,o15,o16,o17,o18,o19,o20,o21,o22,o23,o24,o25,o26]
 simp [YP,w6,ks,v0,o11,o12,o13,o14,o15,o16,o17,o18,o19,o20,o21,o22,o23,o24,o25,o26]
theorem D5 (a:V):((a.k == (1:Int)) && ((a.n == (0:Int)) && (a.b == (0:Int))))=decide (a=j1 0):=TE a (j1 0)
theorem qQ (op:Int) (a b:V) (h:za):xx Tryz.prog 117 [.int .i64 op,vv a,vv b] h (w6 (vV op a b)):=by
 apply ZS rfl
 apply C0
 unfold EI
 simp -implicitDefEqProofs only [EE,↓nw,Value.cells,↓BK,if_true,Nat.reduceAdd,zZ,zn,xz]
 refine zi (by kernel_rfl) rfl (wX a _) ?_
 have g4:(((h.lock.push (.cells [.int .i64 a.k,.int .i64 a.n,.int .i64 a.b] 69)).push (.cells [.int .i64 b.k,.int .i64 b.n,.int .i64 b.b] 69)).push (.cells [.int .i64 0,.int .i64 0,.int .i64 0] 69)).get h.next=some (.cells [.int .i64 a.k,.int .i64 a.n,.int .i64 a.b] 69):=by
  rw [zt (by show h.next < h.next + 1 + 1;omega),zt (by show h.next < h.next + 1;omega)];exact zo
 have g5:(((h.lock.push (.cells [.int .i64 a.k,.int .i64 a.n,.int .i64 a.b] 69)).push (.cells [.int .i64 b.k,.int .i64 b.n,.int .i64 b.b] 69)).push (.cells [.int .i64 0,.int .i64 0,.int .i64 0] 69)).get (h.next + 1)=some (.cells [.int .i64 b.k,.int .i64 b.n,.int .i64 b.b] 69):=by
  rw [zt (by show h.next + 1 < h.next + 1 + 1;omega)];exact zo
 have g6:(((h.lock.push (.cells [.int .i64 a.k,.int .i64 a.n,.int .i64 a.b] 69)).push (.cells [.int .i64 b.k,.int .i64 b.n,.int .i64 b.b] 69)).push (.cells [.int .i64 0,.int .i64 0,.int .i64 0] 69)).get (h.next + 1 + 1)=some (.cells [.int .i64 0,.int .i64 0,.int .i64 0] 69):=zo
 have r6:(((h.lock.push (.cells [.int .i64 a.k,.int .i64 a.n,.int .i64 a.b] 69)).push (.cells [.int .i64 b.k,.int .i64 b.n,.int .i64 b.b] 69)).push (.cells [.int .i64 0,.int .i64 0,.int .i64 0] 69)).ro<=h.next + 1 + 1:=by show h.next<=h.next + 1 + 1;omega
 generalize (((h.lock.push (.cells [.int .i64 a.k,.int .i64 a.n,.int .i64 a.b] 69)).push (.cells [.int .i64 b.k,.int .i64 b.n,.int .i64 b.b] 69)).push (.cells [.int .i64 0,.int .i64 0,.int .i64 0] 69))=H at g4 g5 g6 r6 ⊢
 have g2:∀ v h',v=Value.tuple #[vv (Xq (decide (a=b) == decide (op=21))),.bool true]->((wZ a && wZ b) || ((wZ a && decide (b=j1 0)) || (decide (a=j1 0) && wZ b)))=true->YP (w6 (vV op a b)) v h':=by
  intro v h' e1 e2
  subst e1
  unfold vV
  rw [if_pos e2];rfl
 have g1:∀ h',((wZ a && wZ b) || ((wZ a && decide (b=j1 0)) || (decide (a=j1 0) && wZ b)))=false->YP (w6 (vV op a b)) (.tuple #[vv v0,.bool false]) h':=by
  intro h' e2
  unfold vV
  rw [if_neg (by rw [e2];decide)];rfl
 have yes:∀ J,((wZ a && wZ b) || ((wZ a && decide (b=j1 0)) || (decide (a=j1 0) && wZ b)))=true->dR (.pointer (some ⟨h.next,0,none⟩)) H (.pointer (some ⟨h.next + 1,0,none⟩)) (.int .i64 op) (.pointer (some ⟨h.next + 1 + 1,0,none⟩)) (YP (w6 (vV op a b))) J:=by
  intro J e
  simp -implicitDefEqProofs only [EE,if_true,Nat.reduceAdd,zZ,zn,R6,Vy,dR,g4,g5]
  rw [TE a b]
  refine zi (by kernel_rfl) rfl (Qn _ _) ?_
  simp -implicitDefEqProofs only [EE,zf,if_true,Nat.reduceAdd,yU,zZ,zn,zI,g6,r6]
  exact g2 _ _ rfl e
 have no:∀ vs,((wZ a && wZ b) || ((wZ a && decide (b=j1 0)) || (decide (a=j1 0) && wZ b)))=false->dU (.pointer (some ⟨h.next + 1 + 1,0,none⟩)) (YP (w6 (vV op a b))) vs H:=by
  intro vs e
  simp -implicitDefEqProofs only [EE,zf,if_true,Nat.reduceAdd,yU,zZ,zn,zI,yo,dU,g6,r6]
  exact g1 _ e
 cases pa:wZ a with
 | true=>
   simp -implicitDefEqProofs only [EE,if_true,Nat.reduceAdd,zZ,zn,dS,g5]
   refine zi (by kernel_rfl) rfl (wX b _) ?_
   cases pb:wZ b with
   | true=>
     simp -implicitDefEqProofs only [EE,nth,KN]
     exact yes _ (by rw [pa,pb];rfl)
   | false=>
     simp -implicitDefEqProofs only [EE,if_true,Nat.reduceAdd,zZ,zn,dQ,KN,g4]
     refine qm (by kernel_rfl) rfl (wX a _).dc ?_
     rintro _ _ ⟨rfl,rfl⟩
     rw [pa]
     simp -implicitDefEqProofs only [EE,if_true,Nat.reduceAdd,zZ,zn,dP,g5]
     refine vn (by kernel_rfl) rfl (ZQ 0 _) ?_
     simp -implicitDefEqProofs only [EE,Vy,j1]
     rw [D5 b]
     cases eb:decide (b=j1 0) with
     | true=>
       simp -implicitDefEqProofs only [EE,nth,KM]
       exact yes _ (by rw [pa,pb,eb];rfl)
     | false=>
       simp -implicitDefEqProofs only [EE,if_true,Nat.reduceAdd,zZ,zn,KM,g4]
       refine vn (by kernel_rfl) rfl (ZQ 0 _) ?_
       simp -implicitDefEqProofs only [EE,Vy,dO,j1]
       rw [D5 a]
       cases ea:decide (a=j1 0) with
       | true=>
         simp -implicitDefEqProofs only [EE,if_true,Nat.reduceAdd,zZ,zn,g5]
         refine qm (by kernel_rfl) rfl (wX b _).dc ?_
         rintro _ _ ⟨rfl,rfl⟩
         rw [pb]
         simp -implicitDefEqProofs only [EE,nth]
         exact no _ (by rw [pa,pb,eb,ea];rfl)
       | false=>
         simp -implicitDefEqProofs only [EE,nth]
         exact no _ (by rw [pa,pb,eb,ea];rfl)
 | false=>
   simp -implicitDefEqProofs only [EE,if_true,Nat.reduceAdd,zZ,zn,dQ,KN,dS,g4]
   refine qm (by kernel_rfl) rfl (wX a _).dc ?_
   rintro _ _ ⟨rfl,rfl⟩
   rw [pa]
   simp -implicitDefEqProofs only [EE,if_true,Nat.reduceAdd,zZ,zn,KM,dP,g4]
   refine vn (by kernel_rfl) rfl (ZQ 0 _) ?_
   simp -implicitDefEqProofs only [EE,Vy,dO,j1]
   rw [D5 a]
   cases ea:decide (a=j1 0) with
   | true=>
     simp -implicitDefEqProofs only [EE,if_true,Nat.reduceAdd,zZ,zn,g5]
     refine qm (by kernel_rfl) rfl (wX b _).dc ?_
     rintro _ _ ⟨rfl,rfl⟩
     cases pb:wZ b with
     | true=>
       simp -implicitDefEqProofs only [EE,nth]
       exact yes _ (by rw [pa,pb,ea];cases decide (b=j1 0) <;> rfl)
     | false=>
       simp -implicitDefEqProofs only [EE,nth]
       exact no _ (by rw [pa,pb,ea];rfl)
   | false=>
     simp -implicitDefEqProofs only [EE,nth]
     exact no _ (by rw [pa,ea];rfl)
theorem SF (a:Int):Wz Tryz.prog .xor (.int .i64 a)=some (.int .i64 (notM a)):=rfl
theorem TA (op:Int) (a:V) (h:za):xx Tryz.prog 79 [.int .i64 op,vv a] h (w6 (nY op a)):=by
 apply ZS rfl
 apply M8
 unfold Ry
 simp -implicitDefEqProofs only [EE,↓nw,Value.cells,if_true,Nat.reduceAdd,zZ,zn,xz]
 refine zi (by kernel_rfl) rfl (xF a _) ?_
 have g3:((h.lock.push (.cells [.int .i64 a.k,.int .i64 a.n,.int .i64 a.b] 69)).push (.cells [.int .i64 0,.int .i64 0,.int .i64 0] 69)).get h.next=some (.cells [.int .i64 a.k,.int .i64 a.n,.int .i64 a.b] 69):=by
  rw [zt (by show h.next < h.next + 1;omega)];exact zo
 have g4:((h.lock.push (.cells [.int .i64 a.k,.int .i64 a.n,.int .i64 a.b] 69)).push (.cells [.int .i64 0,.int .i64 0,.int .i64 0] 69)).get (h.next + 1)=some (.cells [.int .i64 0,.int .i64 0,.int .i64 0] 69):=zo
 have r4:((h.lock.push (.cells [.int .i64 a.k,.int .i64 a.n,.int .i64 a.b] 69)).push (.cells [.int .i64 0,.int .i64 0,.int .i64 0] 69)).ro<=h.next + 1:=by show h.next<=h.next + 1;omega
 generalize ((h.lock.push (.cells [.int .i64 a.k,.int .i64 a.n,.int .i64 a.b] 69)).push (.cells [.int .i64 0,.int .i64 0,.int .i64 0] 69))=H at g3 g4 r4 ⊢
 cases hi:isInt a with
 | false=>
   simp -implicitDefEqProofs only [EE,zf,if_true,Nat.reduceAdd,yU,zZ,zn,zI,yo,Ii,g4,r4]
   simp [YP,w6,nY,hi,v0]
 | true=>
   simp -implicitDefEqProofs only [EE,↓BK]
   by_cases o1:op=1
   ·subst o1
    simp -implicitDefEqProofs only [EE,zC,wj,xo,Im,dM,g3]
    refine zi (by kernel_rfl) rfl (ZQ (ZV (0 - a.n)) _) ?_
    simp -implicitDefEqProofs only [EE,zf,if_true,Nat.reduceAdd,yU,zZ,zn,zI,g4,r4]
    simp [YP,w6,nY,hi,ZV]
   by_cases o2:op=2
   ·subst o2
    simp -implicitDefEqProofs only [EE,Int.reduceEq,zC,wj,xo,Il,iX,dM,g3,SF]
    refine zi (by kernel_rfl) rfl (ZQ (notM a.n) _) ?_
    simp -implicitDefEqProofs only [EE,zf,if_true,Nat.reduceAdd,yU,zZ,zn,zI,g4,r4]
    simp [YP,w6,nY,hi]
   by_cases o3:op=3
   ·subst o3
    simp -implicitDefEqProofs only [EE,Int.reduceEq,zC,wj,ZJ,Ln,xo,Ik,sD,iX,dM,g3]
    refine zi (by kernel_rfl) rfl (ZQ (ZV (IntKind.wrap .i8 a.n)) _) ?_
    simp -implicitDefEqProofs only [EE,zf,if_true,Nat.reduceAdd,yU,zZ,zn,zI,g4,r4]
    simp [YP,w6,nY,hi,ZV]
   by_cases o4:op=4
   ·subst o4
    simp -implicitDefEqProofs only [EE,Int.reduceEq,zC,wj,Xv,Nm,xo,Ij,CY,sD,iX,dM,g3]
    refine zi (by kernel_rfl) rfl (ZQ (ZV (IntKind.wrap .i32 a.n)) _) ?_
    simp -implicitDefEqProofs only [EE,zf,if_true,Nat.reduceAdd,yU,zZ,zn,zI,g4,r4]
    simp [YP,w6,nY,hi,ZV]
   simp -implicitDefEqProofs only [EE,zf,if_true,Nat.reduceAdd,yU,zZ,zn,zI,yo,CY,sD,iX,dM,EG,g4,r4,o1,o2,o3,o4]
   simp [YP,w6,nY,hi,v0,o1,o2,o3,o4]
theorem xq (o:Option V):w6 o = .tuple #[.agg #[.int .i64 (o.getD v0).k,.int .i64 (o.getD v0).n,.int .i64 (o.getD v0).b],.bool o.isSome]:=rfl
theorem kinds (a:V):(isInt a=true/\wZ a=false)\/(isInt a=false/\wZ a=true)\/(isInt a=false/\wZ a=false):=by
 unfold isInt wZ
 by_cases h1:a.k=1
 ·have h2:¬ a.k=2:=by omega
  cases Kp a <;> simp [h1]
 ·by_cases h2:a.k=2
  ·cases Kp a <;> simp [h2]
  ·simp [h1,h2]
theorem Lf (op:Int) (a b:V) (h:za):xx Tryz.prog 82 [.int .i64 op,vv a,vv b] h (w6 (xp op a b)):=by
 apply ZS rfl
 apply H8
 unfold N8
 simp -implicitDefEqProofs only [EE,↓nw,Value.cells,↓BK,if_true,Nat.reduceAdd,zZ,zn,xz,Ah]
 refine zi (by kernel_rfl) rfl (xF a _) ?_
 have g4:(((h.lock.push (.cells [.int .i64 a.k,.int .i64 a.n,.int .i64 a.b] 69)).push (.cells [.int .i64 b.k,.int .i64 b.n,.int .i64 b.b] 69)).push (.cells [.int .i64 0,.int .i64 0,.int .i64 0] 69)).get h.next=some (.cells [.int .i64 a.k,.int .i64 a.n,.int .i64 a.b] 69):=by
  rw [zt (by show h.next < h.next + 1 + 1;omega),zt (by show h.next < h.next + 1;omega)];exact zo
 have g5:(((h.lock.push (.cells [.int .i64 a.k,.int .i64 a.n,.int .i64 a.b] 69)).push (.cells [.int .i64 b.k,.int .i64 b.n,.int .i64 b.b] 69)).push (.cells [.int .i64 0,.int .i64 0,.int .i64 0] 69)).get (h.next + 1)=some (.cells [.int .i64 b.k,.int .i64 b.n,.int .i64 b.b] 69):=by
  rw [zt (by show h.next + 1 < h.next + 1 + 1;omega)];exact zo
 have g6:(((h.lock.push (.cells [.int .i64 a.k,.int .i64 a.n,.int .i64 a.b] 69)).push (.cells [.int .i64 b.k,.int .i64 b.n,.int .i64 b.b] 69)).push (.cells [.int .i64 0,.int .i64 0,.int .i64 0] 69)).get (h.next + 1 + 1)=some (.cells [.int .i64 0,.int .i64 0,.int .i64 0] 69):=zo
 have r6:(((h.lock.push (.cells [.int .i64 a.k,.int .i64 a.n,.int .i64 a.b] 69)).push (.cells [.int .i64 b.k,.int .i64 b.n,.int .i64 b.b] 69)).push (.cells [.int .i64 0,.int .i64 0,.int .i64 0] 69)).ro<=h.next + 1 + 1:=by show h.next<=h.next + 1 + 1;omega
 generalize (((h.lock.push (.cells [.int .i64 a.k,.int .i64 a.n,.int .i64 a.b] 69)).push (.cells [.int .i64 b.k,.int .i64 b.n,.int .i64 b.b] 69)).push (.cells [.int .i64 0,.int .i64 0,.int .i64 0] 69))=H at g4 g5 g6 r6 ⊢
 have xa:(isInt a=true/\wZ a=false)\/(isInt a=false/\wZ a=true)\/(isInt a=false/\wZ a=false):=kinds a
 have xb:(isInt b=true/\wZ b=false)\/(isInt b=false/\wZ b=true)\/(isInt b=false/\wZ b=false):=kinds b
 by_cases o11:op=11
 ·subst o11
  rcases xa with ⟨ia,pa⟩ | ⟨ia,pa⟩ | ⟨ia,pa⟩ <;> rcases xb with ⟨ib,pb⟩ | ⟨ib,pb⟩ | ⟨ib,pb⟩
  ·have e:xp 11 a b=ks 11 a.n b.n:=by simp [xp,ia,ib]
   rw [e]
   simp -implicitDefEqProofs only [EE,if_true,Nat.reduceAdd,zZ,zn,zX,g5,ia]
   repeat (first | (refine zi (by kernel_rfl) rfl (xF b H) ?_;simp -implicitDefEqProofs only [EE,zC,wj,xo,VL,g4,g5,ia,ib]))
   refine zi (by kernel_rfl) rfl (mN _ a.n b.n H) ?_
   simp only [xq,EE,zf,if_true,Nat.reduceAdd,yU,zZ,zn,zI,KF,g6,r6];rfl
  ·simp -implicitDefEqProofs only [EE,if_true,Nat.reduceAdd,zZ,zn,zX,g5,ia]
   repeat (first | (refine zi (by kernel_rfl) rfl (xF a H) ?_;simp -implicitDefEqProofs only [EE,if_true,Nat.reduceAdd,zZ,zn,yq,g5,ia]) | (refine zi (by kernel_rfl) rfl (xF b H) ?_;simp -implicitDefEqProofs only [EE,if_true,Nat.reduceAdd,zZ,zn,yk,ym,g4,ia,ib]) | (refine zi (by kernel_rfl) rfl (wX a H) ?_;simp -implicitDefEqProofs only [EE,if_true,Nat.reduceAdd,zZ,zn,yr,yu,yj,g4,pa]) | (refine zi (by kernel_rfl) rfl (wX b H) ?_;simp -implicitDefEqProofs only [EE,zC,wj,zj,xo,w9,EA,g4,g5,pb]))
   refine zi (by kernel_rfl) rfl (I9 b.b (ZV (a.n + b.n)) H) ?_
   simp -implicitDefEqProofs only [EE,zf,if_true,Nat.reduceAdd,yU,zZ,zn,zI,g6,r6]
   simp [YP,w6,xp,ia,ib,pa,pb]
  ·simp -implicitDefEqProofs only [EE,if_true,Nat.reduceAdd,zZ,zn,zX,g5,ia]
   repeat (first | (refine zi (by kernel_rfl) rfl (xF a H) ?_;simp -implicitDefEqProofs only [EE,if_true,Nat.reduceAdd,zZ,zn,yq,g5,ia]) | (refine zi (by kernel_rfl) rfl (xF b H) ?_;simp -implicitDefEqProofs only [EE,if_true,Nat.reduceAdd,zZ,zn,yk,ym,g4,ia,ib]) | (refine zi (by kernel_rfl) rfl (wX a H) ?_;simp -implicitDefEqProofs only [EE,if_true,Nat.reduceAdd,zZ,zn,yr,yu,yj,g4,pa]) | (refine zi (by kernel_rfl) rfl (wX b H) ?_;simp -implicitDefEqProofs only [EE,zf,if_true,Nat.reduceAdd,Int.reduceEq,yU,zZ,zn,zI,yo,yX,yY,yZ,yR,yS,yy,wk,g6,r6,pb]))
   simp [YP,w6,xp,ia,ib,pa,pb,v0]
  ·simp -implicitDefEqProofs only [EE,if_true,Nat.reduceAdd,zZ,zn,yk,ym,zX,g4,ia]
   repeat (first | (refine zi (by kernel_rfl) rfl (xF b H) ?_;simp -implicitDefEqProofs only [EE,zC,wj,zj,xo,w9,Ag,g4,g5,ib]) | (refine zi (by kernel_rfl) rfl (wX a H) ?_;simp -implicitDefEqProofs only [EE,if_true,Nat.reduceAdd,zZ,zn,yj,g5,pa]))
   refine zi (by kernel_rfl) rfl (I9 a.b (ZV (a.n + b.n)) H) ?_
   simp -implicitDefEqProofs only [EE,zf,if_true,Nat.reduceAdd,yU,zZ,zn,zI,g6,r6]
   simp [YP,w6,xp,ia,ib,pa]
  ·simp -implicitDefEqProofs only [EE,if_true,Nat.reduceAdd,zZ,zn,yk,ym,zX,g4,ia]
   repeat (first | (refine zi (by kernel_rfl) rfl (xF a H) ?_;simp -implicitDefEqProofs only [EE,zf,if_true,Nat.reduceAdd,Int.reduceEq,yU,zZ,zn,zI,yo,yX,yY,yZ,yR,yS,yy,yq,wk,g6,r6,ia]) | (refine zi (by kernel_rfl) rfl (xF b H) ?_;simp -implicitDefEqProofs only [EE,if_true,Nat.reduceAdd,zZ,zn,yr,yu,g4,ib]) | (refine zi (by kernel_rfl) rfl (wX a H) ?_;simp -implicitDefEqProofs only [EE,if_true,Nat.reduceAdd,zZ,zn,yj,g5,pa]))
   simp [YP,w6,xp,ia,ib,pa,pb,v0]
  ·simp -implicitDefEqProofs only [EE,if_true,Nat.reduceAdd,zZ,zn,yk,ym,zX,g4,ia]
   repeat (first | (refine zi (by kernel_rfl) rfl (xF a H) ?_;simp -implicitDefEqProofs only [EE,zf,if_true,Nat.reduceAdd,Int.reduceEq,yU,zZ,zn,zI,yo,yX,yY,yZ,yR,yS,yy,yq,wk,g6,r6,ia]) | (refine zi (by kernel_rfl) rfl (xF b H) ?_;simp -implicitDefEqProofs only [EE,if_true,Nat.reduceAdd,zZ,zn,yr,yu,g4,ib]) | (refine zi (by kernel_rfl) rfl (wX a H) ?_;simp -implicitDefEqProofs only [EE,if_true,Nat.reduceAdd,zZ,zn,yj,g5,pa]))
   simp [YP,w6,xp,ia,ib,pa,pb,v0]
  ·simp -implicitDefEqProofs only [EE,if_true,Nat.reduceAdd,zZ,zn,yk,ym,zX,g4,ia]
   repeat (first | (refine zi (by kernel_rfl) rfl (xF a H) ?_;simp -implicitDefEqProofs only [EE,zf,if_true,Nat.reduceAdd,Int.reduceEq,yU,zZ,zn,zI,yo,yX,yY,yZ,yR,yS,yy,yq,wk,g6,r6,ia]) | (refine zi (by kernel_rfl) rfl (wX a H) ?_;simp -implicitDefEqProofs only [EE,if_true,Nat.reduceAdd,zZ,zn,yr,yu,yj,g4,pa]))
   simp [YP,w6,xp,ia,ib,pa,pb,v0]
  ·simp -implicitDefEqProofs only [EE,if_true,Nat.reduceAdd,zZ,zn,yk,ym,zX,g4,ia]
   repeat (first | (refine zi (by kernel_rfl) rfl (xF a H) ?_;simp -implicitDefEqProofs only [EE,zf,if_true,Nat.reduceAdd,Int.reduceEq,yU,zZ,zn,zI,yo,yX,yY,yZ,yR,yS,yy,yq,wk,g6,r6,ia]) | (refine zi (by kernel_rfl) rfl (wX a H) ?_;simp -implicitDefEqProofs only [EE,if_true,Nat.reduceAdd,zZ,zn,yr,yu,yj,g4,pa]))
   simp [YP,w6,xp,ia,ib,pa,pb,v0]
  ·simp -implicitDefEqProofs only [EE,if_true,Nat.reduceAdd,zZ,zn,yk,ym,zX,g4,ia]
   repeat (first | (refine zi (by kernel_rfl) rfl (xF a H) ?_;simp -implicitDefEqProofs only [EE,zf,if_true,Nat.reduceAdd,Int.reduceEq,yU,zZ,zn,zI,yo,yX,yY,yZ,yR,yS,yy,yq,wk,g6,r6,ia]) | (refine zi (by kernel_rfl) rfl (wX a H) ?_;simp -implicitDefEqProofs only [EE,if_true,Nat.reduceAdd,zZ,zn,yr,yu,yj,g4,pa]))
   simp [YP,w6,xp,ia,ib,pa,pb,v0]
 by_cases o12:op=12
 ·subst o12
  rcases xa with ⟨ia,pa⟩ | ⟨ia,pa⟩ | ⟨ia,pa⟩ <;> rcases xb with ⟨ib,pb⟩ | ⟨ib,pb⟩ | ⟨ib,pb⟩
  ·have e:xp 12 a b=ks 12 a.n b.n:=by simp [xp,ia,ib]
   rw [e]
   simp -implicitDefEqProofs only [EE,if_true,Nat.reduceAdd,zZ,zn,zX,g5,ia]
   repeat (first | (refine zi (by kernel_rfl) rfl (xF b H) ?_;simp -implicitDefEqProofs only [EE,zC,wj,xo,VL,g4,g5,ia,ib]))
   refine zi (by kernel_rfl) rfl (mN _ a.n b.n H) ?_
   simp only [xq,EE,zf,if_true,Nat.reduceAdd,yU,zZ,zn,zI,KF,g6,r6];rfl
  ·simp -implicitDefEqProofs only [EE,if_true,Nat.reduceAdd,zZ,zn,zX,g5,ia]
   repeat (first | (refine zi (by kernel_rfl) rfl (xF b H) ?_;simp -implicitDefEqProofs only [EE,if_true,Nat.reduceAdd,Int.reduceEq,zZ,zn,yS,yy,yq,yr,yu,yj,yk,ym,g4,ia,ib]) | (refine zi (by kernel_rfl) rfl (wX a H) ?_;simp -implicitDefEqProofs only [EE,zf,if_true,Nat.reduceAdd,Int.reduceEq,yU,zZ,zn,zI,yo,yX,yY,yZ,yR,wk,g6,r6,pa]))
   simp [YP,w6,xp,ia,ib,pa,pb,v0]
  ·simp -implicitDefEqProofs only [EE,if_true,Nat.reduceAdd,zZ,zn,zX,g5,ia]
   repeat (first | (refine zi (by kernel_rfl) rfl (xF b H) ?_;simp -implicitDefEqProofs only [EE,if_true,Nat.reduceAdd,Int.reduceEq,zZ,zn,yS,yy,yq,yr,yu,yj,yk,ym,g4,ia,ib]) | (refine zi (by kernel_rfl) rfl (wX a H) ?_;simp -implicitDefEqProofs only [EE,zf,if_true,Nat.reduceAdd,Int.reduceEq,yU,zZ,zn,zI,yo,yX,yY,yZ,yR,wk,g6,r6,pa]))
   simp [YP,w6,xp,ia,ib,pa,pb,v0]
  ·simp -implicitDefEqProofs only [EE,if_true,Nat.reduceAdd,Int.reduceEq,zZ,zn,yS,yy,yq,yr,yu,yj,yk,ym,zX,g4,ia]
   repeat (first | (refine zi (by kernel_rfl) rfl (xF b H) ?_;simp -implicitDefEqProofs only [EE,zC,wj,zj,xo,w9,Ez,g4,g5,ib]) | (refine zi (by kernel_rfl) rfl (wX a H) ?_;simp -implicitDefEqProofs only [EE,if_true,Nat.reduceAdd,zZ,zn,yR,g5,pa]))
   refine zi (by kernel_rfl) rfl (I9 a.b (ZV (a.n - b.n)) H) ?_
   simp -implicitDefEqProofs only [EE,zf,if_true,Nat.reduceAdd,yU,zZ,zn,zI,g6,r6]
   simp [YP,w6,xp,ia,ib,pa,pb]
  ·simp -implicitDefEqProofs only [EE,if_true,Nat.reduceAdd,Int.reduceEq,zZ,zn,yS,yy,yq,yr,yu,yj,yk,ym,zX,g4,ia]
   repeat (first | (refine zi (by kernel_rfl) rfl (xF b H) ?_;simp -implicitDefEqProofs only [EE,zf,if_true,Nat.reduceAdd,Int.reduceEq,yU,zZ,zn,zI,yo,yX,yY,yZ,wk,g6,r6,ib]) | (refine zi (by kernel_rfl) rfl (wX a H) ?_;simp -implicitDefEqProofs only [EE,if_true,Nat.reduceAdd,zZ,zn,yR,g5,pa]))
   simp [YP,w6,xp,ia,ib,pa,pb,v0]
  ·simp -implicitDefEqProofs only [EE,if_true,Nat.reduceAdd,Int.reduceEq,zZ,zn,yS,yy,yq,yr,yu,yj,yk,ym,zX,g4,ia]
   repeat (first | (refine zi (by kernel_rfl) rfl (xF b H) ?_;simp -implicitDefEqProofs only [EE,zf,if_true,Nat.reduceAdd,Int.reduceEq,yU,zZ,zn,zI,yo,yX,yY,yZ,wk,g6,r6,ib]) | (refine zi (by kernel_rfl) rfl (wX a H) ?_;simp -implicitDefEqProofs only [EE,if_true,Nat.reduceAdd,zZ,zn,yR,g5,pa]))
   simp [YP,w6,xp,ia,ib,pa,pb,v0]
  ·simp -implicitDefEqProofs only [EE,if_true,Nat.reduceAdd,Int.reduceEq,zZ,zn,yS,yy,yq,yr,yu,yj,yk,ym,zX,g4,ia]
   repeat (first | (refine zi (by kernel_rfl) rfl (wX a H) ?_;simp -implicitDefEqProofs only [EE,zf,if_true,Nat.reduceAdd,Int.reduceEq,yU,zZ,zn,zI,yo,yX,yY,yZ,yR,wk,g6,r6,pa]))
   simp [YP,w6,xp,ia,ib,pa,pb,v0]
  ·simp -implicitDefEqProofs only [EE,if_true,Nat.reduceAdd,Int.reduceEq,zZ,zn,yS,yy,yq,yr,yu,yj,yk,ym,zX,g4,ia]
   repeat (first | (refine zi (by kernel_rfl) rfl (wX a H) ?_;simp -implicitDefEqProofs only [EE,zf,if_true,Nat.reduceAdd,Int.reduceEq,yU,zZ,zn,zI,yo,yX,yY,yZ,yR,wk,g6,r6,pa]))
   simp [YP,w6,xp,ia,ib,pa,pb,v0]
  ·simp -implicitDefEqProofs only [EE,if_true,Nat.reduceAdd,Int.reduceEq,zZ,zn,yS,yy,yq,yr,yu,yj,yk,ym,zX,g4,ia]
   repeat (first | (refine zi (by kernel_rfl) rfl (wX a H) ?_;simp -implicitDefEqProofs only [EE,zf,if_true,Nat.reduceAdd,Int.reduceEq,yU,zZ,zn,zI,yo,yX,yY,yZ,yR,wk,g6,r6,pa]))
   simp [YP,w6,xp,ia,ib,pa,pb,v0]
 by_cases o21:op=21
 ·subst o21
  rcases xa with ⟨ia,pa⟩ | ⟨ia,pa⟩ | ⟨ia,pa⟩ <;> rcases xb with ⟨ib,pb⟩ | ⟨ib,pb⟩ | ⟨ib,pb⟩
  ·have e:xp 21 a b=ks 21 a.n b.n:=by simp [xp,ia,ib]
   rw [e]
   simp -implicitDefEqProofs only [EE,if_true,Nat.reduceAdd,zZ,zn,zX,g5,ia]
   repeat (first | (refine zi (by kernel_rfl) rfl (xF b H) ?_;simp -implicitDefEqProofs only [EE,zC,wj,xo,VL,g4,g5,ia,ib]))
   refine zi (by kernel_rfl) rfl (mN _ a.n b.n H) ?_
   simp only [xq,EE,zf,if_true,Nat.reduceAdd,yU,zZ,zn,zI,KF,g6,r6];rfl
  ·have e:xp 21 a b=vV 21 a b:=by simp [xp,ia,ib,pa,pb]
   rw [e]
   simp -implicitDefEqProofs only [EE,if_true,Nat.reduceAdd,zZ,zn,zX,g5,ia]
   repeat (first | (refine zi (by kernel_rfl) rfl (xF b H) ?_;simp -implicitDefEqProofs only [EE,if_true,Nat.reduceAdd,Int.reduceEq,zZ,zn,yX,yY,yZ,yR,yS,yy,yq,yr,yu,yj,yk,ym,g4,g5,ia,ib]))
   refine zi (by kernel_rfl) rfl (qQ _ a b H) ?_
   simp only [xq,EE,zf,if_true,Nat.reduceAdd,yU,zZ,zn,zI,uZ,g6,r6];rfl
  ·have e:xp 21 a b=vV 21 a b:=by simp [xp,ia,ib,pa,pb]
   rw [e]
   simp -implicitDefEqProofs only [EE,if_true,Nat.reduceAdd,zZ,zn,zX,g5,ia]
   repeat (first | (refine zi (by kernel_rfl) rfl (xF b H) ?_;simp -implicitDefEqProofs only [EE,if_true,Nat.reduceAdd,Int.reduceEq,zZ,zn,yX,yY,yZ,yR,yS,yy,yq,yr,yu,yj,yk,ym,g4,g5,ia,ib]))
   refine zi (by kernel_rfl) rfl (qQ _ a b H) ?_
   simp only [xq,EE,zf,if_true,Nat.reduceAdd,yU,zZ,zn,zI,uZ,g6,r6];rfl
  ·have e:xp 21 a b=vV 21 a b:=by simp [xp,ia,ib,pa,pb]
   rw [e]
   simp -implicitDefEqProofs only [EE,if_true,Nat.reduceAdd,Int.reduceEq,zZ,zn,yX,yY,yZ,yR,yS,yy,yq,yr,yu,yj,yk,ym,zX,g4,g5,ia]
   skip
   refine zi (by kernel_rfl) rfl (qQ _ a b H) ?_
   simp only [xq,EE,zf,if_true,Nat.reduceAdd,yU,zZ,zn,zI,uZ,g6,r6];rfl
  ·have e:xp 21 a b=vV 21 a b:=by simp [xp,ia,ib,pa,pb]
   rw [e]
   simp -implicitDefEqProofs only [EE,if_true,Nat.reduceAdd,Int.reduceEq,zZ,zn,yX,yY,yZ,yR,yS,yy,yq,yr,yu,yj,yk,ym,zX,g4,g5,ia]
   skip
   refine zi (by kernel_rfl) rfl (qQ _ a b H) ?_
   simp only [xq,EE,zf,if_true,Nat.reduceAdd,yU,zZ,zn,zI,uZ,g6,r6];rfl
  ·have e:xp 21 a b=vV 21 a b:=by simp [xp,ia,ib,pa,pb]
   rw [e]
   simp -implicitDefEqProofs only [EE,if_true,Nat.reduceAdd,Int.reduceEq,zZ,zn,yX,yY,yZ,yR,yS,yy,yq,yr,yu,yj,yk,ym,zX,g4,g5,ia]
   skip
   refine zi (by kernel_rfl) rfl (qQ _ a b H) ?_
   simp only [xq,EE,zf,if_true,Nat.reduceAdd,yU,zZ,zn,zI,uZ,g6,r6];rfl
  ·have e:xp 21 a b=vV 21 a b:=by simp [xp,ia,ib,pa,pb]
   rw [e]
   simp -implicitDefEqProofs only [EE,if_true,Nat.reduceAdd,Int.reduceEq,zZ,zn,yX,yY,yZ,yR,yS,yy,yq,yr,yu,yj,yk,ym,zX,g4,g5,ia]
   skip
   refine zi (by kernel_rfl) rfl (qQ _ a b H) ?_
   simp only [xq,EE,zf,if_true,Nat.reduceAdd,yU,zZ,zn,zI,uZ,g6,r6];rfl
  ·have e:xp 21 a b=vV 21 a b:=by simp [xp,ia,ib,pa,pb]
   rw [e]
   simp -implicitDefEqProofs only [EE,if_true,Nat.reduceAdd,Int.reduceEq,zZ,zn,yX,yY,yZ,yR,yS,yy,yq,yr,yu,yj,yk,ym,zX,g4,g5,ia]
   skip
   refine zi (by kernel_rfl) rfl (qQ _ a b H) ?_
   simp only [xq,EE,zf,if_true,Nat.reduceAdd,yU,zZ,zn,zI,uZ,g6,r6];rfl
  ·have e:xp 21 a b=vV 21 a b:=by simp [xp,ia,ib,pa,pb]
   rw [e]
   simp -implicitDefEqProofs only [EE,if_true,Nat.reduceAdd,Int.reduceEq,zZ,zn,yX,yY,yZ,yR,yS,yy,yq,yr,yu,yj,yk,ym,zX,g4,g5,ia]
   skip
   refine zi (by kernel_rfl) rfl (qQ _ a b H) ?_
   simp only [xq,EE,zf,if_true,Nat.reduceAdd,yU,zZ,zn,zI,uZ,g6,r6];rfl
 by_cases o22:op=22
 ·subst o22
  rcases xa with ⟨ia,pa⟩ | ⟨ia,pa⟩ | ⟨ia,pa⟩ <;> rcases xb with ⟨ib,pb⟩ | ⟨ib,pb⟩ | ⟨ib,pb⟩
  ·have e:xp 22 a b=ks 22 a.n b.n:=by simp [xp,ia,ib]
   rw [e]
   simp -implicitDefEqProofs only [EE,if_true,Nat.reduceAdd,zZ,zn,zX,g5,ia]
   repeat (first | (refine zi (by kernel_rfl) rfl (xF b H) ?_;simp -implicitDefEqProofs only [EE,zC,wj,xo,VL,g4,g5,ia,ib]))
   refine zi (by kernel_rfl) rfl (mN _ a.n b.n H) ?_
   simp only [xq,EE,zf,if_true,Nat.reduceAdd,yU,zZ,zn,zI,KF,g6,r6];rfl
  ·have e:xp 22 a b=vV 22 a b:=by simp [xp,ia,ib,pa,pb]
   rw [e]
   simp -implicitDefEqProofs only [EE,if_true,Nat.reduceAdd,zZ,zn,zX,g5,ia]
   repeat (first | (refine zi (by kernel_rfl) rfl (xF b H) ?_;simp -implicitDefEqProofs only [EE,if_true,Nat.reduceAdd,Int.reduceEq,zZ,zn,yX,yY,yZ,yR,yS,yy,yq,yr,yu,yj,yk,ym,g4,g5,ia,ib]))
   refine zi (by kernel_rfl) rfl (qQ _ a b H) ?_
   simp only [xq,EE,zf,if_true,Nat.reduceAdd,yU,zZ,zn,zI,uZ,g6,r6];rfl
  ·have e:xp 22 a b=vV 22 a b:=by simp [xp,ia,ib,pa,pb]
   rw [e]
   simp -implicitDefEqProofs only [EE,if_true,Nat.reduceAdd,zZ,zn,zX,g5,ia]
   repeat (first | (refine zi (by kernel_rfl) rfl (xF b H) ?_;simp -implicitDefEqProofs only [EE,if_true,Nat.reduceAdd,Int.reduceEq,zZ,zn,yX,yY,yZ,yR,yS,yy,yq,yr,yu,yj,yk,ym,g4,g5,ia,ib]))
   refine zi (by kernel_rfl) rfl (qQ _ a b H) ?_
   simp only [xq,EE,zf,if_true,Nat.reduceAdd,yU,zZ,zn,zI,uZ,g6,r6];rfl
  ·have e:xp 22 a b=vV 22 a b:=by simp [xp,ia,ib,pa,pb]
   rw [e]
   simp -implicitDefEqProofs only [EE,if_true,Nat.reduceAdd,Int.reduceEq,zZ,zn,yX,yY,yZ,yR,yS,yy,yq,yr,yu,yj,yk,ym,zX,g4,g5,ia]
   skip
   refine zi (by kernel_rfl) rfl (qQ _ a b H) ?_
   simp only [xq,EE,zf,if_true,Nat.reduceAdd,yU,zZ,zn,zI,uZ,g6,r6];rfl
  ·have e:xp 22 a b=vV 22 a b:=by simp [xp,ia,ib,pa,pb]
   rw [e]
   simp -implicitDefEqProofs only [EE,if_true,Nat.reduceAdd,Int.reduceEq,zZ,zn,yX,yY,yZ,yR,yS,yy,yq,yr,yu,yj,yk,ym,zX,g4,g5,ia]
   skip
   refine zi (by kernel_rfl) rfl (qQ _ a b H) ?_
   simp only [xq,EE,zf,if_true,Nat.reduceAdd,yU,zZ,zn,zI,uZ,g6,r6];rfl
  ·have e:xp 22 a b=vV 22 a b:=by simp [xp,ia,ib,pa,pb]
   rw [e]
   simp -implicitDefEqProofs only [EE,if_true,Nat.reduceAdd,Int.reduceEq,zZ,zn,yX,yY,yZ,yR,yS,yy,yq,yr,yu,yj,yk,ym,zX,g4,g5,ia]
   skip
   refine zi (by kernel_rfl) rfl (qQ _ a b H) ?_
   simp only [xq,EE,zf,if_true,Nat.reduceAdd,yU,zZ,zn,zI,uZ,g6,r6];rfl
  ·have e:xp 22 a b=vV 22 a b:=by simp [xp,ia,ib,pa,pb]
   rw [e]
   simp -implicitDefEqProofs only [EE,if_true,Nat.reduceAdd,Int.reduceEq,zZ,zn,yX,yY,yZ,yR,yS,yy,yq,yr,yu,yj,yk,ym,zX,g4,g5,ia]
   skip
   refine zi (by kernel_rfl) rfl (qQ _ a b H) ?_
   simp only [xq,EE,zf,if_true,Nat.reduceAdd,yU,zZ,zn,zI,uZ,g6,r6];rfl
  ·have e:xp 22 a b=vV 22 a b:=by simp [xp,ia,ib,pa,pb]
   rw [e]
   simp -implicitDefEqProofs only [EE,if_true,Nat.reduceAdd,Int.reduceEq,zZ,zn,yX,yY,yZ,yR,yS,yy,yq,yr,yu,yj,yk,ym,zX,g4,g5,ia]
   skip
   refine zi (by kernel_rfl) rfl (qQ _ a b H) ?_
   simp only [xq,EE,zf,if_true,Nat.reduceAdd,yU,zZ,zn,zI,uZ,g6,r6];rfl
  ·have e:xp 22 a b=vV 22 a b:=by simp [xp,ia,ib,pa,pb]
   rw [e]
   simp -implicitDefEqProofs only [EE,if_true,Nat.reduceAdd,Int.reduceEq,zZ,zn,yX,yY,yZ,yR,yS,yy,yq,yr,yu,yj,yk,ym,zX,g4,g5,ia]
   skip
   refine zi (by kernel_rfl) rfl (qQ _ a b H) ?_
   simp only [xq,EE,zf,if_true,Nat.reduceAdd,yU,zZ,zn,zI,uZ,g6,r6];rfl
 ·skip
  rcases xa with ⟨ia,pa⟩ | ⟨ia,pa⟩ | ⟨ia,pa⟩ <;> rcases xb with ⟨ib,pb⟩ | ⟨ib,pb⟩ | ⟨ib,pb⟩
  ·have e:xp op a b=ks op a.n b.n:=by simp [xp,ia,ib]
   rw [e]
   simp -implicitDefEqProofs only [EE,if_true,Nat.reduceAdd,zZ,zn,zX,g5,ia]
   repeat (first | (refine zi (by kernel_rfl) rfl (xF b H) ?_;simp -implicitDefEqProofs only [EE,zC,wj,xo,VL,g4,g5,ia,ib]))
   refine zi (by kernel_rfl) rfl (mN _ a.n b.n H) ?_
   simp only [xq,EE,zf,if_true,Nat.reduceAdd,yU,zZ,zn,zI,KF,g6,r6];rfl
  ·simp -implicitDefEqProofs only [EE,if_true,Nat.reduceAdd,zZ,zn,zX,g5,ia]
   repeat (first | (refine zi (by kernel_rfl) rfl (xF b H) ?_;simp -implicitDefEqProofs only [EE,zf,if_true,Nat.reduceAdd,yU,zZ,zn,zI,yo,yX,yY,yZ,yR,yS,yy,yq,yr,yu,yj,yk,ym,wk,g6,r6,ia,ib,o11,o12,o21,o22]))
   simp [YP,w6,xp,ia,ib,pa,pb,v0,o11,o12,o21,o22]
  ·simp -implicitDefEqProofs only [EE,if_true,Nat.reduceAdd,zZ,zn,zX,g5,ia]
   repeat (first | (refine zi (by kernel_rfl) rfl (xF b H) ?_;simp -implicitDefEqProofs only [EE,zf,if_true,Nat.reduceAdd,yU,zZ,zn,zI,yo,yX,yY,yZ,yR,yS,yy,yq,yr,yu,yj,yk,ym,wk,g6,r6,ia,ib,o11,o12,o21,o22]))
   simp [YP,w6,xp,ia,ib,pa,pb,v0,o11,o12,o21,o22]
  ·simp -implicitDefEqProofs only [EE,zf,if_true,Nat.reduceAdd,yU,zZ,zn,zI,yo,yX,yY,yZ,yR,yS,yy,yq,yr,yu,yj,yk,ym,zX,wk,g6,r6,ia,o11,o12,o21,o22]
   skip
   simp [YP,w6,xp,ia,ib,pa,pb,v0,o11,o12,o21,o22]
  ·simp -implicitDefEqProofs only [EE,zf,if_true,Nat.reduceAdd,yU,zZ,zn,zI,yo,yX,yY,yZ,yR,yS,yy,yq,yr,yu,yj,yk,ym,zX,wk,g6,r6,ia,o11,o12,o21,o22]
   skip
   simp [YP,w6,xp,ia,ib,pa,pb,v0,o11,o12,o21,o22]
  ·simp -implicitDefEqProofs only [EE,zf,if_true,Nat.reduceAdd,yU,zZ,zn,zI,yo,yX,yY,yZ,yR,yS,yy,yq,yr,yu,yj,yk,ym,zX,wk,g6,r6,ia,o11,o12,o21,o22]
   skip
   simp [YP,w6,xp,ia,ib,pa,pb,v0,o11,o12,o21,o22]
  ·simp -implicitDefEqProofs only [EE,zf,if_true,Nat.reduceAdd,yU,zZ,zn,zI,yo,yX,yY,yZ,yR,yS,yy,yq,yr,yu,yj,yk,ym,zX,wk,g6,r6,ia,o11,o12,o21,o22]
   skip
   simp [YP,w6,xp,ia,ib,pa,pb,v0,o11,o12,o21,o22]
  ·simp -implicitDefEqProofs only [EE,zf,if_true,Nat.reduceAdd,yU,zZ,zn,zI,yo,yX,yY,yZ,yR,yS,yy,yq,yr,yu,yj,yk,ym,zX,wk,g6,r6,ia,o11,o12,o21,o22]
   skip
   simp [YP,w6,xp,ia,ib,pa,pb,v0,o11,o12,o21,o22]
  ·simp -implicitDefEqProofs only [EE,zf,if_true,Nat.reduceAdd,yU,zZ,zn,zI,yo,yX,yY,yZ,yR,yS,yy,yq,yr,yu,yj,yk,ym,zX,wk,g6,r6,ia,o11,o12,o21,o22]
   skip
   simp [YP,w6,xp,ia,ib,pa,pb,v0,o11,o12,o21,o22]
end Go.Rm
namespace Go.Rtl
open Go.Ai Go.Proofs
def Ci {α β:Type} (xs:List α) (ys:List β) (R:α->β->Bool) (k:Nat):Bool:=match xs[k]?,ys[k]? with
 | some x,some y=>R x y
 | _,_=>true
def sh {α β:Type} (R:α->β->Bool) (xs:List α) (ys:List β):Bool:=(List.range xs.length).all (Ci xs ys R)
theorem m5 {α β:Type} {xs:List α} {ys:List β} {R:α->β->Bool} {k:Nat} {x:α} {y:β} (hx:xs[k]? = some x) (hy:ys[k]? = some y):Ci xs ys R k=R x y:=by
 simp only [Ci,hx,hy]
theorem Ct {α β:Type} {xs:List α} {ys:List β} {R:α->β->Bool} {k:Nat} {x:α} {y:β} (hx:xs[k]? = some x) (hy:ys[k]? = some y) (hr:R x y=false):sh R xs ys=false:=by
 refine YJ (k:=k) ?_ (by rw [m5 hx hy,hr])
 rcases aar k xs.length with q | q
 ·exact q
 ·rw [aaj q] at hx;cases hx
def Rb (a b:Int):Bool:=decide (a=b)
def Ul (x y:yM):Bool:=decide (x.op=y.op) && (decide (x.sub=y.sub) && (decide (x.a=y.a) && (decide (x.b=y.b) && (decide (x.d=y.d) && (decide (x.k=y.k) && (decide (x.s=y.s) && (decide (x.t=y.t) && (decide ((x.args.length:Int)=y.args.length) && sh Rb x.args y.args))))))))
section
variable {h:za} {b1 b2:Nat} {B:Bool}
theorem si3 {x y:yM} {v0:Value} (X:xK h x) (Y:xK h y) (hg1:h.get b1=some (xJ x)) (hg2:h.get b2=some (xJ y)) (hl:(x.args.length:Int)=y.args.length) (hB:B=sh Rb x.args y.args) :
  LP (jP (.pointer (some ⟨b1,0,none⟩)) (fun _ h96=>qO B (.bool true) h96) (.pointer (some ⟨b2,0,none⟩)) (qO B)) [v0,(.int .i64 0)] h:=by
 refine CP (fun g=>g=h) x.args.length (Ci x.args y.args Rb) rfl ?_
 intro i h2 J hi hh hq hJ
 subst hh
 have xn:=X.args.vk
 have yn:=Y.args.vk
 have xl:=X.args.jM 3
 rcases aar i x.args.length with hlt | hge
 ·obtain ⟨z,hz,_⟩:=get_some hlt
  obtain ⟨w,hw,_⟩:=get_some (l:=y.args) (k:=i) (by omega)
  obtain ⟨b,o,c,t,ha,hbb,hgt,hco⟩:=X.args.at hz
  obtain ⟨b',o',c',t',ha',hbb',hgt',hco'⟩:=Y.args.at hw
  have hlt':(i:Int) < (x.args.length:Int):=by omega
  have hinc:IntKind.wrap .i64 ((i:Int) + 1)=((i + 1:Nat):Int):=inc (by have:=X.J9;omega)
  by_cases e:z=w
  ·simp -implicitDefEqProofs only [EE,nth,↓BK,zC,xr,zj,uL,Vu,Jr,jP,hg1,hg2,xn,xl,hlt',ha,hgt,hco,ha',hgt',hco',e,hinc]
   exact hJ _ hlt (by rw [m5 hz hw];simp [Rb,e]) rfl
  ·simp -implicitDefEqProofs only [EE,nth,↓BK,zC,xr,zj,uL,Vu,jP,hg1,hg2,xn,xl,hlt',ha,hgt,hco,ha',hgt',hco',e]
   rw [hB,Ct hz hw (by simp [Rb,e])];rfl
 ·have hlt':¬ (i:Int) < (x.args.length:Int):=by omega
  simp -implicitDefEqProofs only [EE,nth,zC,xr,uL,jP,hg1,xn,xl,hlt']
  have:sh Rb x.args y.args=true:=Uj fun k hk=>hq k (by omega)
  rw [hB,this];rfl
end
theorem HF (x y:yM) (h:za) (X:xK h x) (Y:xK h y):xx Tryz.prog 64 [x.val,y.val] h (.bool (Ul x y)):=by
 apply ki
 replace X:=X.lock
 replace Y:=Y.lock
 generalize h.lock=L at X Y
 apply iW
 unfold fK
 have xn:=X.args.vk
 have yn:=Y.args.vk
 simp -implicitDefEqProofs only [EE,↓nw,Value.cells,zC,zj,zq]
 have e:Old L ((L.push (xJ x)).push (xJ y)):=(Old.push _ _).trans (Old.push _ _)
 have g1:((L.push (xJ x)).push (xJ y)).get L.next=some (xJ x):=by
  rw [zt (aaD _)];exact zo
 have g2:((L.push (xJ x)).push (xJ y)).get (L.next + 1)=some (xJ y):=zo
 generalize (L.push (xJ x)).push (xJ y)=H at e g1 g2
 have X2:=X.old e
 have Y2:=Y.old e
 have xl:=X2.args.jM 3
 have yl:=Y2.args.jM 3
 unfold Ul
 by_cases c1:x.op=y.op
 case neg=>simp -implicitDefEqProofs only [EE,wJ,wK,wL,wM,wN,wO,xO,xP,xQ,xR,xS,xU,xV,xW,xX,xY,xZ,x4,x5,x6,x7,c1];simp [qO]
 by_cases c2:x.sub=y.sub
 case neg=>simp -implicitDefEqProofs only [EE,zC,zj,zW,wJ,wK,wL,wM,wN,wO,xO,xP,xQ,xR,xS,xU,xV,xW,xX,xY,xZ,x4,x5,x6,x7,g1,g2,c1,c2];simp [qO]
 by_cases c3:x.a=y.a
 case neg=>simp -implicitDefEqProofs only [EE,zC,zj,zW,xe,wJ,wK,wL,wM,wN,wO,xO,xP,xQ,xR,xS,xU,xV,xW,xX,xY,xZ,x4,x5,x6,x7,g1,g2,c1,c2,c3];simp [qO]
 by_cases c4:x.b=y.b
 case neg=>simp -implicitDefEqProofs only [EE,zC,zj,zW,xe,vC,wJ,wK,wL,wM,wN,wO,xO,xP,xQ,xR,xS,xU,xV,xW,xX,xY,xZ,x4,x5,x6,x7,g1,g2,c1,c2,c3,c4];simp [qO]
 by_cases c5:x.d=y.d
 case neg=>simp -implicitDefEqProofs only [EE,zC,zj,zW,xe,vC,xj,wJ,wK,wL,wM,wN,wO,xO,xP,xQ,xR,xS,xU,xV,xW,xX,xY,xZ,x4,x5,x6,x7,g1,g2,c1,c2,c3,c4,c5];simp [qO]
 by_cases c6:x.k=y.k
 case neg=>simp -implicitDefEqProofs only [EE,zC,wj,zj,zW,xe,vC,xj,vo,wJ,wK,wL,wM,wN,wO,xO,xP,xQ,xR,xS,xU,xV,xW,xX,xY,xZ,x4,x5,x6,x7,g1,g2,c1,c2,c3,c4,c5,c6];simp [qO]
 by_cases c7:x.s=y.s
 case neg=>simp -implicitDefEqProofs only [EE,zC,wj,zj,zW,xe,vC,xj,vo,kI,wJ,wK,wL,wM,wN,wO,xO,xP,xQ,xR,xS,xU,xV,xW,xX,xY,xZ,x4,x5,x6,x7,g1,g2,c1,c2,c3,c4,c5,c6,c7];simp [qO]
 by_cases c8:x.t=y.t
 case neg=>simp -implicitDefEqProofs only [EE,zC,wj,zj,zW,xe,vC,xj,vo,kI,YM,wJ,wK,wL,wM,wN,wO,xO,xP,xQ,xR,xS,xU,xV,xW,xX,xY,xZ,x4,x5,x6,x7,g1,g2,c1,c2,c3,c4,c5,c6,c7,c8];simp [qO]
 by_cases c9:(x.args.length:Int)=y.args.length
 case neg=>simp -implicitDefEqProofs only [EE,zC,wj,xr,zj,zW,xe,vC,xj,vo,uL,kI,YM,wJ,wK,wL,wM,wN,wO,xO,xP,xQ,xR,xS,xU,xV,xW,xX,xY,xZ,x4,x5,x6,x7,g1,g2,xn,yn,xl,yl,c1,c2,c3,c4,c5,c6,c7,c8,c9];simp [qO]
 simp -implicitDefEqProofs only [EE,nth,↓BK,zC,wj,xr,zj,zW,xe,vC,xj,vo,uL,kI,YM,wJ,wK,wL,wM,wN,wO,xO,xP,xQ,xR,xS,xU,xV,xW,xX,xY,xZ,x4,x5,x6,x7,g1,g2,xn,yn,xl,yl,c1,c2,c3,c4,c5,c6,c7,c8,c9]
 refine si3 X2 Y2 g1 g2 c9 ?_
 simp
section
variable {h:za} {b1 b2:Nat} {B:Bool}
theorem TR {f g:Fn} {v0:Value} (F:v8 h f) (G:v8 h g) (hb1:b1 < h.next) (hb2:b2 < h.next) (hg1:h.get b1=some (YA f)) (hg2:h.get b2=some (YA g)) (hl:(f.code.length:Int)=g.code.length) (hB:B=sh Ul f.code g.code) :
  LP (bI (.pointer (some ⟨b1,0,none⟩)) (fun _ h88=>qO B (.bool true) h88) (.pointer (some ⟨b2,0,none⟩)) (qO B)) [v0,(.int .i64 0)] h:=by
 refine CP (fun g=>g=h) f.code.length (Ci f.code g.code Ul) rfl ?_
 intro i h2 J hi hh hq hJ
 subst hh
 have fn:=F.code.vk
 have gn:=G.code.vk
 have fl:=F.code.Qu 3
 rw [aak] at fl
 rcases aar i f.code.length with hlt | hge
 ·obtain ⟨x,hx,hxm⟩:=get_some hlt
  obtain ⟨y,hy,hym⟩:=get_some (l:=g.code) (k:=i) (by omega)
  obtain ⟨b,o,c,t,ha,hbb,hgt,hle,htk,_⟩:=F.code.th (i:=i) (r:=x.row) (by rw [aap,hx];rfl) rfl
  obtain ⟨b',o',c',t',ha',hbb',hgt',hle',htk',_⟩:=G.code.th (i:=i) (r:=y.row) (by rw [aap,hy];rfl) rfl
  have X:=F.ins x hxm
  have Y:=G.ins y hym
  have hlt':(i:Int) < (f.code.length:Int):=by omega
  have hinc:IntKind.wrap .i64 ((i:Int) + 1)=((i + 1:Nat):Int):=inc (by have:=F.nO;omega)
  simp -implicitDefEqProofs only [EE,nth,↓BK,if_true,zZ,zC,vK,ka,y9,QD,bI,hg1,hg2,fn,fl,hlt',ha,hgt,hle,htk,ha',hgt',hle',htk']
  refine qm (by kernel_rfl) (by simp -implicitDefEqProofs only [EE]) (HF x y h2 X Y).dc ?_
  rintro v h3 ⟨rfl,rfl⟩
  cases hI:Ul x y with
  | true=>
    simp -implicitDefEqProofs only [EE,nth,VT,AD,hinc]
    exact hJ _ hlt (by rw [m5 hx hy];exact hI) rfl
  | false=>
    simp -implicitDefEqProofs only [EE,VT]
    rw [hB,Ct hx hy hI];rfl
 ·have hlt':¬ (i:Int) < (f.code.length:Int):=by omega
  simp -implicitDefEqProofs only [EE,nth,zC,vK,y9,bI,hg1,fn,fl,hlt']
  have:sh Ul f.code g.code=true:=Uj fun k hk=>hq k (by omega)
  rw [hB,this];rfl
end
section
variable {h:za} {b1 b2:Nat} {B:Bool}
end
structure Sub (h h':za):Prop where
 next:h.next<=h'.next
 get:∀ b o,b < h.next->h.get b=some o->h'.get b=some o
theorem Sub.refl (h:za):Sub h h:=⟨aah _,fun _ _ _ e=>e⟩
theorem Sub.trans {a b c:za} (x:Sub a b) (y:Sub b c):Sub a c:=⟨aaH x.next y.next,fun i o hi e=>y.get i o (aai hi x.next) (x.get i o hi e)⟩
theorem Old.sub {h h':za} (e:Old h h'):Sub h h':=⟨e.next,fun b o hb g=>by rw [e.get b hb];exact g⟩
section
variable {h h':za}
theorem zN.sub {sv:Value} {zs:List Int} (S:zN h sv zs) (e:Sub h h'):zN h' sv zs:=by
 rcases S with a | ⟨b,off,cp,rfl,hc⟩
 ·exact .inl a
 ·refine .inr ⟨b,off,cp,rfl,fun hz => ?_⟩
  obtain ⟨c,t,hb,hg,hat⟩:=hc hz
  exact ⟨c,t,aai hb e.next,e.get b _ hb hg,hat⟩
theorem zJ.sub {sv:Value} {n:Nat} {rows:List (List Value)} (S:zJ h sv n rows) (e:Sub h h'):zJ h' sv n rows:=by
 rcases S with a | ⟨b,off,cp,rfl,hc⟩
 ·exact .inl a
 ·refine .inr ⟨b,off,cp,rfl,fun hz => ?_⟩
  obtain ⟨c,t,hb,hg,hat⟩:=hc hz
  exact ⟨c,t,aai hb e.next,e.get b _ hb hg,hat⟩
theorem xK.sub {x:yM} (S:xK h x) (e:Sub h h'):xK h' x:=⟨S.args.sub e,S.J9⟩
theorem v8.sub {f:Fn} (S:v8 h f) (e:Sub h h'):v8 h' f:=⟨S.params.sub e,S.tP,S.code.sub e,S.nO,fun x hx=>(S.ins x hx).sub e⟩
theorem wQ.sub {p:Pg} (S:wQ h p) (e:Sub h h'):wQ h' p:=⟨S.globals.sub e,S.tB,S.funcs.sub e,S.BQ,fun f hf=>(S.fns f hf).sub e⟩
theorem zJ.IQ {sv:Value} {n:Nat} {rows:List (List Value)} (S:zJ h sv n rows):Zy sv=some rows.length:=by
 rcases S with ⟨rfl,rfl⟩ | ⟨b,off,cp,rfl,hc⟩ <;> rfl
theorem NT {c:List Value} {off:Nat} {l:List Value} (h:∀ (i:Nat) v,l[i]? = some v->c[off + i]? = some v):(l = []\/off + l.length<=c.length)/\(c.drop off).take l.length=l:=by
 have hle:l = []\/off + l.length<=c.length:=by
  cases hl:l.length with
  | zero=>exact .inl (abp.1 hl)
  | succ n=>
    have:=h n l[n] (aab (by omega))
    rcases aar (off + n) c.length with q | q
    ·exact .inr (by omega)
    ·rw [aaj q] at this;cases this
 refine ⟨hle,abe fun i => ?_⟩
 rw [List.getElem?_take,aaN]
 by_cases hi:i < l.length
 ·rw [if_pos hi,aab hi];exact h i _ (aab hi)
 ·rw [if_neg hi,aaj (by omega)]
theorem j4 {n:Nat}:∀ {rows:List (List Value)},(∀ r,r ∈ rows->r.length=n)->∀ {i:Nat} {r:List Value} {k:Nat},rows[i]? = some r->k < n->rows.flatten[i * n + k]? = r[k]?
 | [],_,i,r,k,hr,_=>by cases hr
 | r0 :: rows,hn,0,r,k,hr,hk=>by
   simp only [aaf,aaa] at hr
   subst hr
   rw [acw,abl (by rw [hn _ (by simp)];omega)]
   simp
 | r0 :: rows,hn,i + 1,r,k,hr,hk=>by
   have h0:=hn r0 (by simp)
   rw [acw,abb (by rw [h0,acB];omega),h0,show (i + 1) * n + k - n=i * n + k by rw [acB];omega]
   exact j4 (fun r hr=>hn r (by simp [hr])) (by simpa using hr) hk
theorem v5 {n:Nat}:∀ {rows:List (List Value)},(∀ r,r ∈ rows->r.length=n)->rows.flatten.length=rows.length * n
 | [],_=>by simp
 | r0 :: rows,hn=>by
   rw [acw,abT,v5 (fun r hr=>hn r (by simp [hr])),hn r0 (by simp),aaz,acB];omega
theorem BR {n:Nat} {rows:List (List Value)} (hn:∀ r,r ∈ rows->r.length=n) {i:Nat} {r:List Value} (hr:rows[i]? = some r):i * n + n<=rows.flatten.length/\(rows.flatten.drop (i * n)).take n=r:=by
 have hi:i < rows.length:=by
  rcases aar i rows.length with a | a
  ·exact a
  ·rw [aaj a] at hr;cases hr
 have hl:r.length=n:=hn r (aaq hr)
 constructor
 ·rw [v5 hn]
  have:=abu n (acf hi)
  rw [ach] at this
  exact this
 ·refine abe fun k => ?_
  rw [List.getElem?_take,aaN]
  by_cases hk:k < n
  ·rw [if_pos hk];exact j4 hn hr hk
  ·rw [if_neg hk,aaj (by omega)]
theorem zJ.first {sv:Value} {n:Nat} {rows:List (List Value)} (S:zJ h sv n rows) (h0:0 < n) (hn:∀ r,r ∈ rows->r.length=n):xA h rows.length n sv=some rows.flatten:=by
 rcases S with ⟨rfl,rfl⟩ | ⟨b,off,cp,rfl,hc⟩
 ·rfl
 ·cases rows with
  | nil=>unfold xA;simp only [aaw,acC];rfl
  | cons r0 rows=>
    obtain ⟨c,t,hb,hg,hat⟩:=hc (by simp)
    obtain ⟨h1,h2⟩:=NT (c:=c) (off:=off) (l:=(r0 :: rows).flatten) (fun j v hv=>by
     have hj:j < (r0 :: rows).length * n:=by
      rcases aar j ((r0 :: rows).flatten.length) with a | a
      ·rw [v5 hn] at a;exact a
      ·rw [aaj a] at hv;cases hv
     have hi:j / n < (r0 :: rows).length:=(Nat.div_lt_iff_lt_mul h0).2 hj
     have hk:j % n < n:=Nat.mod_lt _ h0
     have hr:(r0 :: rows)[j / n]? = some (r0 :: rows)[j / n]:=aab hi
     have e:j=j / n * n + j % n:=by rw [Nat.mul_comm];exact (Nat.div_add_mod j n).symm
     rw [e,j4 hn hr hk] at hv
     obtain ⟨_,h4⟩:=hat _ _ hr
     rw [<- h4,List.getElem?_take,if_pos hk,aaN] at hv
     rw [e,<- ab6];exact hv)
    have hl:=v5 hn
    rw [hl] at h1 h2
    have hne:(r0 :: rows).length * n ≠ 0:=by rw [aaz];exact Nat.mul_ne_zero (by omega) (by omega)
    have h3:off + (r0 :: rows).length * n<=c.length:=by
     rcases h1 with e | e
     ·rw [e] at hl;exact absurd hl.symm hne
     ·exact e
    unfold xA
    simp only [hg]
    rw [show Nat.beq ((r0 :: rows).length * n) 0=false by rw [<- acm,acv];exact hne,cond_false,Nat.ble_eq_true_of_le h3,cond_true,h2]
end
abbrev yM.core (x:yM):yM:={ x with av := .bool false }
abbrev Fn.core (f:Fn):Fn:={ f with pv := .bool false,cv := .bool false,code:=f.code.map yM.core }
abbrev Pg.core (p:Pg):Pg:={ p with gv := .bool false,fv := .bool false,funcs:=p.funcs.map Fn.core }
def jA (lo h:za) (t:TypeId) (l:Value) (rows:List (List Value)):Prop:=(l = .slice none 0 0/\rows = []) \/ ∃ b c,l = .slice (some ⟨b,0,none⟩) rows.length c/\c ≠ 0/\lo.next<=b/\b < h.next/\h.ro<=b/\h.get b=some (.cells rows.flatten t)
def kM:Value->List Nat
 | .slice (some a) _ _=>[a.block]
 | _=>[]
section
variable {lo h:za} {l:Value} {rows:List (List Value)} {t:TypeId}
theorem GL {n bz:Nat} (S:jA lo h t l rows) (hro:h.ro<=h.next) (hlo:lo.next<=h.next) (h0n:0 < n) (hn:∀ r,r ∈ rows->r.length=n) {ys:List (List Value)} (hb:(rows.length + ys.length) * bz<=2 ^ 47) :
  ∃ l' h',Ze h t n bz ys.length ys.flatten l=some (l',h')/\jA lo h' t l' (rows ++ ys)/\h'.ro=h.ro/\h'.ro<=h'.next/\h.next<=h'.next/\(VJ h->VJ h')/\(∀ b,b < h.next->b ∉ kM l->h'.get b=h.get b)/\(∀ b,b ∈ kM l'->b ∈ kM l\/h.next<=b):=by
 rcases S with ⟨rfl,rfl⟩ | ⟨b,c,rfl,hc,hb1,hb2,hb3,hg⟩
 ·by_cases h0:ys.length=0
  ·have:ys = []:=abp.1 h0
   subst this
   exact ⟨_,_,by simp only [Ze,aaw,if_true],.inl ⟨rfl,rfl⟩,rfl,hro,aah _,id,fun _ _ _=>rfl,fun b hb => .inl hb⟩
  ·refine ⟨.slice (some ⟨h.next,0,none⟩) ys.length 1,h.push (.cells ys.flatten t),?_,.inr ⟨h.next,1,by simp,by decide,hlo,aaD _,hro,by rw [zo];rfl⟩,rfl,abd hro,abn _,fun w=>dz w _,fun b hb _=>zt hb,fun b hb=>by simp only [kM,aaS] at hb;exact .inr (by omega)⟩
   simp only [Ze,h0,if_false]
   have:ys.length * bz<=2 ^ 48:=by simp only [aaw,aav] at hb;omega
   rw [if_pos this]
 ·by_cases h0:ys.length=0
  ·have:ys = []:=abp.1 h0
   subst this
   exact ⟨.slice (some ⟨b,0,none⟩) rows.length c,h,by simp only [Ze,aaw,if_true],.inr ⟨b,c,by simp,hc,hb1,hb2,hb3,by simpa using hg⟩,rfl,hro,aah _,id,fun _ _ _=>rfl,fun b hb => .inl hb⟩
  ·have hroom:roomFor c (rows.length + ys.length) bz=true:=by
    unfold roomFor
    cases Nat.beq c 2 <;> simp only [cond_true,cond_false,abY] <;> omega
   have hl:=v5 hn
   refine ⟨.slice (some ⟨h.next,0,none⟩) (rows.length + ys.length) (w8 c (rows.length + ys.length)),(h.set b none).push (.cells (rows ++ ys).flatten t),?_,.inr ⟨h.next,w8 c (rows.length + ys.length),by simp,eR _ _,by omega,aaD _,hro,zo⟩,rfl,abd hro,abn _,fun w=>dz (wf_set w hb2 _) _,fun b' hb' hne => ?_,fun b hb=>by simp only [kM,aaS] at hb;exact .inr (by omega)⟩
   ·simp only [Ze,h0,if_false,hg]
    rw [if_pos ⟨hc,trivial,hb3,by rw [hl];omega,hroom,by simp⟩]
    congr 3
    rw [abh,abB (by rw [hl];omega),aci]
   ·simp only [kM,aaS] at hne
    rw [zt (by show b' < h.next;exact hb'),zE hne]
end
theorem Ny {h:za} {l:List Nat} {b:Nat}:(h.VB l).get b=if b ∈ l then none else h.get b:=jY h l b
structure Rr (l:List Nat) (H h:za):Prop where
 next:H.next<=h.next
 ro:h.ro=H.ro
 get:∀ b,b < H.next->b ∉ l->h.get b=H.get b
theorem Rr.sub {l:List Nat} {H h:za} (k:Rr l H h):Sub (H.VB l) (h.VB l):=⟨k.next,fun b o hb g=>by
 rw [Ny] at g ⊢
 split at g
 ·cases g
 ·rename_i q
  rw [if_neg q,k.get b hb q];exact g⟩
theorem HA (h h2:za):(wY h h2).ro=h.ro:=rfl
theorem gU (h h2:za):(wY h h2).next=h2.next:=rfl
theorem Bp {h:za} {x:Value} {zs:List Int} {e:Nat} (S:zN (h.push (.cells [] 3)) x zs) (J9:zs.length<=17592186043904) (hro:h.ro<=h.next) (he:h.next < e) {K:Value->za->Prop} (k:∀ v h6,uO h h6 v zs->Old h h6->h6.ro<=h6.next->K v h6) :
  GM Tryz.prog [22,22] 22 [.slice (some ⟨h.next,0,none⟩) 0 2,x] (some (h.next,e)) (h.push (.cells [] 3)) (h.push (.cells [] 3)) K:=by
 refine ⟨⟨aah _,he,by rw [zo];simp⟩,?_⟩
 have W:uO h (h.push (.cells [] 3)) (.slice (some ⟨h.next,0,none⟩) 0 2) [] := .inr ⟨h.next,2,rfl,by decide,aah _,aaD _,hro,zo⟩
 obtain ⟨l',h',a1,a2,a3,a4,a5,a6,a7⟩:=cB W (Old.push _ _) (abd hro) S.first.1 rfl S.first.2 (by simpa using (by omega:zs.length<=17592186044416))
 rw [a1,zG rfl,zG S.vk,zR]
 show K l' _
 have hr:(wY (du (h.push (.cells [] 3)) (.slice (some ⟨h.next,0,none⟩) 0 2) h') h').ro=h.ro:=by rw [HA,FF];rfl
 have a5':h.next + 1<=h'.next:=a5
 have gg:∀ b,(wY (du (h.push (.cells [] 3)) (.slice (some ⟨h.next,0,none⟩) 0 2) h') h').get b=if h.next<=b/\b < h'.next then h'.get b else h.get b:=by
  intro b
  rw [vx,fh]
  show (if h.next + 1<=b/\b < h'.next then h'.get b else ((h.push (.cells [] 3)).set h.next (h'.get h.next)).get b)=_
  by_cases hb:h.next + 1<=b/\b < h'.next
  ·rw [if_pos hb,if_pos ⟨by omega,hb.2⟩]
  ·rw [if_neg hb]
   by_cases hb2:b=h.next
   ·subst hb2;rw [zM,if_pos ⟨aah _,by omega⟩]
   ·rw [zE hb2,if_neg (by omega),za.wm,if_neg hb2]
 refine k _ _ ?_ ⟨by rw [gU];omega,hr,fun b hb=>by rw [gg,if_neg (by omega)]⟩ ?_
 ·rw [abA] at a2
  rcases a2 with q | ⟨b,c,q1,q2,q3,q4,q5,q6⟩
  ·exact .inl q
  ·refine .inr ⟨b,c,q1,q2,q3,q4,?_,?_⟩
   ·rw [hr];omega
   ·rw [gg,if_pos ⟨q3,q4⟩];exact q6
 ·rw [hr,gU];omega
theorem uO.sub {lo h K:za} {v:Value} {zs:List Int} (S:uO lo h v zs) (hn:h.next<=K.next) (hk:∀ b,lo.next<=b->b < h.next->K.get b=h.get b):zN K v zs:=by
 rcases S with a | ⟨b,c,rfl,hc,h1,h2,h3,h4⟩
 ·exact .inl a
 ·refine .inr ⟨b,0,c,rfl,fun _=>⟨_,3,aai h2 hn,by rw [hk b h1 h2];exact h4,fun i z hz => ?_⟩⟩
  simp [ints,hz]
theorem uO.shape {lo h:za} {v:Value} {zs:List Int} (S:uO lo h v zs):∃ a n c,v = .slice a n c:=by
 rcases S with ⟨rfl,_⟩ | ⟨_,_,rfl,_⟩ <;> exact ⟨_,_,_,rfl⟩
theorem kL (ys:List yM):∀ r,r ∈ ys.map yM.row->r.length=9:=by
 intro r hr
 simp only [aba] at hr
 obtain ⟨y,_,rfl⟩:=hr
 rfl
theorem jA.shape {lo h:za} {t:TypeId} {v:Value} {rows:List (List Value)} (S:jA lo h t v rows):∃ a n c,v = .slice a n c:=by
 rcases S with ⟨rfl,_⟩ | ⟨_,_,rfl,_⟩ <;> exact ⟨_,_,_,rfl⟩
theorem kr (ys:List Fn):∀ r,r ∈ ys.map Fn.row->r.length=6:=by
 intro r hr
 simp only [aba] at hr
 obtain ⟨y,_,rfl⟩:=hr
 rfl
theorem jA.lo {lo lo' h:za} {t:TypeId} {v:Value} {rows:List (List Value)} (S:jA lo h t v rows) (hl:lo'.next<=lo.next):jA lo' h t v rows:=by
 rcases S with a | ⟨b,c,h0,h1,h2,h3⟩
 ·exact .inl a
 ·exact .inr ⟨b,c,h0,h1,by omega,h3⟩
theorem jA.zB {lo h h':za} {t:TypeId} {v:Value} {rows:List (List Value)} (S:jA lo h t v rows) (hn:h.next<=h'.next) (hr:h'.ro=h.ro) (hg:∀ b,b ∈ kM v->h'.get b=h.get b):jA lo h' t v rows:=by
 rcases S with a | ⟨b,c,rfl,h1,h2,h3,h4,h5⟩
 ·exact .inl a
 ·exact .inr ⟨b,c,rfl,h1,h2,by omega,by omega,by rw [hg b (by simp [kM])];exact h5⟩
theorem IY {h:za} {x:Value} {zs:List Int} (S:zN (h.push (.cells [] 3)) x zs) (J9:zs.length<=17592186043904) (hro:h.ro<=h.next) :
  ∃ v h',zg Tryz.prog .append [22,22] 22 [.slice (some ⟨h.next,0,none⟩) 0 2,x] (h.push (.cells [] 3))=some (v,h')/\uO h h' v zs/\Old h h'/\h'.ro<=h'.next/\h.next < h'.next:=by
 have W:uO h (h.push (.cells [] 3)) (.slice (some ⟨h.next,0,none⟩) 0 2) [] := .inr ⟨h.next,2,rfl,by decide,aah _,aaD _,hro,zo⟩
 obtain ⟨l',h',a1,a2,a3,a4,a5,a6,a7⟩:=cB W (Old.push _ _) (abd hro) S.first.1 rfl S.first.2 (by simpa using (by omega:zs.length<=17592186044416))
 exact ⟨l',h',a1,by rw [abA] at a2;exact a2,a3,a4,a5⟩
theorem LW {h:za} {ys:List yM} (Y:∀ y,y ∈ ys->xK h y):(ys.map yM.row).flatten.all cellOk=true:=by
 rw [aas]
 intro v hv
 simp only [List.mem_flatten,aba] at hv
 obtain ⟨_,⟨y,hy,rfl⟩,hv⟩:=hv
 simp only [abf,List.not_mem_nil,or_false] at hv
 rcases hv with rfl | rfl | rfl | rfl | rfl | rfl | rfl | rfl | rfl
 all_goals first | rfl | exact (Y y hy).args.gO
theorem IZ {h:za} {x:Value} {ys:List yM} (S:zJ (h.push (.cells [] 53)) x 9 (ys.map yM.row)) (Y:∀ y,y ∈ ys->xK (h.push (.cells [] 53)) y) (J9:ys.length * 88<=140737488351232) (hro:h.ro<=h.next) :
  ∃ v h',zg Tryz.prog .append [43,43] 43 [.slice (some ⟨h.next,0,none⟩) 0 2,x] (h.push (.cells [] 53))=some (v,h')/\jA h h' 53 v (ys.map yM.row)/\Old h h'/\h'.ro<=h'.next/\h.next < h'.next:=by
 have W:jA h (h.push (.cells [] 53)) 53 (.slice (some ⟨h.next,0,none⟩) 0 2) [] := .inr ⟨h.next,2,rfl,by decide,aah _,aaD _,hro,zo⟩
 obtain ⟨l',h',a1,a2,a3,a4,a5,a6,a7,a8⟩:=GL (n:=9) (bz:=88) W (abd hro) (abn _) (by decide) (fun r hr=>by cases hr) (ys:=ys.map yM.row) (by simp;omega)
 have al:=S.IQ
 have fi:=S.first (by decide) (kL ys)
 rw [aak] at al fi a1
 refine ⟨l',h',?_,by rw [abA] at a2;exact a2,⟨by have:h.next + 1<=h'.next:=a5;omega,a3,fun b hb => ?_⟩,a4,a5⟩
 ·rw [RN 43 _ _ ys.length (ys.map yM.row).flatten _ al fi (LW Y) (by rw [v5 (kL ys),aak])]
  exact a1
 ·rw [a7 b (by show b < h.next + 1;omega) (by simp only [kM,aaS];omega),zt hb]
end Go.Rtl
namespace Go.Rm
open Go.Ai Go.Proofs Go.Mem
open Go.Rtl (yM Pg zA wQ v8 xK zN zJ Old v5 BR j4)
def xN (ty:TypeId) (n:Nat) (sv:Value) (rows:List (List Value)):HP:=fun m=>
 (sv = .slice none 0 0/\rows = [] /\ ∀ x,m x=none) \/ ∃ b c cs,sv = .slice (some ⟨b,0,none⟩) rows.length c/\c ≠ 0/\rows.length * n<=cs.length/\cs.take (rows.length * n)=rows.flatten/\pt b (.cells cs ty) m
section
variable {lo:yE} {h:za} {L:List HP} {ty:TypeId} {n:Nat} {sv:Value} {rows:List (List Value)}
theorem wW (s:Sat lo h (xN ty n sv rows :: L)):(sv = .slice none 0 0/\rows = []/\Sat lo h L) \/ ∃ b c cs,sv = .slice (some ⟨b,0,none⟩) rows.length c/\c ≠ 0/\rows.length * n<=cs.length/\cs.take (rows.length * n)=rows.flatten/\Sat lo h (pt b (.cells cs ty) :: L):=by
 obtain ⟨a,ha,d,w,s⟩:=s
 rcases ha with ⟨e1,e2,e3⟩ | ⟨b,c,cs,e1,e2,e3,e4,e5⟩
 ·exact .inl ⟨e1,e2,by rw [yE.fB e3] at s;exact s⟩
 ·exact .inr ⟨b,c,cs,e1,e2,e3,e4,a,e5,d,w,s⟩
theorem ub (ty:TypeId) (n:Nat) (s:Sat lo h L):Sat lo h (xN ty n (.slice none 0 0) [] :: L):=⟨fun _=>none,.inl ⟨rfl,rfl,fun _=>rfl⟩,fun _ _ e=>(by cases e),fun _ _ e=>(by cases e),by rw [yE.fB fun _=>rfl];exact s⟩
theorem VF {b c:Nat} {cs:List Value} (hc:c ≠ 0) (hl:rows.length * n<=cs.length) (ht:cs.take (rows.length * n)=rows.flatten) (s:Sat lo h (pt b (.cells cs ty) :: L)):Sat lo h (xN ty n (.slice (some ⟨b,0,none⟩) rows.length c) rows :: L):=by
 obtain ⟨a,ha,d,w,s⟩:=s
 exact ⟨a,.inr ⟨b,c,cs,rfl,hc,hl,ht,ha⟩,d,w,s⟩
theorem uI {b c:Nat} {cs:List Value} (hc:c ≠ 0) (hn:∀ r,r ∈ rows->r.length=n) (he:cs=rows.flatten) (s:Sat lo h (pt b (.cells cs ty) :: L)):Sat lo h (xN ty n (.slice (some ⟨b,0,none⟩) rows.length c) rows :: L) :=
 VF hc (by rw [he,v5 hn];exact aah _) (by rw [he,abB (by rw [v5 hn];exact aah _)]) s
theorem Un (s:Sat lo h (xN ty n sv rows :: L)):∃ a c,sv = .slice a rows.length c:=by
 rcases wW s with ⟨rfl,rfl,_⟩ | ⟨b,c,cs,rfl,_⟩ <;> exact ⟨_,_,rfl⟩
theorem xw (s:Sat lo h (xN ty n sv rows :: L)):zP sv=false:=by obtain ⟨_,_,rfl⟩:=Un s;rfl
theorem vE (s:Sat lo h (xN ty n sv rows :: L)):cellOk sv=true:=by obtain ⟨_,_,rfl⟩:=Un s;rfl
theorem y7 (s:Sat lo h (xN ty n sv rows :: L)) (hn:∀ r,r ∈ rows->r.length=n):zJ h sv n rows:=by
 rcases wW s with ⟨e1,e2,_⟩ | ⟨b,c,cs,rfl,hc,hl,hf,s⟩
 ·exact .inl ⟨e1,e2⟩
 ·refine .inr ⟨b,0,c,rfl,fun _=>⟨cs,ty,s.lt,s.get,fun i r hr => ?_⟩⟩
  have hi:i < rows.length:=by
   rcases aar i rows.length with a | a
   ·exact a
   ·rw [aaj a] at hr;cases hr
  obtain ⟨f1,f2⟩:=BR hn hr
  have hm:=abu n (acf hi)
  rw [ach] at hm
  refine ⟨by omega,?_⟩
  rw [<- f2,<- hf,aav,List.drop_take,List.take_take]
  congr 1
  omega
theorem YS (s:Sat lo h (xN ty n sv rows :: L)) (hn:∀ r,r ∈ rows->r.length=n) (row:List Value) (hr:row.length=n) (h0n:0 < n) (bz:Nat) (hb:(rows.length + 1) * bz<=2 ^ 47) :
  ∃ b' c' h',Ze h ty n bz 1 row sv=some (.slice (some ⟨b',0,none⟩) (rows.length + 1) c',h')/\Sat lo h' (xN ty n (.slice (some ⟨b',0,none⟩) (rows.length + 1) c') (rows ++ [row]) :: L):=by
 have hn2:∀ r,r ∈ rows ++ [row]->r.length=n:=fun r q=>by
  rcases aaP.1 q with q | q
  ·exact hn r q
  ·simp only [aaS] at q;subst q;exact hr
 have hlen:(rows ++ [row]).length=rows.length + 1:=by simp
 rcases wW s with ⟨rfl,rfl,s'⟩ | ⟨b,c,cs,rfl,hc,hl,hf,s⟩
 ·refine ⟨h.next,1,h.push (.cells row ty),?_,uI (cs:=row) (rows:=[] ++ [row]) (c:=1) (by decide) hn2 (by simp) (s'.push (.cells row ty))⟩
  simp only [Ze]
  rw [if_neg (by decide),if_pos (by simp at hb;omega)];rfl
 ·have hroom:roomFor c (rows.length + 1) bz=true:=by
   unfold roomFor
   cases Nat.beq c 2 <;> simp only [cond_true,cond_false,abY] <;> omega
  refine ⟨h.next,w8 c (rows.length + 1),(h.set b none).push (.cells (((cs.drop 0).take (rows.length * n)) ++ row) ty),?_,?_⟩
  ·simp only [Ze,s.get]
   rw [if_neg (by decide),if_pos ⟨hc,trivial,s.wr,by omega,hroom,by simp⟩]
  ·have q:=uI (rows:=rows ++ [row]) (c:=w8 c (rows.length + 1)) (eR _ _) hn2 (by rw [abh,hf,aci];simp) ((s.forget none).push (.cells (((cs.drop 0).take (rows.length * n)) ++ row) ty))
   rw [hlen] at q
   exact q
theorem dw {cs:List Value} {i:Nat} {row:List Value} (hi:i < rows.length) (hn:∀ r,r ∈ rows->r.length=n) (hr:row.length=n) (hl:rows.length * n<=cs.length) (ht:cs.take (rows.length * n)=rows.flatten) :
  (zf cs (i * n) row).take (rows.length * n)=(rows.set i row).flatten:=by
 have hn2:∀ r,r ∈ rows.set i row->r.length=n:=fun r q=>by
  rcases List.mem_or_eq_of_mem_set q with q | rfl
  ·exact hn r q
  ·exact hr
 have hm:i * n + n<=cs.length:=by
  have:=abu n (acf hi)
  rw [ach] at this;omega
 apply abe
 intro j
 by_cases hj:j < rows.length * n
 ·rw [aaL hj,Ko _ _ _ _ (by rw [hr];exact hm),hr]
  have e0:=congrArg (fun l=>l[j]?) ht
  simp only [aaL hj] at e0
  have h0:0 < n:=by rcases ab7 n with q | q; · subst q;simp at hj
                    ·exact q
  have hq:j / n < rows.length:=Nat.div_lt_of_lt_mul (by rw [Nat.mul_comm];exact hj)
  have hj3:j / n * n + j % n=j:=by rw [Nat.mul_comm];exact Nat.div_add_mod j n
  have hmn:j % n < n:=Nat.mod_lt _ h0
  have get:∀ (m:List (List Value)),(∀ r,r ∈ m->r.length=n)->∀ x,m[j / n]? = some x->m.flatten[j]? = x[j % n]?:=fun m hm x hx=>by
   have:=j4 hm hx hmn
   rwa [hj3] at this
  rw [e0,get _ hn _ (aab hq)]
  by_cases e:i=j / n
  ·rw [get _ hn2 row (by rw [e,aaT hq]),if_pos (by rw [e];omega),e]
   congr 1;omega
  ·rw [get _ hn2 _ (by rw [abk e,aab hq]),if_neg]
   rintro ⟨a,b⟩
   apply e
   exact (Nat.div_eq_of_lt_le a (by rw [ach];exact b)).symm
 ·rw [aaj (by simp;omega),aaj (by rw [v5 hn2];simp;omega)]
theorem Vq (s:Sat lo h (xN ty n sv rows :: L)) (hn:∀ r,r ∈ rows->r.length=n) {i:Nat} (hi:i < rows.length) :
  ∃ b c cs,sv = .slice (some ⟨b,0,none⟩) rows.length c/\h.get b=some (.cells cs ty)/\h.ro<=b/\i * n + n<=cs.length /\ ∀ row,row.length=n->Sat lo (h.set b (some (.cells (zf cs (i * n) row) ty))) (xN ty n sv (rows.set i row) :: L):=by
 rcases wW s with ⟨rfl,rfl,_⟩ | ⟨b,c,cs,rfl,hc,hl,hf,s⟩
 ·cases hi
 ·refine ⟨b,c,cs,rfl,s.get,s.wr,?_,fun row hr => ?_⟩
  ·have:=abu n (acf hi)
   rw [ach] at this;omega
  ·have q:=VF (n:=n) (rows:=rows.set i row) (c:=c) hc (by rw [aa3,jr];exact hl) (by rw [aa3];exact dw hi hn hr hl hf) (s.set (.cells (zf cs (i * n) row) ty))
   rwa [aa3] at q
theorem Jg {b i:Nat} {cs row:List Value} {K:za->Prop} (gb:h.get b=some (.cells cs ty)) (wb:h.ro<=b) (lb:i * n + n<=cs.length) (s3:∀ row,row.length=n->Sat lo (h.set b (some (.cells (zf cs (i * n) row) ty))) (xN ty n sv (rows.set i row) :: L))
  (hr:row.length=n) (hc:row.all cellOk=true) (k:∀ h',Sat lo h' (xN ty n sv (rows.set i row) :: L)->K h'):opt (yU h b (i * n) row) K:=by
 rw [tW gb,if_pos ⟨by omega,wb,hc⟩]
 exact k _ (s3 row hr)
theorem vZ {α:Type} {f:α->List Value} {n:Nat} (hf:∀ a,(f a).length=n) (l:List α):∀ r,r ∈ l.map f->r.length=n:=by
 intro r hr
 simp only [aba] at hr
 obtain ⟨y,_,rfl⟩:=hr
 exact hf y
end
def kp (e:Int × Int):List Value:=[.int .i64 e.1,.int .i64 e.2]
def uh (e:Int × Int × Int):List Value:=[.int .i64 e.1,.int .i64 e.2.1,.int .i64 e.2.2]
def y6 (b:Nat):Value := .pointer (some ⟨b,0,none⟩)
def yw (z:Int):List Value:=[.int .i64 z]
def vd (b:Nat):List Value:=[y6 b]
def yK (p:Pg) (mb wb:Nat) (S:St) (ev lk gl cl kv:Value):xE := .cells [p.gv,p.fv,.int .i64 p.main,y6 mb,y6 wb,.int .i64 S.kind,.int .i64 S.exit,ev,lk,.int .i64 S.steps,gl,cl,kv] 106
section
variable {lo:yE} {h:za} {b mb wb:Nat} {p:Pg} {S:St} {ev lk gl cl kv:Value}
theorem tH (s:Sat lo h [pt b (yK p mb wb S ev lk gl cl kv),xN 74 3 lk (S.lk.map uh)]) (hb:(S.lk.length + 1) * 24<=2 ^ 47) (k_ a c:Int) :
  DC Tryz.prog 81 [y6 b,.int .i64 k_,.int .i64 a,.int .i64 c] h (fun _ h' => ∃ lk',Sat lo h' [pt b (yK p mb wb (xC S k_ a c) ev lk' gl cl kv),xN 74 3 lk' ((xC S k_ a c).lk.map uh)]):=by
 apply Gz
 unfold It y6
 have gm:=s.get
 unfold yK y6 at gm
 have n0:=xw (s.p 1)
 have s1:=s.push (.cells [.int .i64 k_,.int .i64 a,.int .i64 c] 74)
 obtain ⟨b',c',h2,a1,s2⟩:=YS (s1.p 2) (vZ (f:=uh) (fun _=>rfl) _) [.int .i64 k_,.int .i64 a,.int .i64 c] rfl (by decide) 24 (by rw [aak];exact hb)
 rw [aak] at a1 s2
 have ha:∀ r,zg Tryz.prog .append [31,31] r [lk,.slice (some ⟨h.next,0,none⟩) 1 3] (h.push (.cells [.int .i64 k_,.int .i64 a,.int .i64 c] 74))=some (.slice (some ⟨b',0,none⟩) (S.lk.length + 1) c',h2):=fun r=>by
  rw [RM r _ _ 1 [.int .i64 k_,.int .i64 a,.int .i64 c] _ rfl (by simp only [xA,zo];rfl) rfl rfl]
  exact a1
 have s3:=s2.p 2
 have g2:=s3.get
 have w2:=s3.wr
 unfold yK y6 at g2
 simp -implicitDefEqProofs only [EE,zf,if_true,Nat.reduceAdd,Nat.reduceLeDiff,yU,zC,Bj,RU,Bu,G2,jo,cP,gm,n0,ha,g2,w2]
 refine ⟨rfl,.slice (some ⟨b',0,none⟩) (S.lk.length + 1) c',?_⟩
 have e1:((xC S k_ a c).lk.map uh)=S.lk.map uh ++ [[.int .i64 k_,.int .i64 a,.int .i64 c]]:=by simp [xC,uh]
 rw [e1]
 exact ((s3.set _).p 2).drop
theorem Fi (s:Sat lo h [pt b (yK p mb wb S ev lk gl cl kv),xN 97 2 ev (S.ev.map kp)]) (hb:(S.ev.length + 1) * 16<=2 ^ 47) (k_ a:Int) :
  DC Tryz.prog 90 [y6 b,.int .i64 k_,.int .i64 a] h (fun _ h' => ∃ ev',Sat lo h' [pt b (yK p mb wb (qM S k_ a) ev' lk gl cl kv),xN 97 2 ev' ((qM S k_ a).ev.map kp)]):=by
 apply C5
 unfold EO y6
 have gm:=s.get
 unfold yK y6 at gm
 have n0:=xw (s.p 1)
 have s1:=s.push (.cells [.int .i64 k_,.int .i64 a] 97)
 obtain ⟨b',c',h2,a1,s2⟩:=YS (s1.p 2) (vZ (f:=kp) (fun _=>rfl) _) [.int .i64 k_,.int .i64 a] rfl (by decide) 16 (by rw [aak];exact hb)
 rw [aak] at a1 s2
 have ha:∀ r,zg Tryz.prog .append [30,30] r [ev,.slice (some ⟨h.next,0,none⟩) 1 3] (h.push (.cells [.int .i64 k_,.int .i64 a] 97))=some (.slice (some ⟨b',0,none⟩) (S.ev.length + 1) c',h2):=fun r=>by
  rw [RJ r _ _ 1 [.int .i64 k_,.int .i64 a] _ rfl (by simp only [xA,zo];rfl) rfl rfl]
  exact a1
 have s3:=s2.p 2
 have g2:=s3.get
 have w2:=s3.wr
 unfold yK y6 at g2
 simp -implicitDefEqProofs only [EE,zf,if_true,Nat.reduceAdd,Nat.reduceLeDiff,yU,zC,IN,RT,GZ,G1,jo,tq,gm,n0,ha,g2,w2]
 refine ⟨rfl,.slice (some ⟨b',0,none⟩) (S.ev.length + 1) c',?_⟩
 have e1:((qM S k_ a).ev.map kp)=S.ev.map kp ++ [[.int .i64 k_,.int .i64 a]]:=by simp [qM,kp]
 rw [e1]
 exact ((s3.set _).p 2).drop
end
theorem jy (l:List V):∀ r,r ∈ l.map V.yJ->r.length=3:=vZ (f:=V.yJ) (fun _=>rfl) l
theorem Pn {h:za} {sv:Value} {l:List V} (S:zJ h sv 3 (l.map V.yJ)) (r:TypeId) (h':za):zg Tryz.prog .len [59] r [sv] h'=some (.int .i64 l.length,h'):=by
 rcases S with ⟨rfl,e⟩ | ⟨b,off,cp,rfl,_⟩
 ·have:l = []:=by simpa using e
  subst this
  simp only [DV,aaw]
 ·simp only [DV,aak]
theorem BT {l:List V} {r:Int} (h:r < 0\/(l.length:Int)<=r):ye l r=v0:=by
 unfold ye
 by_cases h0:r < 0
 ·rw [if_pos h0]
 ·rw [if_neg h0,aaB,aaj (by omega)];rfl
theorem Ou {h:za} {fb:Nat} {fp rv bl pt:Value} {l:List V} (hg:h.get fb=some (.cells [fp,rv,bl,pt] 154)) (hlt:fb < h.next) (S:zJ h rv 3 (l.map V.yJ)) (r:Int):xx Tryz.prog 78 [y6 fb,.int .i64 r] h (vv (ye l r)):=by
 apply ZS rfl
 apply Ir
 unfold Ob y6
 have rn:=S.vk
 have rl:=Pn S 3
 have g0:∀ o,(h.lock.push o).get fb=some (.cells [fp,rv,bl,pt] 154):=fun o=>by rw [zt (by show fb < h.next;exact hlt)];exact hg
 by_cases h0:r < 0
 ·have e:=BT (l:=l) (.inl h0)
  simp -implicitDefEqProofs only [EE,↓nw,Value.cells,zf,if_true,Nat.reduceAdd,yU,zZ,zn,zI,xz,yo,iu,iw,iy,h0]
  rw [e];rfl
 by_cases h1:(l.length:Int)<=r
 ·have e:=BT (l:=l) (.inr h1)
  have h1':r ≥ (l.length:Int):=h1
  simp -implicitDefEqProofs only [EE,↓nw,Value.cells,zf,if_true,Nat.reduceAdd,yU,zZ,zC,p0,zn,zI,xz,yo,Ue,iu,iw,iy,h0,g0,rn,rl,h1]
  rw [e];rfl
 ·obtain ⟨v,hv⟩:∃ v,l[r.toNat]? = some v:=⟨_,aab (by omega)⟩
  obtain ⟨b,o,c,t,⟨off,cp,rfl,rfl⟩,hi,hb,hgt,hle,htk,_⟩:=S.spot (i:=r.toNat) (r:=v.yJ) (by rw [aap,hv];rfl) rfl
  have hr:r < (l.length:Int):=by omega
  have hr0:0<=r:=by omega
  have g1:∀ o,(h.lock.push o).get b=some (.cells c t):=fun o=>by rw [zt (by show b < h.next;exact hb)];exact hgt
  have e:ye l r=v:=by
   unfold ye
   rw [if_neg h0,aaB,hv];rfl
  have htk':(c.drop (off + r.toNat * 3)).take 3 = [.int .i64 v.k,.int .i64 v.n,.int .i64 v.b]:=htk
  simp -implicitDefEqProofs only [EE,↓nw,Value.cells,zf,if_true,Nat.reduceAdd,yU,zZ,zC,p0,zn,zI,xz,Ue,Ft,DV,EP,iu,iw,iy,h0,g0,h1,hr,hr0,g1,hle,htk']
  rw [e];rfl
theorem Hw {h:za} {fb:Nat} {fp rv bl pt:Value} {c:Fr} (hg:h.get fb=some (.cells [fp,rv,bl,pt] 154)) (hlt:fb < h.next) (S:zJ h rv 3 (c.regs.map V.yJ)) (i:yM) (hn:zP i.av=false):xx Tryz.prog 80 [y6 fb,i.val] h (vv (zY c i)):=by
 apply ZS rfl
 apply sG
 unfold pA zY y6
 by_cases h1:i.b = -1
 ·simp -implicitDefEqProofs only [EE,↓nw,Value.cells,Int.reduceNeg,zC,wj,zj,xz,vC,vo,fR,h1]
  refine zi (by kernel_rfl) rfl (ZQ i.k _) ?_
  simp -implicitDefEqProofs only [EE,zf,if_true,Nat.reduceAdd,Int.reduceNeg,yU,zZ,zn,zI,Nat.le_add_right]
  rw [if_pos h1];rfl
 ·simp -implicitDefEqProofs only [EE,↓nw,Value.cells,Int.reduceNeg,zC,zj,xz,vC,fS,h1]
  have e2:∀ a b,Old h.lock ((h.lock.push a).push b):=fun a b=>(Old.push _ _).trans (Old.push _ _)
  have S2:zJ h.lock rv 3 (c.regs.map V.yJ):=S.lock
  refine zi (by kernel_rfl) rfl (Ou (l:=c.regs) (rv:=rv) (fp:=fp) (bl:=bl) (pt:=pt) ?_ ?_ (S2.old (e2 _ _)) i.b) ?_
  ·rw [(e2 _ _).get fb hlt];exact hg
  ·exact aai hlt (e2 _ _).next
  simp -implicitDefEqProofs only [EE,zf,if_true,Nat.reduceAdd,Int.reduceNeg,yU,zZ,zn,zI,Nat.le_add_right]
  rw [if_neg h1];rfl
def jX (fp rv:Value) (kM at_:Int):xE := .cells [fp,rv,.int .i64 kM,.int .i64 at_] 154
theorem My {l:List V} {r k:Nat} (v:V) (hk:k=r + 1 - l.length):v7 l r v=(l ++ List.replicate k v0).set r v:=by
 unfold v7
 rw [if_neg (by omega),hk];rfl
theorem Mz {lo:yE} {h:za} {fb:Nat} {fp rv:Value} {bl at_:Int} {l:List V} (s:Sat lo h [pt fb (jX fp rv bl at_),xN 69 3 rv (l.map V.yJ)]) (r:Int) (v:V) (hr:r < 100000) (hl:l.length<=100000) :
  DC Tryz.prog 77 [y6 fb,.int .i64 r,v.val] h (fun _ h' => ∃ rv',Sat lo h' [pt fb (jX fp rv' bl at_),xN 69 3 rv' ((v7 l r v).map V.yJ)]):=by
 apply Iu
 unfold Oc y6 V.val
 have s1:=s.push (.cells [.int .i64 v.k,.int .i64 v.n,.int .i64 v.b] 69)
 by_cases h0:r < 0
 ·simp -implicitDefEqProofs only [EE,↓nw,Value.cells,h0]
  refine ⟨rfl,rv,?_⟩
  unfold v7
  rw [if_pos h0]
  exact s1.drop
 simp -implicitDefEqProofs only [EE,↓nw,Value.cells,↓BK,h0]
 obtain ⟨r,rfl⟩:∃ k:Nat,r=k:=⟨r.toNat,by omega⟩
 refine kj (I:=fun m vs h' => ∃ k rv',m=r + 1 - (l.length + k)/\(k=0\/l.length + k<=r + 1)/\vs = []/\Sat lo h' [pt h.next (.cells [.int .i64 v.k,.int .i64 v.n,.int .i64 v.b] 69),pt fb (jX fp rv' bl at_),xN 69 3 rv' ((l ++ List.replicate k v0).map V.yJ)]) (n:=r + 1 - l.length) ⟨0,rv,rfl,.inl rfl,rfl,by rw [List.replicate_zero,abD];exact s1⟩ ?_
 rintro m vs h' ⟨k,rv',rfl,hk,rfl,s2⟩
 have g1:=(s2.p 1).get
 have w1:=(s2.p 1).wr
 have SR:=y7 (s2.p 2) (jy _)
 have rn:=SR.vk
 have rl:=Pn SR 3
 unfold jX at g1
 unfold EW
 by_cases hc:(r:Int) ≥ ((l ++ List.replicate k v0).length:Int)
 ·have s3:=s2.push (.cells v0.yJ 69)
  have hlen:(l ++ List.replicate k v0).length=l.length + k:=by simp
  obtain ⟨b',c',h2,a1,s4⟩:=YS (s3.p 3) (jy _) v0.yJ rfl (by decide) 24 (by simp only [aak,hlen] at *;omega)
  rw [aak] at a1 s4
  have ha:∀ r,zg Tryz.prog .append [59,59] r [rv',.slice (some ⟨h'.next,0,none⟩) 1 3] (h'.push (.cells [.int .i64 0,.int .i64 0,.int .i64 0] 69))=some (.slice (some ⟨b',0,none⟩) ((l ++ List.replicate k v0).length + 1) c',h2):=fun r=>
   (IW r _ _ 1 v0.yJ _ rfl (by simp only [xA,zo];rfl) rfl rfl).trans a1
  have s5:=(s4.p 3)
  have g5:=s5.get
  have w5:=s5.wr
  unfold jX at g5
  simp -implicitDefEqProofs only [EE,↓BK,zf,if_true,Nat.reduceAdd,Nat.reduceLeDiff,yU,zC,p0,RX,yo,eO,Ue,EV,g1,rn,rl,hc,ha,g5,w5]
  refine ⟨r + 1 - (l.length + (k + 1)),by omega,k + 1,.slice (some ⟨b',0,none⟩) ((l ++ List.replicate k v0).length + 1) c',rfl,.inr (by omega),?_⟩
  have e:(l ++ List.replicate (k + 1) v0).map V.yJ=(l ++ List.replicate k v0).map V.yJ ++ [v0.yJ]:=by rw [List.replicate_succ',<- ace,aaU];rfl
  rw [e]
  exact ((((s5.set _).p 2).drop).p 2)
 ·have g0:=s2.get
  have hlen:(l ++ List.replicate k v0).length=l.length + k:=by simp
  obtain ⟨b,c,cs,rfl,gb,wb,lb,s3⟩:=Vq (s2.p 2) (jy _) (i:=r) (by rw [aak];omega)
  have hr2:(r:Int) < ((l ++ List.replicate k v0).length:Int):=by omega
  have hr3:(0:Int)<=r:=by omega
  rw [aak] at *
  simp -implicitDefEqProofs only [EE,zf,if_true,Nat.reduceAdd,yU,zZ,zC,p0,zn,zI,Ue,Ft,EX,g0,g1,rn,rl,hc,hr2,hr3,gb,wb,lb,aau]
  refine ⟨rfl,.slice (some ⟨b,0,none⟩) (l ++ List.replicate k v0).length c,?_⟩
  rw [My v (k:=k) (by omega)]
  have:=s3 v.yJ rfl
  rw [<- acs] at this
  have q:=(this.p 1).drop
  exact q.p 1
section
variable {lo:yE} {h:za} {L:List HP} {b mb wb fb:Nat} {p:Pg} {S:St} {ev lk gl cl kv fp rv:Value} {c:Fr}
theorem cT {bl at_:Int} {l:List V} (s:Sat lo h (pt fb (jX fp rv bl at_) :: xN 69 3 rv (l.map V.yJ) :: L)) (r:Int):xx Tryz.prog 78 [y6 fb,.int .i64 r] h (vv (ye l r)) :=
 Ou s.get s.lt (y7 (s.p 1) (jy _)) r
theorem rZ (s:Sat lo h (pt fb (jX fp rv c.kM c.pt) :: xN 69 3 rv (c.regs.map V.yJ) :: L)) (i:yM) (hn:zP i.av=false):xx Tryz.prog 80 [y6 fb,i.val] h (vv (zY c i)) :=
 Hw s.get s.lt (y7 (s.p 1) (jy _)) i hn
def Fu (S:St) (o:Option V):St:=match o with
 | some q=>xC S 2 q.b q.n
 | none=>S
def II (o:Option V):Value := .tuple #[vv (o.getD v0),.bool o.isSome]
theorem pZ (s:Sat lo h [pt b (yK p mb wb S ev lk gl cl kv),xN 74 3 lk (S.lk.map uh),pt fb (jX fp rv c.kM c.pt),xN 69 3 rv (c.regs.map V.yJ)]) (hL:(S.lk.length + 1) * 24<=2 ^ 47) (i:yM) (hn:zP i.av=false) (hc:cellOk i.av=true) :
  DC Tryz.prog 83 [y6 b,y6 fb,i.val] h (fun v h'=>v=II (yB c i) /\ ∃ lk',Sat lo h' [pt b (yK p mb wb (Fu S (yB c i)) ev lk' gl cl kv),xN 74 3 lk' ((Fu S (yB c i)).lk.map uh),pt fb (jX fp rv c.kM c.pt),xN 69 3 rv (c.regs.map V.yJ)]):=by
 apply sE
 unfold oI y6
 simp -implicitDefEqProofs only [EE,Value.cells,xz]
 refine uR s fun b1 h1 s1 => ?_
 simp -implicitDefEqProofs only [EE,zC,zj,xe]
 refine uR s1 fun b2 h2 s2 => ?_
 have g1:=(s2.p 1).get
 simp -implicitDefEqProofs only [EE,g1]
 refine vn (by kernel_rfl) rfl (cT (s2.f [4,5]) i.a) ?_
 simp -implicitDefEqProofs only [EE,zC,wj,vo,fN,g1]
 refine vn (by kernel_rfl) rfl (ZQ i.k _) ?_
 refine vn (by kernel_rfl) rfl (Lf 11 _ _ _) ?_
 unfold w6
 cases hb:xp 11 (ye c.regs i.a) (j1 i.k) with
 | none=>
   simp -implicitDefEqProofs only [EE,Value.cells,xz,QG,ab4,abC,vv,v0]
   refine uR s2 fun b3 h3 s3 => ?_
   simp -implicitDefEqProofs only [EE,Nat.reduceAdd,zI]
   refine yL s3 (by simp) rfl fun h4 s4 => ?_
   simp -implicitDefEqProofs only [EE,Nat.reduceAdd,zI,yo,QE,QF]
   refine yL (s4.p 1) (by simp) rfl fun h5 s5 => ?_
   have g5:=s5.get
   simp -implicitDefEqProofs only [EE,zf,if_true,Nat.reduceAdd,zZ,zn,g5]
   have ea:yB c i=none:=by simp [yB,hb]
   rw [ea]
   exact ⟨rfl,lk,s5.k [3,4,5,6]⟩
 | some q=>
   simp -implicitDefEqProofs only [EE,Value.cells,xz,QG,abx,abJ,vv]
   refine uR s2 fun b3 h3 s3 => ?_
   simp -implicitDefEqProofs only [EE,Nat.reduceAdd,zI]
   refine yL s3 (by simp) rfl fun h4 s4 => ?_
   have g4:=s4.get
   simp -implicitDefEqProofs only [EE,zf,Nat.reduceAdd,zC,zj,xk,QF,g4]
   by_cases hk:q.k=2
   ·have ea:yB c i=some q:=by simp [yB,hb,hk]
    rw [ea]
    simp -implicitDefEqProofs only [EE,zf,Nat.reduceAdd,zC,wj,zj,xo,w9,fM,g4,hk]
    obtain ⟨lo1,l1,s5,fr⟩:=(s4.f [3,4]).call (L2:=[pt b (yK p mb wb S ev lk gl cl kv),xN 74 3 lk (S.lk.map uh)])
    refine zT (by kernel_rfl) rfl (tH s5 hL 2 q.b q.n) ?_
    rintro v h5 ⟨lk',s6⟩
    have s7:=fr _ _ s6
    have g7:=(s7.p 2).get
    simp -implicitDefEqProofs only [EE,zf,if_true,Nat.reduceAdd,zZ,zn,zI,fL,g7]
    refine yL (s7.p 3) (by simp) rfl fun h8 s8 => ?_
    have g8:=s8.get
    simp -implicitDefEqProofs only [EE,zf,if_true,Nat.reduceAdd,zZ,zn,g8]
    exact ⟨rfl,lk',s8.k [1,2,5,6]⟩
   ·have ea:yB c i=none:=by simp [yB,hb,hk]
    rw [ea]
    simp -implicitDefEqProofs only [EE,Nat.reduceAdd,zI,yo,QE,hk]
    refine yL (s4.p 1) (by simp) rfl fun h5 s5 => ?_
    have g5:=s5.get
    simp -implicitDefEqProofs only [EE,zf,if_true,Nat.reduceAdd,zZ,zn,g5]
    exact ⟨rfl,lk,s5.k [3,4,5,6]⟩
def O2 (S:St) (o:Option V):St:=match o with
 | some w=>xC S 1 w.n 0
 | none=>S
def O1 (c:Fr) (i:yM) (o:Option V):Int:=match o with
 | some w=>if w.n=0 then i.t else i.s
 | none=>c.pt
theorem Pc (s:Sat lo h [pt b (yK p mb wb S ev lk gl cl kv),xN 74 3 lk (S.lk.map uh),pt fb (jX fp rv c.kM c.pt),xN 69 3 rv (c.regs.map V.yJ)]) (hL:(S.lk.length + 1) * 24<=2 ^ 47) (i:yM) (hn:zP i.av=false) (hc:cellOk i.av=true) (o:Option V) (ho:o=xp i.sub (ye c.regs i.a) (zY c i)) :
  DC Tryz.prog 87 [y6 b,y6 fb,i.val] h (fun v h'=>v = .bool o.isSome /\ ∃ lk',Sat lo h' [pt b (yK p mb wb (O2 S o) ev lk' gl cl kv),xN 74 3 lk' ((O2 S o).lk.map uh),pt fb (jX fp rv c.kM (O1 c i o)),xN 69 3 rv (c.regs.map V.yJ)]):=by
 apply Gx
 unfold Ip y6
 simp -implicitDefEqProofs only [EE,Value.cells]
 refine uR s fun b1 h1 s1 => ?_
 have g1:=s1.get
 simp -implicitDefEqProofs only [EE,zC,zj,zW,xe,g1]
 refine vn (by kernel_rfl) rfl (cT (s1.f [3,4]) i.a) ?_
 simp -implicitDefEqProofs only [EE,if_true,Nat.reduceAdd,zZ,ka,g1]
 refine vn (by kernel_rfl) rfl (rZ (s1.f [3,4]) i hn) ?_
 simp -implicitDefEqProofs only []
 refine vn (by kernel_rfl) rfl (Lf i.sub _ _ _) ?_
 rw [<- ho]
 unfold w6
 cases o with
 | none=>
   simp -implicitDefEqProofs only [EE,Value.cells,xz,i3,ab4,abC,vv,v0]
   refine uR s1 fun b3 h3 s3 => ?_
   simp -implicitDefEqProofs only [EE,Nat.reduceAdd,zI]
   refine yL s3 (by simp) rfl fun h4 s4 => ?_
   simp -implicitDefEqProofs only [EE]
   exact ⟨rfl,lk,s4.k [2,3,4,5]⟩
 | some q=>
   simp -implicitDefEqProofs only [EE,Value.cells,xz,i3,abx,abJ,vv]
   refine uR s1 fun b3 h3 s3 => ?_
   simp -implicitDefEqProofs only [EE,Nat.reduceAdd,zI]
   refine yL s3 (by simp) rfl fun h4 s4 => ?_
   have g4:=s4.get
   simp -implicitDefEqProofs only [EE,zf,Nat.reduceAdd,zC,wj,xo,AL,g4]
   obtain ⟨lo1,l1,s5,fr⟩:=(s4.f [2,3]).call (L2:=[pt b (yK p mb wb S ev lk gl cl kv),xN 74 3 lk (S.lk.map uh)])
   refine zT (by kernel_rfl) rfl (tH s5 hL 1 q.n 0) ?_
   rintro v h5 ⟨lk',s6⟩
   have s7:=fr _ _ s6
   have g7:=(s7.p 3).get
   simp -implicitDefEqProofs only [EE,zC,zj,Wy,Uf,kI,AK,g7]
   refine yL (s7.p 4) (by simp) rfl fun h8 s8 => ?_
   have g8:=(s8.p 3).get
   simp -implicitDefEqProofs only [EE,zf,Nat.reduceAdd,zC,wj,xo,g8]
   by_cases hz:q.n=0
   ·rw [show O1 c i (some q)=i.t by simp [O1,hz]]
    have g9:=(s8.p 4).get
    simp -implicitDefEqProofs only [EE,zC,zj,Wy,Uf,YM,AJ,g9,hz]
    refine yL s8 (by simp [zf]) rfl fun h9 s9 => ?_
    simp -implicitDefEqProofs only [EE]
    exact ⟨rfl,lk',s9.k [1,2,0,5]⟩
   ·rw [show O1 c i (some q)=i.s by simp [O1,hz]]
    simp -implicitDefEqProofs only [EE,hz]
    exact ⟨rfl,lk',s8.k [1,2,0,5]⟩
end
section
variable {g h:za} {F G:Nat->Prop}
theorem Nw {q:Nat} {gs:List (Option Nat)} {B:MB} (x:YT g q gs B F) (e:∀ b o,F b->g.get b=some o->h.get b=some o/\G b):YT h q gs B G :=
 ⟨x.hl,(e q _ x.fq x.hq).2,(e q _ x.fq x.hq).1,fun j p hj=>by
  obtain ⟨a,cs,c1,c2,c3⟩:=x.hg j p hj
  exact ⟨(e p _ a c1).2,cs,(e p _ a c1).1,c2,c3⟩,x.hn,x.hd,x.ht⟩
theorem O0 {p:Nat} {B:MB} (x:nB g p B F) (e:∀ b o,F b->g.get b=some o->h.get b=some o/\G b):nB h p B G:=by
 obtain ⟨pg,a,b,c⟩:=x
 refine ⟨pg,(e p _ b a).1,(e p _ b a).2,?_⟩
 cases c with
 | empty a b=>exact .empty a b
 | full q c gs a x=>exact .full q c gs a (Nw x e)
def Pu (m:Nat) (M:MM) (h:za) (F:Nat->Prop):Prop:=ss h m M F
theorem Qe (m:Nat) (M:MM):Mv (Pu m M):=by
 rintro g h F G ⟨bs,ps,fs,x⟩ e ok
 refine ⟨bs,ps,fun i b=>fs i b /\ ∃ o,g.get b=some o,(e m _ x.fm x.hm).1,(e m _ x.fm x.hm).2,x.len,?_,fun i q=>x.nm i q.1,fun i p B hp hB => ?_,fun i j b p q=>x.Ol i j b p.1 q.1,fun i b q => ?_,ok⟩
 ·rcases x.hb with a | ⟨bb,c,a1,a2,a3,a4,a5⟩
  ·exact .inl a
  ·exact .inr ⟨bb,c,a1,a2,(e bb _ a3 a4).2,(e bb _ a3 a4).1,fun i q=>a5 i q.1⟩
 ·exact O0 (x.kM i p B hp hB) fun b o hb hg=>⟨(e b o (x.sub i b hb) hg).1,hb,o,hg⟩
 ·obtain ⟨q1,o,q2⟩:=q
  exact (e b o (x.sub i b q1) q2).2
end
def kE (m:Nat) (M:MM):HP:=own (Pu m M)
section
variable {lo:yE} {h:za} {L:List HP} {m:Nat} {M:MM}
theorem cZ {F:Nat->Prop} {M':MM} {h1:za} (c:∀ h1 F' X',Mv X'->h.next<=h1.next->h1.ro=h.ro->(∀ b,¬ F b->b < h.next->h1.get b=h.get b)->X' h1 F'->(∀ b,F' b->F b\/h.next<=b)->(∀ b,F' b->h1.ro<=b/\b < h1.next)->Sat lo h1 (own X' :: L)) (x:Ad h m M' F h1):Sat lo h1 (kE m M' :: L):=by
 obtain ⟨F',mh,YK,sub⟩:=x
 obtain ⟨bs,ps,fs,mo⟩:=mh
 exact c h1 F' (Pu m M') (Qe m M') YK.next YK.ro (fun b hb hlt=>YK.get b hb hlt) ⟨bs,ps,fs,mo⟩ sub mo.ok
theorem E4 (s:Sat lo h (kE m M :: L)) (n:Int):DC Tryz.prog 47 [y6 m,.int .i64 n] h (fun v h1=>v = .tuple #[.int .i64 (y1 M n).2.1,.int .i64 (y1 M n).2.2]/\Sat lo h1 (kE m (y1 M n).1 :: L)):=by
 obtain ⟨F,⟨bs,ps,fs,x⟩,_,c⟩:=Sat.Kx (Qe m M) s
 exact (IT x n).mono fun v h1 ⟨e,mu⟩=>⟨e,cZ c mu⟩
theorem LJ (s:Sat lo h (kE m M :: L)) (hL:M.length<=100000) {n:Int} (hn:n < 9223372036854775808):DC Tryz.prog 120 [y6 m,.int .i64 n] h (fun v h1=>v = .bool (jL M n).isSome/\Sat lo h1 (kE m ((jL M n).getD M) :: L)):=by
 obtain ⟨F,⟨bs,ps,fs,x⟩,_,c⟩:=Sat.Kx (Qe m M) s
 refine (Nv x hL hn).mono fun v h1 r => ?_
 unfold Em at r
 cases e:jL M n with
 | none=>rw [e] at r;obtain ⟨r1,rfl⟩:=r;exact ⟨r1,s⟩
 | some M'=>rw [e] at r;exact ⟨r.1,cZ c r.2⟩
theorem P9 (s:Sat lo h (kE m M :: L)) (hs:small M) {n:Int} (hn:n < 9223372036854775808):DC Tryz.prog 48 [y6 m,.int .i64 n] h (fun v h1=>v = .bool (Ur M n).isSome/\Sat lo h1 (kE m ((Ur M n).getD M) :: L)):=by
 obtain ⟨F,⟨bs,ps,fs,x⟩,_,c⟩:=Sat.Kx (Qe m M) s
 refine (N0 x hs hn).mono fun v h1 r => ?_
 unfold E1 at r
 cases e:Ur M n with
 | none=>rw [e] at r;obtain ⟨r1,rfl⟩:=r;exact ⟨r1,s⟩
 | some M'=>rw [e] at r;exact ⟨r.1,cZ c r.2⟩
theorem Pq (s:Sat lo h (kE m M :: L)) (hs:small M) {c:Int} {p:V} (hc:jZ c) (hp:p.ok):DC Tryz.prog 84 [y6 m,.int .i64 c,vv p] h (fun v h1=>v=w6 (ZP M c p)/\Sat lo h1 (kE m M :: L)):=by
 obtain ⟨F,⟨bs,ps,fs,x⟩,_,_⟩:=Sat.Kx (Qe m M) s
 refine (ND x hs hc hp).mono fun v h1 ⟨e,r⟩=>⟨?_,s.Pp e.next e.ro fun b hb=>e.get b (fun q=>q) hb⟩
 unfold nZ at r
 cases e:ZP M c p with
 | none=>rw [e] at r;exact r
 | some a=>rw [e] at r;exact r
theorem NR (s:Sat lo h (kE m M :: L)) (hs:small M) {c:Int} {p v:V} (hc:jZ c) (hp:p.ok):DC Tryz.prog 85 [y6 m,.int .i64 c,vv p,vv v] h (fun r h1=>r = .bool (jw M c p v).isSome/\Sat lo h1 (kE m ((jw M c p v).getD M) :: L)):=by
 obtain ⟨F,⟨bs,ps,fs,x⟩,_,cl⟩:=Sat.Kx (Qe m M) s
 refine (ML x hs hc hp).mono fun r h1 q => ?_
 unfold JD at q
 cases e:jw M c p v with
 | none=>rw [e] at q;exact ⟨q.1,cZ cl q.2⟩
 | some M'=>rw [e] at q;exact ⟨q.1,cZ cl q.2⟩
theorem Px (s:Sat lo h L):DC Tryz.prog 45 [] h (fun v h1 => ∃ m,v=y6 m/\Sat lo h1 (kE m [] :: L)):=by
 refine (PA h).mono fun v h1 ⟨e,x,YK⟩=>⟨h.next,e,?_⟩
 obtain ⟨bs,ps,fs,mo⟩:=x
 exact s.NL (Qe h.next []) YK.next YK.ro (fun b hb=>YK.get b (fun q=>q) hb) ⟨bs,ps,fs,mo⟩ fun b hb=>⟨by rw [hb];exact aah _,(mo.ok b hb).2⟩
end
open Go.Rtl (inc)
def Rd (lo:yE) (X:za->Prop):Prop := ∀ h,gZ lo h->X h
theorem Rd.mono {lo lo':yE} {X:za->Prop} (x:Rd lo X) (l:lo.Le lo'):Rd lo' X:=fun h b=>x h (b.mono l)
theorem Rd.at {lo:yE} {X:za->Prop} {h:za} {L:List HP} (x:Rd lo X) (s:Sat lo h L):X h:=x h s.base
theorem Rd.of {lo:yE} {X:za->Prop} {h0:za} (hl:lo.Has h0) (x:X h0) (m:∀ h,Old h0 h->X h):Rd lo X:=fun h b=>m h (by obtain ⟨a,c,d⟩:=hl.old b;exact ⟨a,c,d⟩)
section
variable {lo:yE} {h:za} {L:List HP} {ty:TypeId} {n:Nat} {sv:Value} {rows:List (List Value)}
theorem MG (s:Sat lo h (xN ty n sv rows :: L)) (hn:∀ r,r ∈ rows->r.length=n):∃ lo1,lo.Le lo1/\Rd lo1 (zJ · sv n rows)/\Sat lo1 h L /\ ∀ h' L',Sat lo1 h' L'->Sat lo h' (xN ty n sv rows :: L'):=by
 obtain ⟨a,ha,d,w,s⟩:=s
 refine ⟨lo.un a,yE.cW d,fun h1 b1 => ?_,s,fun h' L' s'=>⟨a,ha,d,w,s'⟩⟩
 have:Sat lo h1 [xN ty n sv rows]:=⟨a,ha,d,w,b1⟩
 exact y7 this hn
end
def jG (p:Pg) (fb:Nat) (c:Fr):HP:=ex fun fp=>ex fun rv=>vB [fact (zw Tryz.prog 23 p.fv (.int .i64 (c.f:Nat))=some fp),pt fb (jX fp rv c.kM c.pt),xN 69 3 rv (c.regs.map V.yJ)]
section
variable {lo:yE} {h:za} {L:List HP} {p:Pg} {fb:Nat} {c:Fr}
theorem vL (s:Sat lo h (jG p fb c :: L)):∃ fp rv,zw Tryz.prog 23 p.fv (.int .i64 (c.f:Nat))=some fp/\Sat lo h (pt fb (jX fp rv c.kM c.pt) :: xN 69 3 rv (c.regs.map V.yJ) :: L):=by
 obtain ⟨fp,s⟩:=s.SH
 obtain ⟨rv,s⟩:=s.SH
 obtain ⟨e,s⟩:=Sat.BO.1 s.open
 exact ⟨fp,rv,e,s⟩
theorem XI {fp rv:Value} (e:zw Tryz.prog 23 p.fv (.int .i64 (c.f:Nat))=some fp) (s:Sat lo h (pt fb (jX fp rv c.kM c.pt) :: xN 69 3 rv (c.regs.map V.yJ) :: L)):Sat lo h (jG p fb c :: L) :=
 Sat.Sl fp (Sat.Sl rv (Sat.close (Sat.BO.2 ⟨e,s⟩)))
end
theorem Cv (l:List V) (r:Int) (v:V):(v7 l r v).length<=max l.length (r.toNat + 1):=by
 unfold v7
 split
 ·omega
 ·simp;omega
theorem gR:∀ (ps:List Int) (al l:List V) (r:Int) (a:V),ps.length<=al.length->al[ps.length]? = some a->vX (ps ++ [r]) al l=v7 (vX ps al l) r a
 | [],a' :: al,l,r,a,_,h=>by simp at h;subst h;rfl
 | [],[],l,r,a,_,h=>by cases h
 | p :: ps,a' :: al,l,r,a,hl,h=>by
   simp only [abM,vX]
   exact gR ps al _ r a (by simpa using hl) (by simpa using h)
 | p :: ps,[],l,r,a,hl,h=>by simp at hl
theorem Qa:∀ (ps:List Int) (al l:List V) {m:Nat},l.length<=m->(∀ r,r ∈ ps->r.toNat < m)->(vX ps al l).length<=m
 | [],al,l,m,h,_=>by cases al <;> exact h
 | p :: ps,a :: al,l,m,h,hp=>by
   simp only [vX]
   refine Qa ps al _ ?_ fun r hr=>hp r (by simp [hr])
   have:=Cv l p a
   have:=hp p (by simp)
   omega
 | p :: ps,[],l,m,h,_=>h
section
variable {lo:yE} {h:za} {b mb wb:Nat} {p:Pg} {S:St} {ev lk gl cl kv av:Value} {fbs:List Nat} {f:Go.Rtl.Fn} {args:List V} {n:Nat}
theorem Tb {h:za} {sv:Value} {l:List Nat} (S:zJ h sv 1 (l.map vd)) (r:TypeId) (h':za):zg Tryz.prog .len [104] r [sv] h'=some (.int .i64 l.length,h'):=by
 rcases S with ⟨rfl,e⟩ | ⟨b,off,cp,rfl,_⟩
 ·have:l = []:=by simpa using e
  subst this
  simp only [Xy,aaw]
 ·simp only [Xy,aak]
theorem iJ (l:List Nat):∀ r,r ∈ l.map vd->r.length=1:=vZ (f:=vd) (fun _=>rfl) l
theorem Fg (hp:Rd lo (wQ · p)) (ha:Rd lo (zJ · av 3 (args.map V.yJ))) (s:Sat lo h [pt b (yK p mb wb S ev lk gl cl kv),xN 152 1 cl (fbs.map vd),kE mb S.mem])
  (hf:p.funcs[n]? = some f) (hl:args.length=f.params.length) (hfb:fbs.length=S.calls.length) (hr:∀ r,r ∈ f.params->r < 100000) (hpl:f.params.length<=100000) :
  DC Tryz.prog 50 [y6 b,.int .i64 (n:Nat),av] h (fun v h'=>v = .bool (wh p S n args).2 /\
   if (wh p S n args).2=true then ∃ fb cl',Sat lo h' [pt b (yK p mb wb (wh p S n args).1 ev lk gl cl' kv),xN 152 1 cl' ((fbs ++ [fb]).map vd),kE mb (wh p S n args).1.mem,jG p fb ⟨n,vX f.params args [],(y1 S.mem f.frame).2.1,f.entry⟩]
   else Sat lo h' [pt b (yK p mb wb (wh p S n args).1 ev lk gl cl kv),xN 152 1 cl (fbs.map vd),kE mb (wh p S n args).1.mem]):=by
 apply C4
 unfold EN y6
 have gm:=s.get
 unfold yK y6 at gm
 have hP:=hp.at s
 obtain ⟨bf,o,cf,tf,hix,hbf,hgf,hof,htf,hkf⟩:=zJ.cC hP.funcs (i:=n) (r:=f.row) (by rw [aap,hf];rfl) rfl
 have fvn:=hP.funcs.vk
 have SC:=y7 (s.p 1) (iJ fbs)
 have cn:=SC.vk
 have cll:=Tb SC 3
 have en:(n:Int).toNat=n:=aau n
 by_cases hc:((fbs.length:Nat):Int) ≥ 20000
 ·have e:wh p S n args=(S,false):=by unfold wh;rw [if_pos (by omega)]
  simp -implicitDefEqProofs only [EE,zC,Vw,vA,BI,jW,y8,gm,hix,cn,cll,hc]
  rw [e]
  exact ⟨rfl,by simpa using s⟩
 simp -implicitDefEqProofs only [EE,zC,J1,Vw,vA,zj,BI,Wj,jW,y8,kH,oS,gm,hix,cn,cll,hc]
 have k3:=hkf 3 (by decide)
 simp -implicitDefEqProofs only [EE,hgf,k3]
 obtain ⟨lo1,l1,s1,fr⟩:=(s.f [2]).call (L2:=[kE mb S.mem])
 refine qm (by kernel_rfl) rfl (E4 s1 f.frame) ?_
 rintro v h2 ⟨rfl,s2⟩
 have s3:=fr _ _ s2
 obtain ⟨M',rB,rE,hA⟩:∃ M' rB rE,y1 S.mem f.frame=(M',rB,rE):=⟨_,_,_,rfl⟩
 have en:wh p S n args=if rE=0 then ({ S with mem:=M',calls:=S.calls ++ [⟨n,vX f.params args [],rB,f.entry⟩] },true) else ({ S with mem:=M' },false):=by
  unfold wh
  rw [if_neg (by omega)]
  simp only [aau,hf,hA]
 rw [hA] at s3 ⊢
 have gm3:=(s3.p 1).get
 unfold yK y6 at gm3
 by_cases hE:rE=0
 ·rw [if_pos hE] at en
  rw [en]
  have hP2:=hp.at s3
  have hf2:=hP2.fns f (aaq hf)
  obtain ⟨bf2,o2,cf2,tf2,hix2,hbf2,hgf2,hof2,htf2,hkf2⟩:=zJ.cC hP2.funcs (i:=n) (r:=f.row) (by rw [aap,hf];rfl) rfl
  rw [hix] at hix2
  obtain ⟨e1,e2⟩:bf=bf2/\o=o2:=by simpa using hix2
  subst bf2 o2
  have k4:=hkf2 4 (by decide)
  simp -implicitDefEqProofs only [EE,Value.cells,zC,xr,zj,tj,uK,ZK,oR,dV,hE,hgf2,k4]
  refine uR s3 fun b1 h3 s4 => ?_
  have hP4:=hp.at s4
  have hf4:=hP4.fns f (aaq hf)
  obtain ⟨bf4,o4,cf4,tf4,hix4,hbf4,hgf4,hof4,htf4,hkf4⟩:=zJ.cC hP4.funcs (i:=n) (r:=f.row) (by rw [aap,hf];rfl) rfl
  rw [hix] at hix4
  obtain ⟨e1,e2⟩:bf=bf4/\o=o4:=by simpa using hix4
  subst bf4 o4
  have k14:=hkf4 1 (by decide)
  have pn:=hf4.params.vk
  have pl:=hf4.params.len
  simp -implicitDefEqProofs only [EE,↓BK,hgf4,k14,pn,pl]
  refine kj (fun m vs h' => ∃ (i:Nat) (rv:Value),i<=f.params.length/\m=f.params.length - i/\vs = [.int .i64 (i:Nat)]/\Sat lo h' [pt b1 (jX (.pointer (some ⟨bf,o,none⟩)) rv rB f.entry),xN 69 3 rv ((vX (f.params.take i) args []).map V.yJ),kE mb M',pt b (yK p mb wb S ev lk gl cl kv),xN 152 1 cl (fbs.map vd)])
   f.params.length ⟨0,.slice none 0 0,aa0 _,rfl,rfl,?_⟩ ?_
  ·have q:=ub 69 3 s4
   rw [acy,show vX [] args [] = [] by cases args <;> rfl]
   exact (q.f [1,0,2,3,4])
  rintro m vs h' ⟨i,rv,hi,rfl,rfl,s5⟩
  unfold oP
  by_cases hc2:(i:Int) < (f.params.length:Int)
  ·obtain ⟨r,hr1⟩:∃ r,f.params[i]? = some r:=⟨_,aab (by omega)⟩
   obtain ⟨a,ha1⟩:∃ a,args[i]? = some a:=⟨_,aab (by omega)⟩
   obtain ⟨b5,o5,c5,t5,ix5,lt5,g5,k5⟩:=((hp.at s5).fns f (aaq hf)).params.at hr1
   obtain ⟨b6,o6,c6,t6,⟨off6,cp6,hav,rfl⟩,hi6,hb6,hg6,hl6,ht6,_⟩:=(ha.at s5).spot (i:=i) (r:=a.yJ) (by rw [aap,ha1];rfl) rfl
   subst hav
   have hi7:(i:Int) < (args.length:Int):=by omega
   have hi8:(0:Int)<=i:=by omega
   have ht6':(c6.drop (off6 + i * 3)).take 3 = [.int .i64 a.k,.int .i64 a.n,.int .i64 a.b]:=ht6
   simp -implicitDefEqProofs only [EE,nth,↓BK,if_true,zZ,zC,zj,zn,Ft,oN,oO,hc2,ix5,g5,k5,hi7,hi8,hg6,hl6,ht6',aau]
   obtain ⟨lo2,l2,s6,fr2⟩:=(s5.f [0,1]).call (L2:=[pt b1 (jX (.pointer (some ⟨bf,o,none⟩)) rv rB f.entry),xN 69 3 rv ((vX (f.params.take i) args []).map V.yJ)])
   refine zT (by kernel_rfl) rfl (Mz s6 r a (hr r (aaq hr1)) ?_) ?_
   ·exact Qa _ _ _ (by simp) fun r hr'=>by have:=hr r (List.mem_of_mem_take hr');omega
   rintro v h6 ⟨rv',s7⟩
   have s8:=fr2 _ _ s7
   simp -implicitDefEqProofs only [EE,nth,inc (show i < 4611686018427387904 by omega)]
   refine ⟨f.params.length - (i + 1),by omega,i + 1,rv',by omega,rfl,rfl,?_⟩
   rw [abP,hr1]
   have hlen:(f.params.take i).length=i:=by simp;omega
   have hg:=gR (f.params.take i) args [] r a (by rw [hlen];omega) (by rw [hlen];exact ha1)
   rw [show (some r).toList = [r] from rfl,hg]
   exact s8
  ·have hi9:i=f.params.length:=by omega
   subst hi9
   rw [List.take_length] at s5
   have g5:=(s5.p 3).get
   unfold yK y6 at g5
   have SC5:=xw (s5.p 4)
   have s6:=s5.push (.cells [y6 b1] 152)
   obtain ⟨b',c',h7,a1,s7⟩:=YS (s6.p 5) (iJ fbs) [y6 b1] rfl (by decide) 8 (by rw [aak];omega)
   rw [aak] at a1 s7
   have hap:∀ r,zg Tryz.prog .append [104,104] r [cl,.slice (some ⟨h'.next,0,none⟩) 1 3] (h'.push (.cells [y6 b1] 152))=some (.slice (some ⟨b',0,none⟩) (fbs.length + 1) c',h7):=fun r=>
    (OQ r _ _ 1 [y6 b1] _ rfl (by simp only [xA,zo];rfl) rfl rfl).trans a1
   unfold y6 at hap
   simp -implicitDefEqProofs only [EE,nth,zC,Vw,Dl,Dw,jW,oQ,hc2,g5,SC5,hap]
   refine yL (s7.p 5) (by simp) rfl fun h8 s8 => ?_
   simp -implicitDefEqProofs only [EE,if_true]
   refine ⟨b1,.slice (some ⟨b',0,none⟩) (fbs.length + 1) c',?_⟩
   have e1:(fbs ++ [b1]).map vd=fbs.map vd ++ [[y6 b1]]:=by simp [vd]
   rw [e1]
   have s9:=s8.k [3,4,0,1,5]
   have s10:=XI (p:=p) (fb:=b1) (c:=⟨n,vX f.params args [],rB,f.entry⟩) hix s9
   exact s10.f [1,2,3,0]
 ·rw [if_neg hE] at en
  rw [en]
  simp -implicitDefEqProofs only [EE,dV,hE]
  exact s3.f [1,2,0]
end
end Go.Rm
