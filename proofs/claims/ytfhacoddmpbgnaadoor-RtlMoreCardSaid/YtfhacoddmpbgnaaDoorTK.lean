/- A part of the proof. -/
import Derived.Test.YtfhacoddmpbgnaaDoorChecked
import Derived.KernelRfl
import Derived.Test.YtfhacoddmpbgnaaDoorTI
import Derived.Test.YtfhacoddmpbgnaaDoorTJ
import Derived.Test.YtfhacoddmpbgnaaDoorTE
set_option linter.unusedVariables false
set_option linter.unusedSimpArgs false
namespace Go.Rl
open Go.Ai Go.Proofs Go.Proofs.Tryd
set_option linter.unusedVariables false
set_option maxRecDepth 100000
abbrev VK := Value -> za -> Prop
abbrev LK := List Value -> za -> Prop
abbrev ci (n : Int) : Operand := .const (.int .i64 n)
abbrev fn (n : Nat) : Value := .func (.func n) #[] #[]
variable {h : za} {t0 t1 t2 t3 t4 t5 t6 : Value} {R : VK}
def qs : FuncId -> Nat := fun g => [0].getD g 0
theorem mixed : prog.follows .mixedOrders = true := Checked.mixed Tryd.checked
def Vx (t38 : Value) (R : VK) (vs20 : List Value) (j26 : LK) (t46 : Value) (h57 : za) : Prop :=
 opt (pk t38 (.bool true) t46) fun t47 => CD t47 (fun j58 => rv [(.bool false)] h57 R)
 (fun j58 => j58 [(nth vs20 0)] h57)
 (fun vs59 h60 => j26 [(nth vs59 0)] h60)
def V8 (t38 : Value) (R : VK) (vs20 : List Value) (j26 : LK) (t45 : Value) (h55 : za) : Prop :=
 GD t38 false (fun k56 => opt (nb [t45, (.int .i64 4096)] (zf prog .gtr 3 (.tmp 45) (.const (.int .i64 4096)) t45 (.int .i64 4096))) fun t46 => k56 t46 h55) (Vx t38 R vs20 j26) h55
def Vq (t38 : Value) (R : VK) (vs20 : List Value) (j26 : LK) (t43 : Value) (h51 : za) : Prop :=
 GD t38 false (fun k52 => opt (zb prog 51 t43 3) fun t44 => k52 t44 h51) (fun t44 h53 => GD t38 false (fun k54 => opt (zd prog 3 t44 h53) fun t45 => k54 t45 h53) (V8 t38 R vs20 j26) h53) h51
def V3 (t38 : Value) (vs20 : List Value) (R : VK) (j26 : LK) (t41 : Value) (h47 : za) : Prop :=
 GD t38 false (fun k48 => k48 (nth vs20 1) h47) (fun t42 h49 => GD t38 false (fun k50 => opt (zG prog 23 t41 t42) fun t43 => k50 t43 h49) (Vq t38 R vs20 j26) h49) h47
def VI (t29 t1 : Value) (vs20 : List Value) (R : VK) (j26 : LK) (t37 : Value) (h43 : za) : Prop :=
 opt (pk t29 (.bool true) t37) fun t38 => GD t38 false (fun k44 => opt (zb prog 25 t1 1) fun t40 => k44 t40 h43) (fun t40 h45 => GD t38 false (fun k46 => opt (zd prog 23 t40 h45) fun t41 => k46 t41 h45) (V3 t38 vs20 R j26) h45) h43
def Ue (t29 t1 : Value) (vs20 : List Value) (R : VK) (j26 : LK) (t36 : Value) (h41 : za) : Prop :=
 GD t29 false (fun k42 => opt (nb [t36, (.int .i64 40)] (zf prog .gtr 3 (.tmp 36) (.const (.int .i64 40)) t36 (.int .i64 40))) fun t37 => k42 t37 h41) (VI t29 t1 vs20 R j26) h41
def VR (t29 t1 : Value) (vs20 : List Value) (R : VK) (j26 : LK) (t34 : Value) (h37 : za) : Prop :=
 GD t29 false (fun k38 => opt (zb prog 51 t34 2) fun t35 => k38 t35 h37) (fun t35 h39 => GD t29 false (fun k40 => opt (zd prog 3 t35 h39) fun t36 => k40 t36 h39) (Ue t29 t1 vs20 R j26) h39) h37
def Un (t29 : Value) (vs20 : List Value) (t1 : Value) (R : VK) (j26 : LK) (t32 : Value) (h33 : za) : Prop :=
 GD t29 false (fun k34 => k34 (nth vs20 1) h33) (fun t33 h35 => GD t29 false (fun k36 => opt (zG prog 23 t32 t33) fun t34 => k36 t34 h35) (VR t29 t1 vs20 R j26) h35) h33
def V4 (t1 : Value) (h25 : za) (vs20 : List Value) (R : VK) (j26 : LK) : Prop :=
 opt (zb prog 25 t1 1) fun t22 => opt (zd prog 23 t22 h25) fun t23 => opt (zG prog 23 t23 (nth vs20 1)) fun t25 => opt (zb prog 51 t25 5) fun t26 => opt (zd prog 49 t26 h25) fun t27 => xg (nb [t27] (zg prog .len [49] 3 [t27] h25)) fun t28 h29 => opt (nb [t28, (.int .i64 60)] (zf prog .gtr 3 (.tmp 28) (.const (.int .i64 60)) t28 (.int .i64 60))) fun t29 => GD t29 false (fun k30 => opt (zb prog 25 t1 1) fun t31 => k30 t31 h29) (fun t31 h31 => GD t29 false (fun k32 => opt (zd prog 23 t31 h31) fun t32 => k32 t32 h31) (Un t29 vs20 t1 R j26) h31) h29
def zcu (vs20 : List Value) (j19 : LK) (vs27 : List Value) (h28 : za) : Prop :=
 opt (nb [(nth vs20 1), (.int .i64 1)] (zf prog .add 3 (.tmp 20) (ci 1) (nth vs20 1) (.int .i64 1))) fun t21 => j19 [(nth vs27 0), t21] h28
def zdL (t1 : Value) (j16 : LK) (R : VK) (vs20 : List Value) (h21 : za) (j19 : LK) : Prop :=
 opt (zb prog 25 t1 1) fun t16 => opt (zd prog 23 t16 h21) fun t17 => xg (nb [t17] (zg prog .len [23] 3 [t17] h21)) fun t18 h22 => opt (nb [(nth vs20 1), t18] (zf prog .lss 3 (.tmp 15) (.tmp 18) (nth vs20 1) t18)) fun t19 => CD t19 (fun j23 => j23 [] h22)
 (fun j23 => j16 [(nth vs20 0)] h22)
 (fun vs24 h25 => BK (V4 t1 h25 vs20 R)
 (zcu vs20 j19))
def Kc (t1 : Value) (h70 : za) (vs65 : List Value) (R : VK) (j71 : LK) : Prop :=
 opt (zb prog 25 t1 0) fun t55 => opt (zd prog 22 t55 h70) fun t56 => opt (zG prog 22 t56 (nth vs65 1)) fun t58 => opt (zd prog 3 t58 h70) fun t59 => opt (nb [t59, (.int .i64 4096)] (zf prog .gtr 3 (.tmp 59) (.const (.int .i64 4096)) t59 (.int .i64 4096))) fun t60 => CD t60 (fun j74 => rv [(.bool false)] h70 R)
 (fun j74 => j74 [(nth vs65 0)] h70)
 (fun vs75 h76 => j71 [(nth vs75 0)] h76)
def zdN (vs65 : List Value) (j64 : LK) (vs72 : List Value) (h73 : za) : Prop :=
 opt (nb [(nth vs65 1), (.int .i64 1)] (zf prog .add 3 (.tmp 53) (ci 1) (nth vs65 1) (.int .i64 1))) fun t54 => j64 [(nth vs72 0), t54] h73
def zc9 (t1 : Value) (j61 : LK) (R : VK) (vs65 : List Value) (h66 : za) (j64 : LK) : Prop :=
 opt (zb prog 25 t1 0) fun t49 => opt (zd prog 22 t49 h66) fun t50 => xg (nb [t50] (zg prog .len [22] 3 [t50] h66)) fun t51 h67 => opt (nb [(nth vs65 1), t51] (zf prog .lss 3 (.tmp 48) (.tmp 51) (nth vs65 1) t51)) fun t52 => CD t52 (fun j68 => j68 [] h67)
 (fun j68 => j61 [(nth vs65 0)] h67)
 (fun vs69 h70 => BK (Kc t1 h70 vs65 R)
 (zdN vs65 j64))
def zcW (t1 : Value) (R : VK) (vs14 : List Value) (h15 : za) : Prop :=
 BK (fun j16 => LP (zdL t1 j16 R)
 [(nth vs14 0), (.int .i64 0)] h15)
 (fun vs17 h18 => BK (fun j61 => LP (zc9 t1 j61 R)
 [(nth vs17 0), (.int .i64 0)] h18)
 (fun vs62 h63 => rv [(.bool true)] h63 R))
def WO (t8 : Value) (R : VK) (t1 t12 : Value) (h9 : za) : Prop :=
 GD t8 false (fun k11 => opt (nb [t12, (.int .i64 12)] (zf prog .gtr 3 (.tmp 12) (.const (.int .i64 12)) t12 (.int .i64 12))) fun t13 => k11 t13 h9) (fun t13 h12 => opt (pk t8 (.bool true) t13) fun t14 => CD t14 (fun j13 => rv [(.bool false)] h12 R)
 (fun j13 => j13 [(.bool false)] h12)
 (zcW t1 R)) h9
def WR (t8 : Value) (R : VK) (t1 t10 : Value) (h5 : za) : Prop :=
 GD t8 false (fun k6 => opt (zd prog 22 t10 h5) fun t11 => k6 t11 h5) (fun t11 h7 => GD t8 false (fun k8 => xg (nb [t11] (zg prog .len [22] 3 [t11] h7)) fun t12 h10 => k8 t12 h10) (WO t8 R t1) h7) h5
def zl4 (h : za) (t0 : Value) (R : VK) : Prop :=
 opt (nb [t0] (some (Value.cells t0).toList)) fun c1 => nw h c1 25 fun t1 h2 => opt (zb prog 25 t1 1) fun t5 => opt (zd prog 23 t5 h2) fun t6 => xg (nb [t6] (zg prog .len [23] 3 [t6] h2)) fun t7 h3 => opt (nb [t7, (.int .i64 12)] (zf prog .gtr 3 (.tmp 7) (.const (.int .i64 12)) t7 (.int .i64 12))) fun t8 => GD t8 false (fun k4 => opt (zb prog 25 t1 0) fun t10 => k4 t10 h3) (WR t8 R t1) h3
theorem ziS (hw : zl4 h t0 R) : DC prog 5 [t0] h R := zE mixed (q := qs) (n := 200) (Eq.mpr (by kernel_rfl) hw)
def Qy (t0 : Value) (vs28 : List Value) (h33 : za) (t1 : Value) (R : VK) (j34 : LK) : Prop :=
 opt (zG prog 29 t0 (nth vs28 1)) fun t31 => opt (zd prog 54 t31 h33) fun t32 => opt (zG prog 29 t1 (nth vs28 1)) fun t35 => opt (zd prog 54 t35 h33) fun t36 => opt (nb [t32, t36] (zf prog .neq 54 (.tmp 32) (.tmp 36) t32 t36)) fun t37 => CD t37 (fun j37 => rv [(.bool false)] h33 R)
 (fun j37 => j37 [(nth vs28 0)] h33)
 (fun vs38 h39 => j34 [(nth vs38 0)] h39)
def Qi (vs28 : List Value) (j27 : LK) (vs35 : List Value) (h36 : za) : Prop :=
 opt (nb [(nth vs28 1), (.int .i64 1)] (zf prog .add 3 (.tmp 27) (ci 1) (nth vs28 1) (.int .i64 1))) fun t28 => j27 [(nth vs35 0), t28] h36
def Qz (t0 : Value) (j24 : LK) (t1 : Value) (R : VK) (vs28 : List Value) (h29 : za) (j27 : LK) : Prop :=
 xg (nb [t0] (zg prog .len [29] 3 [t0] h29)) fun t25 h30 => opt (nb [(nth vs28 1), t25] (zf prog .lss 3 (.tmp 23) (.tmp 25) (nth vs28 1) t25)) fun t26 => CD t26 (fun j31 => j31 [] h30)
 (fun j31 => j24 [(nth vs28 0)] h30)
 (fun vs32 h33 => BK (Qy t0 vs28 h33 t1 R)
 (Qi vs28 j27))
def XO (t12 : Value) (R : VK) (t0 t1 t21 : Value) (h20 : za) : Prop :=
 opt (pk t12 (.bool true) t21) fun t22 => CD t22 (fun j21 => rv [(.bool false)] h20 R)
 (fun j21 => j21 [(.bool false)] h20)
 (fun vs22 h23 => BK (fun j24 => LP (Qz t0 j24 t1 R)
 [(nth vs22 0), (.int .i64 0)] h23)
 (fun vs25 h26 => rv [(.bool true)] h26 R))
def XQ (t15 t17 t12 : Value) (R : VK) (t0 t1 t19 : Value) (h15 : za) : Prop :=
 GD t15 true (fun k17 => opt (nb [t17, t19] (zf prog .neq 3 (.tmp 17) (.tmp 19) t17 t19)) fun t20 => k17 t20 h15) (fun t20 h18 => GD t12 false (fun k19 => opt (pk t15 t20 (.bool false)) fun t21 => k19 t21 h18) (XO t12 R t0 t1) h18) h15
def XA (t15 t1 t12 : Value) (R : VK) (t0 t17 : Value) (h10 : za) : Prop :=
 GD t15 true (fun k12 => k12 t1 h10) (fun t18 h13 => GD t15 true (fun k14 => xg (nb [t18] (zg prog .len [29] 3 [t18] h13)) fun t19 h16 => k14 t19 h16) (XQ t15 t17 t12 R t0 t1) h13) h10
def XT (t0 t1 t12 : Value) (R : VK) (t15 : Value) (h6 : za) : Prop :=
 GD t15 true (fun k7 => k7 t0 h6) (fun t16 h8 => GD t15 true (fun k9 => xg (nb [t16] (zg prog .len [29] 3 [t16] h8)) fun t17 h11 => k9 t17 h11) (XA t15 t1 t12 R t0) h8) h6
def zcL (h : za) (t0 t1 t2 : Value) (R : VK) : Prop :=
 xg (nb [t0] (zg prog .len [29] 3 [t0] h)) fun t9 h1 => xg (nb [t1] (zg prog .len [29] 3 [t1] h1)) fun t11 h2 => opt (nb [t9, t11] (zf prog .gtr 3 (.tmp 9) (.tmp 11) t9 t11)) fun t12 => GD t12 false (fun k3 => k3 t2 h2) (fun t14 h4 => GD t12 false (fun k5 => k5 t14 h4) (XT t0 t1 t12 R) h4) h2
theorem zb2 (hw : zcL h t0 t1 t2 R) : DC prog 9 [t0, t1, t2] h R := zE mixed (q := qs) (n := 200) (Eq.mpr (by kernel_rfl) hw)
def zco (t16 t19 : Value) (R : VK) (t21 : Value) (h22 : za) : Prop :=
 GD t16 true (fun k23 => zI prog (fn 9) [t19, t21, (.bool true)] h22 (fun t22 h25 => k23 t22 h25)) (fun t22 h24 => opt (pk t16 t22 (.bool false)) fun t23 => rv [t23] h24 R) h22
def zde (t16 t3 : Value) (R : VK) (t19 : Value) (h18 : za) : Prop :=
 GD t16 true (fun k19 => opt (zb prog 32 t3 2) fun t20 => k19 t20 h18) (fun t20 h20 => GD t16 true (fun k21 => opt (zd prog 29 t20 h20) fun t21 => k21 t21 h20) (zco t16 t19 R) h20) h18
def zcT (t9 t2 t3 : Value) (R : VK) (t15 : Value) (h14 : za) : Prop :=
 opt (pk t9 t15 (.bool false)) fun t16 => GD t16 true (fun k15 => opt (zb prog 32 t2 2) fun t18 => k15 t18 h14) (fun t18 h16 => GD t16 true (fun k17 => opt (zd prog 29 t18 h16) fun t19 => k17 t19 h16) (zde t16 t3 R) h16) h14
def zcF (t9 t12 t2 t3 : Value) (R : VK) (t13 : Value) (h10 : za) : Prop :=
 GD t9 true (fun k11 => opt (zd prog 2 t13 h10) fun t14 => k11 t14 h10) (fun t14 h12 => GD t9 true (fun k13 => opt (nb [t12, t14] (zf prog .eql 2 (.tmp 12) (.tmp 14) t12 t14)) fun t15 => k13 t15 h12) (zcT t9 t2 t3 R) h12) h10
def zc6 (t9 t3 t2 : Value) (R : VK) (t11 : Value) (h6 : za) : Prop :=
 GD t9 true (fun k7 => opt (zd prog 2 t11 h6) fun t12 => k7 t12 h6) (fun t12 h8 => GD t9 true (fun k9 => opt (zb prog 32 t3 1) fun t13 => k9 t13 h8) (zcF t9 t12 t2 t3 R) h8) h6
def zkc (h : za) (t0 t1 : Value) (R : VK) : Prop :=
 opt (nb [t0] (some (Value.cells t0).toList)) fun c1 => nw h c1 32 fun t2 h2 => opt (nb [t1] (some (Value.cells t1).toList)) fun c3 => nw h2 c3 32 fun t3 h4 => opt (zb prog 32 t2 0) fun t5 => opt (zd prog 3 t5 h4) fun t6 => opt (zb prog 32 t3 0) fun t7 => opt (zd prog 3 t7 h4) fun t8 => opt (nb [t6, t8] (zf prog .eql 3 (.tmp 6) (.tmp 8) t6 t8)) fun t9 => GD t9 true (fun k5 => opt (zb prog 32 t2 1) fun t11 => k5 t11 h4) (zc6 t9 t3 t2 R) h4
theorem zgg (hw : zkc h t0 t1 R) : DC prog 7 [t0, t1] h R := zE mixed (q := qs) (n := 200) (Eq.mpr (by kernel_rfl) hw)
def zaB (t2 : Value) (h33 : za) (vs28 : List Value) (t3 : Value) (R : VK) (j34 : LK) : Prop :=
 opt (zb prog 32 t2 3) fun t27 => opt (zd prog 30 t27 h33) fun t28 => opt (zG prog 30 t28 (nth vs28 1)) fun t30 => opt (zd prog 39 t30 h33) fun t31 => opt (zb prog 32 t3 3) fun t32 => opt (zd prog 30 t32 h33) fun t33 => opt (zG prog 30 t33 (nth vs28 1)) fun t35 => opt (zd prog 39 t35 h33) fun t36 => opt (nb [t31, t36] (zf prog .neq 39 (.tmp 31) (.tmp 36) t31 t36)) fun t37 => CD t37 (fun j37 => rv [(.bool false)] h33 R)
 (fun j37 => j37 [(nth vs28 0)] h33)
 (fun vs38 h39 => j34 [(nth vs38 0)] h39)
def zbl (vs28 : List Value) (j27 : LK) (vs35 : List Value) (h36 : za) : Prop :=
 opt (nb [(nth vs28 1), (.int .i64 1)] (zf prog .add 3 (.tmp 25) (ci 1) (nth vs28 1) (.int .i64 1))) fun t26 => j27 [(nth vs35 0), t26] h36
def K1 (t2 : Value) (j24 : LK) (t3 : Value) (R : VK) (vs28 : List Value) (h29 : za) (j27 : LK) : Prop :=
 opt (zb prog 32 t2 3) fun t21 => opt (zd prog 30 t21 h29) fun t22 => xg (nb [t22] (zg prog .len [30] 3 [t22] h29)) fun t23 h30 => opt (nb [(nth vs28 1), t23] (zf prog .lss 3 (.tmp 20) (.tmp 23) (nth vs28 1) t23)) fun t24 => CD t24 (fun j31 => j31 [] h30)
 (fun j31 => j24 [(nth vs28 0)] h30)
 (fun vs32 h33 => BK (zaB t2 h33 vs28 t3 R)
 (zbl vs28 j27))
def zbf (t10 : Value) (R : VK) (t2 t3 t18 : Value) (h20 : za) : Prop :=
 opt (pk t10 (.bool true) t18) fun t19 => CD t19 (fun j21 => rv [(.bool false)] h20 R)
 (fun j21 => j21 [(.bool false)] h20)
 (fun vs22 h23 => BK (fun j24 => LP (K1 t2 j24 t3 R)
 [(nth vs22 0), (.int .i64 0)] h23)
 (fun vs25 h26 => rv [(.bool true)] h26 R))
def J4 (t10 t14 : Value) (R : VK) (t2 t3 t16 : Value) (h15 : za) : Prop :=
 GD t10 false (fun k16 => xg (nb [t16] (zg prog .len [30] 3 [t16] h15)) fun t17 h18 => k16 t17 h18) (fun t17 h17 => GD t10 false (fun k19 => opt (nb [t14, t17] (zf prog .neq 3 (.tmp 14) (.tmp 17) t14 t17)) fun t18 => k19 t18 h17) (zbf t10 R t2 t3) h17) h15
def zbk (t10 t3 : Value) (R : VK) (t2 t14 : Value) (h10 : za) : Prop :=
 GD t10 false (fun k12 => opt (zb prog 32 t3 3) fun t15 => k12 t15 h10) (fun t15 h13 => GD t10 false (fun k14 => opt (zd prog 30 t15 h13) fun t16 => k14 t16 h13) (J4 t10 t14 R t2 t3) h13) h10
def zaN (t10 t3 : Value) (R : VK) (t2 t12 : Value) (h6 : za) : Prop :=
 GD t10 false (fun k7 => opt (zd prog 30 t12 h6) fun t13 => k7 t13 h6) (fun t13 h8 => GD t10 false (fun k9 => xg (nb [t13] (zg prog .len [30] 3 [t13] h8)) fun t14 h11 => k9 t14 h11) (zbk t10 t3 R t2) h8) h6
def zfh (h : za) (t0 t1 : Value) (R : VK) : Prop :=
 opt (nb [t0] (some (Value.cells t0).toList)) fun c1 => nw h c1 32 fun t2 h2 => opt (nb [t1] (some (Value.cells t1).toList)) fun c3 => nw h2 c3 32 fun t3 h4 => opt (zb prog 32 t2 0) fun t6 => opt (zd prog 3 t6 h4) fun t7 => opt (zb prog 32 t3 0) fun t8 => opt (zd prog 3 t8 h4) fun t9 => opt (nb [t7, t9] (zf prog .neq 3 (.tmp 7) (.tmp 9) t7 t9)) fun t10 => GD t10 false (fun k5 => opt (zb prog 32 t2 3) fun t12 => k5 t12 h4) (zaN t10 t3 R t2) h4
theorem zeO (hw : zfh h t0 t1 R) : DC prog 8 [t0, t1] h R := zE mixed (q := qs) (n := 200) (Eq.mpr (by kernel_rfl) hw)
def Vd (t75 t78 : Value) (R : VK) (t80 : Value) (h62 : za) : Prop :=
 GD t75 true (fun k63 => opt (nb [t78, t80] (zf prog .eql 3 (.tmp 78) (.tmp 80) t78 t80)) fun t81 => k63 t81 h62) (fun t81 h64 => opt (pk t75 t81 (.bool false)) fun t82 => rv [t82] h64 R) h62
def Vs (t75 t13 : Value) (R : VK) (t78 : Value) (h58 : za) : Prop :=
 GD t75 true (fun k59 => opt (zb prog 32 t13 4) fun t79 => k59 t79 h58) (fun t79 h60 => GD t75 true (fun k61 => opt (zd prog 3 t79 h60) fun t80 => k61 t80 h60) (Vd t75 t78 R) h60) h58
def Vo (t70 t11 t13 : Value) (R : VK) (t74 : Value) (h53 : za) : Prop :=
 opt (pk t70 t74 (.bool false)) fun t75 => GD t75 true (fun k55 => opt (zb prog 32 t11 4) fun t77 => k55 t77 h53) (fun t77 h56 => GD t75 true (fun k57 => opt (zd prog 3 t77 h56) fun t78 => k57 t78 h56) (Vs t75 t13 R) h56) h53
def V7 (t70 t13 t11 : Value) (R : VK) (t72 : Value) (h49 : za) : Prop :=
 GD t70 true (fun k50 => opt (zd prog 32 t13 h49) fun t73 => k50 t73 h49) (fun t73 h51 => GD t70 true (fun k52 => zI prog (fn 8) [t72, t73] h51 (fun t74 h54 => k52 t74 h54)) (Vo t70 t11 t13 R) h51) h49
def Vw (t11 : Value) (h43 : za) (t13 : Value) (R : VK) (j44 : LK) : Prop :=
 opt (zd prog 32 t11 h43) fun t68 => opt (zd prog 32 t13 h43) fun t69 => zI prog (fn 7) [t68, t69] h43 (fun t70 h47 => GD t70 true (fun k48 => opt (zd prog 32 t11 h47) fun t72 => k48 t72 h47) (V7 t70 t13 t11 R) h47)
def Ur (t11 : Value) (h106 : za) (vs101 : List Value) (t13 : Value) (R : VK) (j107 : LK) : Prop :=
 opt (zb prog 32 t11 3) fun t111 => opt (zd prog 30 t111 h106) fun t112 => opt (zG prog 30 t112 (nth vs101 1)) fun t114 => opt (zd prog 39 t114 h106) fun t115 => opt (zb prog 32 t13 3) fun t116 => opt (zd prog 30 t116 h106) fun t117 => opt (zG prog 30 t117 (nth vs101 1)) fun t119 => opt (zd prog 39 t119 h106) fun t120 => opt (nb [t115, t120] (zf prog .neq 39 (.tmp 115) (.tmp 120) t115 t120)) fun t121 => CD t121 (fun j110 => rv [(.bool false)] h106 R)
 (fun j110 => j110 [(nth vs101 0)] h106)
 (fun vs111 h112 => j107 [(nth vs111 0)] h112)
def VP (vs101 : List Value) (j100 : LK) (vs108 : List Value) (h109 : za) : Prop :=
 opt (nb [(nth vs101 1), (.int .i64 1)] (zf prog .add 3 (.tmp 109) (ci 1) (nth vs101 1) (.int .i64 1))) fun t110 => j100 [(nth vs108 0), t110] h109
def Uh (t11 : Value) (j97 : LK) (t13 : Value) (R : VK) (vs101 : List Value) (h102 : za) (j100 : LK) : Prop :=
 opt (zb prog 32 t11 3) fun t105 => opt (zd prog 30 t105 h102) fun t106 => xg (nb [t106] (zg prog .len [30] 3 [t106] h102)) fun t107 h103 => opt (nb [(nth vs101 1), t107] (zf prog .lss 3 (.tmp 104) (.tmp 107) (nth vs101 1) t107)) fun t108 => CD t108 (fun j104 => j104 [] h103)
 (fun j104 => j97 [(nth vs101 0)] h103)
 (fun vs105 h106 => BK (Ur t11 h106 vs101 t13 R)
 (VP vs101 j100))
def VQ (t94 : Value) (R : VK) (vs45 : List Value) (t11 t13 t102 : Value) (h93 : za) : Prop :=
 opt (pk t94 (.bool true) t102) fun t103 => CD t103 (fun j94 => rv [(.bool false)] h93 R)
 (fun j94 => j94 [(nth vs45 0)] h93)
 (fun vs95 h96 => BK (fun j97 => LP (Uh t11 j97 t13 R)
 [(nth vs95 0), (.int .i64 0)] h96)
 (fun vs98 h99 => rv [(.bool true)] h99 R))
def Wt (t94 t98 : Value) (R : VK) (vs45 : List Value) (t11 t13 t101 : Value) (h90 : za) : Prop :=
 GD t94 false (fun k92 => opt (nb [t98, t101] (zf prog .gtr 3 (.tmp 98) (.tmp 101) t98 t101)) fun t102 => k92 t102 h90) (VQ t94 R vs45 t11 t13) h90
def Wy (t94 t98 : Value) (R : VK) (vs45 : List Value) (t11 t13 t99 : Value) (h86 : za) : Prop :=
 GD t94 false (fun k87 => opt (zd prog 30 t99 h86) fun t100 => k87 t100 h86) (fun t100 h88 => GD t94 false (fun k89 => xg (nb [t100] (zg prog .len [30] 3 [t100] h88)) fun t101 h91 => k89 t101 h91) (Wt t94 t98 R vs45 t11 t13) h88) h86
def Ws (t94 t13 : Value) (R : VK) (vs45 : List Value) (t11 t97 : Value) (h81 : za) : Prop :=
 GD t94 false (fun k82 => xg (nb [t97] (zg prog .len [30] 3 [t97] h81)) fun t98 h84 => k82 t98 h84) (fun t98 h83 => GD t94 false (fun k85 => opt (zb prog 32 t13 3) fun t99 => k85 t99 h83) (Wy t94 t98 R vs45 t11 t13) h83) h81
def WA (t86 t11 t13 : Value) (R : VK) (vs45 : List Value) (t93 : Value) (h77 : za) : Prop :=
 opt (pk t86 (.bool true) t93) fun t94 => GD t94 false (fun k78 => opt (zb prog 32 t11 3) fun t96 => k78 t96 h77) (fun t96 h79 => GD t94 false (fun k80 => opt (zd prog 30 t96 h79) fun t97 => k80 t97 h79) (Ws t94 t13 R vs45 t11) h79) h77
def WC (t86 t89 t11 t13 : Value) (R : VK) (vs45 : List Value) (t91 : Value) (h72 : za) : Prop :=
 GD t86 false (fun k73 => zI prog (fn 9) [t89, t91, (.bool false)] h72 (fun t92 h75 => k73 t92 h75)) (fun t92 h74 => GD t86 false (fun k76 => opt (aun prog .not t92) fun t93 => k76 t93 h74) (WA t86 t11 t13 R vs45) h74) h72
def WD (t86 t13 t11 : Value) (R : VK) (vs45 : List Value) (t89 : Value) (h68 : za) : Prop :=
 GD t86 false (fun k69 => opt (zb prog 32 t13 2) fun t90 => k69 t90 h68) (fun t90 h70 => GD t86 false (fun k71 => opt (zd prog 29 t90 h70) fun t91 => k71 t91 h70) (WC t86 t89 t11 t13 R vs45) h70) h68
def Wr (t11 t3 t13 : Value) (R : VK) (vs45 : List Value) (h46 : za) : Prop :=
 opt (zb prog 32 t11 4) fun t83 => opt (zd prog 3 t83 h46) fun t84 => opt (nb [t84, t3] (zf prog .neq 3 (.tmp 84) (.tmp 85) t84 t3)) fun t86 => GD t86 false (fun k65 => opt (zb prog 32 t11 2) fun t88 => k65 t88 h46) (fun t88 h66 => GD t86 false (fun k67 => opt (zd prog 29 t88 h66) fun t89 => k67 t89 h66) (WD t86 t13 t11 R vs45) h66) h46
def jZ (t11 t13 : Value) (R : VK) (t3 : Value) (vs42 : List Value) (h43 : za) : Prop :=
 opt (zb prog 32 t11 0) fun t65 => opt (zd prog 3 t65 h43) fun t66 => opt (nb [t66, (.int .i64 2)] (zf prog .neq 3 (.tmp 66) (.const (.int .i64 2)) t66 (.int .i64 2))) fun t67 => CD t67 (Vw t11 h43 t13 R)
 (fun j44 => j44 [(nth vs42 0)] h43)
 (Wr t11 t3 t13 R)
def qG (t57 t44 t54 : Value) (R : VK) (vs25 : List Value) (t11 t13 t3 t60 : Value) (h40 : za) : Prop :=
 opt (pk t57 (.bool true) t60) fun t61 => CD t61 (fun j41 => opt (nb [t44, t54] (zf prog .eql 33 (.tmp 62) (.tmp 63) t44 t54)) fun t64 => rv [t64] h40 R)
 (fun j41 => j41 [(nth vs25 0)] h40)
 (jZ t11 t13 R t3)
def qJ (t57 t44 t54 : Value) (R : VK) (vs25 : List Value) (t11 t13 t3 t59 : Value) (h38 : za) : Prop :=
 GD t57 false (fun k39 => opt (nb [t59, (.int .i64 0)] (zf prog .neq 33 (.tmp 59) (ci 0) t59 (.int .i64 0))) fun t60 => k39 t60 h38) (qG t57 t44 t54 R vs25 t11 t13 t3) h38
def Za (t44 : Value) (R : VK) (vs25 : List Value) (t11 t3 t52 : Value) (h32 : za) : Prop :=
 opt (axt t52 0) fun t53 => opt (axt t52 1) fun t54 => opt (xo prog 32) fun z33 => nw h32 (Value.cells z33).toList 32 fun t13 h34 => opt (nb [t53] (zj prog 32 t13 t53 h34)) fun h36 => opt (nb [t44, t54] (zf prog .neq 33 (.tmp 55) (.tmp 56) t44 t54)) fun t57 => GD t57 false (fun k37 => k37 t44 h36) (qJ t57 t44 t54 R vs25 t11 t13 t3) h36
def jF (t5 t3 t4 t1 t2 : Value) (R : VK) (vs25 : List Value) (t42 : Value) (h27 : za) : Prop :=
 opt (axt t42 0) fun t43 => opt (axt t42 1) fun t44 => opt (xo prog 32) fun z28 => nw h27 (Value.cells z28).toList 32 fun t11 h29 => opt (nb [t43] (zj prog 32 t11 t43 h29)) fun h31 => opt (zd prog 25 t5 h31) fun t46 => opt (nb [t3, t4] (zf prog .add 3 (.tmp 49) (.tmp 50) t3 t4)) fun t51 => zI prog (fn 6) [t46, t1, t2, t51] h31 (Za t44 R vs25 t11 t3)
def wP (t32 : Value) (R : VK) (vs5 : List Value) (t5 t1 t2 t3 t4 t35 : Value) (h23 : za) : Prop :=
 opt (pk t32 (.bool true) t35) fun t36 => CD t36 (fun j24 => rv [(.bool true)] h23 R)
 (fun j24 => j24 [(nth vs5 0)] h23)
 (fun vs25 h26 => opt (zd prog 25 t5 h26) fun t38 => zI prog (fn 6) [t38, t1, t2, t3] h26 (jF t5 t3 t4 t1 t2 R vs25))
def wN (t32 : Value) (R : VK) (vs5 : List Value) (t5 t1 t2 t3 t4 t34 : Value) (h21 : za) : Prop :=
 GD t32 false (fun k22 => opt (nb [t34, (.int .i64 1000)] (zf prog .gtr 3 (.tmp 34) (.const (.int .i64 1000)) t34 (.int .i64 1000))) fun t35 => k22 t35 h21) (wP t32 R vs5 t5 t1 t2 t3 t4) h21
def wL (t28 t4 : Value) (R : VK) (vs5 : List Value) (t5 t1 t2 t3 t30 : Value) (h17 : za) : Prop :=
 GD t28 false (fun k18 => opt (nb [t30, (.int .i64 0)] (zf prog .lss 3 (.tmp 30) (ci 0) t30 (.int .i64 0))) fun t31 => k18 t31 h17) (fun t31 h19 => opt (pk t28 (.bool true) t31) fun t32 => GD t32 false (fun k20 => k20 t4 h19) (wN t32 R vs5 t5 t1 t2 t3 t4) h19) h17
def wS (t24 t4 : Value) (R : VK) (vs5 : List Value) (t5 t1 t2 t3 t26 : Value) (h13 : za) : Prop :=
 GD t24 false (fun k14 => opt (nb [t26, (.int .i64 1000)] (zf prog .gtr 3 (.tmp 26) (.const (.int .i64 1000)) t26 (.int .i64 1000))) fun t27 => k14 t27 h13) (fun t27 h15 => opt (pk t24 (.bool true) t27) fun t28 => GD t28 false (fun k16 => k16 t4 h15) (wL t28 t4 R vs5 t5 t1 t2 t3) h15) h13
def wR (t20 t3 t4 : Value) (R : VK) (vs5 : List Value) (t5 t1 t2 t22 : Value) (h9 : za) : Prop :=
 GD t20 false (fun k10 => opt (nb [t22, (.int .i64 0)] (zf prog .lss 3 (.tmp 22) (ci 0) t22 (.int .i64 0))) fun t23 => k10 t23 h9) (fun t23 h11 => opt (pk t20 (.bool true) t23) fun t24 => GD t24 false (fun k12 => k12 t3 h11) (wS t24 t4 R vs5 t5 t1 t2 t3) h11) h9
def Wq (t5 t3 t4 : Value) (R : VK) (t1 t2 : Value) (vs5 : List Value) (h6 : za) : Prop :=
 opt (zd prog 25 t5 h6) fun t18 => zI prog (fn 5) [t18] h6 (fun t19 h7 => opt (aun prog .not t19) fun t20 => GD t20 false (fun k8 => k8 t3 h7) (wR t20 t3 t4 R vs5 t5 t1 t2) h7)
def J2 (h : za) (t0 t1 t2 t3 t4 : Value) (R : VK) : Prop :=
 opt (nb [t0] (some (Value.cells t0).toList)) fun c1 => nw h c1 25 fun t5 h2 => zI prog (fn 4) [] h2 (fun t16 h3 => opt (aun prog .not t16) fun t17 => CD t17 (fun j4 => rv [(.bool false)] h3 R)
 (fun j4 => j4 [(.bool false)] h3)
 (Wq t5 t3 t4 R t1 t2))
theorem zbo (hw : J2 h t0 t1 t2 t3 t4 R) : DC prog 3 [t0, t1, t2, t3, t4] h R := zE mixed (q := qs) (n := 200) (Eq.mpr (by kernel_rfl) hw)
end Go.Rl
namespace Go.Rl
open Go.Ai Go.Proofs
set_option linter.unusedVariables false
noncomputable def zje : Array Field := match Program.underlying Tryd.prog 39 with | some (.struct f) => f | _ => #[]
noncomputable def zh3 : Array Field := match Program.underlying Tryd.prog 54 with | some (.struct f) => f | _ => #[]
theorem vK (b off : Nat) (h : za) : zd Tryd.prog 2 (.pointer (some ⟨b, off, none⟩)) h = ld1 h b off := zN (by kernel_rfl) b off h
theorem qa (b off : Nat) (h : za) : zd Tryd.prog 22 (.pointer (some ⟨b, off, none⟩)) h = ld1 h b off := zN (by kernel_rfl) b off h
theorem qN (b off : Nat) (h : za) : zd Tryd.prog 23 (.pointer (some ⟨b, off, none⟩)) h = ld1 h b off := zN (by kernel_rfl) b off h
theorem Vi (b off : Nat) (h : za) : zd Tryd.prog 25 (.pointer (some ⟨b, off, none⟩)) h = ldn h b off 3 := wx (by kernel_rfl) (by kernel_rfl) b off h
theorem zib (b off : Nat) (h : za) : zd Tryd.prog 29 (.pointer (some ⟨b, off, none⟩)) h = ld1 h b off := zN (by kernel_rfl) b off h
theorem yc (b off : Nat) (h : za) : zd Tryd.prog 3 (.pointer (some ⟨b, off, none⟩)) h = ld1 h b off := zN (by kernel_rfl) b off h
theorem za0 (b off : Nat) (h : za) : zd Tryd.prog 30 (.pointer (some ⟨b, off, none⟩)) h = ld1 h b off := zN (by kernel_rfl) b off h
theorem QU (b off : Nat) (h : za) : zd Tryd.prog 32 (.pointer (some ⟨b, off, none⟩)) h = ldn h b off 5 := wx (by kernel_rfl) (by kernel_rfl) b off h
theorem zmB (b off : Nat) (h : za) : zd Tryd.prog 39 (.pointer (some ⟨b, off, none⟩)) h = ldn h b off 3 := wx (by kernel_rfl) (by kernel_rfl) b off h
theorem YA (b off : Nat) (h : za) : zd Tryd.prog 49 (.pointer (some ⟨b, off, none⟩)) h = ld1 h b off := zN (by kernel_rfl) b off h
theorem znI (b off : Nat) (h : za) : zd Tryd.prog 54 (.pointer (some ⟨b, off, none⟩)) h = ldn h b off 2 := wx (by kernel_rfl) (by kernel_rfl) b off h
theorem UN (b off : Nat) (l : List Value) (h : za) (hv : l.length = 5) : zj Tryd.prog 32 (.pointer (some ⟨b, off, none⟩)) (.agg l.toArray) h = sto h b off l := vy (by kernel_rfl) b off l h hv
theorem zcb : xo Tryd.prog 32 = some (.agg #[(.int .i64 0), (.int .i64 0), (.slice none 0 0), (.slice none 0 0), (.int .i64 0)]) := zU (by kernel_rfl)
theorem vH (b off : Nat) : zb Tryd.prog 25 (.pointer (some ⟨b, off, none⟩)) 0 = some (.pointer (some ⟨b, off, none⟩)) := zU (by kernel_rfl)
theorem xV (b off : Nat) : zb Tryd.prog 25 (.pointer (some ⟨b, off, none⟩)) 1 = some (.pointer (some ⟨b, off + 1, none⟩)) := zU (by kernel_rfl)
theorem u2 (b off : Nat) : zb Tryd.prog 32 (.pointer (some ⟨b, off, none⟩)) 0 = some (.pointer (some ⟨b, off, none⟩)) := zU (by kernel_rfl)
theorem zce (b off : Nat) : zb Tryd.prog 32 (.pointer (some ⟨b, off, none⟩)) 1 = some (.pointer (some ⟨b, off + 1, none⟩)) := zU (by kernel_rfl)
theorem Kj (b off : Nat) : zb Tryd.prog 32 (.pointer (some ⟨b, off, none⟩)) 2 = some (.pointer (some ⟨b, off + 2, none⟩)) := zU (by kernel_rfl)
theorem Zc (b off : Nat) : zb Tryd.prog 32 (.pointer (some ⟨b, off, none⟩)) 3 = some (.pointer (some ⟨b, off + 3, none⟩)) := zU (by kernel_rfl)
theorem XB (b off : Nat) : zb Tryd.prog 32 (.pointer (some ⟨b, off, none⟩)) 4 = some (.pointer (some ⟨b, off + 4, none⟩)) := zU (by kernel_rfl)
theorem qc (b off : Nat) : zb Tryd.prog 51 (.pointer (some ⟨b, off, none⟩)) 2 = some (.pointer (some ⟨b, off + 2, none⟩)) := zU (by kernel_rfl)
theorem qS (b off : Nat) : zb Tryd.prog 51 (.pointer (some ⟨b, off, none⟩)) 3 = some (.pointer (some ⟨b, off + 3, none⟩)) := zU (by kernel_rfl)
theorem vm (b off : Nat) : zb Tryd.prog 51 (.pointer (some ⟨b, off, none⟩)) 5 = some (.pointer (some ⟨b, off + 5, none⟩)) := zU (by kernel_rfl)
theorem zkM (b off len c : Nat) (k : IntKind) (i : Int) : zG Tryd.prog 22 (.slice (some ⟨b, off, none⟩) len c) (.int k i) = if 0 <= i /\ i < len then some (.pointer (some ⟨b, off + i.toNat * 1, none⟩)) else none := yr (e := 3) (by kernel_rfl) (by kernel_rfl)
theorem zkh (b off len c : Nat) (k : IntKind) (i : Int) : zG Tryd.prog 23 (.slice (some ⟨b, off, none⟩) len c) (.int k i) = if 0 <= i /\ i < len then some (.pointer (some ⟨b, off + i.toNat * 6, none⟩)) else none := yr (e := 51) (by kernel_rfl) (by kernel_rfl)
theorem znR (b off len c : Nat) (k : IntKind) (i : Int) : zG Tryd.prog 29 (.slice (some ⟨b, off, none⟩) len c) (.int k i) = if 0 <= i /\ i < len then some (.pointer (some ⟨b, off + i.toNat * 2, none⟩)) else none := yr (e := 54) (by kernel_rfl) (by kernel_rfl)
theorem zmE (b off len c : Nat) (k : IntKind) (i : Int) : zG Tryd.prog 30 (.slice (some ⟨b, off, none⟩) len c) (.int k i) = if 0 <= i /\ i < len then some (.pointer (some ⟨b, off + i.toNat * 3, none⟩)) else none := yr (e := 39) (by kernel_rfl) (by kernel_rfl)
theorem Wu (r : TypeId) (a : Option Addr) (n c : Nat) (h : za) : zg Tryd.prog .len [22] r [.slice a n c] h = some (.int .i64 n, h) := zU (by kernel_rfl)
theorem zgW (r : TypeId) (a : Option Addr) (n c : Nat) (h : za) : zg Tryd.prog .len [23] r [.slice a n c] h = some (.int .i64 n, h) := zU (by kernel_rfl)
theorem zhR (r : TypeId) (a : Option Addr) (n c : Nat) (h : za) : zg Tryd.prog .len [29] r [.slice a n c] h = some (.int .i64 n, h) := zU (by kernel_rfl)
theorem zcp (r : TypeId) (a : Option Addr) (n c : Nat) (h : za) : zg Tryd.prog .len [30] r [.slice a n c] h = some (.int .i64 n, h) := zU (by kernel_rfl)
theorem zhw (r : TypeId) (a : Option Addr) (n c : Nat) (h : za) : zg Tryd.prog .len [49] r [.slice a n c] h = some (.int .i64 n, h) := zU (by kernel_rfl)
theorem zj9 (x y : Operand) (a0 : Int) (a1 : Int) (a2 : Int) (b0 : Int) (b1 : Int) (b2 : Int) : zf Tryd.prog .neq 39 x y (.agg #[(.int .i64 a0), (.int .i64 a1), (.int .i64 a2)]) (.agg #[(.int .i64 b0), (.int .i64 b1), (.int .i64 b2)]) = some (.bool (!((a0 == b0) && ((a1 == b1) && ((a2 == b2)))))) := (qK (fs := zje) (r := (a0 == b0) && ((a1 == b1) && ((a2 == b2)))) (by kernel_rfl) (by kernel_rfl) (by kernel_rfl) rfl rfl (Eq.trans (b := (cond (a0 == b0) (cond (a1 == b1) (cond (a2 == b2) (some true) (some false)) (some false)) (some false))) (by kernel_rfl) (by cases (a0 == b0) <;> cases (a1 == b1) <;> cases (a2 == b2) <;> rfl))).2
theorem zmF (x y : Operand) (a0 : Int) (a1 : Int) (b0 : Int) (b1 : Int) : zf Tryd.prog .neq 54 x y (.agg #[(.int .i64 a0), (.int .i64 a1)]) (.agg #[(.int .i64 b0), (.int .i64 b1)]) = some (.bool (!((a0 == b0) && ((a1 == b1))))) := (qK (fs := zh3) (r := (a0 == b0) && ((a1 == b1))) (by kernel_rfl) (by kernel_rfl) (by kernel_rfl) rfl rfl (Eq.trans (b := (cond (a0 == b0) (cond (a1 == b1) (some true) (some false)) (some false))) (by kernel_rfl) (by cases (a0 == b0) <;> cases (a1 == b1) <;> rfl))).2
end Go.Rl
namespace Go.Rtl
open Go.Ai Go.Proofs Go.Proofs.Tryd
set_option linter.unusedVariables false
set_option maxRecDepth 100000
abbrev VK := Value -> za -> Prop
abbrev LK := List Value -> za -> Prop
abbrev ci (n : Int) : Operand := .const (.int .i64 n)
abbrev fn (n : Nat) : Value := .func (.func n) #[] #[]
variable {h : za} {t0 t1 t2 t3 t4 t5 t6 : Value} {R : VK}
def qs : FuncId -> Nat := fun g => [0,0,0,0,0,0,0,0,0,0,0,0,0,2].getD g 0
theorem mixed : prog.follows .mixedOrders = true := Checked.mixed Tryd.checked
def YS (t36 : Value) (R : VK) (vs31 : List Value) (j36 : LK) (t39 : Value) (h42 : za) : Prop :=
 opt (pk t36 (.bool true) t39) fun t40 => CD t40 (fun j43 => rv [(.bool false)] h42 R)
 (fun j43 => j43 [(nth vs31 0)] h42)
 (fun vs44 h45 => j36 [(nth vs44 0)] h45)
def Xk (t36 : Value) (R : VK) (vs31 : List Value) (j36 : LK) (t38 : Value) (h40 : za) : Prop :=
 GD t36 false (fun k41 => opt (nb [t38, (.int .i64 65536)] (zf prog .gtr 3 (.tmp 38) (.const (.int .i64 65536)) t38 (.int .i64 65536))) fun t39 => k41 t39 h40) (YS t36 R vs31 j36) h40
def YN (t29 : Value) (vs31 : List Value) (h35 : za) (R : VK) (j36 : LK) : Prop :=
 opt (zG prog 22 t29 (nth vs31 1)) fun t33 => opt (zd prog 3 t33 h35) fun t34 => opt (nb [t34, (.int .i64 0)] (zf prog .lss 3 (.tmp 35) (ci 0) t34 (.int .i64 0))) fun t36 => GD t36 false (fun k39 => k39 t34 h35) (Xk t36 R vs31 j36) h35
def zaa (vs31 : List Value) (j30 : LK) (vs37 : List Value) (h38 : za) : Prop :=
 opt (nb [(nth vs31 1), (.int .i64 1)] (zf prog .add 3 (.tmp 31) (ci 1) (nth vs31 1) (.int .i64 1))) fun t41 => j30 [(nth vs37 0), t41] h38
def jK (t30 : Value) (j27 : LK) (t29 : Value) (R : VK) (vs31 : List Value) (h32 : za) (j30 : LK) : Prop :=
 opt (nb [(nth vs31 1), t30] (zf prog .lss 3 (.tmp 31) (.tmp 30) (nth vs31 1) t30)) fun t32 => CD t32 (fun j33 => j33 [] h32)
 (fun j33 => j27 [(nth vs31 0)] h32)
 (fun vs34 h35 => BK (YN t29 vs31 h35 R)
 (zaa vs31 j30))
def qk (t89 : Value) (R : VK) (vs72 : List Value) (j133 : LK) (t113 : Value) (h183 : za) : Prop :=
 opt (pk t89 t113 (.bool false)) fun t114 => CD t114 (fun j184 => rv [(.bool false)] h183 R)
 (fun j184 => j184 [(nth vs72 0)] h183)
 (fun vs185 h186 => j133 [(nth vs185 0)] h186)
def qb (t103 t105 t89 : Value) (R : VK) (vs72 : List Value) (j133 : LK) (t111 : Value) (h179 : za) : Prop :=
 GD t103 false (fun k180 => opt (nb [t105, t111] (zf prog .gtr 2 (.tmp 105) (.tmp 111) t105 t111)) fun t112 => k180 t112 h179) (fun t112 h181 => GD t89 true (fun k182 => opt (pk t103 (.bool true) t112) fun t113 => k182 t113 h181) (qk t89 R vs72 j133) h181) h179
def ql (t103 t107 t105 t89 : Value) (R : VK) (vs72 : List Value) (j133 : LK) (t109 : Value) (h175 : za) : Prop :=
 GD t103 false (fun k176 => opt (zG prog 22 t107 t109) fun t110 => k176 t110 h175) (fun t110 h177 => GD t103 false (fun k178 => opt (zd prog 3 t110 h177) fun t111 => k178 t111 h177) (qb t103 t105 t89 R vs72 j133) h177) h175
def qe (t103 t8 t105 t89 : Value) (R : VK) (vs72 : List Value) (j133 : LK) (t107 : Value) (h171 : za) : Prop :=
 GD t103 false (fun k172 => opt (zb prog 46 t8 1) fun t108 => k172 t108 h171) (fun t108 h173 => GD t103 false (fun k174 => opt (zd prog 3 t108 h173) fun t109 => k174 t109 h173) (ql t103 t107 t105 t89 R vs72 j133) h173) h171
def v5 (t103 t1 t8 t89 : Value) (R : VK) (vs72 : List Value) (j133 : LK) (t105 : Value) (h167 : za) : Prop :=
 GD t103 false (fun k168 => opt (zb prog 25 t1 0) fun t106 => k168 t106 h167) (fun t106 h169 => GD t103 false (fun k170 => opt (zd prog 22 t106 h169) fun t107 => k170 t107 h169) (qe t103 t8 t105 t89 R vs72 j133) h169) h167
def v7 (t8 t1 t89 : Value) (R : VK) (vs72 : List Value) (j133 : LK) (t103 : Value) (h163 : za) : Prop :=
 GD t103 false (fun k164 => opt (zb prog 46 t8 5) fun t104 => k164 t104 h163) (fun t104 h165 => GD t103 false (fun k166 => opt (zd prog 2 t104 h165) fun t105 => k166 t105 h165) (v5 t103 t1 t8 t89 R vs72 j133) h165) h163
def vU (t89 t98 t8 t1 : Value) (R : VK) (vs72 : List Value) (j133 : LK) (t101 : Value) (h159 : za) : Prop :=
 GD t89 true (fun k160 => opt (pk t98 (.bool true) t101) fun t102 => k160 t102 h159) (fun t102 h161 => GD t89 true (fun k162 => k162 t102 h161) (v7 t8 t1 t89 R vs72 j133) h161) h159
def vQ (t98 t89 t8 t1 : Value) (R : VK) (vs72 : List Value) (j133 : LK) (t100 : Value) (h157 : za) : Prop :=
 GD t98 false (fun k158 => opt (nb [t100, (.int .i64 0)] (zf prog .lss 2 (.tmp 100) (ci 0) t100 (.int .i64 0))) fun t101 => k158 t101 h157) (vU t89 t98 t8 t1 R vs72 j133) h157
def vW (t8 t89 t1 : Value) (R : VK) (vs72 : List Value) (j133 : LK) (t98 : Value) (h153 : za) : Prop :=
 GD t98 false (fun k154 => opt (zb prog 46 t8 5) fun t99 => k154 t99 h153) (fun t99 h155 => GD t98 false (fun k156 => opt (zd prog 2 t99 h155) fun t100 => k156 t100 h155) (vQ t98 t89 t8 t1 R vs72 j133) h155) h153
def v8 (t89 t8 t1 : Value) (R : VK) (vs72 : List Value) (j133 : LK) (t96 : Value) (h148 : za) : Prop :=
 GD t89 true (fun k150 => opt (aun prog .not t96) fun t97 => k150 t97 h148) (fun t97 h151 => GD t89 true (fun k152 => k152 t97 h151) (vW t8 t89 t1 R vs72 j133) h151) h148
def ZI (t89 t92 t8 t1 : Value) (R : VK) (vs72 : List Value) (j133 : LK) (t94 : Value) (h143 : za) : Prop :=
 GD t89 true (fun k144 => xg (nb [t94] (zg prog .len [22] 3 [t94] h143)) fun t95 _ => k144 t95 h143) (fun t95 h145 => GD t89 true (fun k147 => Yz prog 19 [t92, t95] h145 (fun t96 h149 => k147 t96 h149)) (v8 t89 t8 t1 R vs72 j133) h145) h143
def ZA (t89 t1 t8 : Value) (R : VK) (vs72 : List Value) (j133 : LK) (t92 : Value) (h139 : za) : Prop :=
 GD t89 true (fun k140 => opt (zb prog 25 t1 0) fun t93 => k140 t93 h139) (fun t93 h141 => GD t89 true (fun k142 => opt (zd prog 22 t93 h141) fun t94 => k142 t94 h141) (ZI t89 t92 t8 t1 R vs72 j133) h141) h139
def ZB (t8 : Value) (h132 : za) (t1 : Value) (R : VK) (vs72 : List Value) (j133 : LK) : Prop :=
 opt (zb prog 46 t8 0) fun t87 => opt (zd prog 3 t87 h132) fun t88 => opt (nb [t88, (.int .i64 8)] (zf prog .eql 3 (.tmp 88) (.const (.int .i64 8)) t88 (.int .i64 8))) fun t89 => GD t89 true (fun k136 => opt (zb prog 46 t8 1) fun t91 => k136 t91 h132) (fun t91 h137 => GD t89 true (fun k138 => opt (zd prog 3 t91 h137) fun t92 => k138 t92 h137) (ZA t89 t1 t8 R vs72 j133) h137) h132
def uO (t62 : Value) (R : VK) (t8 t1 : Value) (vs72 : List Value) (j84 : LK) (t84 : Value) (h132 : za) : Prop :=
 opt (pk t62 t84 (.bool false)) fun t85 => CD t85 (fun j133 => rv [(.bool false)] h132 R)
 (ZB t8 h132 t1 R vs72)
 (fun vs134 h135 => j84 [(nth vs134 0)] h135)
def uR (t71 t79 t62 : Value) (R : VK) (t8 t1 : Value) (vs72 : List Value) (j84 : LK) (t82 : Value) (h127 : za) : Prop :=
 GD t71 false (fun k129 => opt (nb [t79, t82] (zf prog .neq 3 (.tmp 79) (.tmp 82) t79 t82)) fun t83 => k129 t83 h127) (fun t83 h130 => GD t62 true (fun k131 => opt (pk t71 (.bool true) t83) fun t84 => k131 t84 h130) (uO t62 R t8 t1 vs72 j84) h130) h127
def uN (t71 t79 t62 : Value) (R : VK) (t8 t1 : Value) (vs72 : List Value) (j84 : LK) (t80 : Value) (h123 : za) : Prop :=
 GD t71 false (fun k124 => opt (zd prog 22 t80 h123) fun t81 => k124 t81 h123) (fun t81 h125 => GD t71 false (fun k126 => xg (nb [t81] (zg prog .len [22] 3 [t81] h125)) fun t82 _ => k126 t82 h125) (uR t71 t79 t62 R t8 t1 vs72 j84) h125) h123
def uS (t71 t8 t62 : Value) (R : VK) (t1 : Value) (vs72 : List Value) (j84 : LK) (t78 : Value) (h118 : za) : Prop :=
 GD t71 false (fun k119 => xg (nb [t78] (zg prog .len [22] 3 [t78] h118)) fun t79 _ => k119 t79 h118) (fun t79 h120 => GD t71 false (fun k122 => opt (zb prog 46 t8 6) fun t80 => k122 t80 h120) (uN t71 t79 t62 R t8 t1 vs72 j84) h120) h118
def uV (t71 t8 t62 : Value) (R : VK) (t1 : Value) (vs72 : List Value) (j84 : LK) (t76 : Value) (h114 : za) : Prop :=
 GD t71 false (fun k115 => opt (zb prog 51 t76 1) fun t77 => k115 t77 h114) (fun t77 h116 => GD t71 false (fun k117 => opt (zd prog 22 t77 h116) fun t78 => k117 t78 h116) (uS t71 t8 t62 R t1 vs72 j84) h116) h114
def uP (t71 t73 t8 t62 : Value) (R : VK) (t1 : Value) (vs72 : List Value) (j84 : LK) (t74 : Value) (h110 : za) : Prop :=
 GD t71 false (fun k111 => opt (zd prog 3 t74 h110) fun t75 => k111 t75 h110) (fun t75 h112 => GD t71 false (fun k113 => opt (zG prog 23 t73 t75) fun t76 => k113 t76 h112) (uV t71 t8 t62 R t1 vs72 j84) h112) h110
def uK (t71 t8 t62 : Value) (R : VK) (t1 : Value) (vs72 : List Value) (j84 : LK) (t72 : Value) (h106 : za) : Prop :=
 GD t71 false (fun k107 => opt (zd prog 23 t72 h106) fun t73 => k107 t73 h106) (fun t73 h108 => GD t71 false (fun k109 => opt (zb prog 46 t8 1) fun t74 => k109 t74 h108) (uP t71 t73 t8 t62 R t1 vs72 j84) h108) h106
def uM (t62 t1 t8 : Value) (R : VK) (vs72 : List Value) (j84 : LK) (t70 : Value) (h102 : za) : Prop :=
 GD t62 true (fun k103 => k103 t70 h102) (fun t71 h104 => GD t71 false (fun k105 => opt (zb prog 25 t1 1) fun t72 => k105 t72 h104) (uK t71 t8 t62 R t1 vs72 j84) h104) h102
def Zn (t62 t65 t1 t8 : Value) (R : VK) (vs72 : List Value) (j84 : LK) (t68 : Value) (h96 : za) : Prop :=
 GD t62 true (fun k98 => Yz prog 19 [t65, t68] h96 (fun t69 h100 => k98 t69 h100)) (fun t69 h99 => GD t62 true (fun k101 => opt (aun prog .not t69) fun t70 => k101 t70 h99) (uM t62 t1 t8 R vs72 j84) h99) h96
def Zx (t62 t65 t1 t8 : Value) (R : VK) (vs72 : List Value) (j84 : LK) (t66 : Value) (h92 : za) : Prop :=
 GD t62 true (fun k93 => opt (zd prog 23 t66 h92) fun t67 => k93 t67 h92) (fun t67 h94 => GD t62 true (fun k95 => xg (nb [t67] (zg prog .len [23] 3 [t67] h94)) fun t68 _ => k95 t68 h94) (Zn t62 t65 t1 t8 R vs72 j84) h94) h92
def ZC (t62 t1 t8 : Value) (R : VK) (vs72 : List Value) (j84 : LK) (t64 : Value) (h88 : za) : Prop :=
 GD t62 true (fun k89 => opt (zd prog 3 t64 h88) fun t65 => k89 t65 h88) (fun t65 h90 => GD t62 true (fun k91 => opt (zb prog 25 t1 1) fun t66 => k91 t66 h90) (Zx t62 t65 t1 t8 R vs72 j84) h90) h88
def ZF (t8 : Value) (h83 : za) (t1 : Value) (R : VK) (vs72 : List Value) (j84 : LK) : Prop :=
 opt (zb prog 46 t8 0) fun t60 => opt (zd prog 3 t60 h83) fun t61 => opt (nb [t61, (.int .i64 10)] (zf prog .eql 3 (.tmp 61) (.const (.int .i64 10)) t61 (.int .i64 10))) fun t62 => GD t62 true (fun k87 => opt (zb prog 46 t8 1) fun t64 => k87 t64 h83) (ZC t62 t1 t8 R vs72 j84) h83
def Wn (t53 : Value) (vs72 : List Value) (h76 : za) (t1 : Value) (R : VK) (j77 : LK) : Prop :=
 opt (zG prog 49 t53 (nth vs72 1)) fun t57 => opt (zd prog 46 t57 h76) fun t58 => opt (xo prog 46) fun z80 => nw h76 (Value.cells z80).toList 46 fun t8 h81 => opt (nb [t58] (zj prog 46 t8 t58 h81)) fun h83 => BK (ZF t8 h83 t1 R vs72)
 (fun vs85 h86 => j77 [(nth vs85 0)] h86)
def QE (vs72 : List Value) (j71 : LK) (vs78 : List Value) (h79 : za) : Prop :=
 opt (nb [(nth vs72 1), (.int .i64 1)] (zf prog .add 3 (.tmp 55) (ci 1) (nth vs72 1) (.int .i64 1))) fun t115 => j71 [(nth vs78 0), t115] h79
def XC (t54 : Value) (j68 : LK) (t53 t1 : Value) (R : VK) (vs72 : List Value) (h73 : za) (j71 : LK) : Prop :=
 opt (nb [(nth vs72 1), t54] (zf prog .lss 3 (.tmp 55) (.tmp 54) (nth vs72 1) t54)) fun t56 => CD t56 (fun j74 => j74 [] h73)
 (fun j74 => j68 [(nth vs72 0)] h73)
 (fun vs75 h76 => BK (Wn t53 vs72 h76 t1 R)
 (QE vs72 j71))
def U9 (t6 t1 : Value) (R : VK) (j56 : LK) (vs65 : List Value) (h66 : za) : Prop :=
 opt (zb prog 51 t6 5) fun t52 => opt (zd prog 49 t52 h66) fun t53 => xg (nb [t53] (zg prog .len [49] 3 [t53] h66)) fun t54 h67 => BK (fun j68 => LP (XC t54 j68 t53 t1 R)
 [(nth vs65 0), (.int .i64 0)] h67)
 (fun vs69 h70 => j56 [(nth vs69 0)] h70)
def Qj (t43 : Value) (vs51 : List Value) (h55 : za) (R : VK) (t1 : Value) (j56 : LK) : Prop :=
 opt (zG prog 23 t43 (nth vs51 1)) fun t47 => opt (zd prog 51 t47 h55) fun t48 => opt (xo prog 51) fun z59 => nw h55 (Value.cells z59).toList 51 fun t6 h60 => opt (nb [t48] (zj prog 51 t6 t48 h60)) fun h62 => opt (zd prog 51 t6 h62) fun t49 => zI prog (fn 20) [t49] h62 (fun t50 h63 => opt (aun prog .not t50) fun t51 => CD t51 (fun j64 => rv [(.bool false)] h63 R)
 (fun j64 => j64 [(nth vs51 0)] h63)
 (U9 t6 t1 R j56))
def Qs (vs51 : List Value) (j50 : LK) (vs57 : List Value) (h58 : za) : Prop :=
 opt (nb [(nth vs51 1), (.int .i64 1)] (zf prog .add 3 (.tmp 45) (ci 1) (nth vs51 1) (.int .i64 1))) fun t116 => j50 [(nth vs57 0), t116] h58
def XV (t44 : Value) (j47 : LK) (t43 : Value) (R : VK) (t1 : Value) (vs51 : List Value) (h52 : za) (j50 : LK) : Prop :=
 opt (nb [(nth vs51 1), t44] (zf prog .lss 3 (.tmp 45) (.tmp 44) (nth vs51 1) t44)) fun t46 => CD t46 (fun j53 => j53 [] h52)
 (fun j53 => j47 [(nth vs51 0)] h52)
 (fun vs54 h55 => BK (Qj t43 vs51 h55 R t1)
 (Qs vs51 j50))
def X8 (t1 : Value) (R : VK) (vs28 : List Value) (h29 : za) : Prop :=
 opt (zb prog 25 t1 1) fun t42 => opt (zd prog 23 t42 h29) fun t43 => xg (nb [t43] (zg prog .len [23] 3 [t43] h29)) fun t44 h46 => BK (fun j47 => LP (XV t44 j47 t43 R t1)
 [(nth vs28 0), (.int .i64 0)] h46)
 (fun vs48 h49 => rv [(.bool true)] h49 R)
def X0 (t1 : Value) (R : VK) (vs24 : List Value) (h25 : za) : Prop :=
 opt (zb prog 25 t1 0) fun t28 => opt (zd prog 22 t28 h25) fun t29 => xg (nb [t29] (zg prog .len [22] 3 [t29] h25)) fun t30 h26 => BK (fun j27 => LP (jK t30 j27 t29 R)
 [(nth vs24 0), (.int .i64 0)] h26)
 (X8 t1 R)
def ki (t21 : Value) (R : VK) (t1 t25 : Value) (h19 : za) : Prop :=
 GD t21 false (fun k21 => opt (nb [t25, (.int .i64 200)] (zf prog .gtr 3 (.tmp 25) (.const (.int .i64 200)) t25 (.int .i64 200))) fun t26 => k21 t26 h19) (fun t26 h22 => opt (pk t21 (.bool true) t26) fun t27 => CD t27 (fun j23 => rv [(.bool false)] h22 R)
 (fun j23 => j23 [(.bool false)] h22)
 (X0 t1 R)) h19
def qZ (t21 : Value) (R : VK) (t1 t23 : Value) (h15 : za) : Prop :=
 GD t21 false (fun k16 => opt (zd prog 22 t23 h15) fun t24 => k16 t24 h15) (fun t24 h17 => GD t21 false (fun k18 => xg (nb [t24] (zg prog .len [22] 3 [t24] h17)) fun t25 h20 => k18 t25 h20) (ki t21 R t1) h17) h15
def kB (t15 t1 : Value) (R : VK) (t19 : Value) (h10 : za) : Prop :=
 GD t15 false (fun k12 => opt (nb [t19, (.int .i64 100)] (zf prog .gtr 3 (.tmp 19) (.const (.int .i64 100)) t19 (.int .i64 100))) fun t20 => k12 t20 h10) (fun t20 h13 => opt (pk t15 (.bool true) t20) fun t21 => GD t21 false (fun k14 => opt (zb prog 25 t1 0) fun t23 => k14 t23 h13) (qZ t21 R t1) h13) h10
def kf (t15 t1 : Value) (R : VK) (t17 : Value) (h6 : za) : Prop :=
 GD t15 false (fun k7 => opt (zd prog 23 t17 h6) fun t18 => k7 t18 h6) (fun t18 h8 => GD t15 false (fun k9 => xg (nb [t18] (zg prog .len [23] 3 [t18] h8)) fun t19 h11 => k9 t19 h11) (kB t15 t1 R) h8) h6
def zgi (h : za) (t0 : Value) (R : VK) : Prop :=
 opt (nb [t0] (some (Value.cells t0).toList)) fun c1 => nw h c1 25 fun t1 h2 => opt (zb prog 25 t1 2) fun t9 => opt (zd prog 3 t9 h2) fun t10 => opt (zb prog 25 t1 1) fun t11 => opt (zd prog 23 t11 h2) fun t12 => xg (nb [t12] (zg prog .len [23] 3 [t12] h2)) fun t13 h3 => zI prog (fn 19) [t10, t13] h3 (fun t14 h4 => opt (aun prog .not t14) fun t15 => GD t15 false (fun k5 => opt (zb prog 25 t1 1) fun t17 => k5 t17 h4) (kf t15 t1 R) h4)
theorem ze0 (hw : zgi h t0 R) : DC prog 13 [t0] h R := zE mixed (q := qs) (n := 200) (Eq.mpr (by kernel_rfl) hw)
def zfJ (h : za) (t0 : Value) (R : VK) : Prop :=
 opt (nb [t0] (some (Value.cells t0).toList)) fun c1 => nw h c1 46 fun t1 h2 => opt (nb ([] ++ [t1]) (some (Value.func (.func 17) [].toArray [t1].toArray))) fun t3 => rv [t3] h2 R
theorem zeJ (hw : zfJ h t0 R) : DC prog 11 [t0] h R := zE mixed (q := qs) (n := 200) (Eq.mpr (by kernel_rfl) hw)
def zjx (h : za) (t0 : Value) (R : VK) : Prop :=
 opt (nb [t0] (some (Value.cells t0).toList)) fun c1 => nw h c1 46 fun t1 h2 => opt (nb ([] ++ [t1]) (some (Value.func (.func 18) [].toArray [t1].toArray))) fun t3 => rv [t3] h2 R
theorem zhL (hw : zjx h t0 R) : DC prog 12 [t0] h R := zE mixed (q := qs) (n := 200) (Eq.mpr (by kernel_rfl) hw)
def XZ (t6 t8 : Value) (R : VK) (t9 : Value) (h4 : za) : Prop :=
 GD t6 true (fun k5 => opt (nb [t8, t9] (zf prog .lss 3 (.tmp 8) (.tmp 9) t8 t9)) fun t10 => k5 t10 h4) (fun t10 h6 => opt (pk t6 t10 (.bool false)) fun t11 => rv [t11] h6 R) h4
def zcm (h : za) (t0 t1 : Value) (R : VK) : Prop :=
 opt (nb [t0, (.int .i64 0)] (zf prog .geq 3 (.tmp 5) (ci 0) t0 (.int .i64 0))) fun t6 => GD t6 true (fun k1 => k1 t0 h) (fun t8 h2 => GD t6 true (fun k3 => k3 t1 h2) (XZ t6 t8 R) h2) h
theorem zbx (hw : zcm h t0 t1 R) : DC prog 19 [t0, t1] h R := zE mixed (q := qs) (n := 200) (Eq.mpr (by kernel_rfl) hw)
def Xf (t53 : Value) (R : VK) (vs53 : List Value) (t41 t48 : Value) (j58 : LK) (t58 : Value) (h69 : za) : Prop :=
 opt (pk t53 (.bool true) t58) fun t59 => CD t59 (fun j70 => rv [(.bool false)] h69 R)
 (fun j70 => j70 [(nth vs53 0)] h69)
 (fun vs71 h72 => opt (zG prog 87 t41 t48) fun t62 => opt (nb [(.bool true)] (zj prog 4 t62 (.bool true) h72)) fun h74 => j58 [(nth vs71 0)] h74)
def YR (t53 t55 : Value) (R : VK) (vs53 : List Value) (t41 t48 : Value) (j58 : LK) (t56 : Value) (h65 : za) : Prop :=
 GD t53 false (fun k66 => opt (zG prog 87 t55 t56) fun t57 => k66 t57 h65) (fun t57 h67 => GD t53 false (fun k68 => opt (zd prog 4 t57 h67) fun t58 => k68 t58 h67) (Xf t53 R vs53 t41 t48 j58) h67) h65
def Xm (t41 t48 : Value) (R : VK) (vs53 : List Value) (j58 : LK) (t52 : Value) (h61 : za) : Prop :=
 opt (aun prog .not t52) fun t53 => GD t53 false (fun k62 => k62 t41 h61) (fun t55 h63 => GD t53 false (fun k64 => k64 t48 h63) (YR t53 t55 R vs53 t41 t48 j58) h63) h61
def Jj (t43 : Value) (vs53 : List Value) (h57 : za) (t1 t41 : Value) (R : VK) (j58 : LK) : Prop :=
 opt (zG prog 22 t43 (nth vs53 1)) fun t47 => opt (zd prog 3 t47 h57) fun t48 => opt (zb prog 51 t1 2) fun t50 => opt (zd prog 3 t50 h57) fun t51 => zI prog (fn 19) [t48, t51] h57 (Xm t41 t48 R vs53 j58)
def zae (vs53 : List Value) (j52 : LK) (vs59 : List Value) (h60 : za) : Prop :=
 opt (nb [(nth vs53 1), (.int .i64 1)] (zf prog .add 3 (.tmp 45) (ci 1) (nth vs53 1) (.int .i64 1))) fun t63 => j52 [(nth vs59 0), t63] h60
def Uu (t44 : Value) (j49 : LK) (t43 t1 t41 : Value) (R : VK) (vs53 : List Value) (h54 : za) (j52 : LK) : Prop :=
 opt (nb [(nth vs53 1), t44] (zf prog .lss 3 (.tmp 45) (.tmp 44) (nth vs53 1) t44)) fun t46 => CD t46 (fun j55 => j55 [] h54)
 (fun j55 => j49 [(nth vs53 0)] h54)
 (fun vs56 h57 => BK (Jj t43 vs53 h57 t1 t41 R)
 (zae vs53 j52))
def UH (t1 : Value) (R : VK) (vs50 : List Value) (h51 : za) : Prop :=
 opt (zb prog 51 t1 5) fun t64 => opt (zd prog 49 t64 h51) fun t65 => opt (nb ([] ++ [t1]) (some (Value.func (.func 36) [].toArray [t1].toArray))) fun t66 => zI prog (fn 35) [t65, t66] h51 (fun t67 h75 => opt (aun prog .not t67) fun t68 => rv [t68] h75 R)
def Uq (t1 : Value) (R : VK) (vs45 : List Value) (h46 : za) : Prop :=
 opt (zb prog 51 t1 2) fun t39 => opt (zd prog 3 t39 h46) fun t40 => xg (ZQ prog 87 t40 t40 h46) fun t41 h47 => opt (zb prog 51 t1 1) fun t42 => opt (zd prog 22 t42 h47) fun t43 => xg (nb [t43] (zg prog .len [22] 3 [t43] h47)) fun t44 h48 => BK (fun j49 => LP (Uu t44 j49 t43 t1 t41 R)
 [(nth vs45 0), (.int .i64 0)] h48)
 (UH t1 R)
def uq (t33 : Value) (R : VK) (t1 t36 : Value) (h41 : za) : Prop :=
 GD t33 false (fun k42 => opt (nb [t36, (.int .i64 65536)] (zf prog .gtr 3 (.tmp 36) (.const (.int .i64 65536)) t36 (.int .i64 65536))) fun t37 => k42 t37 h41) (fun t37 h43 => opt (pk t33 (.bool true) t37) fun t38 => CD t38 (fun j44 => rv [(.bool false)] h43 R)
 (fun j44 => j44 [(.bool false)] h43)
 (Uq t1 R)) h41
def vu (t28 t1 : Value) (R : VK) (t32 : Value) (h37 : za) : Prop :=
 opt (pk t28 (.bool true) t32) fun t33 => GD t33 false (fun k38 => opt (zb prog 51 t1 3) fun t35 => k38 t35 h37) (fun t35 h39 => GD t33 false (fun k40 => opt (zd prog 3 t35 h39) fun t36 => k40 t36 h39) (uq t33 R t1) h39) h37
def vw (t28 t1 : Value) (R : VK) (t31 : Value) (h35 : za) : Prop :=
 GD t28 false (fun k36 => opt (nb [t31, (.int .i64 0)] (zf prog .lss 3 (.tmp 31) (ci 0) t31 (.int .i64 0))) fun t32 => k36 t32 h35) (vu t28 t1 R) h35
def vx (t19 t1 : Value) (R : VK) (t27 : Value) (h31 : za) : Prop :=
 opt (pk t19 (.bool true) t27) fun t28 => GD t28 false (fun k32 => opt (zb prog 51 t1 3) fun t30 => k32 t30 h31) (fun t30 h33 => GD t28 false (fun k34 => opt (zd prog 3 t30 h33) fun t31 => k34 t31 h33) (vw t28 t1 R) h33) h31
def kb (t19 t22 t1 : Value) (R : VK) (t25 : Value) (h25 : za) : Prop :=
 GD t19 false (fun k27 => zI prog (fn 19) [t22, t25] h25 (fun t26 h29 => k27 t26 h29)) (fun t26 h28 => GD t19 false (fun k30 => opt (aun prog .not t26) fun t27 => k30 t27 h28) (vx t19 t1 R) h28) h25
def kp (t19 t22 t1 : Value) (R : VK) (t23 : Value) (h21 : za) : Prop :=
 GD t19 false (fun k22 => opt (zd prog 49 t23 h21) fun t24 => k22 t24 h21) (fun t24 h23 => GD t19 false (fun k24 => xg (nb [t24] (zg prog .len [49] 3 [t24] h23)) fun t25 h26 => k24 t25 h26) (kb t19 t22 t1 R) h23) h21
def kr (t19 t1 : Value) (R : VK) (t21 : Value) (h17 : za) : Prop :=
 GD t19 false (fun k18 => opt (zd prog 3 t21 h17) fun t22 => k18 t22 h17) (fun t22 h19 => GD t19 false (fun k20 => opt (zb prog 51 t1 5) fun t23 => k20 t23 h19) (kp t19 t22 t1 R) h19) h17
def kt (t14 t1 : Value) (R : VK) (t17 : Value) (h13 : za) : Prop :=
 GD t14 false (fun k14 => opt (nb [t17, (.int .i64 5000)] (zf prog .gtr 3 (.tmp 17) (.const (.int .i64 5000)) t17 (.int .i64 5000))) fun t18 => k14 t18 h13) (fun t18 h15 => opt (pk t14 (.bool true) t18) fun t19 => GD t19 false (fun k16 => opt (zb prog 51 t1 4) fun t21 => k16 t21 h15) (kr t19 t1 R) h15) h13
def km (t9 t1 : Value) (R : VK) (t13 : Value) (h9 : za) : Prop :=
 opt (pk t9 (.bool true) t13) fun t14 => GD t14 false (fun k10 => opt (zb prog 51 t1 2) fun t16 => k10 t16 h9) (fun t16 h11 => GD t14 false (fun k12 => opt (zd prog 3 t16 h11) fun t17 => k12 t17 h11) (kt t14 t1 R) h11) h9
def kh (t9 t1 : Value) (R : VK) (t12 : Value) (h7 : za) : Prop :=
 GD t9 false (fun k8 => opt (nb [t12, (.int .i64 0)] (zf prog .lss 3 (.tmp 12) (ci 0) t12 (.int .i64 0))) fun t13 => k8 t13 h7) (km t9 t1 R) h7
def zhq (h : za) (t0 : Value) (R : VK) : Prop :=
 opt (nb [t0] (some (Value.cells t0).toList)) fun c1 => nw h c1 51 fun t1 h2 => opt (zb prog 51 t1 5) fun t6 => opt (zd prog 49 t6 h2) fun t7 => xg (nb [t7] (zg prog .len [49] 3 [t7] h2)) fun t8 h3 => opt (nb [t8, (.int .i64 5000)] (zf prog .gtr 3 (.tmp 8) (.const (.int .i64 5000)) t8 (.int .i64 5000))) fun t9 => GD t9 false (fun k4 => opt (zb prog 51 t1 2) fun t11 => k4 t11 h3) (fun t11 h5 => GD t9 false (fun k6 => opt (zd prog 3 t11 h5) fun t12 => k6 t12 h5) (kh t9 t1 R) h5) h3
theorem zep (hw : zhq h t0 R) : DC prog 20 [t0] h R := zE mixed (q := qs) (n := 200) (Eq.mpr (by kernel_rfl) hw)
def ZM (t1 t0 : Value) (R : VK) (vs13 : List Value) (h14 : za) : Prop :=
 opt (zb prog 46 t1 0) fun t13 => opt (zd prog 3 t13 h14) fun t14 => opt (nb [t14, (.int .i64 11)] (zf prog .eql 3 (.tmp 14) (.const (.int .i64 11)) t14 (.int .i64 11))) fun t15 => CD t15 (fun j15 => opt (zb prog 46 t1 8) fun t17 => opt (zd prog 3 t17 h14) fun t18 => zI prog t0 [t18] h14 (fun t19 h18 => j15 [] h18))
 (fun j15 => j15 [] h14)
 (fun vs16 h17 => rv [] h17 R)
def ku (t5 : Value) (R : VK) (t1 t0 t10 : Value) (h8 : za) : Prop :=
 GD t5 true (fun k10 => opt (aun prog .not t10) fun t11 => k10 t11 h8) (fun t11 h11 => opt (pk t5 t11 (.bool false)) fun t12 => CD t12 (fun j12 => rv [] h11 R)
 (fun j12 => j12 [] h11)
 (ZM t1 t0 R)) h8
def We (t5 t7 : Value) (R : VK) (t1 t0 t8 : Value) (h4 : za) : Prop :=
 GD t5 true (fun k5 => opt (zd prog 3 t8 h4) fun t9 => k5 t9 h4) (fun t9 h6 => GD t5 true (fun k7 => zI prog t7 [t9] h6 (fun t10 h9 => k7 t10 h9)) (ku t5 R t1 t0) h6) h4
def zcM (h : za) (t0 t1 : Value) (R : VK) : Prop :=
 opt (zb prog 46 t1 0) fun t3 => opt (zd prog 3 t3 h) fun t4 => opt (nb [t4, (.int .i64 12)] (zf prog .neq 3 (.tmp 4) (.const (.int .i64 12)) t4 (.int .i64 12))) fun t5 => GD t5 true (fun k1 => k1 t0 h) (fun t7 h2 => GD t5 true (fun k3 => opt (zb prog 46 t1 7) fun t8 => k3 t8 h2) (We t5 t7 R t1 t0) h2) h
theorem zbE (hw : zcM h t0 t1 R) : DC prog 17 [t0, t1] h R := zE mixed (q := qs) (n := 200) (Eq.mpr (by kernel_rfl) hw)
def Xv (t6 : Value) (h : za) (j19 : LK) : Prop :=
 opt (nb [t6, (.int .i64 11)] (zf prog .eql 3 (.tmp 6) (.const (.int .i64 11)) t6 (.int .i64 11))) fun t14 => CD t14 (fun j22 => j22 [t14] h)
 (fun j22 => opt (nb [t6, (.int .i64 7)] (zf prog .eql 3 (.tmp 6) (.const (.int .i64 7)) t6 (.int .i64 7))) fun t15 => j22 [t15] h)
 (fun vs23 h24 => j19 [(nth vs23 0)] h24)
def jv (t6 : Value) (h : za) (j16 : LK) : Prop :=
 opt (nb [t6, (.int .i64 5)] (zf prog .eql 3 (.tmp 6) (.const (.int .i64 5)) t6 (.int .i64 5))) fun t13 => CD t13 (fun j19 => j19 [t13] h)
 (Xv t6 h)
 (fun vs20 h21 => j16 [(nth vs20 0)] h21)
def ka (t6 : Value) (h : za) (j13 : LK) : Prop :=
 opt (nb [t6, (.int .i64 14)] (zf prog .eql 3 (.tmp 6) (.const (.int .i64 14)) t6 (.int .i64 14))) fun t12 => CD t12 (fun j16 => j16 [t12] h)
 (jv t6 h)
 (fun vs17 h18 => j13 [(nth vs17 0)] h18)
def qq (t6 : Value) (h : za) (j10 : LK) : Prop :=
 opt (nb [t6, (.int .i64 12)] (zf prog .eql 3 (.tmp 6) (.const (.int .i64 12)) t6 (.int .i64 12))) fun t11 => CD t11 (fun j13 => j13 [t11] h)
 (ka t6 h)
 (fun vs14 h15 => j10 [(nth vs14 0)] h15)
def uj (t6 : Value) (h : za) (j7 : LK) : Prop :=
 opt (nb [t6, (.int .i64 6)] (zf prog .eql 3 (.tmp 6) (.const (.int .i64 6)) t6 (.int .i64 6))) fun t10 => CD t10 (fun j10 => j10 [t10] h)
 (qq t6 h)
 (fun vs11 h12 => j7 [(nth vs11 0)] h12)
def vJ (t6 : Value) (h : za) (j4 : LK) : Prop :=
 opt (nb [t6, (.int .i64 4)] (zf prog .eql 3 (.tmp 6) (.const (.int .i64 4)) t6 (.int .i64 4))) fun t9 => CD t9 (fun j7 => j7 [t9] h)
 (uj t6 h)
 (fun vs8 h9 => j4 [(nth vs8 0)] h9)
def YE (t18 : Value) (R : VK) (j25 : LK) (t23 : Value) (h35 : za) : Prop :=
 GD t18 true (fun k37 => opt (aun prog .not t23) fun t24 => k37 t24 h35) (fun t24 h38 => opt (pk t18 t24 (.bool false)) fun t25 => CD t25 (fun j39 => rv [] h38 R)
 (fun j39 => j39 [] h38)
 (fun vs40 h41 => j25 [] h41)) h35
def Ua (t18 t20 : Value) (R : VK) (j25 : LK) (t21 : Value) (h31 : za) : Prop :=
 GD t18 true (fun k32 => opt (zd prog 3 t21 h31) fun t22 => k32 t22 h31) (fun t22 h33 => GD t18 true (fun k34 => zI prog t20 [t22] h33 (fun t23 h36 => k34 t23 h36)) (YE t18 R j25) h33) h31
def YM (t1 : Value) (h6 : za) (t0 : Value) (R : VK) (j25 : LK) : Prop :=
 opt (zb prog 46 t1 2) fun t16 => opt (zd prog 3 t16 h6) fun t17 => opt (nb [t17, (.int .i64 (-1))] (zf prog .neq 3 (.tmp 17) (.const (.int .i64 (-1))) t17 (.int .i64 (-1)))) fun t18 => GD t18 true (fun k28 => k28 t0 h6) (fun t20 h29 => GD t18 true (fun k30 => opt (zb prog 46 t1 2) fun t21 => k30 t21 h29) (Ua t18 t20 R j25) h29) h6
def wz (t6 : Value) (h : za) (t1 t0 : Value) (R : VK) (j1 : LK) : Prop :=
 opt (nb [t6, (.int .i64 3)] (zf prog .eql 3 (.tmp 6) (.const (.int .i64 3)) t6 (.int .i64 3))) fun t8 => CD t8 (fun j4 => j4 [t8] h)
 (vJ t6 h)
 (fun vs5 h6 => CD (nth vs5 0) (YM t1 h6 t0 R)
 (fun j25 => j25 [] h6)
 (fun vs26 h27 => j1 [] h27))
def ZE (t27 : Value) (h3 : za) (j45 : LK) : Prop :=
 opt (nb [t27, (.int .i64 11)] (zf prog .eql 3 (.tmp 27) (.const (.int .i64 11)) t27 (.int .i64 11))) fun t30 => CD t30 (fun j48 => j48 [t30] h3)
 (fun j48 => opt (nb [t27, (.int .i64 7)] (zf prog .eql 3 (.tmp 27) (.const (.int .i64 7)) t27 (.int .i64 7))) fun t31 => j48 [t31] h3)
 (fun vs49 h50 => j45 [(nth vs49 0)] h50)
def Zq (t34 : Value) (R : VK) (j51 : LK) (t39 : Value) (h61 : za) : Prop :=
 GD t34 true (fun k63 => opt (aun prog .not t39) fun t40 => k63 t40 h61) (fun t40 h64 => opt (pk t34 t40 (.bool false)) fun t41 => CD t41 (fun j65 => rv [] h64 R)
 (fun j65 => j65 [] h64)
 (fun vs66 h67 => j51 [] h67)) h61
def XW (t34 t36 : Value) (R : VK) (j51 : LK) (t37 : Value) (h57 : za) : Prop :=
 GD t34 true (fun k58 => opt (zd prog 3 t37 h57) fun t38 => k58 t38 h57) (fun t38 h59 => GD t34 true (fun k60 => zI prog t36 [t38] h59 (fun t39 h62 => k60 t39 h62)) (Zq t34 R j51) h59) h57
def Zo (t1 : Value) (h47 : za) (t0 : Value) (R : VK) (j51 : LK) : Prop :=
 opt (zb prog 46 t1 3) fun t32 => opt (zd prog 3 t32 h47) fun t33 => opt (nb [t33, (.int .i64 (-1))] (zf prog .neq 3 (.tmp 33) (.const (.int .i64 (-1))) t33 (.int .i64 (-1)))) fun t34 => GD t34 true (fun k54 => k54 t0 h47) (fun t36 h55 => GD t34 true (fun k56 => opt (zb prog 46 t1 3) fun t37 => k56 t37 h55) (XW t34 t36 R j51) h55) h47
def vZ (t27 : Value) (h3 : za) (t1 t0 : Value) (R : VK) (j42 : LK) : Prop :=
 opt (nb [t27, (.int .i64 5)] (zf prog .eql 3 (.tmp 27) (.const (.int .i64 5)) t27 (.int .i64 5))) fun t29 => CD t29 (fun j45 => j45 [t29] h3)
 (ZE t27 h3)
 (fun vs46 h47 => CD (nth vs46 0) (Zo t1 h47 t0 R)
 (fun j51 => j51 [] h47)
 (fun vs52 h53 => j42 [] h53))
def QF (t46 : Value) (vs76 : List Value) (h80 : za) (t0 : Value) (R : VK) (j81 : LK) : Prop :=
 opt (zG prog 22 t46 (nth vs76 0)) fun t50 => opt (zd prog 3 t50 h80) fun t51 => zI prog t0 [t51] h80 (fun t54 h84 => opt (aun prog .not t54) fun t55 => CD t55 (fun j85 => rv [] h84 R)
 (fun j85 => j85 [] h84)
 (fun vs86 h87 => j81 [] h87))
def QG (t46 : Value) (vs76 : List Value) (t0 : Value) (R : VK) (j75 : LK) (vs79 : List Value) (h80 : za) : Prop :=
 BK (QF t46 vs76 h80 t0 R)
 (fun vs82 h83 => opt (nb [(nth vs76 0), (.int .i64 1)] (zf prog .add 3 (.tmp 48) (ci 1) (nth vs76 0) (.int .i64 1))) fun t56 => j75 [t56] h83)
def X7 (t47 : Value) (j72 : LK) (t46 t0 : Value) (R : VK) (vs76 : List Value) (h77 : za) (j75 : LK) : Prop :=
 opt (nb [(nth vs76 0), t47] (zf prog .lss 3 (.tmp 48) (.tmp 47) (nth vs76 0) t47)) fun t49 => CD t49 (fun j78 => j78 [] h77)
 (fun j78 => j72 [] h77)
 (QG t46 vs76 t0 R j75)
def Qw (t1 t0 : Value) (R : VK) (vs69 : List Value) (h70 : za) : Prop :=
 opt (zb prog 46 t1 6) fun t45 => opt (zd prog 22 t45 h70) fun t46 => xg (nb [t46] (zg prog .len [22] 3 [t46] h70)) fun t47 h71 => BK (fun j72 => LP (X7 t47 j72 t46 t0 R)
 [(.int .i64 0)] h71)
 (fun vs73 h74 => rv [] h74 R)
def vV (t1 : Value) (R : VK) (t0 : Value) (vs43 : List Value) (h44 : za) : Prop :=
 opt (zb prog 46 t1 0) fun t42 => opt (zd prog 3 t42 h44) fun t43 => opt (nb [t43, (.int .i64 10)] (zf prog .neq 3 (.tmp 43) (.const (.int .i64 10)) t43 (.int .i64 10))) fun t44 => CD t44 (fun j68 => rv [] h44 R)
 (fun j68 => j68 [] h44)
 (Qw t1 t0 R)
def zgS (h : za) (t0 t1 : Value) (R : VK) : Prop :=
 opt (zb prog 46 t1 0) fun t5 => opt (zd prog 3 t5 h) fun t6 => BK (wz t6 h t1 t0 R)
 (fun vs2 h3 => opt (zb prog 46 t1 0) fun t26 => opt (zd prog 3 t26 h3) fun t27 => BK (vZ t27 h3 t1 t0 R)
 (vV t1 R t0))
theorem zeg (hw : zgS h t0 t1 R) : DC prog 18 [t0, t1] h R := zE mixed (q := qs) (n := 200) (Eq.mpr (by kernel_rfl) hw)
def ZW (h : za) (t0 t1 : Value) (R : VK) : Prop :=
 zI prog (fn 61) [t0, t1] h (fun t7 h1 => opt (nb [t7, (.int .i64 0)] (zf prog .geq 3 (.tmp 7) (ci 0) t7 (.int .i64 0))) fun t8 => rv [t8] h1 R)
theorem Wl (hw : ZW h t0 t1 R) : DC prog 35 [t0, t1] h R := zE mixed (q := qs) (n := 200) (Eq.mpr (by kernel_rfl) hw)
def zdl (h : za) (t0 t1 : Value) (R : VK) : Prop :=
 opt (nb [t0] (some (Value.cells t0).toList)) fun c1 => nw h c1 46 fun t2 h2 => opt (zd prog 51 t1 h2) fun t4 => opt (zd prog 46 t2 h2) fun t5 => zI prog (fn 37) [t4, t5] h2 (fun t6 h3 => opt (aun prog .not t6) fun t7 => rv [t7] h3 R)
theorem zbN (hw : zdl h t0 t1 R) : DC prog 36 [t0, t1] h R := zE mixed (q := qs) (n := 200) (Eq.mpr (by kernel_rfl) hw)
def XM (t4 : Value) (L : Nat) (K : VK) (j27 : LK) (t24 : Value) (h31 : za) : Prop :=
 opt (aun prog .not t24) fun t25 => CD t25 (fun j32 => opt (nb [(.bool false)] (zj prog 4 t4 (.bool false) h31)) fun h36 => Fin L K .ret h36)
 (fun j32 => j32 [] h31)
 (fun vs33 h34 => j27 [] h34)
def U8 (t2 : Value) (h26 : za) (t19 t4 : Value) (L : Nat) (K : VK) (j27 : LK) : Prop :=
 opt (zb prog 51 t2 5) fun t21 => opt (zd prog 49 t21 h26) fun t22 => xg (nb [t22] (zg prog .len [49] 3 [t22] h26)) fun t23 h30 => zI prog (fn 19) [t19, t23] h30 (XM t4 L K j27)
def WY (t2 t19 t4 t0 t1 t3 t9 t10 t11 t12 t13 t14 t15 t16 t17 t18 : Value) (L : Nat) (h : za) (K : VK) : Prop :=
 RA L h (fun h26 => BK (U8 t2 h26 t19 t4 L K)
 (fun vs28 h29 => Fin L K .normal h29))
def Qn (t18 t0 t1 t2 t3 t4 t9 t10 t11 t13 t14 t15 t16 t17 : Value) (h18 : za) (R : VK) (j19 : LK) : Prop :=
 RF prog t18 (xI prog 37 0).1 (xI prog 37 0).2.1 (xI prog 37 0).2.2 (Kf 125 [(0, t0), (1, t1), (2, t2), (3, t3), (4, t4), (9, t9), (10, t10), (11, t11), (12, t11), (13, t13), (14, t14), (15, t15), (16, t16), (17, t17), (18, t18)]) h18 (fun h22 => j19 [] h22) (fun h23 => opt (zd prog 4 t4 h23) fun r0 => rv [r0] h23 R) (fun x25 h24 => cond (Nat.beq x25 0) (j19 [] h24) (False))
def XE (t4 : Value) (L : Nat) (K : VK) (j46 : LK) (t32 : Value) (h49 : za) : Prop :=
 opt (aun prog .not t32) fun t33 => CD t33 (fun j50 => opt (nb [(.bool false)] (zj prog 4 t4 (.bool false) h49)) fun h54 => Fin L K .ret h54)
 (fun j50 => j50 [] h49)
 (fun vs51 h52 => j46 [] h52)
def U7 (t2 : Value) (h45 : za) (t28 t4 : Value) (L : Nat) (K : VK) (j46 : LK) : Prop :=
 opt (zb prog 51 t2 2) fun t30 => opt (zd prog 3 t30 h45) fun t31 => zI prog (fn 19) [t28, t31] h45 (XE t4 L K j46)
def Ul (t2 t28 t4 t0 t1 t3 t9 t10 t11 t12 t13 t14 t15 t16 t17 t18 t26 t27 : Value) (L : Nat) (h : za) (K : VK) : Prop :=
 RA L h (fun h45 => BK (U7 t2 h45 t28 t4 L K)
 (fun vs47 h48 => Fin L K .normal h48))
def QT (t27 t0 t1 t2 t3 t4 t9 t10 t11 t13 t14 t15 t16 t17 t18 t26 : Value) (h37 : za) (R : VK) (j38 : LK) : Prop :=
 RF prog t27 (xI prog 37 1).1 (xI prog 37 1).2.1 (xI prog 37 1).2.2 (Kf 125 [(0, t0), (1, t1), (2, t2), (3, t3), (4, t4), (9, t9), (10, t10), (11, t11), (12, t11), (13, t13), (14, t14), (15, t15), (16, t16), (17, t17), (18, t18), (26, t26), (27, t27)]) h37 (fun h41 => j38 [] h41) (fun h42 => opt (zd prog 4 t4 h42) fun r0 => rv [r0] h42 R) (fun x44 h43 => cond (Nat.beq x44 2) (j38 [] h43) (False))
def w4 (t35 : Value) (h40 : za) (j67 : LK) : Prop :=
 opt (nb [t35, (.int .i64 5)] (zf prog .eql 3 (.tmp 35) (.const (.int .i64 5)) t35 (.int .i64 5))) fun t41 => CD t41 (fun j70 => j70 [t41] h40)
 (fun j70 => opt (nb [t35, (.int .i64 11)] (zf prog .eql 3 (.tmp 35) (.const (.int .i64 11)) t35 (.int .i64 11))) fun t42 => j70 [t42] h40)
 (fun vs71 h72 => j67 [(nth vs71 0)] h72)
def xU (t35 : Value) (h40 : za) (j64 : LK) : Prop :=
 opt (nb [t35, (.int .i64 14)] (zf prog .eql 3 (.tmp 35) (.const (.int .i64 14)) t35 (.int .i64 14))) fun t40 => CD t40 (fun j67 => j67 [t40] h40)
 (w4 t35 h40)
 (fun vs68 h69 => j64 [(nth vs68 0)] h69)
def xx (t35 : Value) (h40 : za) (j61 : LK) : Prop :=
 opt (nb [t35, (.int .i64 6)] (zf prog .eql 3 (.tmp 35) (.const (.int .i64 6)) t35 (.int .i64 6))) fun t39 => CD t39 (fun j64 => j64 [t39] h40)
 (xU t35 h40)
 (fun vs65 h66 => j61 [(nth vs65 0)] h66)
def y7 (t35 : Value) (h40 : za) (j58 : LK) : Prop :=
 opt (nb [t35, (.int .i64 4)] (zf prog .eql 3 (.tmp 35) (.const (.int .i64 4)) t35 (.int .i64 4))) fun t38 => CD t38 (fun j61 => j61 [t38] h40)
 (xx t35 h40)
 (fun vs62 h63 => j58 [(nth vs62 0)] h63)
def kC (t50 t4 : Value) (R : VK) (j81 : LK) (t54 : Value) (h89 : za) : Prop :=
 opt (pk t50 (.bool true) t54) fun t55 => CD t55 (fun j90 => opt (nb [(.bool false)] (zj prog 4 t4 (.bool false) h89)) fun h94 => opt (zd prog 4 t4 h94) fun r0 => rv [r0] h94 R)
 (fun j90 => j90 [] h89)
 (fun vs91 h92 => j81 [] h92)
def kX (t50 t4 : Value) (R : VK) (j81 : LK) (t53 : Value) (h87 : za) : Prop :=
 GD t50 false (fun k88 => opt (nb [t53, (.int .i64 (-1))] (zf prog .eql 3 (.tmp 53) (.const (.int .i64 (-1))) t53 (.int .i64 (-1)))) fun t54 => k88 t54 h87) (kC t50 t4 R j81) h87
def YC (t3 : Value) (h60 : za) (t4 : Value) (R : VK) (j95 : LK) : Prop :=
 opt (zb prog 46 t3 4) fun t58 => opt (zd prog 3 t58 h60) fun t59 => opt (nb [t59, (.int .i64 (-1))] (zf prog .eql 3 (.tmp 59) (.const (.int .i64 (-1))) t59 (.int .i64 (-1)))) fun t60 => CD t60 (fun j98 => opt (nb [(.bool true)] (zj prog 4 t4 (.bool true) h60)) fun h102 => opt (zd prog 4 t4 h102) fun r0 => rv [r0] h102 R)
 (fun j98 => j98 [] h60)
 (fun vs99 h100 => j95 [] h100)
def kH (t3 : Value) (h60 : za) (t4 : Value) (R : VK) (j81 : LK) : Prop :=
 opt (zb prog 46 t3 2) fun t48 => opt (zd prog 3 t48 h60) fun t49 => opt (nb [t49, (.int .i64 (-1))] (zf prog .eql 3 (.tmp 49) (.const (.int .i64 (-1))) t49 (.int .i64 (-1)))) fun t50 => GD t50 false (fun k84 => opt (zb prog 46 t3 3) fun t52 => k84 t52 h60) (fun t52 h85 => GD t50 false (fun k86 => opt (zd prog 3 t52 h85) fun t53 => k86 t53 h85) (kX t50 t4 R j81) h85) h60
def kN (t35 t3 : Value) (h60 : za) (t4 : Value) (R : VK) (j81 : LK) : Prop :=
 opt (nb [t35, (.int .i64 10)] (zf prog .eql 3 (.tmp 35) (.const (.int .i64 10)) t35 (.int .i64 10))) fun t57 => CD t57 (YC t3 h60 t4 R)
 (fun j95 => j95 [] h60)
 (fun vs96 h97 => j81 [] h97)
def qi (t3 : Value) (h60 : za) (t4 : Value) (R : VK) (j73 : LK) : Prop :=
 opt (zb prog 46 t3 2) fun t43 => opt (zd prog 3 t43 h60) fun t44 => opt (nb [t44, (.int .i64 (-1))] (zf prog .eql 3 (.tmp 44) (.const (.int .i64 (-1))) t44 (.int .i64 (-1)))) fun t45 => CD t45 (fun j76 => opt (nb [(.bool false)] (zj prog 4 t4 (.bool false) h60)) fun h80 => opt (zd prog 4 t4 h80) fun r0 => rv [r0] h80 R)
 (fun j76 => j76 [] h60)
 (fun vs77 h78 => j73 [] h78)
def vr (t35 t3 : Value) (h60 : za) (t4 : Value) (R : VK) (j73 : LK) : Prop :=
 opt (nb [t35, (.int .i64 7)] (zf prog .eql 3 (.tmp 35) (.const (.int .i64 7)) t35 (.int .i64 7))) fun t47 => CD t47 (kH t3 h60 t4 R)
 (kN t35 t3 h60 t4 R)
 (fun vs82 h83 => j73 [] h83)
def yX (t35 : Value) (h40 : za) (t3 t4 : Value) (R : VK) (j55 : LK) : Prop :=
 opt (nb [t35, (.int .i64 3)] (zf prog .eql 3 (.tmp 35) (.const (.int .i64 3)) t35 (.int .i64 3))) fun t37 => CD t37 (fun j58 => j58 [t37] h40)
 (y7 t35 h40)
 (fun vs59 h60 => CD (nth vs59 0) (qi t3 h60 t4 R)
 (vr t35 t3 h60 t4 R)
 (fun vs74 h75 => j55 [] h75))
def kP (t67 t4 : Value) (R : VK) (j106 : LK) (t71 : Value) (h114 : za) : Prop :=
 opt (pk t67 (.bool true) t71) fun t72 => CD t72 (fun j115 => opt (nb [(.bool false)] (zj prog 4 t4 (.bool false) h114)) fun h119 => opt (zd prog 4 t4 h119) fun r0 => rv [r0] h119 R)
 (fun j115 => j115 [] h114)
 (fun vs116 h117 => j106 [] h117)
def jg (t67 t4 : Value) (R : VK) (j106 : LK) (t70 : Value) (h112 : za) : Prop :=
 GD t67 false (fun k113 => opt (nb [t70, (.int .i64 4)] (zf prog .gtr 3 (.tmp 70) (.const (.int .i64 4)) t70 (.int .i64 4))) fun t71 => k113 t71 h112) (kP t67 t4 R j106) h112
def Yp (t4 : Value) (R : VK) (j120 : LK) (t77 : Value) (h123 : za) : Prop :=
 opt (aun prog .not t77) fun t78 => CD t78 (fun j124 => opt (nb [(.bool false)] (zj prog 4 t4 (.bool false) h123)) fun h128 => opt (zd prog 4 t4 h128) fun r0 => rv [r0] h128 R)
 (fun j124 => j124 [] h123)
 (fun vs125 h126 => j120 [] h126)
def YB (t4 : Value) (R : VK) (j129 : LK) (t84 : Value) (h132 : za) : Prop :=
 opt (axt t84 0) fun t85 => opt (axt t84 1) fun t86 => opt (aun prog .not t86) fun t88 => CD t88 (fun j133 => opt (nb [(.bool false)] (zj prog 4 t4 (.bool false) h132)) fun h137 => opt (zd prog 4 t4 h137) fun r0 => rv [r0] h137 R)
 (fun j133 => j133 [] h132)
 (fun vs134 h135 => j129 [] h135)
def Yg (t4 : Value) (R : VK) (j141 : LK) (t94 : Value) (h144 : za) : Prop :=
 opt (aun prog .not t94) fun t95 => CD t95 (fun j145 => opt (nb [(.bool false)] (zj prog 4 t4 (.bool false) h144)) fun h149 => opt (zd prog 4 t4 h149) fun r0 => rv [r0] h149 R)
 (fun j145 => j145 [] h144)
 (fun vs146 h147 => j141 [] h147)
def kD (t100 t4 : Value) (R : VK) (j150 : LK) (t106 : Value) (h162 : za) : Prop :=
 opt (pk t100 (.bool true) t106) fun t107 => CD t107 (fun j163 => opt (nb [(.bool false)] (zj prog 4 t4 (.bool false) h162)) fun h167 => opt (zd prog 4 t4 h167) fun r0 => rv [r0] h167 R)
 (fun j163 => j163 [] h162)
 (fun vs164 h165 => j150 [] h165)
def kT (t100 t103 t4 : Value) (R : VK) (j150 : LK) (t105 : Value) (h160 : za) : Prop :=
 GD t100 false (fun k161 => opt (nb [t103, t105] (zf prog .gtr 2 (.tmp 103) (.tmp 105) t103 t105)) fun t106 => k161 t106 h160) (kD t100 t4 R j150) h160
def kE (t100 t2 t4 : Value) (R : VK) (j150 : LK) (t103 : Value) (h156 : za) : Prop :=
 GD t100 false (fun k157 => opt (zb prog 51 t2 3) fun t104 => k157 t104 h156) (fun t104 h158 => GD t100 false (fun k159 => opt (zd prog 3 t104 h158) fun t105 => k159 t105 h158) (kT t100 t103 t4 R j150) h158) h156
def kG (t3 : Value) (h140 : za) (t2 t4 : Value) (R : VK) (j150 : LK) : Prop :=
 opt (zb prog 46 t3 5) fun t98 => opt (zd prog 2 t98 h140) fun t99 => opt (nb [t99, (.int .i64 0)] (zf prog .lss 2 (.tmp 99) (ci 0) t99 (.int .i64 0))) fun t100 => GD t100 false (fun k153 => opt (zb prog 46 t3 5) fun t102 => k153 t102 h140) (fun t102 h154 => GD t100 false (fun k155 => opt (zd prog 2 t102 h154) fun t103 => k155 t103 h154) (kE t100 t2 t4 R j150) h154) h140
def Z6 (t3 : Value) (h140 : za) (t4 : Value) (R : VK) (j141 : LK) : Prop :=
 opt (zb prog 46 t3 1) fun t92 => opt (zd prog 3 t92 h140) fun t93 => zI prog (fn 64) [t93] h140 (Yg t4 R j141)
def qo (t62 t3 : Value) (h140 : za) (t2 t4 : Value) (R : VK) (j141 : LK) : Prop :=
 opt (nb [t62, (.int .i64 9)] (zf prog .eql 3 (.tmp 62) (.const (.int .i64 9)) t62 (.int .i64 9))) fun t97 => CD t97 (kG t3 h140 t2 t4 R)
 (fun j150 => j150 [] h140)
 (fun vs151 h152 => j141 [] h152)
def vo (t62 : Value) (h57 : za) (t3 t4 : Value) (R : VK) (t2 : Value) (j129 : LK) : Prop :=
 opt (nb [t62, (.int .i64 6)] (zf prog .eql 3 (.tmp 62) (.const (.int .i64 6)) t62 (.int .i64 6))) fun t90 => CD t90 (fun j138 => j138 [t90] h57)
 (fun j138 => opt (nb [t62, (.int .i64 7)] (zf prog .eql 3 (.tmp 62) (.const (.int .i64 7)) t62 (.int .i64 7))) fun t91 => j138 [t91] h57)
 (fun vs139 h140 => CD (nth vs139 0) (Z6 t3 h140 t4 R)
 (qo t62 t3 h140 t2 t4 R)
 (fun vs142 h143 => j129 [] h143))
def wT (t62 t3 : Value) (h57 : za) (t4 : Value) (R : VK) (t2 : Value) (j120 : LK) : Prop :=
 opt (nb [t62, (.int .i64 11)] (zf prog .eql 3 (.tmp 62) (.const (.int .i64 11)) t62 (.int .i64 11))) fun t80 => CD t80 (fun j129 => opt (zb prog 46 t3 1) fun t82 => opt (zd prog 3 t82 h57) fun t83 => zI prog (fn 63) [t83] h57 (YB t4 R j129))
 (vo t62 h57 t3 t4 R t2)
 (fun vs130 h131 => j120 [] h131)
def kO (t3 : Value) (h57 : za) (t4 : Value) (R : VK) (j106 : LK) : Prop :=
 opt (zb prog 46 t3 1) fun t65 => opt (zd prog 3 t65 h57) fun t66 => opt (nb [t66, (.int .i64 1)] (zf prog .lss 3 (.tmp 66) (ci 1) t66 (.int .i64 1))) fun t67 => GD t67 false (fun k109 => opt (zb prog 46 t3 1) fun t69 => k109 t69 h57) (fun t69 h110 => GD t67 false (fun k111 => opt (zd prog 3 t69 h110) fun t70 => k111 t70 h110) (jg t67 t4 R j106) h110) h57
def wh (t62 t3 : Value) (h57 : za) (t4 : Value) (R : VK) (t2 : Value) (j106 : LK) : Prop :=
 opt (nb [t62, (.int .i64 5)] (zf prog .eql 3 (.tmp 62) (.const (.int .i64 5)) t62 (.int .i64 5))) fun t74 => CD t74 (fun j120 => opt (zb prog 46 t3 1) fun t75 => opt (zd prog 3 t75 h57) fun t76 => zI prog (fn 62) [t76] h57 (Yp t4 R j120))
 (wT t62 t3 h57 t4 R t2)
 (fun vs121 h122 => j106 [] h122)
def yS (t62 t3 : Value) (h57 : za) (t4 : Value) (R : VK) (t2 : Value) (j103 : LK) : Prop :=
 opt (nb [t62, (.int .i64 4)] (zf prog .eql 3 (.tmp 62) (.const (.int .i64 4)) t62 (.int .i64 4))) fun t64 => CD t64 (kO t3 h57 t4 R)
 (wh t62 t3 h57 t4 R t2)
 (fun vs107 h108 => j103 [] h108)
def ja (t109 : Value) (h105 : za) (j189 : LK) : Prop :=
 opt (nb [t109, (.int .i64 13)] (zf prog .eql 3 (.tmp 109) (.const (.int .i64 13)) t109 (.int .i64 13))) fun t118 => CD t118 (fun j192 => j192 [t118] h105)
 (fun j192 => opt (nb [t109, (.int .i64 10)] (zf prog .eql 3 (.tmp 109) (.const (.int .i64 10)) t109 (.int .i64 10))) fun t119 => j192 [t119] h105)
 (fun vs193 h194 => j189 [(nth vs193 0)] h194)
def uY (t109 : Value) (h105 : za) (j186 : LK) : Prop :=
 opt (nb [t109, (.int .i64 9)] (zf prog .eql 3 (.tmp 109) (.const (.int .i64 9)) t109 (.int .i64 9))) fun t117 => CD t117 (fun j189 => j189 [t117] h105)
 (ja t109 h105)
 (fun vs190 h191 => j186 [(nth vs190 0)] h191)
def vR (t109 : Value) (h105 : za) (j183 : LK) : Prop :=
 opt (nb [t109, (.int .i64 8)] (zf prog .eql 3 (.tmp 109) (.const (.int .i64 8)) t109 (.int .i64 8))) fun t116 => CD t116 (fun j186 => j186 [t116] h105)
 (uY t109 h105)
 (fun vs187 h188 => j183 [(nth vs187 0)] h188)
def vq (t109 : Value) (h105 : za) (j180 : LK) : Prop :=
 opt (nb [t109, (.int .i64 6)] (zf prog .eql 3 (.tmp 109) (.const (.int .i64 6)) t109 (.int .i64 6))) fun t115 => CD t115 (fun j183 => j183 [t115] h105)
 (vR t109 h105)
 (fun vs184 h185 => j180 [(nth vs184 0)] h185)
def wM (t109 : Value) (h105 : za) (j177 : LK) : Prop :=
 opt (nb [t109, (.int .i64 5)] (zf prog .eql 3 (.tmp 109) (.const (.int .i64 5)) t109 (.int .i64 5))) fun t114 => CD t114 (fun j180 => j180 [t114] h105)
 (vq t109 h105)
 (fun vs181 h182 => j177 [(nth vs181 0)] h182)
def wi (t109 : Value) (h105 : za) (j174 : LK) : Prop :=
 opt (nb [t109, (.int .i64 4)] (zf prog .eql 3 (.tmp 109) (.const (.int .i64 4)) t109 (.int .i64 4))) fun t113 => CD t113 (fun j177 => j177 [t113] h105)
 (wM t109 h105)
 (fun vs178 h179 => j174 [(nth vs178 0)] h179)
def xW (t109 : Value) (h105 : za) (j171 : LK) : Prop :=
 opt (nb [t109, (.int .i64 3)] (zf prog .eql 3 (.tmp 109) (.const (.int .i64 3)) t109 (.int .i64 3))) fun t112 => CD t112 (fun j174 => j174 [t112] h105)
 (wi t109 h105)
 (fun vs175 h176 => j171 [(nth vs175 0)] h176)
def Yq (t3 : Value) (h173 : za) (t2 t4 : Value) (R : VK) (j195 : LK) : Prop :=
 opt (zb prog 46 t3 4) fun t120 => opt (zd prog 3 t120 h173) fun t121 => opt (zb prog 51 t2 2) fun t122 => opt (zd prog 3 t122 h173) fun t123 => zI prog (fn 19) [t121, t123] h173 (fun t124 h198 => opt (nb [t124] (zj prog 4 t4 t124 h198)) fun h200 => opt (zd prog 4 t4 h200) fun r0 => rv [r0] h200 R)
def xA (t109 : Value) (h105 : za) (t3 t2 t4 : Value) (R : VK) (j168 : LK) : Prop :=
 opt (nb [t109, (.int .i64 2)] (zf prog .eql 3 (.tmp 109) (.const (.int .i64 2)) t109 (.int .i64 2))) fun t111 => CD t111 (fun j171 => j171 [t111] h105)
 (xW t109 h105)
 (fun vs172 h173 => CD (nth vs172 0) (Yq t3 h173 t2 t4 R)
 (fun j195 => j195 [] h173)
 (fun vs196 h197 => j168 [] h197))
def yL (t3 t2 t4 : Value) (R : VK) (vs104 : List Value) (h105 : za) : Prop :=
 opt (zb prog 46 t3 0) fun t108 => opt (zd prog 3 t108 h105) fun t109 => BK (xA t109 h105 t3 t2 t4 R)
 (fun vs169 h170 => opt (nb [(.bool true)] (zj prog 4 t4 (.bool true) h170)) fun h202 => opt (zd prog 4 t4 h202) fun r0 => rv [r0] h202 R)
def Yf (t3 t4 : Value) (R : VK) (t2 : Value) (vs39 : List Value) (h40 : za) : Prop :=
 opt (zb prog 46 t3 0) fun t34 => opt (zd prog 3 t34 h40) fun t35 => BK (yX t35 h40 t3 t4 R)
 (fun vs56 h57 => opt (zb prog 46 t3 0) fun t61 => opt (zd prog 3 t61 h57) fun t62 => BK (yS t62 t3 h57 t4 R t2)
 (yL t3 t2 t4 R))
def Yu (t3 t0 t1 t2 t4 t9 t10 t11 t13 t14 t15 t16 t17 t18 : Value) (R : VK) (vs20 : List Value) (h21 : za) : Prop :=
 opt (zd prog 46 t3 h21) fun t26 => zI prog (fn 12) [t26] h21 (fun t27 h37 => BK (QT t27 t0 t1 t2 t3 t4 t9 t10 t11 t13 t14 t15 t16 t17 t18 t26 h37 R)
 (Yf t3 t4 R t2))
def Yi (t3 t0 t1 t2 t4 t9 t10 t11 t13 t14 t15 t16 : Value) (R : VK) (vs14 : List Value) (h15 : za) : Prop :=
 opt (zd prog 46 t3 h15) fun t17 => zI prog (fn 11) [t17] h15 (fun t18 h18 => BK (Qn t18 t0 t1 t2 t3 t4 t9 t10 t11 t13 t14 t15 t16 t17 h18 R)
 (Yu t3 t0 t1 t2 t4 t9 t10 t11 t13 t14 t15 t16 t17 t18 R))
def kI (t11 t4 : Value) (R : VK) (t3 t0 t1 t2 t9 t10 t13 t14 t15 : Value) (h12 : za) : Prop :=
 opt (pk t11 (.bool true) t15) fun t16 => CD t16 (fun j13 => opt (nb [(.bool false)] (zj prog 4 t4 (.bool false) h12)) fun h17 => opt (zd prog 4 t4 h17) fun r0 => rv [r0] h17 R)
 (fun j13 => j13 [] h12)
 (Yi t3 t0 t1 t2 t4 t9 t10 t11 t13 t14 t15 t16 R)
def jd (t11 t4 : Value) (R : VK) (t3 t0 t1 t2 t9 t10 t13 t14 : Value) (h10 : za) : Prop :=
 GD t11 false (fun k11 => opt (nb [t14, (.int .i64 14)] (zf prog .gtr 3 (.tmp 14) (.const (.int .i64 14)) t14 (.int .i64 14))) fun t15 => k11 t15 h10) (kI t11 t4 R t3 t0 t1 t2 t9 t10 t13 t14) h10
theorem U2 (t2 t19 t4 t0 t1 t3 t9 t10 t11 t12 t13 t14 t15 t16 t17 t18 : Value) (L : Nat) (h : za) (K : VK) : zng prog (Q1 prog qs) 150 52 0 L (xI prog 37 0).2.1 (xI prog 37 0).2.2 (Kf 125 [(0, t0), (1, t1), (2, t2), (3, t3), (4, t4), (9, t9), (10, t10), (11, t11), (12, t12), (13, t13), (14, t14), (15, t15), (16, t16), (17, t17), (18, t18), (19, t19)]) h K = WY t2 t19 t4 t0 t1 t3 t9 t10 t11 t12 t13 t14 t15 t16 t17 t18 L h K := by kernel_rfl
theorem UL (t2 t28 t4 t0 t1 t3 t9 t10 t11 t12 t13 t14 t15 t16 t17 t18 t26 t27 : Value) (L : Nat) (h : za) (K : VK) : zng prog (Q1 prog qs) 150 84 0 L (xI prog 37 1).2.1 (xI prog 37 1).2.2 (Kf 125 [(0, t0), (1, t1), (2, t2), (3, t3), (4, t4), (9, t9), (10, t10), (11, t11), (12, t12), (13, t13), (14, t14), (15, t15), (16, t16), (17, t17), (18, t18), (26, t26), (27, t27), (28, t28)]) h K = Ul t2 t28 t4 t0 t1 t3 t9 t10 t11 t12 t13 t14 t15 t16 t17 t18 t26 t27 L h K := by kernel_rfl
def zc0 (h : za) (t0 t1 : Value) (R : VK) : Prop :=
 opt (nb [t0] (some (Value.cells t0).toList)) fun c1 => nw h c1 51 fun t2 h2 => opt (nb [t1] (some (Value.cells t1).toList)) fun c3 => nw h2 c3 46 fun t3 h4 => opt (xo prog 4) fun z5 => nw h4 (Value.cells z5).toList 4 fun t4 h6 => opt (zb prog 46 t3 0) fun t9 => opt (zd prog 3 t9 h6) fun t10 => opt (nb [t10, (.int .i64 1)] (zf prog .lss 3 (.tmp 10) (ci 1) t10 (.int .i64 1))) fun t11 => GD t11 false (fun k7 => opt (zb prog 46 t3 0) fun t13 => k7 t13 h6) (fun t13 h8 => GD t11 false (fun k9 => opt (zd prog 3 t13 h8) fun t14 => k9 t14 h8) (jd t11 t4 R t3 t0 t1 t2 t9 t10 t13) h8) h6
theorem zbC (hw : zc0 h t0 t1 R) : DC prog 37 [t0, t1] h R := zE mixed (q := qs) (n := 200) (Eq.mpr (by kernel_rfl) hw)
def YJ (t0 : Value) (vs6 : List Value) (h10 : za) (t1 : Value) (R : VK) (j11 : LK) : Prop :=
 opt (zG prog 49 t0 (nth vs6 1)) fun t14 => opt (zd prog 46 t14 h10) fun t15 => zI prog t1 [t15] h10 (fun t16 h14 => CD t16 (fun j15 => rv [(nth vs6 1)] h14 R)
 (fun j15 => j15 [(nth vs6 0)] h14)
 (fun vs16 h17 => j11 [(nth vs16 0)] h17))
def Y3 (t0 : Value) (vs6 : List Value) (t1 : Value) (R : VK) (j5 : LK) (vs9 : List Value) (h10 : za) : Prop :=
 BK (YJ t0 vs6 h10 t1 R)
 (fun vs12 h13 => opt (nb [(nth vs6 1), (.int .i64 1)] (zf prog .add 3 (.tmp 8) (ci 1) (nth vs6 1) (.int .i64 1))) fun t18 => j5 [(nth vs12 0), t18] h13)
def ji (t7 : Value) (j2 : LK) (t0 t1 : Value) (R : VK) (vs6 : List Value) (h7 : za) (j5 : LK) : Prop :=
 opt (nb [(nth vs6 1), t7] (zf prog .lss 3 (.tmp 8) (.tmp 7) (nth vs6 1) t7)) fun t9 => CD t9 (fun j8 => j8 [] h7)
 (fun j8 => j2 [(nth vs6 0)] h7)
 (Y3 t0 vs6 t1 R j5)
def UB (h : za) (t0 t1 : Value) (R : VK) : Prop :=
 xg (nb [t0] (zg prog .len [49] 3 [t0] h)) fun t7 h1 => BK (fun j2 => LP (ji t7 j2 t0 t1 R)
 [(.int .i64 0), (.int .i64 0)] h1)
 (fun vs3 h4 => rv [(.int .i64 (-1))] h4 R)
theorem UR (hw : UB h t0 t1 R) : DC prog 61 [t0, t1] h R := zE mixed (q := qs) (n := 200) (Eq.mpr (by kernel_rfl) hw)
def jb (t4 : Value) (R : VK) (t6 : Value) (h2 : za) : Prop :=
 GD t4 true (fun k3 => opt (nb [t6, (.int .i64 26)] (zf prog .leq 3 (.tmp 6) (.const (.int .i64 26)) t6 (.int .i64 26))) fun t7 => k3 t7 h2) (fun t7 h4 => opt (pk t4 t7 (.bool false)) fun t8 => rv [t8] h4 R) h2
def VE (h : za) (t0 : Value) (R : VK) : Prop :=
 opt (nb [t0, (.int .i64 11)] (zf prog .geq 3 (.tmp 3) (.const (.int .i64 11)) t0 (.int .i64 11))) fun t4 => GD t4 true (fun k1 => k1 t0 h) (jb t4 R) h
theorem U3 (hw : VE h t0 R) : DC prog 62 [t0] h R := zE mixed (q := qs) (n := 200) (Eq.mpr (by kernel_rfl) hw)
def Km (t0 : Value) (h : za) (R : VK) (j16 : LK) : Prop :=
 opt (nb [t0, (.int .i64 25)] (zf prog .eql 3 (.tmp 4) (.const (.int .i64 25)) t0 (.int .i64 25))) fun t16 => CD t16 (fun j19 => rv [(.int .i64 24), (.bool true)] h R)
 (fun j19 => j19 [(.int .i64 0), (.bool false)] h)
 (fun vs20 h21 => j16 [(nth vs20 0), (nth vs20 1)] h21)
def WN (t0 : Value) (h : za) (R : VK) (j13 : LK) : Prop :=
 opt (nb [t0, (.int .i64 24)] (zf prog .eql 3 (.tmp 4) (.const (.int .i64 24)) t0 (.int .i64 24))) fun t14 => CD t14 (fun j16 => rv [(.int .i64 25), (.bool true)] h R)
 (Km t0 h R)
 (fun vs17 h18 => j13 [(nth vs17 0), (nth vs17 1)] h18)
def YI (t0 : Value) (h : za) (R : VK) (j10 : LK) : Prop :=
 opt (nb [t0, (.int .i64 26)] (zf prog .eql 3 (.tmp 4) (.const (.int .i64 26)) t0 (.int .i64 26))) fun t12 => CD t12 (fun j13 => rv [(.int .i64 23), (.bool true)] h R)
 (WN t0 h R)
 (fun vs14 h15 => j10 [(nth vs14 0), (nth vs14 1)] h15)
def Zw (t0 : Value) (h : za) (R : VK) (j7 : LK) : Prop :=
 opt (nb [t0, (.int .i64 23)] (zf prog .eql 3 (.tmp 4) (.const (.int .i64 23)) t0 (.int .i64 23))) fun t10 => CD t10 (fun j10 => rv [(.int .i64 26), (.bool true)] h R)
 (YI t0 h R)
 (fun vs11 h12 => j7 [(nth vs11 0), (nth vs11 1)] h12)
def kQ (t0 : Value) (h : za) (R : VK) (j4 : LK) : Prop :=
 opt (nb [t0, (.int .i64 22)] (zf prog .eql 3 (.tmp 4) (.const (.int .i64 22)) t0 (.int .i64 22))) fun t8 => CD t8 (fun j7 => rv [(.int .i64 21), (.bool true)] h R)
 (Zw t0 h R)
 (fun vs8 h9 => j4 [(nth vs8 0), (nth vs8 1)] h9)
def qB (t0 : Value) (h : za) (R : VK) (j1 : LK) : Prop :=
 opt (nb [t0, (.int .i64 21)] (zf prog .eql 3 (.tmp 4) (.const (.int .i64 21)) t0 (.int .i64 21))) fun t6 => CD t6 (fun j4 => rv [(.int .i64 22), (.bool true)] h R)
 (kQ t0 h R)
 (fun vs5 h6 => j1 [(nth vs5 0), (nth vs5 1)] h6)
def zj7 (h : za) (t0 : Value) (R : VK) : Prop :=
 BK (qB t0 h R)
 (fun vs2 h3 => rv [(.int .i64 0), (.bool false)] h3 R)
theorem zf5 (hw : zj7 h t0 R) : DC prog 63 [t0] h R := zE mixed (q := qs) (n := 200) (Eq.mpr (by kernel_rfl) hw)
def Xn (t8 : Value) (R : VK) (t10 : Value) (h6 : za) : Prop :=
 GD t8 false (fun k7 => opt (nb [t10, (.int .i64 8)] (zf prog .eql 3 (.tmp 10) (.const (.int .i64 8)) t10 (.int .i64 8))) fun t11 => k7 t11 h6) (fun t11 h8 => opt (pk t8 (.bool true) t11) fun t12 => rv [t12] h8 R) h6
def YP (t4 t0 : Value) (R : VK) (t6 : Value) (h2 : za) : Prop :=
 GD t4 false (fun k3 => opt (nb [t6, (.int .i64 4)] (zf prog .eql 3 (.tmp 6) (.const (.int .i64 4)) t6 (.int .i64 4))) fun t7 => k3 t7 h2) (fun t7 h4 => opt (pk t4 (.bool true) t7) fun t8 => GD t8 false (fun k5 => k5 t0 h4) (Xn t8 R) h4) h2
def zhT (h : za) (t0 : Value) (R : VK) : Prop :=
 opt (nb [t0, (.int .i64 1)] (zf prog .eql 3 (.tmp 3) (ci 1) t0 (.int .i64 1))) fun t4 => GD t4 false (fun k1 => k1 t0 h) (YP t4 t0 R) h
theorem zeX (hw : zhT h t0 R) : DC prog 64 [t0] h R := zE mixed (q := qs) (n := 200) (Eq.mpr (by kernel_rfl) hw)
def kM (t4 : Value) (h2 : za) (j24 : LK) : Prop :=
 opt (nb [t4, (.int .i64 13)] (zf prog .eql 3 (.tmp 4) (.const (.int .i64 13)) t4 (.int .i64 13))) fun t13 => CD t13 (fun j27 => j27 [t13] h2)
 (fun j27 => opt (nb [t4, (.int .i64 10)] (zf prog .eql 3 (.tmp 4) (.const (.int .i64 10)) t4 (.int .i64 10))) fun t14 => j27 [t14] h2)
 (fun vs28 h29 => j24 [(nth vs28 0)] h29)
def qm (t4 : Value) (h2 : za) (j21 : LK) : Prop :=
 opt (nb [t4, (.int .i64 9)] (zf prog .eql 3 (.tmp 4) (.const (.int .i64 9)) t4 (.int .i64 9))) fun t12 => CD t12 (fun j24 => j24 [t12] h2)
 (kM t4 h2)
 (fun vs25 h26 => j21 [(nth vs25 0)] h26)
def vY (t4 : Value) (h2 : za) (j18 : LK) : Prop :=
 opt (nb [t4, (.int .i64 8)] (zf prog .eql 3 (.tmp 4) (.const (.int .i64 8)) t4 (.int .i64 8))) fun t11 => CD t11 (fun j21 => j21 [t11] h2)
 (qm t4 h2)
 (fun vs22 h23 => j18 [(nth vs22 0)] h23)
def vp (t4 : Value) (h2 : za) (j15 : LK) : Prop :=
 opt (nb [t4, (.int .i64 6)] (zf prog .eql 3 (.tmp 4) (.const (.int .i64 6)) t4 (.int .i64 6))) fun t10 => CD t10 (fun j18 => j18 [t10] h2)
 (vY t4 h2)
 (fun vs19 h20 => j15 [(nth vs19 0)] h20)
def wU (t4 : Value) (h2 : za) (j12 : LK) : Prop :=
 opt (nb [t4, (.int .i64 5)] (zf prog .eql 3 (.tmp 4) (.const (.int .i64 5)) t4 (.int .i64 5))) fun t9 => CD t9 (fun j15 => j15 [t9] h2)
 (vp t4 h2)
 (fun vs16 h17 => j12 [(nth vs16 0)] h17)
def wg (t4 : Value) (h2 : za) (j9 : LK) : Prop :=
 opt (nb [t4, (.int .i64 4)] (zf prog .eql 3 (.tmp 4) (.const (.int .i64 4)) t4 (.int .i64 4))) fun t8 => CD t8 (fun j12 => j12 [t8] h2)
 (wU t4 h2)
 (fun vs13 h14 => j9 [(nth vs13 0)] h14)
def xS (t4 : Value) (h2 : za) (j6 : LK) : Prop :=
 opt (nb [t4, (.int .i64 3)] (zf prog .eql 3 (.tmp 4) (.const (.int .i64 3)) t4 (.int .i64 3))) fun t7 => CD t7 (fun j9 => j9 [t7] h2)
 (wg t4 h2)
 (fun vs10 h11 => j6 [(nth vs10 0)] h11)
def xD (t1 : Value) (R : VK) (j3 : LK) (vs7 : List Value) (h8 : za) : Prop :=
 CD (nth vs7 0) (fun j30 => opt (zb prog 46 t1 4) fun t15 => opt (zd prog 3 t15 h8) fun t16 => rv [t16] h8 R)
 (fun j30 => j30 [(.int .i64 0)] h8)
 (fun vs31 h32 => j3 [(nth vs31 0)] h32)
def xr (t4 : Value) (h2 : za) (t1 : Value) (R : VK) (j3 : LK) : Prop :=
 opt (nb [t4, (.int .i64 2)] (zf prog .eql 3 (.tmp 4) (.const (.int .i64 2)) t4 (.int .i64 2))) fun t6 => CD t6 (fun j6 => j6 [t6] h2)
 (xS t4 h2)
 (xD t1 R j3)
def JC (h : za) (t0 : Value) (R : VK) : Prop :=
 opt (nb [t0] (some (Value.cells t0).toList)) fun c1 => nw h c1 46 fun t1 h2 => opt (zb prog 46 t1 0) fun t3 => opt (zd prog 3 t3 h2) fun t4 => BK (xr t4 h2 t1 R)
 (fun vs4 h5 => rv [(.int .i64 (-1))] h5 R)
theorem JU (hw : JC h t0 R) : DC prog 60 [t0] h R := zE mixed (q := qs) (n := 200) (Eq.mpr (by kernel_rfl) hw)
end Go.Rtl
namespace Go.Rtl
open Go.Ai Go.Proofs
set_option linter.unusedVariables false
theorem vK (b off : Nat) (h : za) : zd Tryd.prog 2 (.pointer (some ⟨b, off, none⟩)) h = ld1 h b off := zN (by kernel_rfl) b off h
theorem qa (b off : Nat) (h : za) : zd Tryd.prog 22 (.pointer (some ⟨b, off, none⟩)) h = ld1 h b off := zN (by kernel_rfl) b off h
theorem qN (b off : Nat) (h : za) : zd Tryd.prog 23 (.pointer (some ⟨b, off, none⟩)) h = ld1 h b off := zN (by kernel_rfl) b off h
theorem yc (b off : Nat) (h : za) : zd Tryd.prog 3 (.pointer (some ⟨b, off, none⟩)) h = ld1 h b off := zN (by kernel_rfl) b off h
theorem UJ (b off : Nat) (h : za) : zd Tryd.prog 4 (.pointer (some ⟨b, off, none⟩)) h = ld1 h b off := zN (by kernel_rfl) b off h
theorem Xs (b off : Nat) (h : za) : zd Tryd.prog 46 (.pointer (some ⟨b, off, none⟩)) h = ldn h b off 9 := wx (by kernel_rfl) (by kernel_rfl) b off h
theorem YA (b off : Nat) (h : za) : zd Tryd.prog 49 (.pointer (some ⟨b, off, none⟩)) h = ld1 h b off := zN (by kernel_rfl) b off h
theorem zna (b off : Nat) (h : za) : zd Tryd.prog 51 (.pointer (some ⟨b, off, none⟩)) h = ldn h b off 6 := wx (by kernel_rfl) (by kernel_rfl) b off h
theorem XD (b off : Nat) (v : Bool) (h : za) : zj Tryd.prog 4 (.pointer (some ⟨b, off, none⟩)) (.bool v) h = sto h b off [(.bool v)] := xn (by kernel_rfl) b off _ h rfl
theorem zi6 (b off : Nat) (l : List Value) (h : za) (hv : l.length = 9) : zj Tryd.prog 46 (.pointer (some ⟨b, off, none⟩)) (.agg l.toArray) h = sto h b off l := vy (by kernel_rfl) b off l h hv
theorem zoc (b off : Nat) (l : List Value) (h : za) (hv : l.length = 6) : zj Tryd.prog 51 (.pointer (some ⟨b, off, none⟩)) (.agg l.toArray) h = sto h b off l := vy (by kernel_rfl) b off l h hv
theorem zlI : xo Tryd.prog 4 = some (.bool false) := zU (by kernel_rfl)
theorem zgA : xo Tryd.prog 46 = some (.agg #[(.int .i64 0), (.int .i64 0), (.int .i64 0), (.int .i64 0), (.int .i64 0), (.int .i64 0), (.slice none 0 0), (.int .i64 0), (.int .i64 0)]) := zU (by kernel_rfl)
theorem znq : xo Tryd.prog 51 = some (.agg #[(.string ⟨#[]⟩), (.slice none 0 0), (.int .i64 0), (.int .i64 0), (.int .i64 0), (.slice none 0 0)]) := zU (by kernel_rfl)
theorem vH (b off : Nat) : zb Tryd.prog 25 (.pointer (some ⟨b, off, none⟩)) 0 = some (.pointer (some ⟨b, off, none⟩)) := zU (by kernel_rfl)
theorem xV (b off : Nat) : zb Tryd.prog 25 (.pointer (some ⟨b, off, none⟩)) 1 = some (.pointer (some ⟨b, off + 1, none⟩)) := zU (by kernel_rfl)
theorem V1 (b off : Nat) : zb Tryd.prog 25 (.pointer (some ⟨b, off, none⟩)) 2 = some (.pointer (some ⟨b, off + 2, none⟩)) := zU (by kernel_rfl)
theorem yi (b off : Nat) : zb Tryd.prog 46 (.pointer (some ⟨b, off, none⟩)) 0 = some (.pointer (some ⟨b, off, none⟩)) := zU (by kernel_rfl)
theorem yN (b off : Nat) : zb Tryd.prog 46 (.pointer (some ⟨b, off, none⟩)) 1 = some (.pointer (some ⟨b, off + 1, none⟩)) := zU (by kernel_rfl)
theorem vj (b off : Nat) : zb Tryd.prog 46 (.pointer (some ⟨b, off, none⟩)) 2 = some (.pointer (some ⟨b, off + 2, none⟩)) := zU (by kernel_rfl)
theorem jx (b off : Nat) : zb Tryd.prog 46 (.pointer (some ⟨b, off, none⟩)) 3 = some (.pointer (some ⟨b, off + 3, none⟩)) := zU (by kernel_rfl)
theorem vk (b off : Nat) : zb Tryd.prog 46 (.pointer (some ⟨b, off, none⟩)) 4 = some (.pointer (some ⟨b, off + 4, none⟩)) := zU (by kernel_rfl)
theorem uy (b off : Nat) : zb Tryd.prog 46 (.pointer (some ⟨b, off, none⟩)) 5 = some (.pointer (some ⟨b, off + 5, none⟩)) := zU (by kernel_rfl)
theorem Vu (b off : Nat) : zb Tryd.prog 46 (.pointer (some ⟨b, off, none⟩)) 6 = some (.pointer (some ⟨b, off + 6, none⟩)) := zU (by kernel_rfl)
theorem W1 (b off : Nat) : zb Tryd.prog 46 (.pointer (some ⟨b, off, none⟩)) 7 = some (.pointer (some ⟨b, off + 7, none⟩)) := zU (by kernel_rfl)
theorem zcf (b off : Nat) : zb Tryd.prog 46 (.pointer (some ⟨b, off, none⟩)) 8 = some (.pointer (some ⟨b, off + 8, none⟩)) := zU (by kernel_rfl)
theorem X1 (b off : Nat) : zb Tryd.prog 51 (.pointer (some ⟨b, off, none⟩)) 1 = some (.pointer (some ⟨b, off + 1, none⟩)) := zU (by kernel_rfl)
theorem qc (b off : Nat) : zb Tryd.prog 51 (.pointer (some ⟨b, off, none⟩)) 2 = some (.pointer (some ⟨b, off + 2, none⟩)) := zU (by kernel_rfl)
theorem qS (b off : Nat) : zb Tryd.prog 51 (.pointer (some ⟨b, off, none⟩)) 3 = some (.pointer (some ⟨b, off + 3, none⟩)) := zU (by kernel_rfl)
theorem zby (b off : Nat) : zb Tryd.prog 51 (.pointer (some ⟨b, off, none⟩)) 4 = some (.pointer (some ⟨b, off + 4, none⟩)) := zU (by kernel_rfl)
theorem vm (b off : Nat) : zb Tryd.prog 51 (.pointer (some ⟨b, off, none⟩)) 5 = some (.pointer (some ⟨b, off + 5, none⟩)) := zU (by kernel_rfl)
theorem zkM (b off len c : Nat) (k : IntKind) (i : Int) : zG Tryd.prog 22 (.slice (some ⟨b, off, none⟩) len c) (.int k i) = if 0 <= i /\ i < len then some (.pointer (some ⟨b, off + i.toNat * 1, none⟩)) else none := yr (e := 3) (by kernel_rfl) (by kernel_rfl)
theorem zkh (b off len c : Nat) (k : IntKind) (i : Int) : zG Tryd.prog 23 (.slice (some ⟨b, off, none⟩) len c) (.int k i) = if 0 <= i /\ i < len then some (.pointer (some ⟨b, off + i.toNat * 6, none⟩)) else none := yr (e := 51) (by kernel_rfl) (by kernel_rfl)
theorem zmO (b off len c : Nat) (k : IntKind) (i : Int) : zG Tryd.prog 49 (.slice (some ⟨b, off, none⟩) len c) (.int k i) = if 0 <= i /\ i < len then some (.pointer (some ⟨b, off + i.toNat * 9, none⟩)) else none := yr (e := 46) (by kernel_rfl) (by kernel_rfl)
theorem zma (b off len c : Nat) (k : IntKind) (i : Int) : zG Tryd.prog 87 (.slice (some ⟨b, off, none⟩) len c) (.int k i) = if 0 <= i /\ i < len then some (.pointer (some ⟨b, off + i.toNat * 1, none⟩)) else none := yr (e := 4) (by kernel_rfl) (by kernel_rfl)
theorem Wu (r : TypeId) (a : Option Addr) (n c : Nat) (h : za) : zg Tryd.prog .len [22] r [.slice a n c] h = some (.int .i64 n, h) := zU (by kernel_rfl)
theorem zgW (r : TypeId) (a : Option Addr) (n c : Nat) (h : za) : zg Tryd.prog .len [23] r [.slice a n c] h = some (.int .i64 n, h) := zU (by kernel_rfl)
theorem zhw (r : TypeId) (a : Option Addr) (n c : Nat) (h : za) : zg Tryd.prog .len [49] r [.slice a n c] h = some (.int .i64 n, h) := zU (by kernel_rfl)
theorem znF (k k2 : IntKind) (l c : Int) (h : za) (h0 : 0 <= l) (h1 : l <= c) (h2 : c < 2 ^ 31) : ZQ Tryd.prog 87 (.int k l) (.int k2 c) h = some (.slice (some ⟨h.next, 0, none⟩) l.toNat (c.toNat + 2), h.push (.cells (vN [(.bool false)] (c.toNat * 1)) 4)) := zcC (e := 4) (z := (.bool false)) (n := 1) (bytes := 1) (by kernel_rfl) (by kernel_rfl) (by kernel_rfl) rfl (by decide) (by decide) rfl h0 h1 h2
end Go.Rtl
namespace Go.Rtl
open Go.Ai Go.Proofs
set_option linter.unusedVariables false
set_option linter.unusedSimpArgs false
set_option maxRecDepth 10000
def isB (b : Bool) (v : Value) (_ : za) : Prop := v = .bool b
def isI (n : Int) (v : Value) (_ : za) : Prop := v = .int .i64 n
theorem quiet_b {f : FuncId} {args : List Value} {h : za} {b : Bool} (d : DC Tryd.prog f args h.lock (isB b)) : xG Tryd.prog f args h (.bool b) := xG.of rfl d
theorem zlA {f : FuncId} {args : List Value} {h : za} {n : Int} (d : DC Tryd.prog f args h.lock (isI n)) : xG Tryd.prog f args h (.int .i64 n) := xG.of rfl d
def xz (n m : Int) : Bool := decide (0 <= n) && decide (n < m)
theorem qH (n m : Int) (h : za) : xG Tryd.prog 19 [.int .i64 n, .int .i64 m] h (.bool (xz n m)) := by
  apply quiet_b
  apply zbx
  unfold zcm xz
  by_cases h0 : 0 <= n
  . simp -implicitDefEqProofs only [EE, XZ, h0]
    simp [isB]
  . simp -implicitDefEqProofs only [EE, XZ, h0]
    simp [isB]
def zg2 (n : Int) : Bool := decide (11 <= n) && decide (n <= 26)
theorem zmI (n : Int) (h : za) : xG Tryd.prog 62 [.int .i64 n] h (.bool (zg2 n)) := by
  apply quiet_b
  apply U3
  unfold VE zg2
  by_cases h0 : 11 <= n
  . simp -implicitDefEqProofs only [EE, jb, h0]
    simp [isB]
  . simp -implicitDefEqProofs only [EE, jb, h0]
    simp [isB]
def VD (n : Int) : Bool := decide (n = 1) || (decide (n = 4) || decide (n = 8))
theorem zle (n : Int) (h : za) : xG Tryd.prog 64 [.int .i64 n] h (.bool (VD n)) := by
  apply quiet_b
  apply zeX
  unfold zhT VD
  by_cases h1 : n = 1
  . subst h1; simp -implicitDefEqProofs only [EE, Int.reduceEq, Xn, YP]; rfl
  by_cases h4 : n = 4
  . subst h4; simp -implicitDefEqProofs only [EE, Int.reduceEq, Xn, YP]; rfl
  simp -implicitDefEqProofs only [EE, Xn, YP, h1, h4]
  simp [isB]
def ze3 (n : Int) : Bool := decide (21 <= n) && decide (n <= 26)
theorem zkr (n : Int) (h : za) : DC Tryd.prog 63 [.int .i64 n] h (fun v h1 => (∃ a, v = .tuple #[.int .i64 a, .bool (ze3 n)]) /\ h1 = h) := by
  apply zf5
  unfold zj7
  by_cases h1 : n = 21
  . subst h1; simp -implicitDefEqProofs only [EE, ↓BK, qB]; exact ⟨_, rfl⟩
  by_cases h2 : n = 22
  . subst h2; simp -implicitDefEqProofs only [EE, ↓BK, Int.reduceEq, kQ, qB]; exact ⟨_, rfl⟩
  by_cases h3 : n = 23
  . subst h3; simp -implicitDefEqProofs only [EE, ↓BK, Int.reduceEq, Zw, kQ, qB]; exact ⟨_, rfl⟩
  by_cases h4 : n = 24
  . subst h4; simp -implicitDefEqProofs only [EE, ↓BK, Int.reduceEq, WN, YI, Zw, kQ, qB]; exact ⟨_, rfl⟩
  by_cases h5 : n = 25
  . subst h5; simp -implicitDefEqProofs only [EE, ↓BK, Int.reduceEq, Km, WN, YI, Zw, kQ, qB]; exact ⟨_, rfl⟩
  by_cases h6 : n = 26
  . subst h6; simp -implicitDefEqProofs only [EE, ↓BK, Int.reduceEq, YI, Zw, kQ, qB]; exact ⟨_, rfl⟩
  have e : ze3 n = false := by
    unfold ze3
    by_cases a : 21 <= n
    . have : ¬ n <= 26 := by omega
      simp [this]
    . simp [a]
  simp -implicitDefEqProofs only [EE, ↓BK, Km, WN, YI, Zw, kQ, qB, h1, h2, h3, h4, h5, h6]
  rw [e]
  exact ⟨_, rfl⟩
structure Old (h h' : za) : Prop where
  next : h.next <= h'.next
  ro : h'.ro = h.ro
  get : ∀ b, b < h.next -> h'.get b = h.get b
theorem Old.refl (h : za) : Old h h := ⟨Nat.le_refl _, rfl, fun _ _ => rfl⟩
theorem Old.trans {a b c : za} (x : Old a b) (y : Old b c) : Old a c := ⟨Nat.le_trans x.next y.next, y.ro.trans x.ro, fun i hi => (y.get i (Nat.lt_of_lt_of_le hi x.next)).trans (x.get i hi)⟩
theorem Old.push (h : za) (o : wB) : Old h (h.push o) := ⟨Nat.le_succ _, rfl, fun b hb => zu hb⟩
theorem Old.set {h h' : za} (x : Old h h') {b : Nat} (hb : h.next <= b) (o : Option wB) : Old h (h'.set b o) := ⟨x.next, x.ro, fun c hc => (zt (by omega)).trans (x.get c hc)⟩
end Go.Rtl
namespace Go.Rtl
open Go.Ai Go.Proofs
set_option linter.unusedVariables false
set_option linter.unusedSimpArgs false
set_option maxRecDepth 10000
def ZR (n : Int) : Prop := -9223372036854775808 <= n /\ n < 9223372036854775808
structure Ins where
  op : Int
  sub : Int
  a : Int
  b : Int
  d : Int
  k : Int
  av : Value
  args : List Int
  s : Int
  t : Int
def SliceI (h : za) (sv : Value) (zs : List Int) : Prop := (sv = .slice none 0 0 /\ zs = []) \/ ∃ b off cp, sv = .slice (some ⟨b, off, none⟩) zs.length cp /\ (zs ≠ [] -> ∃ c t, b < h.next /\ h.get b = some (.cells c t) /\ ∀ (i : Nat) z, zs[i]? = some z -> c[off + i]? = some (.int .i64 z))
section
variable {h h' : za} {sv : Value} {zs : List Int}
theorem SliceI.nob (S : SliceI h sv zs) : zV sv = false := by
  rcases S with ⟨rfl, _⟩ | ⟨b, off, cp, rfl, _⟩ <;> rfl
theorem SliceI.cok (S : SliceI h sv zs) : cellOk sv = true := by
  rcases S with ⟨rfl, _⟩ | ⟨b, off, cp, rfl, _⟩ <;> rfl
theorem SliceI.old (S : SliceI h sv zs) (e : Old h h') : SliceI h' sv zs := by
  rcases S with a | ⟨b, off, cp, rfl, hc⟩
  . exact .inl a
  . refine .inr ⟨b, off, cp, rfl, fun hz => ?_⟩
    obtain ⟨c, t, hb, hg, hat⟩ := hc hz
    exact ⟨c, t, Nat.lt_of_lt_of_le hb e.next, by rw [e.get b hb]; exact hg, hat⟩
theorem SliceI.lock (S : SliceI h sv zs) : SliceI h.lock sv zs := by
  rcases S with a | ⟨b, off, cp, rfl, hc⟩
  . exact .inl a
  . refine .inr ⟨b, off, cp, rfl, fun hz => ?_⟩
    obtain ⟨c, t, hb, hg, hat⟩ := hc hz
    exact ⟨c, t, hb, by rw [Xa]; exact hg, hat⟩
theorem SliceI.len (S : SliceI h sv zs) (h' : za) : zg Tryd.prog .len [22] 3 [sv] h' = some (.int .i64 zs.length, h') := by
  rcases S with ⟨rfl, rfl⟩ | ⟨b, off, cp, rfl, _⟩
  . simp only [Wu, List.length_nil]
  . simp only [Wu]
theorem SliceI.at (S : SliceI h sv zs) {i : Nat} {z : Int} (hz : zs[i]? = some z) : ∃ b o c t, zG Tryd.prog 22 sv (.int .i64 i) = some (.pointer (some ⟨b, o, none⟩)) /\ b < h.next /\ h.get b = some (.cells c t) /\ c[o]? = some (.int .i64 z) := by
  rcases S with ⟨rfl, rfl⟩ | ⟨b, off, cp, rfl, hc⟩
  . cases hz
  . have hlt : i < zs.length := by
      rcases Nat.lt_or_ge i zs.length with a | a
      . exact a
      . rw [List.getElem?_eq_none a] at hz; cases hz
    obtain ⟨c, t, hb, hg, hat⟩ := hc (by intro e; subst e; cases hz)
    have h1 : 0 <= (i : Int) /\ (i : Int) < (zs.length : Int) := by omega
    exact ⟨b, off + i, c, t, by simp -implicitDefEqProofs only [EE, if_true, zkM, h1, Int.toNat_natCast, Nat.mul_one], hb, hg, hat i z hz⟩
end
abbrev Ins.val (x : Ins) : Value := .agg #[.int .i64 x.op, .int .i64 x.sub, .int .i64 x.a, .int .i64 x.b, .int .i64 x.d, .int .i64 x.k, x.av, .int .i64 x.s, .int .i64 x.t]
def wr (op : Int) : Bool := decide (op = 2) || (decide (op = 3) || (decide (op = 4) || (decide (op = 5) || (decide (op = 6) || (decide (op = 8) || (decide (op = 9) || (decide (op = 10) || decide (op = 13))))))))
def writesI (x : Ins) : Int := if wr x.op = true then x.d else -1
theorem zn6 {op : Int} (h2 : ¬ op = 2) (h3 : ¬ op = 3) (h4 : ¬ op = 4) (h5 : ¬ op = 5) (h6 : ¬ op = 6) (h8 : ¬ op = 8) (h9 : ¬ op = 9) (h10 : ¬ op = 10) (h13 : ¬ op = 13) : wr op = false := by
  simp [wr, h2, h3, h4, h5, h6, h8, h9, h10, h13]
theorem zfd (x : Ins) (hn : zV x.av = false) (h : za) : xG Tryd.prog 60 [x.val] h (.int .i64 (writesI x)) := by
  apply zlA
  apply JU
  unfold JC writesI
  obtain ⟨op, sub, a, b, d, k, av, args, s, t⟩ := x
  simp only at hn
  by_cases h2 : op = 2
  . subst h2; simp -implicitDefEqProofs only [EE, nth, ↓nw, Value.cells, ↓BK, Int.reduceNeg, ld1, yc, yi, vk, xD, xr]; rfl
  by_cases h3 : op = 3
  . subst h3; simp -implicitDefEqProofs only [EE, nth, ↓nw, Value.cells, ↓BK, Int.reduceEq, Int.reduceNeg, ld1, yc, yi, vk, xS, xD, xr]; rfl
  by_cases h4 : op = 4
  . subst h4; simp -implicitDefEqProofs only [EE, nth, ↓nw, Value.cells, ↓BK, Int.reduceEq, Int.reduceNeg, ld1, yc, yi, vk, wg, xS, xD, xr]; rfl
  by_cases h5 : op = 5
  . subst h5; simp -implicitDefEqProofs only [EE, nth, ↓nw, Value.cells, ↓BK, Int.reduceEq, Int.reduceNeg, ld1, yc, yi, vk, wU, wg, xS, xD, xr]; rfl
  by_cases h6 : op = 6
  . subst h6; simp -implicitDefEqProofs only [EE, nth, ↓nw, Value.cells, ↓BK, Int.reduceEq, Int.reduceNeg, ld1, yc, yi, vk, vp, wU, wg, xS, xD, xr]; rfl
  by_cases h8 : op = 8
  . subst h8; simp -implicitDefEqProofs only [EE, nth, ↓nw, Value.cells, ↓BK, Int.reduceEq, Int.reduceNeg, ld1, yc, yi, vk, vY, vp, wU, wg, xS, xD, xr]; rfl
  by_cases h9 : op = 9
  . subst h9; simp -implicitDefEqProofs only [EE, nth, ↓nw, Value.cells, ↓BK, Int.reduceEq, Int.reduceNeg, ld1, yc, yi, vk, qm, vY, vp, wU, wg, xS, xD, xr]; rfl
  by_cases h10 : op = 10
  . subst h10; simp -implicitDefEqProofs only [EE, nth, ↓nw, Value.cells, ↓BK, Int.reduceEq, Int.reduceNeg, ld1, yc, yi, vk, kM, qm, vY, vp, wU, wg, xS, xD, xr]; rfl
  by_cases h13 : op = 13
  . subst h13; simp -implicitDefEqProofs only [EE, nth, ↓nw, Value.cells, ↓BK, Int.reduceEq, Int.reduceNeg, ld1, yc, yi, vk, kM, qm, vY, vp, wU, wg, xS, xD, xr]; rfl
  have e := zn6 h2 h3 h4 h5 h6 h8 h9 h10 h13
  simp -implicitDefEqProofs only [EE, nth, ↓nw, Value.cells, ↓BK, Int.reduceNeg, ld1, yc, yi, vk, kM, qm, vY, vp, wU, wg, xS, xD, xr, h2, h3, h4, h5, h6, h8, h9, h10, h13]
  simp [isI, e]
def Vb (op : Int) : Bool := decide (op = 3) || (decide (op = 4) || (decide (op = 5) || (decide (op = 6) || (decide (op = 7) || (decide (op = 11) || decide (op = 14))))))
def ziL (op : Int) : Bool := decide (op = 7)
end Go.Rtl
namespace Go.Rtl
open Go.Ai Go.Proofs
set_option linter.unusedVariables false
set_option linter.unusedSimpArgs false
set_option maxRecDepth 10000
def ints (zs : List Int) : List Value := zs.map fun z => .int .i64 z
theorem zdS (c n : Nat) : wk c n ≠ 0 := by
  unfold wk
  split
  . cases Nat.ble n _ <;> simp
  . simp
def zc1 (lo h : za) (l : Value) (zs : List Int) : Prop := (l = .slice none 0 0 /\ zs = []) \/ ∃ b c, l = .slice (some ⟨b, 0, none⟩) zs.length c /\ c ≠ 0 /\ lo.next <= b /\ b < h.next /\ h.ro <= b /\ h.get b = some (.cells (ints zs) 3)
section
variable {lo h : za} {l : Value} {zs : List Int}
theorem SliceI.first (S : SliceI h l zs) : ZP l = some zs.length /\ xh h zs.length 1 l = some (ints zs) := by
  rcases S with ⟨rfl, rfl⟩ | ⟨b, off, cp, rfl, hc⟩
  . exact ⟨rfl, rfl⟩
  . refine ⟨rfl, ?_⟩
    by_cases h0 : zs = []
    . subst h0; rfl
    . obtain ⟨c, t, hb, hg, hat⟩ := hc h0
      have hne : 0 < zs.length := List.length_pos_iff.2 h0
      have hlen : off + zs.length <= c.length := by
        have := hat (zs.length - 1) _ (List.getElem?_eq_getElem (by omega))
        rcases Nat.lt_or_ge (off + (zs.length - 1)) c.length with q | q
        . omega
        . rw [List.getElem?_eq_none q] at this; cases this
      simp only [xh, hg]
      rw [show Nat.beq (zs.length * 1) 0 = false by cases hz : Nat.beq (zs.length * 1) 0 with | false => rfl | true => have := Nat.eq_of_beq_eq_true hz; omega]
      rw [show Nat.ble (off + zs.length * 1) c.length = true by simpa using hlen]
      simp only [cond_false, cond_true, Option.some.injEq, Nat.mul_one]
      apply List.ext_getElem?
      intro i
      by_cases hi : i < zs.length
      . rw [List.getElem?_take_of_lt hi, List.getElem?_drop, hat i _ (List.getElem?_eq_getElem hi)]
        simp [ints, hi]
      . rw [List.getElem?_eq_none (by simp; omega), List.getElem?_eq_none (by simp [ints]; omega)]
def znd (l0 h : za) (v : Value) (zs : List Int) : Prop := ∃ lo, Old l0 lo /\ Old lo h /\ zc1 lo h v zs /\ h.ro <= h.next
end
theorem znd.wO {h h1 : za} {v : Value} {zs : List Int} (F : znd h.lock h1 v zs) (wf : WF' h) : zc1 h (wO h h1) v zs := by
  obtain ⟨lo, e0, e, W, _⟩ := F
  rcases W with a | ⟨b, c, rfl, hc, h2, h3, h4, h5⟩
  . exact .inl a
  . have n0 : h.next <= lo.next := e0.next
    refine .inr ⟨b, c, rfl, hc, by omega, h3, ?_, ?_⟩
    . have := wf.2
      show h.ro <= b
      omega
    . rw [xK, if_pos ⟨by omega, h3⟩]; exact h5
end Go.Rtl
namespace Go.Rtl
open Go.Ai Go.Proofs
set_option linter.unusedVariables false
set_option linter.unusedSimpArgs false
set_option maxRecDepth 10000
def zfc (op : Int) : Bool := decide (op = 3) || (decide (op = 4) || (decide (op = 5) || (decide (op = 6) || (decide (op = 7) || (decide (op = 11) || (decide (op = 12) || decide (op = 14)))))))
def zkD (op : Int) : Bool := decide (op = 5) || (decide (op = 7) || decide (op = 11))
def lA (x : Ins) : List Int := if zfc x.op = true /\ ¬ x.a = -1 then [x.a] else []
def lB (x : Ins) : List Int := if zkD x.op = true /\ ¬ x.b = -1 then [x.b] else []
def lC (x : Ins) : List Int := if x.op = 10 then x.args else []
def jN (x : Ins) : List Int := lA x ++ lB x ++ lC x
def jo (x : Ins) : List Int := if x.op = 12 then [] else if x.op = 11 then [x.s, x.t] else [x.s]
section
variable {l0 lo h : za} {b1 : Nat} {x : Ins} {l : Value} {zs : List Int}
end
end Go.Rtl
