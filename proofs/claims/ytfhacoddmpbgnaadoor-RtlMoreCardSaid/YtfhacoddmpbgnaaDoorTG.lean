/- A part of the proof. -/
import Derived.Test.YtfhacoddmpbgnaaDoorChecked
import Derived.KernelRfl
import Derived.Test.YtfhacoddmpbgnaaDoorTF
set_option linter.unusedVariables false
set_option linter.unusedSimpArgs false
namespace Go.Mem
open Go.Ai Go.Proofs Go.Proofs.Tryd
set_option linter.unusedVariables false
set_option maxRecDepth 100000
abbrev VK := Value -> za -> Prop
abbrev LK := List Value -> za -> Prop
abbrev ci (n : Int) : Operand := .const (.int .i64 n)
abbrev fn (n : Nat) : Value := .func (.func n) #[] #[]
variable {h : za} {t0 t1 t2 t3 t4 t5 t6 : Value} {R : VK}
def qs : FuncId -> Nat := fun g => 0
theorem mixed : prog.follows .mixedOrders = true := Checked.mixed Tryd.checked
def zoF (h : za) (t0 t1 : Value) (R : VK) : Prop :=
 opt (nb [t1, (.int .i64 1)] (zf prog .lss 3 (.tmp 5) (ci 1) t1 (.int .i64 1))) fun t6 => GD t6 false (fun k1 => k1 t1 h) (fun t8 h2 => GD t6 false (fun k3 => k3 t0 h2) (fun t9 h4 => GD t6 false (fun k5 => opt (nck t9) fun t10 => k5 t10 h4) (fun t10 h6 => GD t6 false (fun k7 => opt (zb prog 97 t10 0) fun t11 => k7 t11 h6) (fun t11 h8 => GD t6 false (fun k9 => opt (zd prog 95 t11 h8) fun t12 => k9 t12 h8) (fun t12 h10 => GD t6 false (fun k11 => xg (nb [t12] (zg prog .len [95] 3 [t12] h10)) fun t13 h13 => k11 t13 h13) (fun t13 h12 => GD t6 false (fun k14 => opt (nb [t8, t13] (zf prog .gtr 3 (.tmp 8) (.tmp 13) t8 t13)) fun t14 => k14 t14 h12) (fun t14 h15 => opt (pk t6 (.bool true) t14) fun t15 => GD t15 false (fun k16 => k16 t0 h15) (fun t17 h17 => GD t15 false (fun k18 => opt (nck t17) fun t18 => k18 t18 h17) (fun t18 h19 => GD t15 false (fun k20 => opt (zb prog 97 t18 0) fun t19 => k20 t19 h19) (fun t19 h21 => GD t15 false (fun k22 => opt (zd prog 95 t19 h21) fun t20 => k22 t20 h21) (fun t20 h23 => GD t15 false (fun k24 => k24 t1 h23) (fun t21 h25 => GD t15 false (fun k26 => opt (nb [t21, (.int .i64 1)] (zf prog .sub 3 (.tmp 21) (ci 1) t21 (.int .i64 1))) fun t22 => k26 t22 h25) (fun t22 h27 => GD t15 false (fun k28 => opt (zG prog 95 t20 t22) fun t23 => k28 t23 h27) (fun t23 h29 => GD t15 false (fun k30 => opt (zd prog 101 t23 h29) fun t24 => k30 t24 h29) (fun t24 h31 => GD t15 false (fun k32 => opt (nck t24) fun t25 => k32 t25 h31) (fun t25 h33 => GD t15 false (fun k34 => opt (zb prog 104 t25 2) fun t26 => k34 t26 h33) (fun t26 h35 => GD t15 false (fun k36 => opt (zd prog 4 t26 h35) fun t27 => k36 t27 h35) (fun t27 h37 => opt (pk t15 (.bool true) t27) fun t28 => CD t28 (fun j38 => rv [(.pointer none)] h37 R)
 (fun j38 => j38 [(.pointer none)] h37)
 (fun vs39 h40 => opt (nck t0) fun t30 => opt (zb prog 97 t30 0) fun t31 => opt (zd prog 95 t31 h40) fun t32 => opt (nb [t1, (.int .i64 1)] (zf prog .sub 3 (.tmp 33) (ci 1) t1 (.int .i64 1))) fun t34 => opt (zG prog 95 t32 t34) fun t35 => opt (zd prog 101 t35 h40) fun t36 => rv [t36] h40 R)) h35) h33) h31) h29) h27) h25) h23) h21) h19) h17) h15) h12) h10) h8) h6) h4) h2) h
theorem zlc (hw : zoF h t0 t1 R) : DC prog 44 [t0, t1] h R := zE mixed (q := qs) (n := 200) (Eq.mpr (by kernel_rfl) hw)
def zjI (h : za) (t0 : Value) (R : VK) : Prop :=
 opt (nb [t0] (some (Value.cells t0).toList)) fun c1 => nw h c1 84 fun t1 h2 => opt (zb prog 84 t1 0) fun t3 => opt (zd prog 3 t3 h2) fun t4 => BK (fun j3 => opt (nb [t4, (.int .i64 0)] (zf prog .eql 3 (.tmp 4) (ci 0) t4 (.int .i64 0))) fun t6 => CD t6 (fun j6 => opt (zd prog 84 t1 h2) fun t7 => opt (nb [] (yj prog 84 [])) fun t8 => opt (nb [t7, t8] (zf prog .eql 84 (.tmp 7) (.tmp 8) t7 t8)) fun t9 => rv [t9] h2 R)
 (fun j6 => opt (nb [t4, (.int .i64 1)] (zf prog .eql 3 (.tmp 4) (ci 1) t4 (.int .i64 1))) fun t11 => CD t11 (fun j9 => opt (zb prog 84 t1 2) fun t12 => opt (zd prog 3 t12 h2) fun t13 => opt (nb [t13, (.int .i64 0)] (zf prog .eql 3 (.tmp 13) (ci 0) t13 (.int .i64 0))) fun t14 => rv [t14] h2 R)
 (fun j9 => j9 [(.bool false)] h2)
 (fun vs10 h11 => j6 [(nth vs10 0)] h11))
 (fun vs7 h8 => j3 [(nth vs7 0)] h8))
 (fun vs4 h5 => opt (zb prog 84 t1 0) fun t15 => opt (zd prog 3 t15 h5) fun t16 => opt (nb [t16, (.int .i64 2)] (zf prog .eql 3 (.tmp 16) (.const (.int .i64 2)) t16 (.int .i64 2))) fun t17 => GD t17 true (fun k12 => opt (zb prog 84 t1 2) fun t19 => k12 t19 h5) (fun t19 h13 => GD t17 true (fun k14 => opt (zd prog 3 t19 h13) fun t20 => k14 t20 h13) (fun t20 h15 => GD t17 true (fun k16 => opt (nb [t20, (.int .i64 1)] (zf prog .geq 3 (.tmp 20) (ci 1) t20 (.int .i64 1))) fun t21 => k16 t21 h15) (fun t21 h17 => opt (pk t17 t21 (.bool false)) fun t22 => rv [t22] h17 R) h15) h13) h5)
theorem zhz (hw : zjI h t0 R) : DC prog 77 [t0] h R := zE mixed (q := qs) (n := 200) (Eq.mpr (by kernel_rfl) hw)
def zmv (h : za) (R : VK) : Prop :=
 opt (nb [] (yj prog 97 [])) fun t1 => opt (nb [t1] (some (Value.cells t1).toList)) fun c1 => nw h c1 97 fun t2 h2 => rv [t2] h2 R
theorem zh2 (hw : zmv h  R) : DC prog 28 [] h R := zE mixed (q := qs) (n := 200) (Eq.mpr (by kernel_rfl) hw)
def zg0 (h : za) (t0 t1 : Value) (R : VK) : Prop :=
 BK (fun j1 => opt (nb [t1, (.int .i64 0)] (zf prog .lss 3 (.tmp 7) (ci 0) t1 (.int .i64 0))) fun t8 => GD t8 false (fun k4 => k4 t1 h) (fun t10 h5 => GD t8 false (fun k6 => opt (nb [t10, (.int .i64 65536)] (zf prog .gtr 3 (.tmp 10) (.const (.int .i64 65536)) t10 (.int .i64 65536))) fun t11 => k6 t11 h5) (fun t11 h7 => opt (pk t8 (.bool true) t11) fun t12 => CD t12 (fun j8 => rv [(.int .i64 0), (.int .i64 1)] h7 R)
 (fun j8 => opt (nck t0) fun t15 => opt (zb prog 97 t15 0) fun t16 => opt (zd prog 95 t16 h7) fun t17 => xg (nb [t17] (zg prog .len [95] 3 [t17] h7)) fun t18 h11 => opt (nb [t18, (.int .i64 100000)] (zf prog .geq 3 (.tmp 18) (.const (.int .i64 100000)) t18 (.int .i64 100000))) fun t19 => CD t19 (fun j12 => rv [(.int .i64 0), (.int .i64 2)] h11 R)
 (fun j12 => j12 [(.int .i64 0), (.int .i64 0)] h11)
 (fun vs13 h14 => j8 [(nth vs13 0), (nth vs13 1)] h14))
 (fun vs9 h10 => j1 [(nth vs9 0), (nth vs9 1)] h10)) h5) h)
 (fun vs2 h3 => opt (nck t0) fun t22 => opt (zb prog 97 t22 0) fun t23 => opt (zd prog 95 t23 h3) fun t24 => opt (nb [t1] (yj prog 104 [(0, t1)])) fun t26 => opt (nb [t26] (some (Value.cells t26).toList)) fun c15 => nw h3 c15 104 fun t27 h16 => xg (nb [t27] (yd prog 95 1 [(0, t27)] h16)) fun t28 h17 => xg (nb [t24, t28] (zg prog .append [95, 95] 95 [t24, t28] h17)) fun t29 h18 => opt (nck t0) fun t30 => opt (zb prog 97 t30 0) fun t31 => opt (nb [t29] (zj prog 95 t31 t29 h18)) fun h20 => opt (nck t0) fun t33 => opt (zb prog 97 t33 1) fun t34 => opt (zd prog 3 t34 h20) fun t35 => opt (nb [t35, (.int .i64 1)] (zf prog .add 3 (.tmp 35) (ci 1) t35 (.int .i64 1))) fun t36 => opt (nck t0) fun t37 => opt (zb prog 97 t37 1) fun t38 => opt (nb [t36] (zj prog 3 t38 t36 h20)) fun h22 => opt (nck t0) fun t40 => opt (zb prog 97 t40 0) fun t41 => opt (zd prog 95 t41 h22) fun t42 => xg (nb [t42] (zg prog .len [95] 3 [t42] h22)) fun t43 h23 => rv [t43, (.int .i64 0)] h23 R)
theorem zer (hw : zg0 h t0 t1 R) : DC prog 30 [t0, t1] h R := zE mixed (q := qs) (n := 200) (Eq.mpr (by kernel_rfl) hw)
def zhA (h : za) (t0 t1 t2 t3 : Value) (R : VK) : Prop :=
 opt (nb [t2] (some (Value.cells t2).toList)) fun c1 => nw h c1 84 fun t6 h2 => opt (nb [t3] (some (Value.cells t3).toList)) fun c3 => nw h2 c3 84 fun t7 h4 => opt (zd prog 84 t7 h4) fun t12 => zI prog (fn 77) [t12] h4 fun t13 h5 => opt (aun prog .not t13) fun t14 => CD t14 (fun j6 => opt (nb [] (yj prog 84 [])) fun t15 => opt (nb [t15] (zj prog 84 t7 t15 h5)) fun h10 => j6 [] h10)
 (fun j6 => j6 [] h5)
 (fun vs7 h8 => opt (zb prog 84 t7 0) fun t16 => opt (zd prog 3 t16 h8) fun t17 => opt (nb [t17, (.int .i64 2)] (zf prog .eql 3 (.tmp 17) (.const (.int .i64 2)) t17 (.int .i64 2))) fun t18 => GD t18 true (fun k11 => k11 t1 h8) (fun t20 h12 => GD t18 true (fun k13 => opt (nb [t20, (.int .i64 8)] (zf prog .neq 3 (.tmp 20) (.const (.int .i64 8)) t20 (.int .i64 8))) fun t21 => k13 t21 h12) (fun t21 h14 => opt (pk t18 t21 (.bool false)) fun t22 => CD t22 (fun j15 => rv [(.bool false)] h14 R)
 (fun j15 => j15 [(.bool false)] h14)
 (fun vs16 h17 => opt (zd prog 84 t6 h17) fun t26 => zI prog (fn 76) [t0, t1, t26, (.bool true)] h17 fun t27 h18 => opt (axt t27 0) fun t28 => opt (axt t27 1) fun t29 => opt (aun prog .not t29) fun t31 => CD t31 (fun j19 => rv [(.bool false)] h18 R)
 (fun j19 => j19 [(nth vs16 0)] h18)
 (fun vs20 h21 => xg (nb [t28] (zg prog .len [146] 3 [t28] h21)) fun t33 h22 => BK (fun j23 => LP (fun vs27 h28 j26 => opt (nb [(nth vs27 0), t33] (zf prog .lss 3 (.tmp 34) (.tmp 33) (nth vs27 0) t33)) fun t35 => CD t35 (fun j29 => j29 [] h28)
 (fun j29 => j23 [] h28)
 (fun vs30 h31 => BK (fun j32 => opt (zb prog 84 t7 0) fun t37 => opt (zd prog 3 t37 h31) fun t38 => BK (fun j35 => opt (nb [t38, (.int .i64 1)] (zf prog .eql 3 (.tmp 38) (ci 1) t38 (.int .i64 1))) fun t44 => CD t44 (fun j38 => opt (zb prog 84 t7 1) fun t47 => opt (zd prog 2 t47 h31) fun t48 => opt (nb [(.int .i64 8), (nth vs27 0)] (zf prog .mul 3 (.const (.int .i64 8)) (.tmp 49) (.int .i64 8) (nth vs27 0))) fun t50 => opt (nb [t48, t50] (zf prog .shr 2 (.tmp 48) (.tmp 50) t48 t50)) fun t51 => xg (nb [t51] (vf prog 2 5 t51 h31)) fun t52 h41 => opt (nb [(.int .u8 1), t52] (yj prog 107 [(0, (.int .u8 1)), (1, t52)])) fun t53 => opt (zG prog 146 t28 (nth vs27 0)) fun t54 => opt (nb [t53] (zj prog 107 t54 t53 h41)) fun h43 => j38 [] h43)
 (fun j38 => opt (nb [t38, (.int .i64 2)] (zf prog .eql 3 (.tmp 38) (.const (.int .i64 2)) t38 (.int .i64 2))) fun t56 => CD t56 (fun j44 => xg (nb [(nth vs27 0)] (vf prog 3 5 (nth vs27 0) h31)) fun t60 h47 => opt (zd prog 84 t7 h47) fun t61 => opt (nb [(.int .u8 2), t60, t61] (yj prog 107 [(0, (.int .u8 2)), (1, t60), (2, t61)])) fun t62 => opt (zG prog 146 t28 (nth vs27 0)) fun t63 => opt (nb [t62] (zj prog 107 t63 t62 h47)) fun h49 => j44 [] h49)
 (fun j44 => opt (nb [] (yj prog 107 [])) fun t41 => opt (zG prog 146 t28 (nth vs27 0)) fun t42 => opt (nb [t41] (zj prog 107 t42 t41 h31)) fun h51 => j44 [] h51)
 (fun vs45 h46 => j38 [] h46))
 (fun vs39 h40 => j35 [] h40))
 (fun vs36 h37 => j32 [] h37))
 (fun vs33 h34 => opt (nb [(nth vs27 0), (.int .i64 1)] (zf prog .add 3 (.tmp 34) (ci 1) (nth vs27 0) (.int .i64 1))) fun t64 => j26 [t64] h34)))
 [(.int .i64 0)] h22)
 (fun vs24 h25 => rv [(.bool true)] h25 R)))) h12) h8)
theorem zeR (hw : zhA h t0 t1 t2 t3 R) : DC prog 54 [t0, t1, t2, t3] h R := zE mixed (q := qs) (n := 200) (Eq.mpr (by kernel_rfl) hw)
def zjS (h : za) (t0 t1 t2 : Value) (R : VK) : Prop :=
 opt (nb [t2] (some (Value.cells t2).toList)) fun c1 => nw h c1 84 fun t5 h2 => opt (xo prog 84) fun z3 => nw h2 (Value.cells z3).toList 84 fun t6 h4 => opt (zd prog 84 t5 h4) fun t18 => zI prog (fn 76) [t0, t1, t18, (.bool false)] h4 fun t19 h5 => opt (axt t19 0) fun t20 => opt (axt t19 1) fun t21 => opt (nb [t20, (.slice none 0 0)] (zf prog .eql 146 (.tmp 22) (.const (.slice none 0 0)) t20 (.slice none 0 0))) fun t23 => CD t23 (fun j6 => opt (nb [] (yj prog 84 [])) fun t24 => opt (nb [t24] (zj prog 84 t6 t24 h5)) fun h10 => opt (zd prog 84 t6 h10) fun r0 => rv [r0, t21] h10 R)
 (fun j6 => j6 [(.bool false)] h5)
 (fun vs7 h8 => opt (nb [t1, (.int .i64 8)] (zf prog .eql 3 (.tmp 26) (.const (.int .i64 8)) t1 (.int .i64 8))) fun t27 => xg (nb [t20] (zg prog .len [146] 3 [t20] h8)) fun t29 h11 => BK (fun j12 => LP (fun vs16 h17 j15 => opt (nb [(nth vs16 3), t29] (zf prog .lss 3 (.tmp 30) (.tmp 29) (nth vs16 3) t29)) fun t31 => CD t31 (fun j18 => j18 [] h17)
 (fun j18 => j12 [(nth vs16 0), (nth vs16 1), (nth vs16 2)] h17)
 (fun vs19 h20 => BK (fun j21 => opt (zG prog 146 t20 (nth vs16 3)) fun t33 => opt (zd prog 107 t33 h20) fun t34 => opt (xo prog 107) fun z24 => nw h20 (Value.cells z24).toList 107 fun t14 h25 => opt (nb [t34] (zj prog 107 t14 t34 h25)) fun h27 => opt (zb prog 107 t14 1) fun t36 => opt (zd prog 5 t36 h27) fun t37 => xg (nb [t37] (vf prog 5 137 t37 h27)) fun t38 h28 => opt (nb [(.int .i64 8), (nth vs16 3)] (zf prog .mul 3 (.const (.int .i64 8)) (.tmp 39) (.int .i64 8) (nth vs16 3))) fun t40 => opt (nb [t38, t40] (zf prog .shl 137 (.tmp 38) (.tmp 40) t38 t40)) fun t41 => opt (nb [(nth vs16 0), t41] (zf prog .or 137 (.tmp 35) (.tmp 41) (nth vs16 0) t41)) fun t42 => GD (nth vs16 1) true (fun k29 => opt (zb prog 107 t14 0) fun t45 => k29 t45 h28) (fun t45 h30 => GD (nth vs16 1) true (fun k31 => opt (zd prog 5 t45 h30) fun t46 => k31 t46 h30) (fun t46 h32 => GD (nth vs16 1) true (fun k33 => opt (nb [t46, (.int .u8 1)] (zf prog .eql 5 (.tmp 46) (.const (.int .u8 1)) t46 (.int .u8 1))) fun t47 => k33 t47 h32) (fun t47 h34 => opt (pk (nth vs16 1) t47 (.bool false)) fun t48 => GD (nth vs16 2) true (fun k35 => opt (zb prog 107 t14 0) fun t51 => k35 t51 h34) (fun t51 h36 => GD (nth vs16 2) true (fun k37 => opt (zd prog 5 t51 h36) fun t52 => k37 t52 h36) (fun t52 h38 => GD (nth vs16 2) true (fun k39 => opt (nb [t52, (.int .u8 2)] (zf prog .eql 5 (.tmp 52) (.const (.int .u8 2)) t52 (.int .u8 2))) fun t53 => k39 t53 h38) (fun t53 h40 => opt (pk (nth vs16 2) t53 (.bool false)) fun t54 => GD t54 true (fun k41 => opt (zb prog 107 t14 1) fun t56 => k41 t56 h40) (fun t56 h42 => GD t54 true (fun k43 => opt (zd prog 5 t56 h42) fun t57 => k43 t57 h42) (fun t57 h44 => GD t54 true (fun k45 => xg (nb [t57] (vf prog 5 3 t57 h44)) fun t58 h47 => k45 t58 h47) (fun t58 h46 => GD t54 true (fun k48 => k48 (nth vs16 3) h46) (fun t59 h49 => GD t54 true (fun k50 => opt (nb [t58, t59] (zf prog .eql 3 (.tmp 58) (.tmp 59) t58 t59)) fun t60 => k50 t60 h49) (fun t60 h51 => opt (pk t54 t60 (.bool false)) fun t61 => GD t61 true (fun k52 => opt (zb prog 107 t14 2) fun t63 => k52 t63 h51) (fun t63 h53 => GD t61 true (fun k54 => opt (zd prog 84 t63 h53) fun t64 => k54 t64 h53) (fun t64 h55 => GD t61 true (fun k56 => k56 t20 h55) (fun t65 h57 => GD t61 true (fun k58 => opt (zG prog 146 t65 (.int .i64 0)) fun t66 => k58 t66 h57) (fun t66 h59 => GD t61 true (fun k60 => opt (zb prog 107 t66 2) fun t67 => k60 t67 h59) (fun t67 h61 => GD t61 true (fun k62 => opt (zd prog 84 t67 h61) fun t68 => k62 t68 h61) (fun t68 h63 => GD t61 true (fun k64 => opt (nb [t64, t68] (zf prog .eql 84 (.tmp 64) (.tmp 68) t64 t68)) fun t69 => k64 t69 h63) (fun t69 h65 => opt (pk t61 t69 (.bool false)) fun t70 => j21 [t42, t48, t70] h65) h63) h61) h59) h57) h55) h53) h51) h49) h46) h44) h42) h40) h38) h36) h34) h32) h30) h28)
 (fun vs22 h23 => opt (nb [(nth vs16 3), (.int .i64 1)] (zf prog .add 3 (.tmp 30) (ci 1) (nth vs16 3) (.int .i64 1))) fun t71 => j15 [(nth vs22 0), (nth vs22 1), (nth vs22 2), t71] h23)))
 [(.int .u64 0), (.bool true), t27, (.int .i64 0)] h11)
 (fun vs13 h14 => BK (fun j66 => GD (nth vs13 1) true (fun k69 => k69 t1 h14) (fun t75 h70 => GD (nth vs13 1) true (fun k71 => opt (nb [t75, (.int .i64 8)] (zf prog .eql 3 (.tmp 75) (.const (.int .i64 8)) t75 (.int .i64 8))) fun t76 => k71 t76 h70) (fun t76 h72 => opt (pk (nth vs13 1) t76 (.bool false)) fun t77 => CD t77 (fun j73 => xg (nb [(nth vs13 0)] (vf prog 137 2 (nth vs13 0) h72)) fun t79 h76 => zI prog (fn 32) [t79] h76 fun t80 h77 => opt (nb [t80] (zj prog 84 t6 t80 h77)) fun h79 => opt (zd prog 84 t6 h79) fun r0 => rv [r0, (.bool true)] h79 R)
 (fun j73 => GD (nth vs13 1) true (fun k80 => k80 t1 h72) (fun t84 h81 => GD (nth vs13 1) true (fun k82 => opt (nb [t84, (.int .i64 4)] (zf prog .eql 3 (.tmp 84) (.const (.int .i64 4)) t84 (.int .i64 4))) fun t85 => k82 t85 h81) (fun t85 h83 => opt (pk (nth vs13 1) t85 (.bool false)) fun t86 => CD t86 (fun j84 => xg (nb [(nth vs13 0)] (vf prog 137 21 (nth vs13 0) h83)) fun t88 h87 => xg (nb [t88] (vf prog 21 2 t88 h87)) fun t89 h88 => zI prog (fn 32) [t89] h88 fun t90 h89 => opt (nb [t90] (zj prog 84 t6 t90 h89)) fun h91 => opt (zd prog 84 t6 h91) fun r0 => rv [r0, (.bool true)] h91 R)
 (fun j84 => CD (nth vs13 1) (fun j92 => xg (nb [(nth vs13 0)] (vf prog 137 144 (nth vs13 0) h83)) fun t94 h95 => xg (nb [t94] (vf prog 144 2 t94 h95)) fun t95 h96 => zI prog (fn 32) [t95] h96 fun t96 h97 => opt (nb [t96] (zj prog 84 t6 t96 h97)) fun h99 => opt (zd prog 84 t6 h99) fun r0 => rv [r0, (.bool true)] h99 R)
 (fun j92 => CD (nth vs13 2) (fun j100 => opt (zG prog 146 t20 (.int .i64 0)) fun t100 => opt (zb prog 107 t100 2) fun t101 => opt (zd prog 84 t101 h83) fun t102 => opt (nb [t102] (zj prog 84 t6 t102 h83)) fun h104 => opt (zd prog 84 t6 h104) fun r0 => rv [r0, (.bool true)] h104 R)
 (fun j100 => j100 [(nth vs7 0)] h83)
 (fun vs101 h102 => j92 [(nth vs101 0)] h102))
 (fun vs93 h94 => j84 [(nth vs93 0)] h94))
 (fun vs85 h86 => j73 [(nth vs85 0)] h86)) h81) h72)
 (fun vs74 h75 => j66 [(nth vs74 0)] h75)) h70) h14)
 (fun vs67 h68 => opt (nb [] (yj prog 84 [])) fun t103 => opt (nb [t103] (zj prog 84 t6 t103 h68)) fun h106 => opt (zd prog 84 t6 h106) fun r0 => rv [r0, (.bool true)] h106 R)))
theorem zgJ (hw : zjS h t0 t1 t2 R) : DC prog 53 [t0, t1, t2] h R := zE mixed (q := qs) (n := 200) (Eq.mpr (by kernel_rfl) hw)
def zjW (h : za) (t0 t1 : Value) (R : VK) : Prop :=
 zI prog (fn 44) [t0, t1] h fun t9 h1 => opt (nb [t9, (.pointer none)] (zf prog .eql 101 (.tmp 10) (.const (.pointer none)) t9 (.pointer none))) fun t11 => CD t11 (fun j2 => rv [(.bool false)] h1 R)
 (fun j2 => j2 [(.bool false)] h1)
 (fun vs3 h4 => opt (nck t9) fun t13 => opt (zb prog 104 t13 0) fun t14 => opt (zd prog 3 t14 h4) fun t15 => BK (fun j5 => LP (fun vs9 h10 j8 => opt (nb [(nth vs9 0), t15] (zf prog .lss 3 (.tmp 16) (.tmp 15) (nth vs9 0) t15)) fun t17 => CD t17 (fun j11 => j11 [] h10)
 (fun j11 => j5 [] h10)
 (fun vs12 h13 => BK (fun j14 => zI prog (fn 45) [t9, (nth vs9 0), (.bool true)] h13 fun t21 h17 => opt (nb [(nth vs9 0), (.int .i64 64)] (zf prog .rem 3 (.tmp 22) (.const (.int .i64 64)) (nth vs9 0) (.int .i64 64))) fun t23 => opt (nb [(.int .u8 1)] (yj prog 107 [(0, (.int .u8 1))])) fun t24 => opt (nck t21) fun t25 => opt (zG prog 143 t25 t23) fun t26 => opt (nb [t24] (zj prog 107 t26 t24 h17)) fun h19 => j14 [] h19)
 (fun vs15 h16 => opt (nb [(nth vs9 0), (.int .i64 1)] (zf prog .add 3 (.tmp 16) (ci 1) (nth vs9 0) (.int .i64 1))) fun t27 => j8 [t27] h16)))
 [(.int .i64 0)] h4)
 (fun vs6 h7 => rv [(.bool true)] h7 R))
theorem zhi (hw : zjW h t0 t1 R) : DC prog 31 [t0, t1] h R := zE mixed (q := qs) (n := 200) (Eq.mpr (by kernel_rfl) hw)
def zj0 (h : za) (t0 t1 : Value) (R : VK) : Prop :=
 zI prog (fn 44) [t0, t1] h fun t8 h1 => opt (nb [t8, (.pointer none)] (zf prog .eql 101 (.tmp 9) (.const (.pointer none)) t8 (.pointer none))) fun t10 => CD t10 (fun j2 => rv [(.bool false)] h1 R)
 (fun j2 => j2 [(.bool false)] h1)
 (fun vs3 h4 => opt (nck t0) fun t12 => opt (zb prog 97 t12 0) fun t13 => opt (zd prog 95 t13 h4) fun t14 => opt (nb [t1, (.int .i64 1)] (zf prog .sub 3 (.tmp 15) (ci 1) t1 (.int .i64 1))) fun t16 => opt (nck t8) fun t18 => opt (zb prog 104 t18 0) fun t19 => opt (zd prog 3 t19 h4) fun t20 => opt (nb [t20, (.bool true)] (yj prog 104 [(0, t20), (2, (.bool true))])) fun t21 => opt (nb [t21] (some (Value.cells t21).toList)) fun c5 => nw h4 c5 104 fun t22 h6 => opt (zG prog 95 t14 t16) fun t23 => opt (nb [t22] (zj prog 101 t23 t22 h6)) fun h8 => opt (nck t0) fun t25 => opt (zb prog 97 t25 1) fun t26 => opt (zd prog 3 t26 h8) fun t27 => opt (nb [t27, (.int .i64 1)] (zf prog .sub 3 (.tmp 27) (ci 1) t27 (.int .i64 1))) fun t28 => opt (nck t0) fun t29 => opt (zb prog 97 t29 1) fun t30 => opt (nb [t28] (zj prog 3 t30 t28 h8)) fun h10 => rv [(.bool true)] h10 R)
theorem zgm (hw : zj0 h t0 t1 R) : DC prog 78 [t0, t1] h R := zE mixed (q := qs) (n := 200) (Eq.mpr (by kernel_rfl) hw)
def KP (h : za) (t0 t1 t2 t3 : Value) (R : VK) : Prop :=
 opt (nb [t2] (some (Value.cells t2).toList)) fun c1 => nw h c1 84 fun t6 h2 => opt (zb prog 84 t6 0) fun t13 => opt (zd prog 3 t13 h2) fun t14 => opt (nb [t14, (.int .i64 2)] (zf prog .neq 3 (.tmp 14) (.const (.int .i64 2)) t14 (.int .i64 2))) fun t15 => GD t15 false (fun k3 => k3 t1 h2) (fun t17 h4 => GD t15 false (fun k5 => opt (nb [t17, (.int .i64 1)] (zf prog .neq 3 (.tmp 17) (ci 1) t17 (.int .i64 1))) fun t18 => k5 t18 h4) (fun t18 h6 => GD t15 false (fun k7 => k7 t18 h6) (fun t19 h8 => GD t19 true (fun k9 => k9 t1 h8) (fun t20 h10 => GD t19 true (fun k11 => opt (nb [t20, (.int .i64 4)] (zf prog .neq 3 (.tmp 20) (.const (.int .i64 4)) t20 (.int .i64 4))) fun t21 => k11 t21 h10) (fun t21 h12 => GD t15 false (fun k13 => opt (pk t19 t21 (.bool false)) fun t22 => k13 t22 h12) (fun t22 h14 => GD t15 false (fun k15 => k15 t22 h14) (fun t23 h16 => GD t23 true (fun k17 => k17 t1 h16) (fun t24 h18 => GD t23 true (fun k19 => opt (nb [t24, (.int .i64 8)] (zf prog .neq 3 (.tmp 24) (.const (.int .i64 8)) t24 (.int .i64 8))) fun t25 => k19 t25 h18) (fun t25 h20 => GD t15 false (fun k21 => opt (pk t23 t25 (.bool false)) fun t26 => k21 t26 h20) (fun t26 h22 => opt (pk t15 (.bool true) t26) fun t27 => CD t27 (fun j23 => rv [(.slice none 0 0), (.bool false)] h22 R)
 (fun j23 => j23 [(.slice none 0 0), (.bool false)] h22)
 (fun vs24 h25 => opt (zb prog 84 t6 2) fun t29 => opt (zd prog 3 t29 h25) fun t30 => zI prog (fn 44) [t0, t30] h25 fun t31 h26 => opt (nb [t31, (.pointer none)] (zf prog .eql 101 (.tmp 32) (.const (.pointer none)) t31 (.pointer none))) fun t33 => GD t33 false (fun k27 => opt (zb prog 84 t6 1) fun t35 => k27 t35 h26) (fun t35 h28 => GD t33 false (fun k29 => opt (zd prog 2 t35 h28) fun t36 => k29 t36 h28) (fun t36 h30 => GD t33 false (fun k31 => opt (nb [t36, (.int .i64 0)] (zf prog .lss 2 (.tmp 36) (ci 0) t36 (.int .i64 0))) fun t37 => k31 t37 h30) (fun t37 h32 => opt (pk t33 (.bool true) t37) fun t38 => GD t38 false (fun k33 => opt (zb prog 84 t6 1) fun t40 => k33 t40 h32) (fun t40 h34 => GD t38 false (fun k35 => opt (zd prog 2 t40 h34) fun t41 => k35 t41 h34) (fun t41 h36 => GD t38 false (fun k37 => k37 t31 h36) (fun t42 h38 => GD t38 false (fun k39 => opt (nck t42) fun t43 => k39 t43 h38) (fun t43 h40 => GD t38 false (fun k41 => opt (zb prog 104 t43 0) fun t44 => k41 t44 h40) (fun t44 h42 => GD t38 false (fun k43 => opt (zd prog 3 t44 h42) fun t45 => k43 t45 h42) (fun t45 h44 => GD t38 false (fun k45 => k45 t1 h44) (fun t46 h46 => GD t38 false (fun k47 => opt (nb [t45, t46] (zf prog .sub 3 (.tmp 45) (.tmp 46) t45 t46)) fun t47 => k47 t47 h46) (fun t47 h48 => GD t38 false (fun k49 => opt (nb [t41, t47] (zf prog .gtr 2 (.tmp 41) (.tmp 47) t41 t47)) fun t48 => k49 t48 h48) (fun t48 h50 => opt (pk t38 (.bool true) t48) fun t49 => GD t49 false (fun k51 => opt (zb prog 84 t6 1) fun t51 => k51 t51 h50) (fun t51 h52 => GD t49 false (fun k53 => opt (zd prog 2 t51 h52) fun t52 => k53 t52 h52) (fun t52 h54 => GD t49 false (fun k55 => k55 t1 h54) (fun t53 h56 => GD t49 false (fun k57 => opt (nb [t52, t53] (zf prog .rem 2 (.tmp 52) (.tmp 53) t52 t53)) fun t54 => k57 t54 h56) (fun t54 h58 => GD t49 false (fun k59 => opt (nb [t54, (.int .i64 0)] (zf prog .neq 2 (.tmp 54) (ci 0) t54 (.int .i64 0))) fun t55 => k59 t55 h58) (fun t55 h60 => opt (pk t49 (.bool true) t55) fun t56 => CD t56 (fun j61 => rv [(.slice none 0 0), (.bool false)] h60 R)
 (fun j61 => j61 [(nth vs24 0), (nth vs24 1)] h60)
 (fun vs62 h63 => opt (zb prog 84 t6 1) fun t58 => opt (zd prog 2 t58 h63) fun t59 => zI prog (fn 45) [t31, t59, t3] h63 fun t61 h64 => opt (nb [t61, (.pointer none)] (zf prog .eql 108 (.tmp 62) (.const (.pointer none)) t61 (.pointer none))) fun t63 => CD t63 (fun j65 => rv [(.slice none 0 0), (.bool true)] h64 R)
 (fun j65 => j65 [(nth vs62 0), (nth vs62 1)] h64)
 (fun vs66 h67 => opt (zb prog 84 t6 1) fun t64 => opt (zd prog 2 t64 h67) fun t65 => opt (nb [t65, (.int .i64 64)] (zf prog .rem 3 (.tmp 65) (.const (.int .i64 64)) t65 (.int .i64 64))) fun t66 => opt (nck t61) fun t68 => opt (nb [t66, t1] (zf prog .add 3 (.tmp 70) (.tmp 71) t66 t1)) fun t72 => opt (nb [t68] (cond (onb (some t66) && onb (some t72)) (asl prog 143 t68 (some t66) (some t72) h67) none)) fun t73 => rv [t73, (.bool true)] h67 R))) h58) h56) h54) h52) h50) h48) h46) h44) h42) h40) h38) h36) h34) h32) h30) h28) h26)) h20) h18) h16) h14) h12) h10) h8) h6) h4) h2
theorem VL (hw : KP h t0 t1 t2 t3 R) : DC prog 76 [t0, t1, t2, t3] h R := zE mixed (q := qs) (n := 200) (Eq.mpr (by kernel_rfl) hw)
def zoy (h : za) (t0 : Value) (R : VK) : Prop :=
 opt (xo prog 84) fun z1 => nw h (Value.cells z1).toList 84 fun t2 h2 => opt (nb [(.int .i64 1), t0] (yj prog 84 [(0, (.int .i64 1)), (1, t0)])) fun t4 => opt (nb [t4] (zj prog 84 t2 t4 h2)) fun h4 => opt (zd prog 84 t2 h4) fun r0 => rv [r0] h4 R
theorem zk1 (hw : zoy h t0 R) : DC prog 32 [t0] h R := zE mixed (q := qs) (n := 200) (Eq.mpr (by kernel_rfl) hw)
def zfG (h : za) (t0 t1 t2 : Value) (R : VK) : Prop :=
 opt (nck t0) fun t8 => opt (zb prog 104 t8 1) fun t9 => opt (zd prog 102 t9 h) fun t10 => opt (nb [t10, (.slice none 0 0)] (zf prog .eql 102 (.tmp 10) (.const (.slice none 0 0)) t10 (.slice none 0 0))) fun t11 => GD t11 true (fun k1 => k1 t2 h) (fun t13 h2 => opt (pk t11 t13 (.bool false)) fun t14 => CD t14 (fun j3 => opt (nck t0) fun t17 => opt (zb prog 104 t17 0) fun t18 => opt (zd prog 3 t18 h2) fun t19 => opt (nb [t19, (.int .i64 64)] (zf prog .add 3 (.tmp 19) (.const (.int .i64 64)) t19 (.int .i64 64))) fun t20 => opt (nb [t20, (.int .i64 1)] (zf prog .sub 3 (.tmp 20) (ci 1) t20 (.int .i64 1))) fun t21 => opt (nb [t21, (.int .i64 64)] (zf prog .quo 3 (.tmp 21) (.const (.int .i64 64)) t21 (.int .i64 64))) fun t22 => xg (ZQ prog 102 t22 t22 h2) fun t23 h6 => opt (nck t0) fun t24 => opt (zb prog 104 t24 1) fun t25 => opt (nb [t23] (zj prog 102 t25 t23 h6)) fun h8 => j3 [] h8)
 (fun j3 => j3 [] h2)
 (fun vs4 h5 => opt (nck t0) fun t27 => opt (zb prog 104 t27 1) fun t28 => opt (zd prog 102 t28 h5) fun t29 => opt (nb [t29, (.slice none 0 0)] (zf prog .eql 102 (.tmp 29) (.const (.slice none 0 0)) t29 (.slice none 0 0))) fun t30 => CD t30 (fun j9 => rv [(.pointer none)] h5 R)
 (fun j9 => j9 [(.pointer none)] h5)
 (fun vs10 h11 => opt (nck t0) fun t32 => opt (zb prog 104 t32 1) fun t33 => opt (zd prog 102 t33 h11) fun t34 => opt (nb [t1, (.int .i64 64)] (zf prog .quo 3 (.tmp 35) (.const (.int .i64 64)) t1 (.int .i64 64))) fun t36 => opt (zG prog 102 t34 t36) fun t37 => opt (zd prog 108 t37 h11) fun t38 => opt (nb [t38, (.pointer none)] (zf prog .eql 108 (.tmp 38) (.const (.pointer none)) t38 (.pointer none))) fun t39 => GD t39 true (fun k12 => k12 t2 h11) (fun t41 h13 => opt (pk t39 t41 (.bool false)) fun t42 => CD t42 (fun j14 => opt (nck t0) fun t44 => opt (zb prog 104 t44 1) fun t45 => opt (zd prog 102 t45 h13) fun t46 => opt (nb [t1, (.int .i64 64)] (zf prog .quo 3 (.tmp 47) (.const (.int .i64 64)) t1 (.int .i64 64))) fun t48 => opt (nb [] (yj prog 143 [])) fun t49 => opt (nb [t49] (some (Value.cells t49).toList)) fun c17 => nw h13 c17 143 fun t50 h18 => opt (zG prog 102 t46 t48) fun t51 => opt (nb [t50] (zj prog 108 t51 t50 h18)) fun h20 => j14 [] h20)
 (fun j14 => j14 [] h13)
 (fun vs15 h16 => opt (nck t0) fun t53 => opt (zb prog 104 t53 1) fun t54 => opt (zd prog 102 t54 h16) fun t55 => opt (nb [t1, (.int .i64 64)] (zf prog .quo 3 (.tmp 56) (.const (.int .i64 64)) t1 (.int .i64 64))) fun t57 => opt (zG prog 102 t55 t57) fun t58 => opt (zd prog 108 t58 h16) fun t59 => rv [t59] h16 R)) h11))) h
theorem JS (hw : zfG h t0 t1 t2 R) : DC prog 45 [t0, t1, t2] h R := zE mixed (q := qs) (n := 200) (Eq.mpr (by kernel_rfl) hw)
end Go.Mem
namespace Go.Mem
open Go.Ai Go.Proofs
set_option linter.unusedVariables false
noncomputable def KS : Array Field := match Program.underlying Tryd.prog 84 with | some (.struct f) => f | _ => #[]
theorem zjX (b off : Nat) (h : za) : zd Tryd.prog 101 (.pointer (some ⟨b, off, none⟩)) h = ld1 h b off := zN (by kernel_rfl) b off h
theorem Qf (b off : Nat) (h : za) : zd Tryd.prog 102 (.pointer (some ⟨b, off, none⟩)) h = ld1 h b off := zN (by kernel_rfl) b off h
theorem zdF (b off : Nat) (h : za) : zd Tryd.prog 107 (.pointer (some ⟨b, off, none⟩)) h = ldn h b off 5 := wx (by kernel_rfl) (by kernel_rfl) b off h
theorem zba (b off : Nat) (h : za) : zd Tryd.prog 108 (.pointer (some ⟨b, off, none⟩)) h = ld1 h b off := zN (by kernel_rfl) b off h
theorem vK (b off : Nat) (h : za) : zd Tryd.prog 2 (.pointer (some ⟨b, off, none⟩)) h = ld1 h b off := zN (by kernel_rfl) b off h
theorem yc (b off : Nat) (h : za) : zd Tryd.prog 3 (.pointer (some ⟨b, off, none⟩)) h = ld1 h b off := zN (by kernel_rfl) b off h
theorem UJ (b off : Nat) (h : za) : zd Tryd.prog 4 (.pointer (some ⟨b, off, none⟩)) h = ld1 h b off := zN (by kernel_rfl) b off h
theorem zkN (b off : Nat) (h : za) : zd Tryd.prog 5 (.pointer (some ⟨b, off, none⟩)) h = ld1 h b off := zN (by kernel_rfl) b off h
theorem zo (b off : Nat) (h : za) : zd Tryd.prog 84 (.pointer (some ⟨b, off, none⟩)) h = ldn h b off 3 := wx (by kernel_rfl) (by kernel_rfl) b off h
theorem WI (b off : Nat) (h : za) : zd Tryd.prog 95 (.pointer (some ⟨b, off, none⟩)) h = ld1 h b off := zN (by kernel_rfl) b off h
theorem znO (r : TypeId) (v x : Value) (n : Nat) (new : List Value) (h : za) (h1 : ZP x = some n) (h2 : xh h n 1 x = some new) (h3 : new.all cellOk = true) (h4 : new.length = n * 1) : zg Tryd.prog .append [95, 95] r [v, x] h = KU h 101 1 8 n new v := uX (e := 101) (e2 := 101) (by kernel_rfl) (by kernel_rfl) (by kernel_rfl) (by kernel_rfl) (by decide) h1 h2 h3 h4
theorem zmA (b off : Nat) (v : Option Addr) (h : za) : zj Tryd.prog 101 (.pointer (some ⟨b, off, none⟩)) (.pointer v) h = sto h b off [(.pointer v)] := xn (by kernel_rfl) b off _ h rfl
theorem zmV (b off : Nat) (v : Option Addr) (vl vc : Nat) (h : za) : zj Tryd.prog 102 (.pointer (some ⟨b, off, none⟩)) (.slice v vl vc) h = sto h b off [(.slice v vl vc)] := xn (by kernel_rfl) b off _ h rfl
theorem Wv (b off : Nat) (l : List Value) (h : za) (hv : l.length = 5) : zj Tryd.prog 107 (.pointer (some ⟨b, off, none⟩)) (.agg l.toArray) h = sto h b off l := vy (by kernel_rfl) b off l h hv
theorem zg8 (b off : Nat) (v : Option Addr) (h : za) : zj Tryd.prog 108 (.pointer (some ⟨b, off, none⟩)) (.pointer v) h = sto h b off [(.pointer v)] := xn (by kernel_rfl) b off _ h rfl
theorem zeP (b off : Nat) (v : Int) (h : za) : zj Tryd.prog 3 (.pointer (some ⟨b, off, none⟩)) (.int .i64 v) h = sto h b off [(.int .i64 v)] := xn (by kernel_rfl) b off _ h rfl
theorem zC (b off : Nat) (l : List Value) (h : za) (hv : l.length = 3) : zj Tryd.prog 84 (.pointer (some ⟨b, off, none⟩)) (.agg l.toArray) h = sto h b off l := vy (by kernel_rfl) b off l h hv
theorem zmM (b off : Nat) (v : Option Addr) (vl vc : Nat) (h : za) : zj Tryd.prog 95 (.pointer (some ⟨b, off, none⟩)) (.slice v vl vc) h = sto h b off [(.slice v vl vc)] := xn (by kernel_rfl) b off _ h rfl
theorem zmo : xo Tryd.prog 107 = some (.agg #[(.int .u8 0), (.int .u8 0), (.int .i64 0), (.int .i64 0), (.int .i64 0)]) := zU (by kernel_rfl)
theorem yZ : xo Tryd.prog 84 = some (.agg #[(.int .i64 0), (.int .i64 0), (.int .i64 0)]) := zU (by kernel_rfl)
theorem Xj (v0 : Int) : yj Tryd.prog 104 [(0, (.int .i64 v0))] = some (.agg #[(.int .i64 v0), (.slice none 0 0), (.bool false)]) := zU (by kernel_rfl)
theorem ze6 (v0 : Int) (v2 : Bool) : yj Tryd.prog 104 [(0, (.int .i64 v0)), (2, (.bool v2))] = some (.agg #[(.int .i64 v0), (.slice none 0 0), (.bool v2)]) := zU (by kernel_rfl)
theorem zli : yj Tryd.prog 107 [] = some (.agg #[(.int .u8 0), (.int .u8 0), (.int .i64 0), (.int .i64 0), (.int .i64 0)]) := zU (by kernel_rfl)
theorem zc8 (v0 : Int) : yj Tryd.prog 107 [(0, (.int .u8 v0))] = some (.agg #[(.int .u8 v0), (.int .u8 0), (.int .i64 0), (.int .i64 0), (.int .i64 0)]) := zU (by kernel_rfl)
theorem X5 (v0 : Int) (v1 : Int) : yj Tryd.prog 107 [(0, (.int .u8 v0)), (1, (.int .u8 v1))] = some (.agg #[(.int .u8 v0), (.int .u8 v1), (.int .i64 0), (.int .i64 0), (.int .i64 0)]) := zU (by kernel_rfl)
theorem jB (v0 : Int) (v1 : Int) (v20 : Int) (v21 : Int) (v22 : Int) : yj Tryd.prog 107 [(0, (.int .u8 v0)), (1, (.int .u8 v1)), (2, (.agg #[(.int .i64 v20), (.int .i64 v21), (.int .i64 v22)]))] = some (.agg #[(.int .u8 v0), (.int .u8 v1), (.int .i64 v20), (.int .i64 v21), (.int .i64 v22)]) := zU (by kernel_rfl)
theorem yg : yj Tryd.prog 84 [] = some (.agg #[(.int .i64 0), (.int .i64 0), (.int .i64 0)]) := zU (by kernel_rfl)
theorem zgM (v0 : Int) (v1 : Int) : yj Tryd.prog 84 [(0, (.int .i64 v0)), (1, (.int .i64 v1))] = some (.agg #[(.int .i64 v0), (.int .i64 v1), (.int .i64 0)]) := zU (by kernel_rfl)
theorem zmK : yj Tryd.prog 97 [] = some (.agg #[(.slice none 0 0), (.int .i64 0)]) := zU (by kernel_rfl)
theorem jE (v0 : Option Addr) (h : za) : yd Tryd.prog 95 1 [(0, (.pointer v0))] h = some (.slice (some ⟨h.next, 0, none⟩) 1 3, h.push (.cells [(.pointer v0)] 101)) := zU (by kernel_rfl)
theorem vS (n : Int) (h : za) : vf Tryd.prog 137 144 (.int .u64 n) h = some (.int .i8 (IntKind.wrap .i8 n), h) := zU (by kernel_rfl)
theorem kZ (n : Int) (h : za) : vf Tryd.prog 137 2 (.int .u64 n) h = some (.int .i64 (IntKind.wrap .i64 n), h) := zU (by kernel_rfl)
theorem qd (n : Int) (h : za) : vf Tryd.prog 137 21 (.int .u64 n) h = some (.int .i32 (IntKind.wrap .i32 n), h) := zU (by kernel_rfl)
theorem uI (n : Int) (h : za) : vf Tryd.prog 144 2 (.int .i8 n) h = some (.int .i64 (IntKind.wrap .i64 n), h) := zU (by kernel_rfl)
theorem kF (n : Int) (h : za) : vf Tryd.prog 21 2 (.int .i32 n) h = some (.int .i64 (IntKind.wrap .i64 n), h) := zU (by kernel_rfl)
theorem zhN (n : Int) (h : za) : vf Tryd.prog 2 5 (.int .i64 n) h = some (.int .u8 (IntKind.wrap .u8 n), h) := zU (by kernel_rfl)
theorem zam (n : Int) (h : za) : vf Tryd.prog 3 5 (.int .i64 n) h = some (.int .u8 (IntKind.wrap .u8 n), h) := zU (by kernel_rfl)
theorem WV (n : Int) (h : za) : vf Tryd.prog 5 137 (.int .u8 n) h = some (.int .u64 (IntKind.wrap .u64 n), h) := zU (by kernel_rfl)
theorem zjL (n : Int) (h : za) : vf Tryd.prog 5 3 (.int .u8 n) h = some (.int .i64 (IntKind.wrap .i64 n), h) := zU (by kernel_rfl)
theorem WX (x y : Operand) : zf Tryd.prog .eql 101 x y (.pointer none) (.pointer none) = some (.bool true) := zU (by kernel_rfl)
theorem zdM (x y : Operand) : zf Tryd.prog .eql 102 x y (.slice none 0 0) (.slice none 0 0) = some (.bool true) := zU (by kernel_rfl)
theorem WM (x y : Operand) : zf Tryd.prog .eql 108 x y (.pointer none) (.pointer none) = some (.bool true) := zU (by kernel_rfl)
theorem zcI (x y : Operand) : zf Tryd.prog .eql 146 x y (.slice none 0 0) (.slice none 0 0) = some (.bool true) := zU (by kernel_rfl)
theorem qV (x y : Operand) (a : Addr) : zf Tryd.prog .eql 101 x y (.pointer (some a)) (.pointer none) = some (.bool false) := zox (e := 104) (by kernel_rfl) a
theorem VN (x y : Operand) (a : Addr) (n c : Nat) : zf Tryd.prog .eql 102 x y (.slice (some a) n c) (.slice none 0 0) = some (.bool false) := znX (e := 108) (by kernel_rfl) a n c
theorem Kq (x y : Operand) (a : Addr) : zf Tryd.prog .eql 108 x y (.pointer (some a)) (.pointer none) = some (.bool false) := zox (e := 143) (by kernel_rfl) a
theorem zkt (x y : Operand) (a : Addr) (n c : Nat) : zf Tryd.prog .eql 146 x y (.slice (some a) n c) (.slice none 0 0) = some (.bool false) := znX (e := 107) (by kernel_rfl) a n c
theorem Z3 (x y : Operand) (a0 : Int) (a1 : Int) (a2 : Int) (b0 : Int) (b1 : Int) (b2 : Int) : zf Tryd.prog .eql 84 x y (.agg #[(.int .i64 a0), (.int .i64 a1), (.int .i64 a2)]) (.agg #[(.int .i64 b0), (.int .i64 b1), (.int .i64 b2)]) = some (.bool ((a0 == b0) && ((a1 == b1) && ((a2 == b2))))) := (qK (fs := KS) (r := (a0 == b0) && ((a1 == b1) && ((a2 == b2)))) (by kernel_rfl) (by kernel_rfl) (by kernel_rfl) rfl rfl (Eq.trans (b := (cond (a0 == b0) (cond (a1 == b1) (cond (a2 == b2) (some true) (some false)) (some false)) (some false))) (by kernel_rfl) (by cases (a0 == b0) <;> cases (a1 == b1) <;> cases (a2 == b2) <;> rfl))).1
theorem wE (b off : Nat) : zb Tryd.prog 104 (.pointer (some ⟨b, off, none⟩)) 0 = some (.pointer (some ⟨b, off, none⟩)) := zU (by kernel_rfl)
theorem ZJ (b off : Nat) : zb Tryd.prog 104 (.pointer (some ⟨b, off, none⟩)) 1 = some (.pointer (some ⟨b, off + 1, none⟩)) := zU (by kernel_rfl)
theorem zdT (b off : Nat) : zb Tryd.prog 104 (.pointer (some ⟨b, off, none⟩)) 2 = some (.pointer (some ⟨b, off + 2, none⟩)) := zU (by kernel_rfl)
theorem zi5 (b off : Nat) : zb Tryd.prog 107 (.pointer (some ⟨b, off, none⟩)) 0 = some (.pointer (some ⟨b, off, none⟩)) := zU (by kernel_rfl)
theorem zjq (b off : Nat) : zb Tryd.prog 107 (.pointer (some ⟨b, off, none⟩)) 1 = some (.pointer (some ⟨b, off + 1, none⟩)) := zU (by kernel_rfl)
theorem Zv (b off : Nat) : zb Tryd.prog 107 (.pointer (some ⟨b, off, none⟩)) 2 = some (.pointer (some ⟨b, off + 2, none⟩)) := zU (by kernel_rfl)
theorem yJ (b off : Nat) : zb Tryd.prog 84 (.pointer (some ⟨b, off, none⟩)) 0 = some (.pointer (some ⟨b, off, none⟩)) := zU (by kernel_rfl)
theorem yI (b off : Nat) : zb Tryd.prog 84 (.pointer (some ⟨b, off, none⟩)) 1 = some (.pointer (some ⟨b, off + 1, none⟩)) := zU (by kernel_rfl)
theorem xC (b off : Nat) : zb Tryd.prog 84 (.pointer (some ⟨b, off, none⟩)) 2 = some (.pointer (some ⟨b, off + 2, none⟩)) := zU (by kernel_rfl)
theorem uz (b off : Nat) : zb Tryd.prog 97 (.pointer (some ⟨b, off, none⟩)) 0 = some (.pointer (some ⟨b, off, none⟩)) := zU (by kernel_rfl)
theorem Yy (b off : Nat) : zb Tryd.prog 97 (.pointer (some ⟨b, off, none⟩)) 1 = some (.pointer (some ⟨b, off + 1, none⟩)) := zU (by kernel_rfl)
theorem K9 (b off len c : Nat) (k : IntKind) (i : Int) : zG Tryd.prog 102 (.slice (some ⟨b, off, none⟩) len c) (.int k i) = if 0 <= i /\ i < len then some (.pointer (some ⟨b, off + i.toNat * 1, none⟩)) else none := yr (e := 108) (by kernel_rfl) (by kernel_rfl)
theorem zmc (b off : Nat) (k : IntKind) (i : Int) : zG Tryd.prog 143 (.pointer (some ⟨b, off, none⟩)) (.int k i) = if 0 <= i /\ i < 64 then some (.pointer (some ⟨b, off + i.toNat * 5, none⟩)) else none := Jf (e := 107) (len := 64) (by kernel_rfl) (by kernel_rfl)
theorem kx (b off len c : Nat) (k : IntKind) (i : Int) : zG Tryd.prog 146 (.slice (some ⟨b, off, none⟩) len c) (.int k i) = if 0 <= i /\ i < len then some (.pointer (some ⟨b, off + i.toNat * 5, none⟩)) else none := yr (e := 107) (by kernel_rfl) (by kernel_rfl)
theorem zk6 (b off len c : Nat) (k : IntKind) (i : Int) : zG Tryd.prog 95 (.slice (some ⟨b, off, none⟩) len c) (.int k i) = if 0 <= i /\ i < len then some (.pointer (some ⟨b, off + i.toNat * 1, none⟩)) else none := yr (e := 101) (by kernel_rfl) (by kernel_rfl)
theorem Z7 (r : TypeId) (a : Option Addr) (n c : Nat) (h : za) : zg Tryd.prog .len [146] r [.slice a n c] h = some (.int .i64 n, h) := zU (by kernel_rfl)
theorem Wo (r : TypeId) (a : Option Addr) (n c : Nat) (h : za) : zg Tryd.prog .len [95] r [.slice a n c] h = some (.int .i64 n, h) := zU (by kernel_rfl)
theorem zml (k k2 : IntKind) (l c : Int) (h : za) (h0 : 0 <= l) (h1 : l <= c) (h2 : c < 2 ^ 31) : ZQ Tryd.prog 102 (.int k l) (.int k2 c) h = some (.slice (some ⟨h.next, 0, none⟩) l.toNat (c.toNat + 2), h.push (.cells (vN [(.pointer none)] (c.toNat * 1)) 108)) := zcC (e := 108) (z := (.pointer none)) (n := 1) (bytes := 8) (by kernel_rfl) (by kernel_rfl) (by kernel_rfl) rfl (by decide) (by decide) rfl h0 h1 h2
theorem zkd (b off : Nat) (lo hi : Option Value) (h : za) : asl Tryd.prog 143 (.pointer (some ⟨b, off, none⟩)) lo hi h = (wG hi 64 64).bind fun hh => (wG lo 0 hh).bind fun l => some (.slice (some ⟨b, off + (if 64 = l then 0 else l * 5), none⟩) (hh - l) 0) := zgz (e := 107) (k := 64) (by kernel_rfl) (by kernel_rfl)
end Go.Mem
namespace Go.Mem
open Go.Ai Go.Proofs
set_option linter.unusedVariables false
set_option maxRecDepth 10000
set_option linter.unusedSimpArgs false
structure V where
  k : Int
  n : Int
  b : Int
  deriving DecidableEq
def V.y1 (v : V) : List Value := [.int .i64 v.k, .int .i64 v.n, .int .i64 v.b]
def V.val (v : V) : Value := .agg #[.int .i64 v.k, .int .i64 v.n, .int .i64 v.b]
def v0 : V := ⟨0, 0, 0⟩
structure Cl where
  k : Int
  n : Int
  p : V
  deriving DecidableEq
def Cl.y1 (c : Cl) : List Value := [.int .u8 c.k, .int .u8 c.n, .int .i64 c.p.k, .int .i64 c.p.n, .int .i64 c.p.b]
def unk : Cl := ⟨0, 0, v0⟩
structure MB where
  size : Nat
  uo : Bool
  byte : Nat -> Cl
abbrev MM := List MB
def kR : Option Nat -> Value
  | none => .pointer none
  | some g => .pointer (some ⟨g, 0, none⟩)
def zb6 (h : za) (g : Nat) (f : Nat -> Cl) : Prop := ∃ cs, h.get g = some (.cells cs 143) /\ cs.length = 320 /\ ∀ k j, k < 64 -> j < 5 -> cs[k * 5 + j]? = (f k).y1[j]?
structure jI (h : za) (q : Nat) (gs : List (Option Nat)) (B : MB) (F : Nat -> Prop) : Prop where
  hl : gs.length = (B.size + 63) / 64
  fq : F q
  hq : h.get q = some (.cells (gs.map kR) 108)
  hg : ∀ (j g : Nat), gs[j]? = some (some g) -> F g /\ zb6 h g (fun k => B.byte (64 * j + k))
  hn : ∀ j : Nat, gs[j]? = some none -> ∀ k, k < 64 -> B.byte (64 * j + k) = unk
  hd : ∀ i j g : Nat, gs[i]? = some (some g) -> gs[j]? = some (some g) -> i = j
  ht : ∀ k, 64 * gs.length <= k -> B.byte k = unk
inductive jk (h : za) (pg : Value) (B : MB) (F : Nat -> Prop) : Prop
  | empty (e : pg = .slice none 0 0) (u : ∀ k, B.byte k = unk) : jk h pg B F
  | full (q c : Nat) (gs : List (Option Nat)) (e : pg = .slice (some ⟨q, 0, none⟩) gs.length c) (x : jI h q gs B F) : jk h pg B F
def zhX (h : za) (p : Nat) (B : MB) (F : Nat -> Prop) : Prop := ∃ pg, h.get p = some (.cells [.int .i64 B.size, pg, .bool B.uo] 104) /\ F p /\ jk h pg B F
def live (M : MM) : Nat := (M.filter fun B => !B.uo).length
structure Xz (h : za) (m : Nat) (bs : Value) (ps : List Nat) (fs : Nat -> Nat -> Prop) (M : MM) (F : Nat -> Prop) : Prop where
  hm : h.get m = some (.cells [bs, .int .i64 (live M)] 97)
  fm : F m
  len : ps.length = M.length
  hb : (M = [] /\ bs = .slice none 0 0) \/ ∃ bb c, bs = .slice (some ⟨bb, 0, none⟩) M.length c /\ c ≠ 0 /\ F bb /\ h.get bb = some (.cells (ps.map fun p => .pointer (some ⟨p, 0, none⟩)) 101) /\ ∀ i, ¬ fs i bb
  nm : ∀ i, ¬ fs i m
  blk : ∀ i p B, ps[i]? = some p -> M[i]? = some B -> zhX h p B (fs i)
  dis : ∀ i j b, fs i b -> fs j b -> i = j
  sub : ∀ i b, fs i b -> F b
  ok : ∀ b, F b -> h.ro <= b /\ b < h.next
def zie (h : za) (m : Nat) (M : MM) (F : Nat -> Prop) : Prop := ∃ bs ps fs, Xz h m bs ps fs M F
structure Eff (F : Nat -> Prop) (h h' : za) : Prop where
  next : h.next <= h'.next
  ro : h'.ro = h.ro
  get : ∀ b, ¬ F b -> b < h.next -> h'.get b = h.get b
theorem Eff.refl (F : Nat -> Prop) (h : za) : Eff F h h := ⟨Nat.le_refl _, rfl, fun _ _ _ => rfl⟩
theorem Eff.trans {F : Nat -> Prop} {a b c : za} (x : Eff F a b) (y : Eff F b c) : Eff F a c :=
  ⟨Nat.le_trans x.next y.next, y.ro.trans x.ro, fun i hi hlt => (y.get i hi (Nat.lt_of_lt_of_le hlt x.next)).trans (x.get i hi hlt)⟩
theorem Eff.mono {F G : Nat -> Prop} {a b : za} (x : Eff F a b) (h : ∀ i, F i -> G i) : Eff G a b := ⟨x.next, x.ro, fun i hi hlt => x.get i (fun e => hi (h i e)) hlt⟩
def nof : Nat -> Prop := fun _ => False
theorem Eff.push {F : Nat -> Prop} {h h' : za} (x : Eff F h h') (o : wB) : Eff F h (h'.push o) :=
  ⟨Nat.le_succ_of_le x.next, x.ro, fun b hb hlt => (zu (Nat.lt_of_lt_of_le hlt x.next)).trans (x.get b hb hlt)⟩
theorem Eff.set {F : Nat -> Prop} {h h' : za} (x : Eff F h h') {b : Nat} (hb : F b \/ h.next <= b) (o : Option wB) : Eff F h (h'.set b o) :=
  ⟨x.next, x.ro, fun c hc hlt => (zt (by rcases hb with e | e; (intro q; subst q; exact hc e); omega)).trans (x.get c hc hlt)⟩
section mono
variable {h h' : za}
theorem zb6.zU {g : Nat} {f : Nat -> Cl} (x : zb6 h g f) (e : h'.get g = h.get g) : zb6 h' g f := by obtain ⟨cs, a, b⟩ := x; exact ⟨cs, e.trans a, b⟩
theorem jI.zU {q : Nat} {gs : List (Option Nat)} {B : MB} {F : Nat -> Prop} (x : jI h q gs B F) (e : ∀ b, F b -> h'.get b = h.get b) : jI h' q gs B F :=
  ⟨x.hl, x.fq, (e q x.fq).trans x.hq, fun j g hj => ⟨(x.hg j g hj).1, (x.hg j g hj).2.zU (e g (x.hg j g hj).1)⟩, x.hn, x.hd, x.ht⟩
theorem jI.more {q : Nat} {gs : List (Option Nat)} {B : MB} {F G : Nat -> Prop} (x : jI h q gs B F) (e : ∀ b, F b -> G b) : jI h q gs B G :=
  ⟨x.hl, e q x.fq, x.hq, fun j g hj => ⟨e _ (x.hg j g hj).1, (x.hg j g hj).2⟩, x.hn, x.hd, x.ht⟩
theorem jk.zU {pg : Value} {B : MB} {F : Nat -> Prop} (x : jk h pg B F) (e : ∀ b, F b -> h'.get b = h.get b) : jk h' pg B F := by
  cases x with
  | empty a b => exact .empty a b
  | full q c gs a x => exact .full q c gs a (x.zU e)
theorem jk.more {pg : Value} {B : MB} {F G : Nat -> Prop} (x : jk h pg B F) (e : ∀ b, F b -> G b) : jk h pg B G := by
  cases x with
  | empty a b => exact .empty a b
  | full q c gs a x => exact .full q c gs a (x.more e)
theorem zhX.zU {p : Nat} {B : MB} {F : Nat -> Prop} (x : zhX h p B F) (e : ∀ b, F b -> h'.get b = h.get b) : zhX h' p B F := by
  obtain ⟨pg, a, b, c⟩ := x; exact ⟨pg, (e p b).trans a, b, c.zU e⟩
theorem zhX.more {p : Nat} {B : MB} {F G : Nat -> Prop} (x : zhX h p B F) (e : ∀ b, F b -> G b) : zhX h p B G := by
  obtain ⟨pg, a, b, c⟩ := x; exact ⟨pg, a, e p b, c.more e⟩
theorem Xz.zU {m : Nat} {bs : Value} {ps : List Nat} {fs : Nat -> Nat -> Prop} {M : MM} {F : Nat -> Prop} (x : Xz h m bs ps fs M F) (e : ∀ b, F b -> h'.get b = h.get b) (hn : h.next <= h'.next) (hr : h'.ro = h.ro) : Xz h' m bs ps fs M F :=
  ⟨(e m x.fm).trans x.hm, x.fm, x.len, by
    rcases x.hb with a | ⟨bb, c, a, b, d, g, o⟩
    . exact .inl a
    . exact .inr ⟨bb, c, a, b, d, (e bb d).trans g, o⟩, x.nm, fun i p B hp hB => (x.blk i p B hp hB).zU (fun b hb => e b (x.sub i b hb)), x.dis, x.sub, fun b hb => by
      have := x.ok b hb; rw [hr]; omega⟩
theorem zie.zU {m : Nat} {M : MM} {F : Nat -> Prop} (x : zie h m M F) (e : ∀ b, F b -> h'.get b = h.get b) (hn : h.next <= h'.next) (hr : h'.ro = h.ro) : zie h' m M F := by
  obtain ⟨bs, ps, fs, x⟩ := x; exact ⟨bs, ps, fs, x.zU e hn hr⟩
theorem zie.eff {m : Nat} {M : MM} {F G : Nat -> Prop} (x : zie h m M F) (e : Eff G h h') (hd : ∀ b, F b -> ¬ G b) : zie h' m M F := by
  obtain ⟨bs, ps, fs, x⟩ := x
  exact ⟨bs, ps, fs, x.zU (fun b hb => e.get b (hd b hb) (x.ok b hb).2) e.next e.ro⟩
end mono
theorem zi8 {M : MM} {i : Nat} {B B' : MB} (h : M[i]? = some B) (hf : B'.uo = B.uo) : live (M.set i B') = live M := by
  unfold live
  induction M generalizing i with
  | nil => rfl
  | cons A M ih =>
    cases i with
    | zero => simp at h; subst h; simp [hf, List.filter_cons]; split <;> rfl
    | succ i => simp at h; simp only [List.set_cons_succ, List.filter_cons]; split <;> simp [ih h]
theorem zcU {M : MM} {i : Nat} {B : MB} (h : M[i]? = some B) : M.set i B = M := by
  apply List.ext_getElem?
  intro j
  by_cases e : i = j
  . subst e
    have hlt : i < M.length := by
      rcases Nat.lt_or_ge i M.length with a | a
      . exact a
      . rw [List.getElem?_eq_none a] at h; cases h
    rw [List.getElem?_set_self hlt, h]
  . rw [List.getElem?_set_ne e]
theorem Xz.upd {h h1 : za} {m : Nat} {bs : Value} {ps : List Nat} {fs : Nat -> Nat -> Prop} {M : MM} {F : Nat -> Prop} (x : Xz h m bs ps fs M F) {i q : Nat} {B B' : MB} {F2 : Nat -> Prop} (hq : ps[i]? = some q) (hB : M[i]? = some B) (hf : B'.uo = B.uo)
    (eff : Eff (fs i) h h1) (hb : zhX h1 q B' F2) (h2 : ∀ b, F2 b -> fs i b \/ h.next <= b) (h3 : ∀ b, F2 b -> h1.ro <= b /\ b < h1.next) :
    Xz h1 m bs ps (fun k => if k = i then F2 else fs k) (M.set i B') (fun b => F b \/ F2 b) := by
  have old : ∀ b, F b -> ¬ fs i b -> h1.get b = h.get b := fun b hb hn => eff.get b hn (x.ok b hb).2
  have hnew : ∀ b, h.next <= b -> F b -> False := fun b hl hb => by have := (x.ok b hb).2; omega
  have hlt : i < M.length := by
    rcases Nat.lt_or_ge i M.length with a | a
    . exact a
    . rw [List.getElem?_eq_none a] at hB; cases hB
  refine ⟨by rw [old m x.fm (x.nm i), x.hm, zi8 hB hf], .inl x.fm, by rw [x.len, List.length_set], ?_, ?_, ?_, ?_, ?_, ?_⟩
  . rcases x.hb with ⟨rfl, _⟩ | ⟨bb, c, e1, e2, e3, e4, e5⟩
    . cases hB
    . refine .inr ⟨bb, c, by rw [e1, List.length_set], e2, .inl e3, (old bb e3 (e5 i)).trans e4, fun k hk => ?_⟩
      split at hk
      . rcases h2 bb hk with a | a
        . exact e5 i a
        . exact hnew bb a e3
      . exact e5 k hk
  . intro k hk
    split at hk
    . rcases h2 m hk with a | a
      . exact x.nm i a
      . exact hnew m a x.fm
    . exact x.nm k hk
  . intro k p C hp hC
    by_cases e : k = i
    . subst e
      rw [List.getElem?_set_self hlt] at hC
      cases hC
      rw [hq] at hp; cases hp
      simp only [if_pos]
      exact hb
    . rw [List.getElem?_set_ne (fun q => e q.symm)] at hC
      simp only [if_neg e]
      exact (x.blk k p C hp hC).zU (fun b hb => old b (x.sub k b hb) (fun hc => e (x.dis k i b hb hc)))
  . intro a b z ha hz
    split at ha <;> split at hz
    . rename_i e1 e2; rw [e1, e2]
    . rename_i e1 e2
      rcases h2 z ha with c | c
      . exact absurd (x.dis b i z hz c) e2
      . exact (hnew z c (x.sub b z hz)).elim
    . rename_i e1 e2
      rcases h2 z hz with c | c
      . exact absurd (x.dis a i z ha c) e1
      . exact (hnew z c (x.sub a z ha)).elim
    . exact x.dis a b z ha hz
  . intro k b hk
    split at hk
    . exact .inr hk
    . exact .inl (x.sub k b hk)
  . intro b hb
    have n1 := eff.next
    have n2 := eff.ro
    rcases hb with hb | hb
    . have := x.ok b hb; omega
    . exact h3 b hb
def Uv (v : V) : Bool := if v.k = 0 then (v.n == 0 && v.b == 0) else if v.k = 1 then v.b == 0 else v.k == 2 && decide (1 <= v.b)
theorem JD (v : V) (h : za) : xG Tryd.prog 77 [v.val] h (.bool (Uv v)) := by
  refine xG.of rfl ?_
  obtain ⟨k, n, b⟩ := v
  apply zhz
  unfold zjI V.val Uv
  by_cases h0 : k = 0
  . subst h0
    simp -implicitDefEqProofs only [zk, zv, zH, yh, zF, x8, ju, zq, zA, zQ, nth, nw, Value.cells, BK, List.getElem?_cons_zero, List.getElem?_cons_succ, List.toList_toArray, Nat.zero_add, List.length_cons, List.length_nil, List.drop_zero, List.take_succ_cons, List.take_nil, if_true, if_false, Bool.true_and, Nat.reduceAdd, Int.reduceEq, Nat.le_refl, x6, xB, kq, zn, ldn, ld1, not_false_eq_true, beq_self_eq_true, yc, zo, yg, Z3, yJ, xC]
    try rfl
  . by_cases h1 : k = 1
    . subst h1
      simp -implicitDefEqProofs only [zk, zv, zH, yh, zF, x8, ju, zq, zA, zQ, nw, Value.cells, BK, List.getElem?_cons_zero, List.getElem?_cons_succ, List.toList_toArray, Nat.zero_add, List.length_cons, List.length_nil, List.drop_zero, List.take_succ_cons, List.take_nil, if_true, if_false, Nat.reduceAdd, Nat.le_refl, x6, xB, kq, zn, ldn, ld1, not_false_eq_true, yc, zo, yg, Z3, yJ, xC, h0]
      try rfl
    . by_cases h2 : k = 2
      . subst h2
        simp -implicitDefEqProofs only [zk, zv, zH, zF, v9, yD, x8, zeU, ju, zq, zA, zQ, nth, nw, Value.cells, BK, List.getElem?_cons_zero, List.getElem?_cons_succ, List.toList_toArray, Nat.zero_add, List.length_cons, List.length_nil, List.drop_zero, List.take_succ_cons, List.take_nil, if_true, if_false, Bool.true_and, Nat.reduceAdd, Nat.le_refl, x6, xB, kq, zn, ldn, ld1, not_false_eq_true, beq_self_eq_true, yc, zo, yg, Z3, yJ, xC, h0, h1]
        try rfl
      . simp -implicitDefEqProofs only [zk, zv, zH, zF, uD, zO, x8, ju, zq, zA, zQ, nth, nw, Value.cells, BK, List.getElem?_cons_zero, List.getElem?_cons_succ, List.toList_toArray, Nat.zero_add, List.length_cons, List.length_nil, List.drop_zero, List.take_succ_cons, List.take_nil, if_true, if_false, Nat.reduceAdd, Nat.le_refl, xB, kq, zn, ldn, ld1, not_false_eq_true, yc, zo, yg, Z3, yJ, xC, h0, h1, h2]
        simp [h2]
theorem YZ (n : Int) (h : za) : DC Tryd.prog 32 [.int .i64 n] h (fun v h1 => v = V.val ⟨1, n, 0⟩ /\ Eff nof h h1) := by
  apply Yv; intro hwf; have hro := hwf.2
  apply zk1
  unfold zoy V.val
  simp -implicitDefEqProofs only [zk, zv, zH, x8, zA, zQ, x5, nw, Value.cells, List.toList_toArray, Nat.zero_add, List.length_cons, List.length_nil, List.all_cons, List.all_nil, ze, List.set_cons_zero, List.set_cons_succ, List.drop_zero, List.take_succ_cons, List.take_nil, if_true, Bool.and_true, Nat.reduceAdd, and_true, true_and, Nat.le_refl, xR, zn, zz, sto, ldn, zo, zC, yZ, zgM, hro]
  exact ((Eff.refl _ _).push _).set (.inr (Nat.le_refl _)) _
end Go.Mem
namespace Go.Mem
open Go.Ai Go.Proofs
set_option linter.unusedVariables false
set_option maxRecDepth 10000
set_option linter.unusedSimpArgs false
theorem w64 {n : Int} (h1 : -9223372036854775808 <= n) (h2 : n < 9223372036854775808) : IntKind.wrap .i64 n = n := by
  simp only [IntKind.wrap, IntKind.bits, IntKind.signed]; simp; omega
def idx (M : MM) (n : Int) : Option Nat := if 1 <= n /\ n <= M.length then (match M[n.toNat - 1]? with
  | some B => if B.uo = true then none else some (n.toNat - 1)
  | none => none) else none
theorem KQ {M : MM} {n : Int} {i : Nat} (h : idx M n = some i) : n = i + 1 /\ ∃ B, M[i]? = some B /\ B.uo = false := by
  unfold idx at h
  split at h
  case isFalse => cases h
  rename_i hn
  split at h
  case h_2 => cases h
  rename_i B hB
  split at h
  case isTrue => cases h
  rename_i hf
  simp only [Option.some.injEq] at h
  subst h
  exact ⟨by omega, B, hB, by simpa using hf⟩
theorem zlw {ps : List Nat} {i p : Nat} (h : ps[i]? = some p) : (ps.map fun p => Value.pointer (some ⟨p, 0, none⟩))[i]? = some (.pointer (some ⟨p, 0, none⟩)) := by simp [h]
theorem ziI {h : za} {m : Nat} {bs : Value} {ps : List Nat} {fs : Nat -> Nat -> Prop} {M : MM} {F : Nat -> Prop} (x : Xz h m bs ps fs M F) {n : Int} (hn : n < 9223372036854775808) :
    DC Tryd.prog 44 [.pointer (some ⟨m, 0, none⟩), .int .i64 n] h (fun v h1 => h1 = h /\ v = kR ((idx M n).bind fun i => ps[i]?)) := by
  apply zlc
  unfold zoF
  have hm := x.hm
  by_cases h1 : n < 1
  . have e : idx M n = none := by unfold idx; rw [if_neg (by omega)]
    simp -implicitDefEqProofs only [zk, zv, zH, yh, Xx, yD, yP, x8, wX, jH, zq, zA, yp, Option.bind_none, and_true, x6, ld1, WI, uz, h1, e, Option.bind_none, kR]
  . rcases x.hb with ⟨rfl, rfl⟩ | ⟨bb, c, rfl, hc, fb, hbb, _⟩
    . have e : idx ([] : MM) n = none := by unfold idx; rw [if_neg (by simp; omega)]
      have h2 : ((0 : Nat) : Int) < n := by omega
      simp -implicitDefEqProofs only [zk, yf, zv, zH, yh, vz, Xx, yD, zO, yP, x8, wX, ZN, jH, zq, zA, yp, zL, Option.bind_none, List.getElem?_cons_zero, and_true, x6, xB, ld1, not_false_eq_true, WI, uz, Wo, h1, hm, h2, e, Option.bind_none, kR]
    . by_cases h2 : (M.length : Int) < n
      . have e : idx M n = none := by unfold idx; rw [if_neg (by omega)]
        simp -implicitDefEqProofs only [zk, yf, zv, zH, yh, vz, Xx, yD, zO, yP, x8, wX, ZN, jH, zq, zA, yp, zL, Option.bind_none, List.getElem?_cons_zero, and_true, x6, xB, ld1, not_false_eq_true, WI, uz, Wo, h1, hm, h2, e, Option.bind_none, kR]
      . have hi : n.toNat - 1 < M.length := by omega
        obtain ⟨p, hp⟩ : ∃ p, ps[n.toNat - 1]? = some p := ⟨_, List.getElem?_eq_getElem (by rw [x.len]; exact hi)⟩
        have hB : M[n.toNat - 1]? = some M[n.toNat - 1] := List.getElem?_eq_getElem hi
        generalize M[n.toNat - 1] = B at hB
        obtain ⟨pg, hbk, _, _⟩ := x.blk _ p B hp hB
        have hw : IntKind.wrap .i64 (n - 1) = n - 1 := w64 (by omega) (by omega)
        have ht : (n - 1).toNat * 1 = n.toNat - 1 := by omega
        have hc1 : 0 <= n - 1 /\ n - 1 < (M.length : Int) := by omega
        have hpp := zlw hp
        cases hf : B.uo with
        | true =>
          have e : idx M n = none := by unfold idx; rw [if_pos (by omega), hB]; simp [hf]
          simp -implicitDefEqProofs only [zk, yf, zv, zH, yh, vz, zO, yP, x8, wX, ZN, jH, zq, zA, yp, zL, Option.bind_none, List.getElem?_cons_zero, List.getElem?_cons_succ, Nat.zero_add, if_true, and_true, xB, ld1, not_false_eq_true, zjX, UJ, WI, zdT, uz, zk6, Wo, h1, hm, h2, hw, ht, hc1, hbb, hpp, hbk, hf, e, Option.bind_none, kR]
        | false =>
          have e : idx M n = some (n.toNat - 1) := by unfold idx; rw [if_pos (by omega), hB]; simp [hf]
          simp -implicitDefEqProofs only [zk, yf, zv, zH, zF, vz, zO, yP, x8, wX, ZN, jH, zq, zA, yp, zL, Option.bind_some, List.getElem?_cons_zero, List.getElem?_cons_succ, Nat.zero_add, if_true, and_true, true_and, xB, ld1, not_false_eq_true, zjX, UJ, WI, zdT, uz, zk6, Wo, h1, hm, h2, hw, ht, hc1, hbb, hpp, hbk, hf, e, Option.bind_some, hp, kR]
end Go.Mem
namespace Go.Mem
open Go.Ai Go.Proofs
set_option linter.unusedVariables false
set_option maxRecDepth 10000
set_option linter.unusedSimpArgs false
def zp : List Value := (List.replicate 64 [Value.int .u8 0, .int .u8 0, .int .i64 0, .int .i64 0, .int .i64 0]).flatten
theorem zj4 : yj Tryd.prog 143 [] = some (.agg zp.toArray) := zU (by kernel_rfl)
theorem zjN : zp.length = 320 := by kernel_rfl
theorem zm7 : ∀ k j, k < 64 -> j < 5 -> zp[k * 5 + j]? = unk.y1[j]? := by
  have h : (List.range 64).all (fun k => (List.range 5).all fun j => decide (k * 5 + j < zp.length)) = true := by decide +kernel
  have key : ∀ k : Fin 64, ∀ j : Fin 5, zp[k.1 * 5 + j.1]? = unk.y1[j.1]? := by
    intro k j
    have hl : k.1 * 5 + j.1 < zp.length := by rw [zjN]; omega
    have e1 : zp[k.1 * 5 + j.1]? = ([Value.int .u8 0, .int .u8 0, .int .i64 0, .int .i64 0, .int .i64 0] : List Value)[j.1]? := by
      have aux : ∀ (n : Nat) (l : List Value), l.length = 5 -> ∀ k j, k < n -> j < 5 -> ((List.replicate n l).flatten)[k * 5 + j]? = l[j]? := by
        intro n l hl
        induction n with
        | zero => intro k j hk; omega
        | succ n ih =>
          intro k j hk hj
          rw [List.replicate_succ, List.flatten_cons]
          cases k with
          | zero => rw [List.getElem?_append_left (by omega)]; simp
          | succ k => rw [List.getElem?_append_right (by omega), hl, show (k + 1) * 5 + j - 5 = k * 5 + j by omega]; exact ih k j (by omega) hj
      exact aux 64 _ rfl k.1 j.1 k.2 j.2
    rw [e1]; rfl
  exact fun k j hk hj => key ⟨k, hk⟩ ⟨j, hj⟩
theorem zm4 (v : Value) (n : Nat) : vN [v] (n * 1) = List.replicate n v := by
  simp only [vN, Nat.mul_one]
  apply List.ext_getElem?
  intro i
  by_cases h : i < n
  . simp [h, Nat.mod_one]
  . simp [h]
theorem KE {n j g : Nat} (h : (List.replicate n (none : Option Nat))[j]? = some (some g)) : False := by
  rw [List.getElem?_replicate] at h; split at h <;> cases h
theorem zdK {gs : List (Option Nat)} {j : Nat} {o : Option Nat} (h : gs[j]? = some o) : (gs.map kR)[j]? = some (kR o) := by simp [h]
theorem zdf (gs : List (Option Nat)) (j g : Nat) : (gs.map kR).set j (.pointer (some ⟨g, 0, none⟩)) = (gs.set j (some g)).map kR := by rw [List.map_set]; rfl
theorem zfp {h h1 : za} {q j g : Nat} {gs : List (Option Nat)} {B : MB} {F : Nat -> Prop} (hl : gs.length = (B.size + 63) / 64) (hg : ∀ (j g : Nat), gs[j]? = some (some g) -> F g /\ zb6 h g (fun k => B.byte (64 * j + k))) (hn : ∀ j : Nat, gs[j]? = some none -> ∀ k, k < 64 -> B.byte (64 * j + k) = unk)
    (hd : ∀ i j g : Nat, gs[i]? = some (some g) -> gs[j]? = some (some g) -> i = j) (ht : ∀ k, 64 * gs.length <= k -> B.byte k = unk) (hj : gs[j]? = some none) (hq : h1.get q = some (.cells ((gs.set j (some g)).map kR) 108)) (fq : F q)
    (hold : ∀ (i g : Nat), gs[i]? = some (some g) -> h1.get g = h.get g) (hnew : h1.get g = some (.cells zp 143)) (fg : ¬ F g) : jI h1 q (gs.set j (some g)) B (fun b => F b \/ b = g) := by
  have hlt : j < gs.length := by
    rcases Nat.lt_or_ge j gs.length with a | a
    . exact a
    . rw [List.getElem?_eq_none a] at hj; cases hj
  have hs : ∀ i o, (gs.set j (some g))[i]? = some o -> (i = j /\ o = some g) \/ (i ≠ j /\ gs[i]? = some o) := by
    intro i o hi
    by_cases e : i = j
    . subst e; rw [List.getElem?_set_self hlt] at hi; exact .inl ⟨rfl, (Option.some.inj hi).symm⟩
    . rw [List.getElem?_set_ne (fun q => e q.symm)] at hi; exact .inr ⟨e, hi⟩
  refine ⟨by simp [hl], .inl fq, hq, fun i g' hi => ?_, fun i hi => ?_, fun a b g' ha hb => ?_, by simpa using ht⟩
  . rcases hs i _ hi with ⟨rfl, e⟩ | ⟨_, e⟩
    . cases e
      refine ⟨.inr rfl, zp, hnew, zjN, fun k j' hk hj' => ?_⟩
      rw [zm7 k j' hk hj']; show _ = (B.byte (64 * i + k)).y1[j']?; rw [hn i hj k hk]
    . exact ⟨.inl (hg i g' e).1, (hg i g' e).2.zU (hold i g' e)⟩
  . rcases hs i _ hi with ⟨_, e⟩ | ⟨_, e⟩
    . cases e
    . exact hn i e
  . rcases hs a _ ha with ⟨e1, e2⟩ | ⟨_, e2⟩ <;> rcases hs b _ hb with ⟨e3, e4⟩ | ⟨_, e4⟩
    . rw [e1, e3]
    . cases e2; exact absurd (hg _ _ e4).1 fg
    . cases e4; exact absurd (hg _ _ e2).1 fg
    . exact hd a b g' e2 e4
section
variable {h : za} {p : Nat} {B : MB} {F : Nat -> Prop} {pg : Value} {a : Int}
theorem zlV (h0 : 0 <= a) (h1 : a < 4611686018427387904) : IntKind.wrap .i64 (a.tdiv 64) = ((a.toNat / 64 : Nat) : Int) := by
  rw [Int.tdiv_eq_ediv_of_nonneg h0, w64 (by omega) (by omega)]; omega
def znS (h : za) (B : MB) (F : Nat -> Prop) (a : Int) (v : Value) (h1 : za) : Prop :=
  h1 = h /\ ((v = kR none /\ ∀ k, k < 64 -> B.byte (64 * (a.toNat / 64) + k) = unk) \/ ∃ g, v = kR (some g) /\ F g /\ zb6 h g (fun k => B.byte (64 * (a.toNat / 64) + k)))
theorem zlX (hb : h.get p = some (.cells [.int .i64 B.size, pg, .bool B.uo] 104)) (x : jk h pg B F) (h0 : 0 <= a) (h1 : a < B.size) (hz : B.size < 4611686018427387904) :
    DC Tryd.prog 45 [.pointer (some ⟨p, 0, none⟩), .int .i64 a, .bool false] h (znS h B F a) := by
  apply JS
  unfold zfG
  cases x with
  | empty e u =>
    subst e
    simp -implicitDefEqProofs only [zk, zv, zH, yh, zF, v9, yD, yP, x8, qw, jH, za6, zq, zA, yp, zL, nw, Value.cells, List.getElem?_cons_zero, List.getElem?_cons_succ, Nat.zero_add, Int.reduceEq, ld1, not_false_eq_true, Qf, yc, zdM, wE, ZJ, hb]
    exact ⟨rfl, .inl ⟨rfl, fun k _ => u _⟩⟩
  | full q c gs e x =>
    obtain ⟨hl, fq, hq, hg, hn, hd, ht⟩ := x
    subst e
    have hj : a.toNat / 64 < gs.length := by rw [hl]; omega
    have hw := zlV h0 (by omega)
    obtain ⟨o, ho⟩ : ∃ o, gs[a.toNat / 64]? = some o := ⟨_, List.getElem?_eq_getElem hj⟩
    have hgg := zdK ho
    have hc1 : 0 <= ((a.toNat / 64 : Nat) : Int) /\ ((a.toNat / 64 : Nat) : Int) < (gs.length : Int) := by omega
    cases o with
    | none =>
      simp -implicitDefEqProofs only [zk, zv, zH, zF, v9, uD, yD, zO, yP, x8, za6, zq, zA, yp, zL, Wf, nw, Value.cells, List.getElem?_cons_zero, List.getElem?_cons_succ, Nat.zero_add, List.length_cons, List.length_nil, List.all_cons, List.all_nil, ze, if_true, Bool.and_true, Int.reduceEq, and_true, xR, sto, ld1, not_false_eq_true, Qf, zba, yc, zg8, WM, VN, wE, ZJ, K9, hb, hq, hw, hc1, Int.toNat_natCast, Nat.mul_one, hgg, kR]
      exact ⟨rfl, .inl ⟨rfl, fun k hk => hn _ ho k hk⟩⟩
    | some g =>
      simp -implicitDefEqProofs only [zk, zv, zH, zF, uD, zO, yP, x8, za6, zq, zA, yp, zL, nw, Value.cells, List.getElem?_cons_zero, List.getElem?_cons_succ, Nat.zero_add, if_true, Int.reduceEq, and_true, ld1, not_false_eq_true, Qf, zba, yc, VN, Kq, wE, ZJ, K9, hb, hq, hw, hc1, Int.toNat_natCast, Nat.mul_one, hgg, kR]
      exact ⟨rfl, .inr ⟨g, rfl, hg _ g ho⟩⟩
def zg6 (h : za) (p : Nat) (B : MB) (F : Nat -> Prop) (a : Int) (v : Value) (h1 : za) : Prop :=
  ∃ g q c gs F', v = kR (some g) /\ h1.get p = some (.cells [.int .i64 B.size, .slice (some ⟨q, 0, none⟩) gs.length c, .bool B.uo] 104) /\ jI h1 q gs B F' /\ gs[a.toNat / 64]? = some (some g) /\ F' p /\ Eff F h h1 /\ (∀ b, F' b -> F b \/ h.next <= b) /\ ∀ b, F' b -> h1.ro <= b /\ b < h1.next
theorem zg6.mk {h h1 : za} {p q c g : Nat} {gs : List (Option Nat)} {B : MB} {F : Nat -> Prop} {a : Int} (fp : F p) (ok : ∀ b, F b -> h.ro <= b /\ b < h.next) (hl : gs.length = (B.size + 63) / 64) (hj : gs[a.toNat / 64]? = some none) (fq : F q \/ h.next <= q)
    (hg : ∀ (j g : Nat), gs[j]? = some (some g) -> F g /\ zb6 h g (fun k => B.byte (64 * j + k))) (hn : ∀ j : Nat, gs[j]? = some none -> ∀ k, k < 64 -> B.byte (64 * j + k) = unk)
    (hd : ∀ i j g : Nat, gs[i]? = some (some g) -> gs[j]? = some (some g) -> i = j) (ht : ∀ k, 64 * gs.length <= k -> B.byte k = unk)
    (eff : Eff F h h1) (hqn : q < h1.next) (hgn : h.next <= g /\ g < h1.next) (hro : h.ro <= h.next)
    (hp1 : h1.get p = some (.cells [.int .i64 B.size, .slice (some ⟨q, 0, none⟩) gs.length c, .bool B.uo] 104)) (hq1 : h1.get q = some (.cells ((gs.set (a.toNat / 64) (some g)).map kR) 108)) (hg1 : h1.get g = some (.cells zp 143))
    (hold : ∀ (i g : Nat), gs[i]? = some (some g) -> h1.get g = h.get g) : zg6 h p B F a (.pointer (some ⟨g, 0, none⟩)) h1 := by
  have P := zfp (F := fun b => F b \/ b = q) (h1 := h1) hl (fun j g hj => ⟨.inl (hg j g hj).1, (hg j g hj).2⟩) hn hd ht hj hq1 (.inr rfl) hold hg1 (by
    rintro (e | e)
    . have := ok _ e; omega
    . subst e; rw [hq1] at hg1; simp at hg1)
  have hlt : a.toNat / 64 < gs.length := by
    rcases Nat.lt_or_ge (a.toNat / 64) gs.length with e | e
    . exact e
    . rw [List.getElem?_eq_none e] at hj; cases hj
  refine ⟨g, q, c, _, _, rfl, by rw [List.length_set]; exact hp1, P, List.getElem?_set_self hlt, .inl (.inl fp), eff, fun b hb => ?_, fun b hb => ?_⟩
  . rcases hb with (hb | hb) | hb
    . exact .inl hb
    . subst hb; exact fq
    . subst hb; exact .inr hgn.1
  . have n1 := eff.next
    have n2 := eff.ro
    rcases hb with (hb | hb) | hb
    . have := ok b hb; omega
    . subst hb
      rcases fq with fq | fq
      . have := ok b fq; omega
      . omega
    . subst hb; omega
theorem zj8 (hb : h.get p = some (.cells [.int .i64 B.size, pg, .bool B.uo] 104)) (x : jk h pg B F) (fp : F p) (ok : ∀ b, F b -> h.ro <= b /\ b < h.next) (hro : h.ro <= h.next) (h0 : 0 <= a) (h1 : a < B.size) (hz : B.size < 2147483648) :
    DC Tryd.prog 45 [.pointer (some ⟨p, 0, none⟩), .int .i64 a, .bool true] h (zg6 h p B F a) := by
  apply JS
  unfold zfG
  have hw := zlV h0 (by omega)
  have okp := ok p fp
  have hpn : ¬ p = h.next := by omega
  have hnp : ¬ h.next = p := by omega
  have hpn1 : ¬ p = h.next + 1 := by omega
  cases x with
  | empty e u =>
    subst e
    have hn1 : IntKind.wrap .i64 ((B.size : Int) + 64) = (B.size : Int) + 64 := w64 (by omega) (by omega)
    have hn2 : IntKind.wrap .i64 ((B.size : Int) + 64 - 1) = ((B.size + 63 : Nat) : Int) := by rw [w64 (by omega) (by omega)]; omega
    have hn3 : IntKind.wrap .i64 (((B.size + 63 : Nat) : Int).tdiv 64) = (((B.size + 63) / 64 : Nat) : Int) := by
      rw [Int.tdiv_eq_ediv_of_nonneg (by omega), w64 (by omega) (by omega)]; omega
    have hm := zml .i64 .i64 (((B.size + 63) / 64 : Nat) : Int) (((B.size + 63) / 64 : Nat) : Int) h (by omega) (by omega) (by omega)
    have hj : a.toNat / 64 < (B.size + 63) / 64 := by omega
    have hj1 : a.toNat / 64 + 1 <= (B.size + 63) / 64 := hj
    have hc1 : 0 <= ((a.toNat / 64 : Nat) : Int) /\ ((a.toNat / 64 : Nat) : Int) < (((B.size + 63) / 64 : Nat) : Int) := by omega
    have hrep : (List.replicate ((B.size + 63) / 64) (Value.pointer none))[a.toNat / 64]? = some (.pointer none) := by simp [hj]
    have hset : ∀ v : Value, ((List.replicate ((B.size + 63) / 64) (Value.pointer none)).set (a.toNat / 64) v)[a.toNat / 64]? = some v := fun v => List.getElem?_set_self (by simpa using hj)
    simp only [Int.toNat_natCast, zm4] at hm
    simp -implicitDefEqProofs only [zk, yf, zv, zH, yh, zF, v9, yD, yP, x8, qw, jH, za6, zq, zA, yp, zL, zQ, Wf, Zj, nw, Value.cells, List.getElem?_cons_zero, List.getElem?_cons_succ, List.toList_toArray, Nat.zero_add, List.length_cons, List.length_nil, List.length_replicate, List.all_cons, List.all_nil, ze, List.set_cons_zero, List.set_cons_succ, if_true, Bool.and_true, Nat.reduceAdd, Nat.reduceLeDiff, Int.reduceEq, and_true, zM, wa, xR, X3, zn, zu, zz, zt, Ky, Qe, sto, ld1, not_false_eq_true, Qf, zba, yc, zmV, zg8, zdM, WM, VN, wE, ZJ, K9, hb, hn1, hn2, hn3, hm, okp, hpn, hnp, hw, hc1, Int.toNat_natCast, Nat.mul_one, hrep, zj4, hj1, hro, hset]
    have hnn : ¬ h.next + 1 = h.next := by omega
    have hrl : (List.replicate ((B.size + 63) / 64) (none : Option Nat)).length = (B.size + 63) / 64 := List.length_replicate
    refine zg6.mk (q := h.next) (c := (B.size + 63) / 64 + 2) (gs := List.replicate ((B.size + 63) / 64) none) fp ok hrl (by simp [hj]) (.inr (Nat.le_refl _)) (fun j g hj => (KE hj).elim) (fun _ _ k _ => u _) (fun i j g hi => (KE hi).elim) (fun k _ => u k)
      ?_ ?_ ?_ hro ?_ ?_ ?_ (fun i g hi => (KE hi).elim)
    . exact ((((Eff.refl F h).push _).set (.inl fp) _).push _).set (.inr (Nat.le_refl _)) _
    . simp only [wa, zM]; omega
    . simp only [wa, zM]; omega
    . rw [hrl]; simp -implicitDefEqProofs only [zM, wa, zu, zz, zt, Qe, not_false_eq_true, hpn, okp]
    . simp -implicitDefEqProofs only [zz]; rw [<- zdf, List.map_replicate]; rfl
    . simp -implicitDefEqProofs only [zM, wa, zn, zt, not_false_eq_true, hnn]
  | full q c gs e x =>
    obtain ⟨hl, fq, hq, hg, hn, hd, ht⟩ := x
    subst e
    have hj : a.toNat / 64 < gs.length := by rw [hl]; omega
    have hj1 : a.toNat / 64 + 1 <= gs.length := hj
    obtain ⟨o, ho⟩ : ∃ o, gs[a.toNat / 64]? = some o := ⟨_, List.getElem?_eq_getElem hj⟩
    have hgg := zdK ho
    have hc1 : 0 <= ((a.toNat / 64 : Nat) : Int) /\ ((a.toNat / 64 : Nat) : Int) < (gs.length : Int) := by omega
    have okq := ok q fq
    cases o with
    | some g =>
      simp -implicitDefEqProofs only [zk, zv, zH, zF, uD, zO, yP, x8, za6, zq, zA, yp, zL, nw, Value.cells, List.getElem?_cons_zero, List.getElem?_cons_succ, Nat.zero_add, if_true, Int.reduceEq, and_true, ld1, not_false_eq_true, Qf, zba, yc, VN, Kq, wE, ZJ, K9, hb, hq, hw, hc1, Int.toNat_natCast, Nat.mul_one, hgg, kR]
      exact ⟨g, q, c, gs, F, rfl, hb, ⟨hl, fq, hq, hg, hn, hd, ht⟩, ho, fp, .refl _ _, fun b hb => .inl hb, ok⟩
    | none =>
      have hqn : ¬ q = h.next := by omega
      have hnq : ¬ h.next = q := by omega
      have hpq : ¬ p = q := by intro e; subst e; rw [hb] at hq; simp at hq
      have hset : ∀ v : Value, ((gs.map kR).set (a.toNat / 64) v)[a.toNat / 64]? = some v := fun v => List.getElem?_set_self (by simpa using hj)
      simp -implicitDefEqProofs only [zk, zv, zH, yh, zF, v9, uD, yD, zO, yP, x8, za6, zq, zA, yp, zL, zQ, Wf, nw, Value.cells, List.getElem?_cons_zero, List.getElem?_cons_succ, List.toList_toArray, Nat.zero_add, List.length_cons, List.length_nil, List.length_map, List.all_cons, List.all_nil, ze, if_true, Bool.and_true, Int.reduceEq, and_true, xR, zu, zz, zt, sto, ld1, not_false_eq_true, Qf, zba, yc, zg8, WM, VN, wE, ZJ, K9, hb, hq, hw, hc1, Int.toNat_natCast, Nat.mul_one, hgg, kR, zj4, okq, okp, hj1, hset, hpq]
      refine zg6.mk (q := q) (c := c) (gs := gs) fp ok hl ho (.inl fq) hg hn hd ht ?_ ?_ ?_ hro ?_ ?_ ?_ (fun i g hi => ?_)
      . exact ((Eff.refl F h).push _).set (.inl fq) _
      . simp only [wa, zM]; omega
      . simp only [wa, zM]; omega
      . simp -implicitDefEqProofs only [zu, zt, not_false_eq_true, hpq, okp, hb]
      . simp -implicitDefEqProofs only [zz]; rw [<- zdf]
      . simp -implicitDefEqProofs only [zn, zt, not_false_eq_true, hnq]
      . have hgq : ¬ g = q := by
          intro e; subst e
          obtain ⟨cs, e1, _⟩ := (hg i g hi).2
          rw [hq] at e1; simp at e1
        have := (ok g (hg i g hi).1).2
        simp -implicitDefEqProofs only [zu, zt, not_false_eq_true, hgq, this]
end
end Go.Mem
namespace Go.Mem
open Go.Ai Go.Proofs
set_option linter.unusedVariables false
set_option maxRecDepth 10000
set_option linter.unusedSimpArgs false
def right (M : MM) (c : Int) (p : V) : Option Nat :=
  if p.k = 2 /\ (c = 1 \/ c = 4 \/ c = 8) then (match idx M p.b with
    | some i => (match M[i]? with
      | some B => if 0 <= p.n /\ p.n <= B.size - c /\ p.n.tmod c = 0 then some i else none
      | none => none)
    | none => none) else none
theorem QQ {M : MM} {c : Int} {p : V} {i : Nat} (h : right M c p = some i) : p.k = 2 /\ (c = 1 \/ c = 4 \/ c = 8) /\ idx M p.b = some i /\ ∃ B, M[i]? = some B /\ 0 <= p.n /\ p.n <= B.size - c /\ p.n.tmod c = 0 := by
  unfold right at h
  split at h
  case isFalse => cases h
  rename_i h1
  split at h
  case h_2 => cases h
  rename_i j hj
  split at h
  case h_2 => cases h
  rename_i B hB
  split at h
  case isFalse => cases h
  rename_i h2
  simp only [Option.some.injEq] at h
  subst h
  exact ⟨h1.1, h1.2, hj, B, hB, h2⟩
theorem ZL {M : MM} {c : Int} {p : V} {i : Nat} {B : MB} (hi : idx M p.b = some i) (hB : M[i]? = some B) (h : ¬ (0 <= p.n /\ p.n <= B.size - c /\ p.n.tmod c = 0)) : right M c p = none := by
  unfold right
  split
  . simp only [hi, hB]; exact if_neg h
  . rfl
theorem zab {M : MM} {c : Int} {p : V} {i : Nat} {B : MB} (hk : p.k = 2) (hc : c = 1 \/ c = 4 \/ c = 8) (hi : idx M p.b = some i) (hB : M[i]? = some B) (h : 0 <= p.n /\ p.n <= B.size - c /\ p.n.tmod c = 0) : right M c p = some i := by
  unfold right
  rw [if_pos ⟨hk, hc⟩]
  simp only [hi, hB]; exact if_pos h
def zkk (h : za) (f : Nat -> Cl) (n c : Nat) (F : Nat -> Prop) (v : Value) : Prop :=
  (v = .slice none 0 0 /\ ∀ k, k < c -> f (n + k) = unk) \/ ∃ g off cs cp, v = .slice (some ⟨g, off, none⟩) c cp /\ F g /\ h.get g = some (.cells cs 143) /\ off + c * 5 <= cs.length /\ off = n % 64 * 5 /\ ∀ k j, k < c -> j < 5 -> cs[off + k * 5 + j]? = (f (n + k)).y1[j]?
def zo3 (h : za) (M : MM) (F : Nat -> Prop) (c : Int) (p : V) (v : Value) (h1 : za) : Prop :=
  Eff nof h h1 /\ match right M c p with
    | none => v = .tuple #[.slice none 0 0, .bool false]
    | some i => ∃ s, v = .tuple #[s, .bool true] /\ ∀ B, M[i]? = some B -> zkk h1 B.byte p.n.toNat c.toNat F s
def ZR (n : Int) : Prop := -9223372036854775808 <= n /\ n < 9223372036854775808
def V.ok (v : V) : Prop := ZR v.k /\ ZR v.n /\ ZR v.b
def small (M : MM) : Prop := ∀ (i : Nat) (B : MB), M[i]? = some B -> B.size < 2147483648
section
variable {h : za} {m : Nat} {bs : Value} {ps : List Nat} {fs : Nat -> Nat -> Prop} {M : MM} {F : Nat -> Prop} {c : Int} {p : V}
theorem ziG (x : Xz h m bs ps fs M F) (hs : small M) (hc : ZR c) (hp : p.ok) :
    DC Tryd.prog 76 [.pointer (some ⟨m, 0, none⟩), .int .i64 c, p.val, .bool false] h (zo3 h M F c p) := by
  obtain ⟨pk, pn, pb⟩ := p
  obtain ⟨hp1, hp2, hp3⟩ := hp
  unfold ZR at hc hp1 hp2 hp3
  simp only at hp1 hp2 hp3
  apply VL
  unfold KP V.val
  have x1 : Xz (h.push (.cells [.int .i64 pk, .int .i64 pn, .int .i64 pb] 84)) m bs ps fs M F := x.zU (fun b hb => zu (x.ok b hb).2) (Nat.le_succ _) rfl
  have eff : Eff nof h (h.push (.cells [.int .i64 pk, .int .i64 pn, .int .i64 pb] 84)) := (Eff.refl _ _).push _
  by_cases hk : pk = 2
  case neg =>
    have e : right M c ⟨pk, pn, pb⟩ = none := by unfold right; rw [if_neg (fun q => hk q.1)]
    simp -implicitDefEqProofs only [zk, zv, zH, yh, Xx, zii, yD, xQ, qx, zq, zA, zL, zQ, nw, Value.cells, List.getElem?_cons_zero, List.toList_toArray, Nat.zero_add, xB, zn, ld1, not_false_eq_true, Bool.not_false, vK, yc, yJ, yI, xC, hk]
    exact ⟨eff, by rw [e]⟩
  subst hk
  by_cases hcc : c = 1 \/ c = 4 \/ c = 8
  case neg =>
    have e : right M c ⟨2, pn, pb⟩ = none := by unfold right; rw [if_neg (fun q => hcc q.2)]
    have n1 : ¬ c = 1 := fun q => hcc (.inl q)
    have n4 : ¬ c = 4 := fun q => hcc (.inr (.inl q))
    have n8 : ¬ c = 8 := fun q => hcc (.inr (.inr q))
    simp -implicitDefEqProofs only [zk, zv, zH, yh, v9, vz, yD, zO, xQ, qx, zq, zA, zL, zQ, nw, Value.cells, List.getElem?_cons_zero, List.toList_toArray, Nat.zero_add, x6, xB, zn, ld1, not_false_eq_true, Bool.not_true, Bool.not_false, vK, yc, yJ, yI, xC, n1, n4, n8]
    exact ⟨eff, by rw [e]⟩
  have hat := ziI x1 hp3.2
  cases hi : idx M pb with
  | none =>
    have e : right M c ⟨2, pn, pb⟩ = none := by unfold right; rw [if_pos ⟨rfl, hcc⟩]; simp only [hi]
    rw [hi] at hat
    rcases hcc with rfl | rfl | rfl <;> simp -implicitDefEqProofs only [zk, zv, zH, zF, v9, vz, uD, yD, zO, xQ, qx, zq, zA, zL, zQ, nth, nw, Value.cells, List.getElem?_cons_zero, List.getElem?_cons_succ, List.toList_toArray, Nat.zero_add, Int.reduceEq, x6, xB, zn, ld1, not_false_eq_true, Bool.not_true, Bool.not_false, vK, yc, yJ, yI, xC] <;> refine zJ (by kernel_rfl) rfl hat ?_ <;> rintro v h1 ⟨rfl, rfl⟩ <;> simp -implicitDefEqProofs only [zk, zv, zH, yh, Xx, yD, zq, yp, Option.bind_none, WX, Option.bind_none, kR] <;> exact ⟨eff, by rw [e]⟩
  | some i =>
    obtain ⟨hpb, B, hB, hf⟩ := KQ hi
    obtain ⟨q, hq⟩ : ∃ q, ps[i]? = some q := by
      have hlt : i < M.length := by
        rcases Nat.lt_or_ge i M.length with a | a
        . exact a
        . rw [List.getElem?_eq_none a] at hB; cases hB
      exact ⟨_, List.getElem?_eq_getElem (by rw [x.len]; exact hlt)⟩
    obtain ⟨pg, hbk, fq, hpg⟩ := x1.blk i q B hq hB
    have hz := hs i B hB
    rw [hi] at hat
    have hcb : 1 <= c /\ c <= 8 := by omega
    have hcn : ¬ c = 0 := by omega
    have hw : IntKind.wrap .i64 ((B.size : Int) - c) = (B.size : Int) - c := w64 (by omega) (by omega)
    by_cases h0 : pn < 0
    . have e := ZL (p := ⟨2, pn, pb⟩) (c := c) hi hB (fun q => by have : 0 <= pn := q.1; omega)
      rcases hcc with rfl | rfl | rfl
      all_goals
        simp -implicitDefEqProofs only [zk, zv, zH, zF, v9, vz, uD, yD, zO, xQ, qx, zq, zA, zL, zQ, nth, nw, Value.cells, List.getElem?_cons_zero, List.getElem?_cons_succ, List.toList_toArray, Nat.zero_add, Int.reduceEq, x6, xB, zn, ld1, not_false_eq_true, Bool.not_true, Bool.not_false, vK, yc, yJ, yI, xC]
        refine zJ (by kernel_rfl) rfl hat ?_
        rintro v h1 ⟨rfl, rfl⟩
        simp -implicitDefEqProofs only [zk, zv, zH, yh, vz, Xx, yD, zO, wX, zq, zA, yp, Option.bind_some, List.getElem?_cons_zero, List.getElem?_cons_succ, x6, zn, ld1, vK, qV, hq, kR, h0]
        exact ⟨eff, by rw [e]⟩
    by_cases h1 : (B.size : Int) - c < pn
    . have e := ZL (p := ⟨2, pn, pb⟩) (c := c) hi hB (fun q => by have : pn <= B.size - c := q.2.1; omega)
      rcases hcc with rfl | rfl | rfl
      all_goals
        simp -implicitDefEqProofs only [zk, zv, zH, zF, v9, vz, uD, yD, zO, xQ, qx, zq, zA, zL, zQ, nth, nw, Value.cells, List.getElem?_cons_zero, List.getElem?_cons_succ, List.toList_toArray, Nat.zero_add, Int.reduceEq, x6, xB, zn, ld1, not_false_eq_true, Bool.not_true, Bool.not_false, vK, yc, yJ, yI, xC]
        refine zJ (by kernel_rfl) rfl hat ?_
        rintro v h1 ⟨rfl, rfl⟩
        simp -implicitDefEqProofs only [zk, zv, zH, yh, vz, Xx, yD, zO, yP, wX, ZN, jH, zq, zA, yp, Option.bind_some, List.getElem?_cons_zero, List.getElem?_cons_succ, x6, xB, zn, ld1, not_false_eq_true, vK, yc, qV, wE, hq, kR, h0, hbk, hw, h1]
        exact ⟨eff, by rw [e]⟩
    by_cases h2 : pn.tmod c = 0
    case neg =>
      have e := ZL (p := ⟨2, pn, pb⟩) (c := c) hi hB (fun q => h2 q.2.2)
      rcases hcc with rfl | rfl | rfl
      all_goals
        simp -implicitDefEqProofs only [zk, zv, zH, zF, v9, vz, uD, yD, zO, xQ, qx, zq, zA, zL, zQ, nth, nw, Value.cells, List.getElem?_cons_zero, List.getElem?_cons_succ, List.toList_toArray, Nat.zero_add, Int.reduceEq, x6, xB, zn, ld1, not_false_eq_true, Bool.not_true, Bool.not_false, vK, yc, yJ, yI, xC]
        refine zJ (by kernel_rfl) rfl hat ?_
        rintro v h1 ⟨rfl, rfl⟩
        simp -implicitDefEqProofs only [zk, zv, zH, yh, vz, zO, yP, wX, ZN, qx, jH, UZ, zq, zA, yp, Option.bind_some, List.getElem?_cons_zero, List.getElem?_cons_succ, Int.reduceEq, xB, zn, ld1, not_false_eq_true, Bool.not_false, vK, yc, qV, wE, hq, kR, h0, hbk, hw, h1, h2]
        exact ⟨eff, by rw [e]⟩
    have e := zab (p := ⟨2, pn, pb⟩) (c := c) rfl hcc hi hB ⟨by show 0 <= pn; omega, by show pn <= _; omega, h2⟩
    have hmd := zlX hbk hpg (a := pn) (by omega) (by omega) (by omega)
    have hr1 : pn.tmod 64 = ((pn.toNat % 64 : Nat) : Int) := by rw [Int.tmod_eq_emod_of_nonneg (by omega)]; omega
    have hr2 : IntKind.wrap .i64 (((pn.toNat % 64 : Nat) : Int) + c) = ((pn.toNat % 64 : Nat) : Int) + c := w64 (by omega) (by omega)
    have hin : ((pn.toNat % 64 : Nat) : Int) + c <= 64 := by
      rw [Int.tmod_eq_emod_of_nonneg (by omega)] at h2
      rcases hcc with rfl | rfl | rfl <;> omega
    have hb1 : 0 <= ((pn.toNat % 64 : Nat) : Int) + c /\ ((pn.toNat % 64 : Nat) : Int) + c <= ((64 : Nat) : Int) := by omega
    have hb2 : 0 <= ((pn.toNat % 64 : Nat) : Int) /\ ((pn.toNat % 64 : Nat) : Int) <= ((((pn.toNat % 64 : Nat) : Int) + c).toNat : Int) := by omega
    have hb3 : ¬ 64 = pn.toNat % 64 := by omega
    have hb4 : (((pn.toNat % 64 : Nat) : Int) + c).toNat - pn.toNat % 64 = c.toNat := by omega
    rcases hcc with rfl | rfl | rfl
    all_goals
      simp -implicitDefEqProofs only [zk, zv, zH, zF, v9, vz, uD, yD, zO, xQ, qx, zq, zA, zL, zQ, nth, nw, Value.cells, List.getElem?_cons_zero, List.getElem?_cons_succ, List.toList_toArray, Nat.zero_add, Int.reduceEq, x6, xB, zn, ld1, not_false_eq_true, Bool.not_true, Bool.not_false, vK, yc, yJ, yI, xC]
      refine zJ (by kernel_rfl) rfl hat ?_
      rintro v h1 ⟨rfl, rfl⟩
      simp -implicitDefEqProofs only [zk, zv, zH, zF, vz, zO, yP, wX, ZN, qx, jH, UZ, zq, zA, yp, Option.bind_some, nth, List.getElem?_cons_zero, List.getElem?_cons_succ, Int.reduceEq, x6, xB, zn, ld1, not_false_eq_true, Bool.not_true, vK, yc, qV, wE, hq, kR, h0, hbk, hw, h1, h2]
      refine zJ (by kernel_rfl) rfl hmd ?_
      rintro v h1 ⟨rfl, ⟨rfl, hu⟩ | ⟨g, rfl, fg, hpage⟩⟩
      . simp -implicitDefEqProofs only [zk, zv, zH, yh, yp, WM, kR]
        refine ⟨eff, ?_⟩
        rw [e]
        refine ⟨_, rfl, fun B' hB' => .inl ⟨rfl, fun k hk => ?_⟩⟩
        rw [hB] at hB'; cases hB'
        have := hu (pn.toNat % 64 + k) (by omega)
        rw [show 64 * (pn.toNat / 64) + (pn.toNat % 64 + k) = pn.toNat + k by omega] at this
        exact this
      . simp -implicitDefEqProofs only [zk, zv, zH, zF, yP, xQ, qw, UZ, zq, zA, yp, zL, WQ, cond_true, Zr, Option.bind_some, List.getElem?_cons_zero, List.getElem?_cons_succ, Nat.zero_add, if_true, if_false, Bool.and_true, Int.reduceEq, Int.reduceToNat, and_true, true_and, zn, not_false_eq_true, Kq, zkd, kR, hr1, hr2, hb1, hb2, hb3, hb4, Int.toNat_natCast]
        refine ⟨eff, ?_⟩
        rw [e]
        refine ⟨_, rfl, fun B' hB' => .inr ?_⟩
        rw [hB] at hB'; cases hB'
        obtain ⟨cs, hgc, hlen, hcs⟩ := hpage
        refine ⟨g, _, cs, 0, rfl, x.sub i g fg, hgc, by rw [hlen]; omega, rfl, fun k j hk hj => ?_⟩
        have := hcs (pn.toNat % 64 + k) j (by omega) hj
        rw [show (pn.toNat % 64 + k) * 5 + j = pn.toNat % 64 * 5 + k * 5 + j by omega] at this
        rw [this]
        show (B.byte (64 * (pn.toNat / 64) + (pn.toNat % 64 + k))).y1[j]? = _
        rw [show 64 * (pn.toNat / 64) + (pn.toNat % 64 + k) = pn.toNat + k by omega]
def zlH (h : za) (m : Nat) (M : MM) (F : Nat -> Prop) (c : Int) (p : V) (v : Value) (h1 : za) : Prop :=
  match right M c p with
  | none => v = .tuple #[.slice none 0 0, .bool false] /\ Eff nof h h1
  | some i => ∃ g bs ps fs F' q qp cq gs B, M[i]? = some B /\ v = .tuple #[.slice (some ⟨g, p.n.toNat % 64 * 5, none⟩) c.toNat 0, .bool true] /\ Xz h1 m bs ps fs M F' /\ ps[i]? = some qp /\
      h1.get qp = some (.cells [.int .i64 B.size, .slice (some ⟨q, 0, none⟩) gs.length cq, .bool B.uo] 104) /\ fs i qp /\ jI h1 q gs B (fs i) /\ gs[p.n.toNat / 64]? = some (some g) /\ Eff F h h1 /\ ∀ b, F' b -> F b \/ h.next <= b
theorem ziP (hro : h.ro <= h.next) (x : Xz h m bs ps fs M F) (hs : small M) (hc : ZR c) (hp : p.ok) :
    DC Tryd.prog 76 [.pointer (some ⟨m, 0, none⟩), .int .i64 c, p.val, .bool true] h (zlH h m M F c p) := by
  obtain ⟨pk, pn, pb⟩ := p
  obtain ⟨hp1, hp2, hp3⟩ := hp
  unfold ZR at hc hp1 hp2 hp3
  simp only at hp1 hp2 hp3
  apply VL
  unfold KP V.val
  have x1 : Xz (h.push (.cells [.int .i64 pk, .int .i64 pn, .int .i64 pb] 84)) m bs ps fs M F := x.zU (fun b hb => zu (x.ok b hb).2) (Nat.le_succ _) rfl
  have eff : Eff nof h (h.push (.cells [.int .i64 pk, .int .i64 pn, .int .i64 pb] 84)) := (Eff.refl _ _).push _
  have no : ∀ {c}, right M c ⟨pk, pn, pb⟩ = none -> zlH h m M F c ⟨pk, pn, pb⟩ (.tuple #[.slice none 0 0, .bool false]) (h.push (.cells [.int .i64 pk, .int .i64 pn, .int .i64 pb] 84)) := fun e => by
    unfold zlH; rw [e]; exact ⟨rfl, eff⟩
  by_cases hk : pk = 2
  case neg =>
    have e : right M c ⟨pk, pn, pb⟩ = none := by unfold right; rw [if_neg (fun q => hk q.1)]
    simp -implicitDefEqProofs only [zk, zv, zH, yh, Xx, zii, yD, xQ, qx, zq, zA, zL, zQ, nw, Value.cells, List.getElem?_cons_zero, List.toList_toArray, Nat.zero_add, xB, zn, ld1, not_false_eq_true, Bool.not_false, vK, yc, yJ, yI, xC, hk]
    exact no e
  subst hk
  by_cases hcc : c = 1 \/ c = 4 \/ c = 8
  case neg =>
    have e : right M c ⟨2, pn, pb⟩ = none := by unfold right; rw [if_neg (fun q => hcc q.2)]
    have n1 : ¬ c = 1 := fun q => hcc (.inl q)
    have n4 : ¬ c = 4 := fun q => hcc (.inr (.inl q))
    have n8 : ¬ c = 8 := fun q => hcc (.inr (.inr q))
    simp -implicitDefEqProofs only [zk, zv, zH, yh, v9, vz, yD, zO, xQ, qx, zq, zA, zL, zQ, nw, Value.cells, List.getElem?_cons_zero, List.toList_toArray, Nat.zero_add, x6, xB, zn, ld1, not_false_eq_true, Bool.not_true, Bool.not_false, vK, yc, yJ, yI, xC, n1, n4, n8]
    exact no e
  have hat := ziI x1 hp3.2
  cases hi : idx M pb with
  | none =>
    have e : right M c ⟨2, pn, pb⟩ = none := by unfold right; rw [if_pos ⟨rfl, hcc⟩]; simp only [hi]
    rw [hi] at hat
    rcases hcc with rfl | rfl | rfl <;> simp -implicitDefEqProofs only [zk, zv, zH, zF, v9, vz, uD, yD, zO, xQ, qx, zq, zA, zL, zQ, nth, nw, Value.cells, List.getElem?_cons_zero, List.getElem?_cons_succ, List.toList_toArray, Nat.zero_add, Int.reduceEq, x6, xB, zn, ld1, not_false_eq_true, Bool.not_true, Bool.not_false, vK, yc, yJ, yI, xC] <;> refine zJ (by kernel_rfl) rfl hat ?_ <;> rintro v h1 ⟨rfl, rfl⟩ <;> simp -implicitDefEqProofs only [zk, zv, zH, yh, Xx, yD, zq, yp, Option.bind_none, WX, Option.bind_none, kR] <;> exact no e
  | some i =>
    obtain ⟨hpb, B, hB, hf⟩ := KQ hi
    obtain ⟨q, hq⟩ : ∃ q, ps[i]? = some q := by
      have hlt : i < M.length := by
        rcases Nat.lt_or_ge i M.length with a | a
        . exact a
        . rw [List.getElem?_eq_none a] at hB; cases hB
      exact ⟨_, List.getElem?_eq_getElem (by rw [x.len]; exact hlt)⟩
    obtain ⟨pg, hbk, fq, hpg⟩ := x1.blk i q B hq hB
    have hz := hs i B hB
    rw [hi] at hat
    have hcb : 1 <= c /\ c <= 8 := by omega
    have hcn : ¬ c = 0 := by omega
    have hw : IntKind.wrap .i64 ((B.size : Int) - c) = (B.size : Int) - c := w64 (by omega) (by omega)
    by_cases h0 : pn < 0
    . have e := ZL (p := ⟨2, pn, pb⟩) (c := c) hi hB (fun q => by have : 0 <= pn := q.1; omega)
      rcases hcc with rfl | rfl | rfl
      all_goals
        simp -implicitDefEqProofs only [zk, zv, zH, zF, v9, vz, uD, yD, zO, xQ, qx, zq, zA, zL, zQ, nth, nw, Value.cells, List.getElem?_cons_zero, List.getElem?_cons_succ, List.toList_toArray, Nat.zero_add, Int.reduceEq, x6, xB, zn, ld1, not_false_eq_true, Bool.not_true, Bool.not_false, vK, yc, yJ, yI, xC]
        refine zJ (by kernel_rfl) rfl hat ?_
        rintro v h1 ⟨rfl, rfl⟩
        simp -implicitDefEqProofs only [zk, zv, zH, yh, vz, Xx, yD, zO, wX, zq, zA, yp, Option.bind_some, List.getElem?_cons_zero, List.getElem?_cons_succ, x6, zn, ld1, vK, qV, hq, kR, h0]
        exact no e
    by_cases h1 : (B.size : Int) - c < pn
    . have e := ZL (p := ⟨2, pn, pb⟩) (c := c) hi hB (fun q => by have : pn <= B.size - c := q.2.1; omega)
      rcases hcc with rfl | rfl | rfl
      all_goals
        simp -implicitDefEqProofs only [zk, zv, zH, zF, v9, vz, uD, yD, zO, xQ, qx, zq, zA, zL, zQ, nth, nw, Value.cells, List.getElem?_cons_zero, List.getElem?_cons_succ, List.toList_toArray, Nat.zero_add, Int.reduceEq, x6, xB, zn, ld1, not_false_eq_true, Bool.not_true, Bool.not_false, vK, yc, yJ, yI, xC]
        refine zJ (by kernel_rfl) rfl hat ?_
        rintro v h1 ⟨rfl, rfl⟩
        simp -implicitDefEqProofs only [zk, zv, zH, yh, vz, Xx, yD, zO, yP, wX, ZN, jH, zq, zA, yp, Option.bind_some, List.getElem?_cons_zero, List.getElem?_cons_succ, x6, xB, zn, ld1, not_false_eq_true, vK, yc, qV, wE, hq, kR, h0, hbk, hw, h1]
        exact no e
    by_cases h2 : pn.tmod c = 0
    case neg =>
      have e := ZL (p := ⟨2, pn, pb⟩) (c := c) hi hB (fun q => h2 q.2.2)
      rcases hcc with rfl | rfl | rfl
      all_goals
        simp -implicitDefEqProofs only [zk, zv, zH, zF, v9, vz, uD, yD, zO, xQ, qx, zq, zA, zL, zQ, nth, nw, Value.cells, List.getElem?_cons_zero, List.getElem?_cons_succ, List.toList_toArray, Nat.zero_add, Int.reduceEq, x6, xB, zn, ld1, not_false_eq_true, Bool.not_true, Bool.not_false, vK, yc, yJ, yI, xC]
        refine zJ (by kernel_rfl) rfl hat ?_
        rintro v h1 ⟨rfl, rfl⟩
        simp -implicitDefEqProofs only [zk, zv, zH, yh, vz, zO, yP, wX, ZN, qx, jH, UZ, zq, zA, yp, Option.bind_some, List.getElem?_cons_zero, List.getElem?_cons_succ, Int.reduceEq, xB, zn, ld1, not_false_eq_true, Bool.not_false, vK, yc, qV, wE, hq, kR, h0, hbk, hw, h1, h2]
        exact no e
    have e := zab (p := ⟨2, pn, pb⟩) (c := c) rfl hcc hi hB ⟨by show 0 <= pn; omega, by show pn <= _; omega, h2⟩
    have hmd := zj8 hbk hpg fq (fun b hb => x1.ok b (x1.sub i b hb)) (by simp only [zM, xR]; omega) (a := pn) (by omega) (by omega) (by omega)
    have hr1 : pn.tmod 64 = ((pn.toNat % 64 : Nat) : Int) := by rw [Int.tmod_eq_emod_of_nonneg (by omega)]; omega
    have hr2 : IntKind.wrap .i64 (((pn.toNat % 64 : Nat) : Int) + c) = ((pn.toNat % 64 : Nat) : Int) + c := w64 (by omega) (by omega)
    have hin : ((pn.toNat % 64 : Nat) : Int) + c <= 64 := by
      rw [Int.tmod_eq_emod_of_nonneg (by omega)] at h2
      rcases hcc with rfl | rfl | rfl <;> omega
    have hb1 : 0 <= ((pn.toNat % 64 : Nat) : Int) + c /\ ((pn.toNat % 64 : Nat) : Int) + c <= ((64 : Nat) : Int) := by omega
    have hb2 : 0 <= ((pn.toNat % 64 : Nat) : Int) /\ ((pn.toNat % 64 : Nat) : Int) <= ((((pn.toNat % 64 : Nat) : Int) + c).toNat : Int) := by omega
    have hb3 : ¬ 64 = pn.toNat % 64 := by omega
    have hb4 : (((pn.toNat % 64 : Nat) : Int) + c).toNat - pn.toNat % 64 = c.toNat := by omega
    have hbox : ∀ h1, Eff (fs i) (h.push (.cells [.int .i64 2, .int .i64 pn, .int .i64 pb] 84)) h1 -> h1.get h.next = some (.cells [.int .i64 2, .int .i64 pn, .int .i64 pb] 84) := fun h1 ef => by
      rw [ef.get h.next (fun hc => by have := (x.ok _ (x.sub i _ hc)).2; omega) (by simp only [zM]; omega), zw]
    rcases hcc with rfl | rfl | rfl
    all_goals
      simp -implicitDefEqProofs only [zk, zv, zH, zF, v9, vz, uD, yD, zO, xQ, qx, zq, zA, zL, zQ, nth, nw, Value.cells, List.getElem?_cons_zero, List.getElem?_cons_succ, List.toList_toArray, Nat.zero_add, Int.reduceEq, x6, xB, zn, ld1, not_false_eq_true, Bool.not_true, Bool.not_false, vK, yc, yJ, yI, xC]
      refine zJ (by kernel_rfl) rfl hat ?_
      rintro v h1 ⟨rfl, rfl⟩
      simp -implicitDefEqProofs only [zk, zv, zH, zF, vz, zO, yP, wX, ZN, qx, jH, UZ, zq, zA, yp, Option.bind_some, nth, List.getElem?_cons_zero, List.getElem?_cons_succ, Int.reduceEq, x6, xB, zn, ld1, not_false_eq_true, Bool.not_true, vK, yc, qV, wE, hq, kR, h0, hbk, hw, h1, h2]
      refine zJ (by kernel_rfl) rfl hmd ?_
      rintro v h1 ⟨g, pq, cq, gs, F', rfl, hbk1, hfull, hgs, fp1, ef, hsub, hok⟩
      have hbx := hbox h1 ef
      simp -implicitDefEqProofs only [zk, zv, zH, zF, yP, xQ, qw, UZ, zq, zA, yp, zL, WQ, cond_true, Zr, Option.bind_some, List.getElem?_cons_zero, List.getElem?_cons_succ, Nat.zero_add, if_true, if_false, Bool.and_true, Int.reduceEq, Int.reduceToNat, and_true, true_and, not_false_eq_true, Kq, zkd, kR, hr1, hr2, hb1, hb2, hb3, hb4, Int.toNat_natCast, hbx]
      unfold zlH
      rw [e]
      have y := x1.upd hq hB rfl ef ⟨_, hbk1, fp1, .full pq cq gs rfl hfull⟩ hsub hok
      rw [zcU hB] at y
      refine ⟨g, _, _, _, _, pq, q, cq, gs, B, hB, rfl, y, hq, hbk1, by simp only [if_true]; exact fp1, by simp only [if_true]; exact hfull, hgs, (eff.mono (fun _ h => h.elim)).trans (ef.mono (fun b hb => x.sub i b hb)), fun b hb => ?_⟩
      rcases hb with hb | hb
      . exact .inl hb
      . rcases hsub b hb with hb | hb
        . exact .inl (x.sub i b hb)
        . exact .inr (by have : h.next + 1 <= b := hb; omega)
end
end Go.Mem
namespace Go.Mem
open Go.Ai Go.Proofs
set_option linter.unusedVariables false
set_option maxRecDepth 10000
set_option linter.unusedSimpArgs false
def zlF (f : Nat -> Cl) (n : Nat) : Nat -> Int
  | 0 => 0
  | k + 1 => IntKind.wrap .u64 ((BitVec.ofInt 64 (zlF f n k) ||| BitVec.ofInt 64 (IntKind.wrap .u64 (IntKind.wrap .u64 (f (n + k)).n * 2 ^ (8 * k)))).toNat)
def Yw (f : Nat -> Cl) (n : Nat) : Nat -> Bool
  | 0 => true
  | k + 1 => Yw f n k && decide ((f (n + k)).k = 1)
def jm (f : Nat -> Cl) (n : Nat) (c : Int) : Nat -> Bool
  | 0 => decide (c = 8)
  | k + 1 => jm f n c k && decide ((f (n + k)).k = 2) && decide (IntKind.wrap .i64 (f (n + k)).n = k) && decide ((f (n + k)).p = (f n).p)
def QZ (f : Nat -> Cl) (n : Nat) (c : Int) : V :=
  if Yw f n c.toNat = true then ⟨1, if c = 8 then IntKind.wrap .i64 (zlF f n c.toNat) else if c = 4 then IntKind.wrap .i64 (IntKind.wrap .i32 (zlF f n c.toNat)) else IntKind.wrap .i64 (IntKind.wrap .i8 (zlF f n c.toNat)), 0⟩
  else if jm f n c c.toNat = true then (f n).p else v0
def jr (M : MM) (c : Int) (p : V) : Option V := match right M c p with
  | none => none
  | some i => (M[i]?).map fun B => QZ B.byte p.n.toNat c
def zdV (M : MM) (c : Int) (p : V) (v : Value) : Prop := match jr M c p with
  | none => v = .tuple #[v0.val, .bool false]
  | some a => v = .tuple #[a.val, .bool true]
theorem UG {cs : List Value} {o : Nat} {c : Cl} (h : ∀ j, j < 5 -> cs[o + j]? = c.y1[j]?) : (cs.drop o).take 5 = c.y1 := by
  apply List.ext_getElem?
  intro j
  by_cases hj : j < 5
  . rw [List.getElem?_take_of_lt hj, List.getElem?_drop]; exact h j hj
  . rw [List.getElem?_eq_none (by simp; omega), List.getElem?_eq_none (by show 5 <= j; omega)]
theorem zj2 {cs : List Value} {o : Nat} {c : Cl} (h : ∀ j, j < 5 -> cs[o + j]? = c.y1[j]?) : (cs.drop (o + 2)).take 3 = [.int .i64 c.p.k, .int .i64 c.p.n, .int .i64 c.p.b] := by
  have := congrArg (List.drop 2) (UG h)
  rw [List.drop_take, List.drop_drop] at this
  exact this
theorem veq (a b : V) : ((a.k == b.k) && ((a.n == b.n) && (a.b == b.b))) = decide (a = b) := by
  obtain ⟨a1, a2, a3⟩ := a
  obtain ⟨b1, b2, b3⟩ := b
  rw [Bool.eq_iff_iff]
  simp
theorem zjn {f : Nat -> Cl} {n c : Nat} (h : ∀ k, k < c -> f (n + k) = unk) (h1 : 1 <= c) : Yw f n c = false := by
  cases c with
  | zero => omega
  | succ c => unfold Yw; rw [h c (by omega)]; simp [unk]
theorem zgt {f : Nat -> Cl} {n c : Nat} {d : Int} (h : ∀ k, k < c -> f (n + k) = unk) (h1 : 1 <= c) : jm f n d c = false := by
  cases c with
  | zero => omega
  | succ c => unfold jm; rw [h c (by omega)]; simp [unk]
section
variable {h : za} {m : Nat} {bs : Value} {ps : List Nat} {fs : Nat -> Nat -> Prop} {M : MM} {F : Nat -> Prop} {c : Int} {p : V}
def zmU (h : za) (f : Nat -> Cl) (n : Nat) (c : Int) (m : Nat) (vs : List Value) (h' : za) : Prop :=
  ∃ k, k <= c.toNat /\ m = c.toNat - k /\ vs = [.int .u64 (zlF f n k), .bool (Yw f n k), .bool (jm f n c k), .int .i64 k] /\ Eff nof h h'
theorem zkW (x : Xz h m bs ps fs M F) (hs : small M) (hc : ZR c) (hp : p.ok) :
    DC Tryd.prog 53 [.pointer (some ⟨m, 0, none⟩), .int .i64 c, p.val] h (fun v h1 => Eff nof h h1 /\ zdV M c p v) := by
  apply Yv; intro hwf; have hro := hwf.2
  apply zgJ
  unfold zjS
  have e1 : p.val = .agg #[.int .i64 p.k, .int .i64 p.n, .int .i64 p.b] := rfl
  have eff : Eff nof h ((h.push (.cells [.int .i64 p.k, .int .i64 p.n, .int .i64 p.b] 84)).push (.cells [.int .i64 0, .int .i64 0, .int .i64 0] 84)) := ((Eff.refl _ _).push _).push _
  have x1 : Xz ((h.push (.cells [.int .i64 p.k, .int .i64 p.n, .int .i64 p.b] 84)).push (.cells [.int .i64 0, .int .i64 0, .int .i64 0] 84)) m bs ps fs M F :=
    x.zU (fun b hb => eff.get b (fun e => e) (x.ok b hb).2) eff.next eff.ro
  have hac := ziG (c := c) (p := p) x1 hs hc hp
  rw [e1]
  simp -implicitDefEqProofs only [zk, zv, zH, ju, zA, zQ, x5, nth, nw, Value.cells, BK, List.toList_toArray, Nat.zero_add, List.length_cons, List.length_nil, List.all_cons, List.all_nil, ze, List.drop_zero, List.take_succ_cons, List.take_nil, if_true, Bool.and_true, Nat.reduceAdd, and_true, Nat.le_refl, zM, zn, zu, Ky, sto, ldn, ld1, zkN, zo, zC, zmo, yZ, yg, zi5, zjq, Zv]
  rw [e1] at hac
  refine zJ (by kernel_rfl) rfl hac ?_
  rintro v h1 ⟨ef, hr⟩
  have hl : h1.get (h.next + 1) = some (.cells [.int .i64 0, .int .i64 0, .int .i64 0] 84) := by
    rw [ef.get _ (fun e => e) (by simp only [zM]; omega)]
    exact zn (by simp only [zM])
  have hr1 : h1.ro <= h.next + 1 := by rw [ef.ro]; simp only [xR]; omega
  have hpost : ∀ a, jr M c p = some a -> zdV M c p (.tuple #[.agg #[.int .i64 a.k, .int .i64 a.n, .int .i64 a.b], .bool true]) := fun a ha => by unfold zdV; rw [ha]; rfl
  cases e : right M c p with
  | none =>
    rw [e] at hr
    subst hr
    simp -implicitDefEqProofs only [Xc, YX, zk, yf, zv, zH, yh, xQ, zq, zL, zQ, Nat.zero_add, List.length_cons, List.length_nil, List.set_cons_zero, List.set_cons_succ, List.take_succ_cons, List.take_nil, if_true, Nat.reduceAdd, and_true, Nat.le_refl, zz, zcI, Z7, hl, hr1]
    exact ⟨(eff.trans ef).set (.inr (by omega)) _, by unfold zdV jr; rw [e]; rfl⟩
  | some i =>
    rw [e] at hr
    obtain ⟨s, rfl, hcell⟩ := hr
    obtain ⟨hk, hcc, hi, B, hB, hn0, hn1, hn2⟩ := QQ e
    have hlm : jr M c p = some (QZ B.byte p.n.toNat c) := by unfold jr; rw [e]; simp only [hB]; rfl
    have hc1 : 1 <= c.toNat /\ c.toNat <= 8 := by omega
    rcases hcell B hB with ⟨rfl, hu⟩ | ⟨g, off, cs, cp, rfl, fg, hg, hlen, hoff, hcs⟩
    . simp -implicitDefEqProofs only [Xc, YX, zk, yf, zv, zH, yh, xQ, zq, zL, zQ, Nat.zero_add, List.length_cons, List.length_nil, List.set_cons_zero, List.set_cons_succ, List.take_succ_cons, List.take_nil, if_true, Nat.reduceAdd, and_true, Nat.le_refl, zz, zcI, Z7, hl, hr1]
      refine ⟨(eff.trans ef).set (.inr (by omega)) _, ?_⟩
      have : QZ B.byte p.n.toNat c = v0 := by
        unfold QZ; rw [zjn hu hc1.1, zgt hu hc1.1]; rfl
      rw [this] at hlm
      exact hpost _ hlm
    . simp -implicitDefEqProofs only [Xc, YX, zk, yf, zv, zH, zF, xQ, zq, zL, zQ, nth, Nat.zero_add, Nat.add_zero, List.length_cons, List.length_nil, List.set_cons_zero, List.set_cons_succ, List.take_succ_cons, List.take_nil, if_true, Nat.reduceAdd, Nat.reduceMul, Int.reduceLE, Int.reduceToNat, and_true, true_and, Nat.le_refl, zz, zkt, kx, Z7, hl, hr1]
      refine kj (zmU h1 B.byte p.n.toNat c) c.toNat ⟨0, by omega, by omega, rfl, .refl _ _⟩ ?_
      rintro n vs h2 ⟨k, hk1, rfl, rfl, ef2⟩
      have hg2 : h2.get g = some (.cells cs 143) := by rw [ef2.get g (fun e => e) (by have := (x.ok g fg).2; have := ef.next; have := eff.next; omega), hg]
      by_cases hlt : k < c.toNat
      . have hki : (k : Int) < (c.toNat : Int) := by omega
        have hcel := UG (hcs k · hlt)
        have hc0 := UG (hcs 0 · (by omega))
        have hb1 : 0 <= (k : Int) /\ (k : Int) < (c.toNat : Int) := by omega
        have hb2 : off + k * 5 + 5 <= cs.length := by omega
        have hb3 : off + 5 <= cs.length := by omega
        have hb4 : 0 <= (0 : Int) /\ (0 : Int) < (c.toNat : Int) := by omega
        have hw1 : IntKind.wrap .i64 (8 * (k : Int)) = ((8 * k : Nat) : Int) := by rw [w64 (by omega) (by omega)]; omega
        have hw2 : IntKind.wrap .i64 ((k : Int) + 1) = ((k + 1 : Nat) : Int) := by rw [w64 (by omega) (by omega)]; omega
        have hr2 : h2.ro <= h2.next := by have := ef2.ro; have := ef2.next; have := ef.next; simp only [zM] at this; omega
        have hk0 : 0 <= ((8 * k : Nat) : Int) := by omega
        have hmin : min (8 * k) IntKind.u64.bits = 8 * k := by show min (8 * k) 64 = _; omega
        have hnext : ∀ {a b d h3}, Eff nof h2 h3 -> a = zlF B.byte p.n.toNat (k + 1) -> b = Yw B.byte p.n.toNat (k + 1) -> d = jm B.byte p.n.toNat c (k + 1) -> ∃ m, m < c.toNat - k /\ zmU h1 B.byte p.n.toNat c m [.int .u64 a, .bool b, .bool d, .int .i64 ((k + 1 : Nat) : Int)] h3 := fun ef3 ea eb ed =>
          ⟨c.toNat - (k + 1), by omega, k + 1, by omega, rfl, by rw [ea, eb, ed], ef2.trans ef3⟩
        have hefn : ∀ l l', Eff nof h2 ((h2.push (.cells l 107)).set h2.next (some (.cells l' 107))) := fun l l' => ((Eff.refl _ _).push _).set (.inr (Nat.le_refl _)) _
        have hgn : ∀ l l', ((h2.push (.cells l 107)).set h2.next (some (.cells l' 107))).get g = some (.cells cs 143) := fun l l' => by rw [(hefn l l').get g (fun e => e) (by have := (x.ok g fg).2; have := ef.next; have := eff.next; have := ef2.next; omega), hg2]
        simp only [Cl.y1] at hcel hc0
        have hp3 : (cs.drop (off + 2)).take 3 = [.int .i64 (B.byte p.n.toNat).p.k, .int .i64 (B.byte p.n.toNat).p.n, .int .i64 (B.byte p.n.toNat).p.b] := zj2 (fun j hj => by simpa using hcs 0 j (by omega) hj)
        have hb5 : off + 2 + 3 <= cs.length := by omega
        cases hP : jm B.byte p.n.toNat c k with
        | false =>
          cases hN : Yw B.byte p.n.toNat k
          all_goals
            simp -implicitDefEqProofs only [zk, yf, zv, zH, yh, zF, v9, uD, yD, zO, wX, ju, qw, YU, ze5, zlO, zq, zA, zQ, x5, nth, List.getElem?_cons_zero, List.getElem?_cons_succ, Nat.zero_add, List.length_cons, List.length_nil, List.all_cons, List.all_nil, ze, List.set_cons_zero, List.set_cons_succ, if_true, Bool.and_true, Nat.reduceAdd, and_true, Nat.le_refl, x6, xR, zn, zz, sto, ldn, ld1, zdF, zkN, zo, Wv, vS, kZ, qd, uI, kF, WV, Zv, kx, hki, hg2, hb1, hb2, hb4, hcel, hw1, hw2, Int.toNat_natCast, hr2, hk0, hmin]
            refine hnext (hefn _ _) rfl ?_ ?_
            . simp [Yw, hN]
            . simp [jm, hP]
        | true =>
          by_cases hk2 : (B.byte (p.n.toNat + k)).k = 2
          . by_cases hkk : IntKind.wrap .i64 (B.byte (p.n.toNat + k)).n = (k : Int)
            . cases hN : Yw B.byte p.n.toNat k
              all_goals
                simp -implicitDefEqProofs only [zk, yf, zv, zH, yh, zF, v9, uD, yD, zO, wX, ju, qw, YU, ze5, zlO, zq, zA, zQ, x5, nth, List.getElem?_cons_zero, List.getElem?_cons_succ, Nat.zero_add, Nat.add_zero, List.length_cons, List.length_nil, List.all_cons, List.all_nil, ze, List.set_cons_zero, List.set_cons_succ, List.drop_zero, List.take_succ_cons, List.drop_succ_cons, List.take_nil, if_true, Bool.and_true, Nat.reduceAdd, Nat.reduceMul, Int.reduceEq, Int.reduceToNat, and_true, Nat.le_refl, x6, xB, xR, zn, zz, sto, ldn, ld1, not_false_eq_true, zdF, zkN, zo, Wv, zC, vS, kZ, qd, uI, kF, WV, zjL, Z3, Zv, kx, hki, hg2, hb1, hb2, hb3, hb4, hp3, hcel, hw1, hw2, Int.toNat_natCast, hr2, hk0, hgn, hmin, hk2, hkk]
                refine hnext (hefn _ _) rfl ?_ ?_
                . simp [Yw, hN, hk2]
                . simp only [jm, hP, hk2, hkk, veq, Bool.true_and, decide_true]
            . cases hN : Yw B.byte p.n.toNat k
              all_goals
                simp -implicitDefEqProofs only [zk, yf, zv, zH, yh, zF, v9, uD, yD, zO, wX, ju, qw, YU, ze5, zlO, zq, zA, zQ, x5, nth, List.getElem?_cons_zero, List.getElem?_cons_succ, Nat.zero_add, List.length_cons, List.length_nil, List.all_cons, List.all_nil, ze, List.set_cons_zero, List.set_cons_succ, if_true, Bool.and_true, Nat.reduceAdd, Int.reduceEq, and_true, Nat.le_refl, x6, xB, xR, zn, zz, sto, ldn, ld1, not_false_eq_true, zdF, zkN, zo, Wv, vS, kZ, qd, uI, kF, WV, zjL, Zv, kx, hki, hg2, hb1, hb2, hb3, hb4, hcel, hw1, hw2, Int.toNat_natCast, hr2, hk0, hmin, hk2, hkk]
                refine hnext (hefn _ _) rfl ?_ ?_
                . simp [Yw, hN, hk2]
                . simp [jm, hP, hk2, hkk]
          . cases hN : Yw B.byte p.n.toNat k
            all_goals
              simp -implicitDefEqProofs only [zk, yf, zv, zH, yh, zF, v9, uD, yD, zO, wX, ju, qw, YU, ze5, zlO, zq, zA, zQ, x5, nth, List.getElem?_cons_zero, List.getElem?_cons_succ, Nat.zero_add, List.length_cons, List.length_nil, List.all_cons, List.all_nil, ze, List.set_cons_zero, List.set_cons_succ, if_true, Bool.and_true, Nat.reduceAdd, and_true, Nat.le_refl, x6, xB, xR, zn, zz, sto, ldn, ld1, not_false_eq_true, zdF, zkN, zo, Wv, vS, kZ, qd, uI, kF, WV, Zv, kx, hki, hg2, hb1, hb2, hb3, hb4, hcel, hw1, hw2, Int.toNat_natCast, hr2, hk0, hmin, hk2]
              refine hnext (hefn _ _) rfl ?_ ?_
              . simp [Yw, hN]
              . simp [jm, hP, hk2]
      . have hki : ¬ (k : Int) < (c.toNat : Int) := by omega
        have hkc : k = c.toNat := by omega
        subst hkc
        have hl2 : h2.get (h.next + 1) = some (.cells [.int .i64 0, .int .i64 0, .int .i64 0] 84) := by
          rw [ef2.get _ (fun e => e) (by have := ef.next; simp only [zM] at this; omega), hl]
        have hr2 : h2.ro <= h.next + 1 := by rw [ef2.ro]; exact hr1
        have hof : ∀ n, DC Tryd.prog 32 [.int .i64 n] h2 (fun v h1 => v = V.val ⟨1, n, 0⟩ /\ Eff nof h2 h1) := fun n => YZ n h2
        have hsl : ∀ h3, Eff nof h2 h3 -> h3.get (h.next + 1) = some (.cells [.int .i64 0, .int .i64 0, .int .i64 0] 84) /\ h3.ro <= h.next + 1 := fun h3 e3 =>
          ⟨by rw [e3.get _ (fun e => e) (by have := ef.next; have := ef2.next; simp only [zM] at *; omega), hl2], by rw [e3.ro]; exact hr2⟩
        have hfin : ∀ {h3 a v}, Eff nof h2 h3 -> QZ B.byte p.n.toNat c = a -> Eff nof h (h3.set (h.next + 1) v) /\ zdV M c p (.tuple #[.agg #[.int .i64 a.k, .int .i64 a.n, .int .i64 a.b], .bool true]) := fun e3 ea =>
          ⟨(((eff.trans ef).trans ef2).trans e3).set (.inr (by omega)) _, hpost _ (by rw [hlm, ea])⟩
        cases hN : Yw B.byte p.n.toNat c.toNat with
        | true =>
          rcases hcc with rfl | rfl | rfl
          all_goals
            simp -implicitDefEqProofs only [zk, yf, zv, zH, yh, zF, v9, yD, wX, ju, qw, YU, zq, zA, nth, Nat.reduceSub, Int.reduceEq, Int.reduceToNat, x6, xB, ld1, not_false_eq_true, zkN, vS, kZ, qd, uI, kF, kx]
            refine zJ (by kernel_rfl) rfl (hof _) ?_
            rintro v h3 ⟨rfl, e3⟩
            obtain ⟨g1, g2⟩ := hsl h3 e3
            simp -implicitDefEqProofs only [zk, zv, zH, xQ, zq, zQ, x5, Nat.zero_add, List.length_cons, List.length_nil, List.all_cons, List.all_nil, ze, List.set_cons_zero, List.set_cons_succ, List.take_succ_cons, List.take_nil, if_true, Bool.and_true, Nat.reduceAdd, and_true, Nat.le_refl, zz, sto, zC, V.val, g1, g2]
            refine hfin (a := ⟨1, _, 0⟩) e3 ?_
            unfold QZ
            rw [if_pos hN]
            rfl
        | false =>
          cases hP : jm B.byte p.n.toNat c c.toNat with
          | true =>
            have hp3 : (cs.drop (off + 2)).take 3 = [.int .i64 (B.byte p.n.toNat).p.k, .int .i64 (B.byte p.n.toNat).p.n, .int .i64 (B.byte p.n.toNat).p.b] := zj2 (fun j hj => by simpa using hcs 0 j (by omega) hj)
            have hb5 : off + 2 + 3 <= cs.length := by omega
            have hb4 : 0 <= (0 : Int) /\ (0 : Int) < (c.toNat : Int) := by omega
            have hgn : ∀ v, (h2.set (h.next + 1) v).get g = some (.cells cs 143) := fun v => by rw [zt (by have := (x.ok g fg).2; omega), hg2]
            . simp -implicitDefEqProofs only [zk, yf, zv, zH, yh, zF, v9, uD, zO, xQ, wX, qw, YU, zq, zA, zQ, x5, nth, Nat.zero_add, List.length_cons, List.length_nil, List.all_cons, List.all_nil, ze, List.set_cons_zero, List.set_cons_succ, List.take_succ_cons, List.take_nil, if_true, Bool.and_true, Nat.reduceAdd, and_true, Nat.le_refl, xB, zz, sto, ldn, ld1, not_false_eq_true, zkN, zo, zC, vS, kZ, qd, uI, kF, Zv, kx, hki, hl2, hr2, hp3, hb5, hb4, hg2]
              refine hfin (a := (B.byte p.n.toNat).p) (.refl _ _) ?_
              unfold QZ
              rw [hN, hP]
              rfl
          | false =>
            rcases hcc with rfl | rfl | rfl
            all_goals
              simp -implicitDefEqProofs only [zk, yf, zv, zH, zF, uD, zO, xQ, wX, qw, YU, zq, zA, zQ, nth, Nat.zero_add, List.length_cons, List.length_nil, List.set_cons_zero, List.set_cons_succ, List.take_succ_cons, List.take_nil, if_true, Nat.reduceAdd, Nat.reduceSub, Int.reduceToNat, and_true, Nat.le_refl, zz, vS, kZ, qd, uI, kF, kx, hl2, hr2]
              refine hfin (a := v0) (.refl _ _) ?_
              unfold QZ
              rw [hN, hP]
              rfl
end
end Go.Mem
